/- A part of the proof: plain laws of what the functions compute. No condition. -/
import Derived.Test.YtpbnkbjhlhlaiaaGreatDoorP3
import Derived.Lib.ItoaLen
namespace Go.Proofs.YtpbnkbjhlhlaiaaGreatDoor
open Go Go.TA
open Go.IntKind (i64)
def noO:TOf:=⟨0,[],nb⟩
def msgOf (p:TOp):TMe:=⟨0,0,p.E,p.H,p.N,p.Q,0,0⟩
def hearS (o:TOf) (p:TOp):TOf×Int :=
 if ¬ good p.E=true then (noO,5) else
 if p.H<0\/p.H>99 then (noO,2) else
 if hasR o.G p.E p.H=false/\(o.G.length:Int)=60 then (noO,3) else
 if (learnS (rightV o.G p.E p.H) (msgOf p)).2≠0 then (noO,(learnS (rightV o.G p.E p.H) (msgOf p)).2) else
 (⟨o.F,putL o.G (learnS (rightV o.G p.E p.H) (msgOf p)).1,o.V⟩,0)
def giveS (o:TOf) (p:TOp):TOf×Int :=
 if ¬ hasR o.G p.E p.H=true then (noO,6) else
 if (returnS (rightV o.G p.E p.H) (usedV o.V p.E p.H) p.I).2≠0 then (noO,(returnS (rightV o.G p.E p.H) (usedV o.V p.E p.H) p.I).2) else
 (⟨o.F,putL o.G (returnS (rightV o.G p.E p.H) (usedV o.V p.E p.H) p.I).1,o.V⟩,0)
noncomputable def bookS (b:TBo) (p:TOp):TBo×Int :=
 if p.M=1 then reserveS b p.E p.H p.O p.I else
 if p.M=2 then commitS b p.Y p.O p.I p.T p.W else
 if p.M=3 then verifyS b p.Y p.O p.I else
 if p.M=4 then orderS b p.Y p.O else
 if p.M=5 then releaseS b p.Y p.I else
 if p.M=6 then dropS b p.Y p.I else backS b p.Y
noncomputable def stepS (o:TOf) (p:TOp):TOf×Int :=
 if p.M=8 then hearS o p else
 if p.M=7 then giveS o p else
 if (bookS o.V p).2≠0 then (noO,(bookS o.V p).2) else
 if p.M=1/\p.I>unusedV o p.E p.H then (noO,15) else
 (⟨o.F,o.G,(bookS o.V p).1⟩,0)
open Classical in
noncomputable def doS (o:TOf) (p:TOp):TOf×Int :=
 if ¬ VO o\/p.M<1\/p.M>9 then (noO,1) else stepS o p
variable {o:TOf}
theorem VO.srt (h:VO o):Srt o.G:=h.2.2.2.2.1
theorem VO.ok (h:VO o):∀ x∈o.G,RtOk x:=h.2.2.2.1
theorem VO.val (h:VO o):Val o.V:=h.2.2.1
theorem VO.len (h:VO o):o.G.length<=60:=h.2.1
theorem z68 (l:List TRi) (c:Y8) (y:Int):(rightV l c y).E=c/\(rightV l c y).H=y:=by
 by_cases h:hasR l c y=true
 ·exact (z3x h).2
 ·unfold rightV; rw[y6 h]; exact⟨rfl,rfl⟩
variable {l:List TRi} {c:Y8}
theorem z8r (_hg:∀ x∈l,RtOk x) (hc:c.length<=1000000) (y:Int):(rightV l c y).E.length<=1000000:=by
 rw[(z68 l c y).1]; exact hc
variable {r:TRi}
theorem za9 {m:TMe} (h:(learnS r m).2=0):RtOk r/\tot m.N/\tot m.Aa/\(learnS r m).1=⟨r.E,r.H,if m.N>r.N then m.N else r.N,if m.Aa>r.Aa then m.Aa else r.Aa,r.X⟩/\RtOk (learnS r m).1:=by
 unfold learnS at h |-
 split at h
 ·cases h
 ·rename_i h1
  split at h
  ·cases h
  ·rename_i h2
   have h1:=nnm h1
   have h2:=nnm h2
   rw[y6 (fun k=>k h1),y6 (fun k=>k h2)]
   refine⟨h1.1,h2.1,h2.2,rfl,?_⟩
   have h3:=h1.1
   unfold RtOk tot at *
   refine⟨h3.1,h3.2.1,?_,?_,?_⟩
   ·simp only; split <;> omega
   ·simp only; split <;> omega
   ·simp only; split <;> omega
variable {n u:Int}
theorem z8s (h:(returnS r u n).2=0):RtOk r/\(0<=u/\u<=r.N-r.X)/\1<=n/\n<=r.N-r.X-u/\(returnS r u n).1=⟨r.E,r.H,r.N,r.Aa,r.X+n⟩/\RtOk (returnS r u n).1:=by
 unfold returnS at h |-
 split at h
 ·cases h
 ·rename_i h1
  split at h
  ·cases h
  ·rename_i h2
   split at h
   ·cases h
   ·rename_i h3
    have h1:=nnm h1
    have h2:=nnm h2
    have h4:=h1.1
    unfold RtOk at h4
    have w1:i64.wrap (r.N-r.X)=r.N-r.X:=wrapId om om
    rw[y6 (fun k=>k h1),y6 (fun k=>k h2),y6 h3]
    obtain⟨h5,h6,h7⟩:=h1
    rw[w1] at h7 h3
    rw[wrapId (n:=r.N-r.X-u) om om] at h3
    rw[wrapId (n:=r.X+n) om om]
    refine⟨h5,⟨h6,h7⟩,h2.1,om,rfl,h4.1,h4.2.1,h4.2.2.1,h4.2.2.2.1,?_⟩
    simp only; omega
theorem zhh {l:Y8}:(((parts l).length:Int)==0)=!good l:=by
 rw[<- z57,y27]; simp
variable {p:TOp}
theorem zr2 (hv:VO o) (hc:p.E.length<=1000000):F_q3r o p=some (hearS o p):=by
 have hl:=hv.len
 have hr:=z8r hv.ok hc p.H
 simp only[F_q3r,S_q3r,Scr.den,z4k (show p.E.length<=1099511627776 from om),zn7,zcf,zd8 hr,obind,zb,zj,zhh]
 unfold hearS
 refine st sj (fun _=>rfl) fun _=>?_
 refine st sj (fun _=>rfl) fun _=>?_
 refine st sj (fun _=>rfl) fun _=>?_
 refine st (by simp only[y1g,ne_eq]; exact Iff.rfl) (fun _=>rfl) fun h=>?_
 have h:=nnm h
 have h1:=za9 h
 rw[show (⟨0,0,p.E,p.H,p.N,p.Q,0,0⟩:TMe)=msgOf p from rfl,znb om hv.srt hv.ok h1.2.2.2.2]
 rfl
theorem zr3 (hv:VO o) (hc:p.E.length<=1000000):F_q3t o p=some (giveS o p):=by
 have hl:=hv.len
 have hr:=z8r hv.ok hc p.H
 simp only[F_q3t,S_q3t,Scr.den,zn7,zcf,zjh,zch hr,obind]
 unfold giveS
 refine st sj (fun _=>rfl) fun _=>?_
 refine st (by simp only[y1g,ne_eq]) (fun _=>rfl) fun h=>?_
 have h:=nnm h
 have h1:=z8s h
 rw[znb om hv.srt hv.ok h1.2.2.2.2.2]
 rfl
variable {b:TBo}
theorem zr4 (hb:Small b) (hc:p.E.length<=1000000):F_q44 b p=some (bookS b p):=by
 simp only[F_q44,S_q44,Scr.den,zko hb hc,zn0 hb,zn1 hb,zox hb,zkp hb,zqu hb,zqv hb,obind]
 unfold bookS
 refine st (by simp only[yu]) (fun _=>rfl) fun _=>?_
 refine st (by simp only[yu]) (fun _=>rfl) fun _=>?_
 refine st (by simp only[yu]) (fun _=>rfl) fun _=>?_
 refine st (by simp only[yu]) (fun _=>rfl) fun _=>?_
 refine st (by simp only[yu]) (fun _=>rfl) fun _=>?_
 refine st (by simp only[yu]) (fun _=>rfl) fun _=>rfl
variable {d:Int}
theorem zr5 {a:Bool} {x:Int} {_:Decidable (AllP [a=true])}:(a&&decide (n>if AllP [a=true] then x else d))=(a&&decide (n>x)):=by
 cases a
 ·rfl
 ·rw[y7 ⟨rfl,trivial⟩]
theorem zr6 (hv:VO o) (hs:SmO o) (hc:p.E.length<=1000000):F_q2d o p=some (stepS o p):=by
 open Classical in simp only[F_q2d,S_q2d,Scr.den,zr2 hv hc,zr3 hv hc,zr4 hs.1 hc,zn8,zq,obind,zj,zr5]
 unfold stepS
 refine st (by simp only[yu]) (fun _=>rfl) fun _=>?_
 refine st (by simp only[yu]) (fun _=>rfl) fun _=>?_
 refine st (by simp only[y1g,ne_eq]) (fun _=>rfl) fun _=>?_
 refine st (by simp only[yk,yu,y8]) (fun _=>rfl) fun _=>rfl
def ze3 (o:TOf):Prop:=o.G.length<=2000000/\zkt o.V
theorem zsd:zkt nb:=by simp[zkt,nb]
theorem zjp:ze3 noO:=⟨by simp[noO],zsd⟩
theorem zp4 (l:List TRi) (p:Nat) (hp:p<=l.length) (z r:TRi) :
  (copyL (l++[z]) (0+(p+1)) (min ((l++[z]).length-p) ((l++[z]).length-(p+1))) (fun i=>(l++[z]).getD ((0+p)+i) dF)).set (0+p) r=insL l p r:=by
 refine List.ext_getElem (by simp[copyL,insL]; omega) fun i h1 h2=>?_
 have hi:i<l.length+1:=by rw[z1c] at h2; exact h2
 rw[<- z1a h2,z5m hp,List.getElem_set]
 by_cases e:i<p
 ·rw[y6 om,y7 e]
  simp only[copyL,List.getElem_map,List.getElem_range]
  rw[y6 om,y9,y9,ym om]
 ·by_cases e2:i=p
  ·rw[y7 om,y6 e,y7 e2]
  ·rw[y6 om,y6 e,y6 e2]
   simp only[copyL,List.getElem_map,List.getElem_range,yn,y2h]
   rw[y7 om,show 0+p+(i-(0+(p+1)))=i-1 from om,y9,y9,ym om]
theorem znc (hv:VO o) {q:(TRi×Int)} (hr:RtOk q.1) (hn:hasR o.G q.1.E q.1.H=false) :
  iterM (fun s=>(S_q1k_b1 o q s).den) 0=some (.next (posR o.G q.1:Int)):=by
 have hl:=hv.len
 have hp:=z6u o.G q.1
 obtain⟨s,e,hJ⟩:=z4s (step:=fun s=>(S_q1k_b1 o q s).den) (fun s=>(61-s).toNat) (fun s=>0<=s/\s<=(posR o.G q.1:Int)) (fun s=>s=(posR o.G q.1:Int)) (fun s hI=>by
  obtain⟨i,rfl⟩:=Int.eq_ofNat_of_zero_le hI.1
  have hi:i<=posR o.G q.1:=om
  simp only[S_q1k_b1,Scr.den,yi,y1a,zb,zj]
  by_cases h:i<o.G.length
  ·have hg:=hv.ok _ (zd h)
   rw[y7 sk,z83 hg.1 hr.1,obind,z6 ⟨om,h,h,trivial⟩,z6 ⟨fun _=>om,fun _=>h,fun _=>h,trivial⟩]
   have hc:=z84 (a:=o.G.getD i dF) (b:=q.1) (.inl hg.1)
   have hne:cmpR (o.G.getD i dF) q.1≠0:=fun h0=>by
    obtain⟨k1,k2⟩:=(z5r hg.1 hr.1).1 h0
    have:hasR o.G q.1.E q.1.H=true:=z39.2 ⟨_,zd h,k1,k2⟩
    rw[hn] at this; cases this
   by_cases hip:i<posR o.G q.1
   ·left
    have hlt:=hc.1 (zb1 hip)
    rw[y6 (by
     simp only[ye,yk,y8,yu]
     exact fun k=>ltr hlt (k.imp id fun k=>⟨k.1,om⟩)),wrapId om om]
    exact⟨_,rfl,⟨om,om⟩,om⟩
   ·right
    have hge:0<=cmpR (o.G.getD i dF) q.1:=by
     have:i=posR o.G q.1:=om
     subst this; exact zb2 h
    rw[y7 (by
     have k1:¬ _:=fun k=>absurd (hc.2 k) om
     have k2:¬ (lexC (parts (o.G.getD i dF).E) (parts q.1.E)=0/\(o.G.getD i dF).H=q.1.H):=fun k=>hne ((z5r hg.1 hr.1).2 ⟨zev hg.1 hr.1 (z6t k.1),k.2⟩)
     simp only[ye,yk,y8,yu]
     rcases ltr' k1 with k | ⟨k,k'⟩
     ·exact .inl k
     ·exact .inr ⟨k,by have:¬ _:=fun e=>k2 ⟨k,e⟩; omega⟩)]
    exact⟨_,rfl,om⟩
  ·right
   rw[y6 (by simpa using h)]
   exact⟨_,rfl,om⟩) _ 0 (y4u _) ⟨om,om⟩
 rw[e,hJ]
theorem zin (hv:VO o) (hc:p.E.length<=1000000):F_q1k o p=some (hearS o p):=by
 have hl:=hv.len
 have hr:=z8r hv.ok hc p.H
 simp only[F_q1k,S_q1k,Scr.den,z4a (show p.E.length<4611686018427387904 from om),zfx,za8,zhf hr,obind,zb,zj]
 unfold hearS
 refine st sj (fun _=>rfl) fun _=>?_
 refine st sj (fun _=>rfl) fun _=>?_
 refine st (by cases hh:hasR o.G p.E p.H <;> simp <;> (try exact fun h1=>absurd h1 (Int.not_lt.2 (y4i _)))) (fun _=>rfl) fun _=>?_
 refine st (by simp only[y1g,ne_eq]; exact Iff.rfl) (fun _=>rfl) fun h=>?_
 have h:=nnm h
 have h1:=za9 h
 rw[show (⟨0,0,p.E,p.H,p.N,p.Q,0,0⟩:TMe)=msgOf p from rfl,z6 ⟨om,trivial⟩]
 have hcy:(learnS (rightV o.G p.E p.H) (msgOf p)).1.E=p.E/\(learnS (rightV o.G p.E p.H) (msgOf p)).1.H=p.H:=by rw[h1.2.2.2.1]; exact z68 _ _ _
 generalize hq:learnS (rightV o.G p.E p.H) (msgOf p)=q at h h1 hcy |-
 have hlen:=zhg o.G q.1
 have hp:=z6u o.G q.1
 unfold putL at hlen |-
 rw[hcy.1,hcy.2] at hlen |-
 by_cases hh:hasR o.G p.E p.H=true
 ·have h3:=(z3i hh).1
  rw[y7 hh] at hlen
  simp only[y7 hh]
  rw[y6 sj]
  simp only[outM,yi,y1a]
  rw[z6 ⟨om,h3,h3,trivial⟩,z6 ⟨by rw[yl]; omega,trivial⟩]
 ·rw[y6 hh] at hlen
  simp only[y6 hh]
  have hn:hasR o.G q.1.E q.1.H=false:=by rw[hcy.1,hcy.2]; simpa using hh
  have hw:(i64.wrap ((posR o.G q.1:Int)+1)).toNat=posR o.G q.1+1:=by rw[wrapId om om]; omega
  have hw':i64.wrap ((posR o.G q.1:Int)+1)=(posR o.G q.1:Int)+1:=wrapId om om
  rw[y7 dk,znc hv h1.2.2.2.2 hn]
  simp only[outM,yi,hw]
  rw[z6 ⟨om,trivial⟩,z6 ⟨by rw[hw']; omega,by rw[yn,y2h]; omega,om,by rw[yn,y2h]; omega,trivial⟩]
  simp only[yi]
  rw[zp4 o.G (posR o.G q.1) hp]
  rw[z1c] at hlen
  rw[z6 ⟨om,by rw[z55,yn,y2h]; omega,by rw[z55,yn,y2h]; omega,trivial⟩,z6 ⟨by rw[z1c]; omega,trivial⟩]
theorem z4v (hs:SmO o) (hc:p.E.length<=1000000):F_q2g o p=some (doS o p):=by
 simp only[F_q2g,S_q2g,Scr.den,zhd hs,ze0 hs.1 hc,zfn hs.1,zfo hs.1,zh4 hs.1,ze1 hs.1,zih hs.1,zii hs.1,z9i,zbr,zfx,obind,zj]
 by_cases hv:VO o
 ·rw[y6 (by simp[hv])]
  have hl:=hv.len
  have fin:∀ x:TBo×Int,outM (some (Out.next (x.1,x.2))) (fun (s:TBo×Int)=>if (s.2 != 0)=true then some (noO,s.2) else some ((⟨o.F,o.G,s.1⟩:TOf),(0:Int))) some=some (if x.2≠0 then (noO,x.2) else (⟨o.F,o.G,x.1⟩,0)):=fun x=>by
   simp only[outM]
   by_cases h:x.2=0 <;> simp[h]
  have hd:∀ {k:Int},p.M=k->1<=k->k<=9->doS o p=stepS o p:=fun h h1 h2=>by
   unfold doS; rw[y6 (fun k=>k.elim (fun k=>k hv) fun k=>om)]
  by_cases c1:p.M=1
  ·rw[y7 (by simpa using c1),hd c1 om om]
   unfold stepS bookS
   rw[y6 om,y6 om,y7 c1]
   generalize reserveS o.V p.E p.H p.O p.I=x
   by_cases hx:x.2=0
   ·rw[zg (by exact⟨by simp[hx],trivial⟩),obind]
    by_cases hu:p.I>unusedV o p.E p.H
    ·rw[y7 (by simp[hx]; exact hu),y6 (by simp[hx]),y7 ⟨c1,hu⟩]
     exact fin (x.1,15)
    ·rw[y6 (by simp[hx]; exact Int.not_lt.1 hu),y6 (by simp[hx]),y6 (fun k=>hu k.2)]
     rw[show (⟨o.F,o.G,x.1⟩,(0:Int))=if x.2≠0 then (noO,x.2) else (⟨o.F,o.G,x.1⟩,0) by rw[y6 (by simp[hx])]]
     exact fin x
   ·rw[zr (by simp[AllP,hx]),obind,y6 (by simp[hx]),y7 hx]
    rw[show (noO,x.2)=if x.2≠0 then (noO,x.2) else (⟨o.F,o.G,x.1⟩,0) by rw[y7 hx]]
    exact fin x
  rw[y6 (by simpa using c1)]
  have hb:∀ {k:Int} (x:TBo×Int),p.M=k->2<=k->k<=9->k≠7->k≠8->bookS o.V p=x->outM (some (Out.next (x.1,x.2))) (fun (s:TBo×Int)=>if (s.2 != 0)=true then some (noO,s.2) else some ((⟨o.F,o.G,s.1⟩:TOf),(0:Int))) some=some (doS o p):=fun x hk h1 h2 h3 h4 e=>by
   have h5:stepS o p=if x.2≠0 then (noO,x.2) else (⟨o.F,o.G,x.1⟩,0):=by
    unfold stepS
    rw[y6 (show ¬ p.M=8 from om),y6 (show ¬ p.M=7 from om),e,y6 (fun k:p.M=1/\_=>c1 k.1)]
   rw[hd hk om h2,fin,h5]
  by_cases c2:p.M=2
  ·rw[y7 (by simpa using c2)]
   exact hb _ c2 om om om om (by unfold bookS; rw[y6 c1,y7 c2])
  rw[y6 (by simpa using c2)]
  by_cases c3:p.M=3
  ·rw[y7 (by simpa using c3)]
   exact hb _ c3 om om om om (by unfold bookS; rw[y6 c1,y6 c2,y7 c3])
  rw[y6 (by simpa using c3)]
  by_cases c4:p.M=4
  ·rw[y7 (by simpa using c4)]
   exact hb _ c4 om om om om (by unfold bookS; rw[y6 c1,y6 c2,y6 c3,y7 c4])
  rw[y6 (by simpa using c4)]
  by_cases c5:p.M=5
  ·rw[y7 (by simpa using c5)]
   exact hb _ c5 om om om om (by unfold bookS; rw[y6 c1,y6 c2,y6 c3,y6 c4,y7 c5])
  rw[y6 (by simpa using c5)]
  by_cases c6:p.M=6
  ·rw[y7 (by simpa using c6)]
   exact hb _ c6 om om om om (by unfold bookS; rw[y6 c1,y6 c2,y6 c3,y6 c4,y6 c5,y7 c6])
  rw[y6 (by simpa using c6)]
  by_cases c9:p.M=9
  ·rw[y7 (by simpa using c9)]
   exact hb _ c9 om om om om (by unfold bookS; rw[y6 c1,y6 c2,y6 c3,y6 c4,y6 c5,y6 c6])
  rw[y6 (by simpa using c9)]
  by_cases c8:p.M=8
  ·rw[y7 (by simpa using c8),zin hv hc,hd c8 om om]
   unfold stepS
   rw[y7 c8]
   rfl
  rw[y6 (by simpa using c8)]
  by_cases c7:p.M=7
  ·rw[y7 (by simpa using c7),hd c7 om om]
   unfold stepS giveS
   rw[y6 c8,y7 c7]
   by_cases hh:hasR o.G p.E p.H=true
   ·have h3:=(z3i hh).1
    have hg:=hv.ok _ (zd h3)
    have hrt:o.G.getD (rix o.G p.E p.H) dF=rightV o.G p.E p.H:=by unfold rightV; rw[y7 hh]
    simp only[y7 hh,yi,y1a,zfp hg.len,obind]
    rw[y6 sj,z6 ⟨om,h3,trivial⟩,hrt,y6 (show ¬ ¬ hasR o.G p.E p.H=true from fun k=>k hh)]
    by_cases hx:(returnS (rightV o.G p.E p.H) (usedV o.V p.E p.H) p.I).2=0
    ·have h1:=z8s hx
     have hcy:(returnS (rightV o.G p.E p.H) (usedV o.V p.E p.H) p.I).1.E=p.E/\(returnS (rightV o.G p.E p.H) (usedV o.V p.E p.H) p.I).1.H=p.H:=by rw[h1.2.2.2.2.1]; exact z68 _ _ _
     rw[y6 (by simp[hx]),z6 ⟨om,trivial⟩,z6 ⟨h3,trivial⟩,z6 ⟨by rw[yl]; omega,trivial⟩,y6 (by simp[hx])]
     unfold putL
     rw[hcy.1,hcy.2,y7 hh]
     rfl
    ·rw[y7 (by simpa using hx),y7 hx]
     rfl
   ·simp only[y6 hh]
    rw[y7 dk,y7 hh]
    rfl
  rw[y6 (by simpa using c7)]
  have:doS o p=(noO,1):=by
   unfold doS
   split
   ·rfl
   ·rename_i h
    exact absurd om h
  rw[this]
  rfl
 ·rw[y7 (by simp[hv])]
  unfold doS
  rw[y7 (.inl hv)]
  rfl
def usedE (b:TBo) (c:Y8) (y:Int):Int:=sm b.A (fun r=>r.E==c&&r.H==y) (fun r=>r.I-r.S-rel b r.F)
theorem znd (h:Val b) (n:Int):0<=rel b n/\rel b n<=cmt b n:=by
 have hc:∀ c∈b.B,0<=c.S/\c.S<=c.I:=fun c hc=>(h.2.1.mem hc).1.2.2.2.2.1
 exact⟨zes fun c k=>(hc c k).1,zqm fun c k=>(hc c k).2⟩
theorem z3y (h:Val b) (c:Y8) (y:Int):usedV b c y=usedE b c y/\0<=usedE b c y/\usedE b c y<=200000000000000:=by
 have hb:0<=usedE b c y/\usedE b c y<=200 * 1000000000000:=zkq (fun r hr=>by
  have h1:=z8q h hr
  have h2:=znd h r.F
  have h3:=(h.1.mem hr).1.2.2.2.2.2
  unfold amtP at h3
  omega) h.2.2.2.2.2.2.1 om
 refine⟨?_,hb.1,om⟩
 unfold usedV
 change i64.wrap (usedE b c y)=_
 exact wrapId om om
theorem zp5 (h:Val b) (hn:(b.A.length:Int)<n):rel b n=0:=by
 have h1:=znd h n
 have h2:=zh8 h hn
 omega
variable {y:Int} {code:Y8}
theorem zhi (h0:(reserveS b code y d n).2=0):Val b/\good code=true/\((0<=y/\y<=99)/\dayP d/\amtP n)/\yr d=y/\(b.A.length:Int)≠200/\(reserveS b code y d n).1=withR b (b.A++[⟨b.A.length+1,code,y,d,n,0⟩]):=by
 unfold reserveS at h0 |-
 obtain⟨e,c1⟩:=zl h0 dk; rw[e] at h0 |-; clear e
 obtain⟨e,c2⟩:=zl h0 dk; rw[e] at h0 |-; clear e
 obtain⟨e,c3⟩:=zl h0 dk; rw[e] at h0 |-; clear e
 obtain⟨e,c4⟩:=zl h0 dk; rw[e] at h0 |-; clear e
 obtain⟨e,c5⟩:=zl h0 dk; rw[e] at h0 |-; clear e
 exact⟨nnm c1,by simpa using c2,nnm c3,nnm c4,c5,rfl⟩
theorem zio (h:Val b) (hg:good code=true) (hy:0<=y/\y<=99) (hd:dayP d) (hn:amtP n) (hyr:yr d=y) (hl:(b.A.length:Int)≠200):reserveS b code y d n=(withR b (b.A++[⟨b.A.length+1,code,y,d,n,0⟩]),0):=by
 unfold reserveS
 rw[y6 (fun k=>k h),y6 (by simp[hg]),y6 (fun k=>k ⟨hy,hd,hn⟩),y6 (fun k=>k hyr),y6 hl]
theorem ziq {r p:Int} (h0:(commitS b r d n p u).2=0):Val b/\Val (commitS b r d n p u).1/\(commitS b r d n p u).1.A=b.A:=by
 unfold commitS at h0 |-
 obtain⟨e,c1⟩:=zl h0 dk; rw[e] at h0 |-; clear e
 obtain⟨e,c2⟩:=zl h0 dk; rw[e] at h0 |-; clear e
 obtain⟨e,c3⟩:=zl h0 dk; rw[e] at h0 |-; clear e
 obtain⟨e,c4⟩:=zl h0 dk; rw[e] at h0 |-; clear e
 obtain⟨e,c5⟩:=zl h0 dk; rw[e] at h0 |-; clear e
 obtain⟨e,c6⟩:=zl h0 dk; rw[e] at h0 |-; clear e
 obtain⟨e,c7⟩:=zl h0 dk; rw[e] at h0 |-; clear e
 have c3:=nnm c3
 exact⟨nnm c1,zkr (nnm c1) (nnm c2) c3.1 c3.2.1 c3.2.2.1 c3.2.2.2 (nnm c4) om om c7,rfl⟩
theorem zir {c:Int} (h0:(verifyS b c d n).2=0):Val b/\Val (verifyS b c d n).1/\(verifyS b c d n).1.A=b.A:=by
 unfold verifyS at h0 |-
 obtain⟨e,c1⟩:=zl h0 dk; rw[e] at h0 |-; clear e
 obtain⟨e,c2⟩:=zl h0 dk; rw[e] at h0 |-; clear e
 obtain⟨e,c3⟩:=zl h0 dk; rw[e] at h0 |-; clear e
 obtain⟨e,c4⟩:=zl h0 dk; rw[e] at h0 |-; clear e
 obtain⟨e,c5⟩:=zl h0 dk; rw[e] at h0 |-; clear e
 obtain⟨e,c6⟩:=zl h0 dk; rw[e] at h0 |-; clear e
 obtain⟨e,c7⟩:=zl h0 dk; rw[e] at h0 |-; clear e
 have c3:=nnm c3
 exact⟨nnm c1,zks (nnm c1) (nnm c2) c3.1 c3.2 om om om c7,rfl⟩
variable {v:Int}
theorem zkw (h0:(orderS b v d).2=0):Val b/\Val (orderS b v d).1/\(orderS b v d).1.A=b.A:=by
 unfold orderS at h0 |-
 obtain⟨e,c1⟩:=zl h0 dk; rw[e] at h0 |-; clear e
 obtain⟨e,c2⟩:=zl h0 dk; rw[e] at h0 |-; clear e
 obtain⟨e,c3⟩:=zl h0 dk; rw[e] at h0 |-; clear e
 obtain⟨e,c4⟩:=zl h0 dk; rw[e] at h0 |-; clear e
 obtain⟨e,c5⟩:=zl h0 dk; rw[e] at h0 |-; clear e
 obtain⟨e,c6⟩:=zl h0 dk; rw[e] at h0 |-; clear e
 obtain⟨e,c7⟩:=zl h0 dk; rw[e] at h0 |-; clear e
 refine⟨nnm c1,zn3 (nnm c1) (nnm c2) (nnm c3) om om (fun hl=>⟨?_,om⟩) c7,rfl⟩
 cases hb:(lastV b v).Ab with
 | true=>rfl
 | false=>exact absurd ⟨hl,hb⟩ c5
theorem zhj {r:Int} (h0:(releaseS b r n).2=0):Val b/\Val (releaseS b r n).1/\amtP n/\(1<=r/\r<=b.A.length)/\n<=leftN b r/\(releaseS b r n).1=withR b (b.A.set (r-1).toNat ⟨(rAt b r).F,(rAt b r).E,(rAt b r).H,(rAt b r).O,(rAt b r).I,i64.wrap ((rAt b r).S+n)⟩):=by
 unfold releaseS at h0 |-
 obtain⟨e,c1⟩:=zl h0 dk; rw[e] at h0 |-; clear e
 obtain⟨e,c2⟩:=zl h0 dk; rw[e] at h0 |-; clear e
 obtain⟨e,c3⟩:=zl h0 dk; rw[e] at h0 |-; clear e
 obtain⟨e,c4⟩:=zl h0 dk; rw[e] at h0 |-; clear e
 exact⟨nnm c1,zik (nnm c1) (nnm c2) (nnm c3) om,nnm c3,nnm c2,om,rfl⟩
theorem zne {c:Int} (h0:(dropS b c n).2=0):Val b/\Val (dropS b c n).1/\amtP n/\(dropS b c n).1.A=b.A:=by
 unfold dropS at h0 |-
 obtain⟨e,c1⟩:=zl h0 dk; rw[e] at h0 |-; clear e
 obtain⟨e,c2⟩:=zl h0 dk; rw[e] at h0 |-; clear e
 obtain⟨e,c3⟩:=zl h0 dk; rw[e] at h0 |-; clear e
 obtain⟨e,c4⟩:=zl h0 dk; rw[e] at h0 |-; clear e
 exact⟨nnm c1,zoz (nnm c1) (nnm c2) (nnm c3) om,nnm c3,rfl⟩
theorem znf (h0:(backS b v).2=0):Val b/\Val (backS b v).1/\(backS b v).1.A=b.A/\(backS b v).1.B=b.B:=by
 unfold backS at h0 |-
 obtain⟨e,c1⟩:=zl h0 dk; rw[e] at h0 |-; clear e
 obtain⟨e,c2⟩:=zl h0 dk; rw[e] at h0 |-; clear e
 obtain⟨e,c3⟩:=zl h0 dk; rw[e] at h0 |-; clear e
 exact⟨nnm c1,zp0 (nnm c1) om,rfl,rfl⟩
theorem ze4 (h:Val b) {r:Int} (hn0:amtP n) (h0:(releaseS b r n).2=0) (code:Y8) (y:Int):(1<=r/\r<=b.A.length)/\usedV (releaseS b r n).1 code y=i64.wrap (usedV b code y-if mt b code y r=true then n else 0):=by
 have hn:1<=n/\n<=1000000000000:=hn0
 unfold releaseS at h0 |-
 obtain⟨e,_⟩:=zl h0 dk; rw[e] at h0 |-; clear e
 obtain⟨e,hr⟩:=zl h0 dk; rw[e] at h0 |-; clear e
 obtain⟨e,_⟩:=zl h0 dk; rw[e] at h0 |-; clear e
 obtain⟨e,_⟩:=zl h0 dk; rw[e] at h0 |-; clear e
 have hr:=nnm hr
 refine⟨hr,?_⟩
 have hk:(r-1).toNat<b.A.length:=om
 have f:=(h.1.at hr).2.2.2.2.2
 have f6:=f.1
 unfold amtP at f6
 have hw:i64.wrap ((rAt b r).S+n)=(rAt b r).S+n:=wrapId om om
 rw[hw]
 unfold usedV
 rw[z4t]
 congr 1
 change sm (b.A.set (r-1).toNat _) _ (fun r=>r.I-r.S-rel b r.F)=_
 rw[zgw hk _ _ _ dF]
 change _-(if ((rAt b r).E==code&&(rAt b r).H==y)=true then (rAt b r).I-(rAt b r).S-rel b (rAt b r).F else 0)+(if ((rAt b r).E==code&&(rAt b r).H==y)=true then (rAt b r).I-((rAt b r).S+n)-rel b (rAt b r).F else 0)=_-(if ((rAt b r).E==code&&(rAt b r).H==y)=true then n else 0)
 split <;> omega
theorem zis (h:Val b) {c:Int} (hn0:amtP n) (h0:(dropS b c n).2=0) (code:Y8) (y:Int):(1<=c/\c<=b.B.length)/\usedV (dropS b c n).1 code y=i64.wrap (usedV b code y-if mt b code y (cAt b c).L=true then n else 0):=by
 have hn:1<=n/\n<=1000000000000:=hn0
 unfold dropS at h0 |-
 obtain⟨e,_⟩:=zl h0 dk; rw[e] at h0 |-; clear e
 obtain⟨e,hr⟩:=zl h0 dk; rw[e] at h0 |-; clear e
 obtain⟨e,_⟩:=zl h0 dk; rw[e] at h0 |-; clear e
 obtain⟨e,_⟩:=zl h0 dk; rw[e] at h0 |-; clear e
 have hr:=nnm hr
 refine⟨hr,?_⟩
 have hk:(c-1).toNat<b.B.length:=om
 have f:=(h.2.1.at hr)
 have f4:=f.2.2.2.1
 have f5:=f.2.2.2.2.1
 have f2:=f.2.1
 unfold amtP at f4
 have hw:i64.wrap ((cAt b c).S+n)=(cAt b c).S+n:=wrapId om om
 rw[hw]
 generalize hX:withC b (b.B.set (c-1).toNat ⟨(cAt b c).F,(cAt b c).L,(cAt b c).O,(cAt b c).I,(cAt b c).S+n,(cAt b c).T,(cAt b c).W⟩)=X
 have hrel:∀ m,rel X m=rel b m+if ((cAt b c).L==m)=true then n else 0:=fun m=>by
  rw[<- hX]
  unfold rel withC
  simp only
  rw[zgw hk _ _ _ dF]
  change _-(if ((cAt b c).L==m)=true then (cAt b c).S else 0)+(if ((cAt b c).L==m)=true then (cAt b c).S+n else 0)=_
  split <;> omega
 have e1:usedV X code y=i64.wrap (sm b.A (fun r=>r.E==code&&r.H==y) (fun r=>r.I-r.S-rel X r.F)):=by
  unfold usedV
  rw[show X.A=b.A by rw[<- hX]; rfl]
 rw[e1]
 unfold usedV
 rw[z4t]
 congr 1
 simp only[hrel]
 have e2:∀ r:TRe,r.I-r.S-(rel b r.F+if ((cAt b c).L==r.F)=true then n else 0)=(r.I-r.S-rel b r.F)-(if ((cAt b c).L==r.F)=true then n else 0):=fun r=>om
 simp only[e2]
 rw[zs4]
 congr 1
 have hi:((cAt b c).L-1).toNat<b.A.length:=om
 have hnum:(b.A.getD ((cAt b c).L-1).toNat dF).F=(cAt b c).L:=(h.1.at f2).1
 have:=zn6 (num:=fun r:TRe=>r.F) (q:=mt b code y) (p:=fun r=>r.E==code&&r.H==y) n b.A ((cAt b c).L-1).toNat hi (fun j hj hji=>by
  have:=(h.1 j hj).1
  rw[hnum]; omega) (zsc h code y (zd hi)).symm
 simp only[hnum] at this
 exact this
def Eff (b:TBo) (p:TOp) (b':TBo):Prop:=Val b/\Val b' /\
 (∀ c y,usedE b' c y<=usedE b c y+if p.M=1/\p.E=c/\p.H=y then p.I else 0) /\
 (p.M=1->1<=p.I/\p.I<=1000000000000/\∀ c y,usedE b' c y=usedE b c y+if p.E=c/\p.H=y then p.I else 0) /\
 (∀ x∈b'.A,(∃ z∈b.A,z.E=x.E/\z.H=x.H)\/(p.M=1/\x.E=p.E/\x.H=p.H)) /\
 b'.A.length<=b.A.length+1
theorem z77 {b':TBo} (hv:Val b) (hv':Val b') (hR:b'.A=b.A) (hk:p.M≠1) (hu:∀ c y,usedE b' c y<=usedE b c y):Eff b p b' :=
 ⟨hv,hv',fun c y=>by rw[y6 (fun k=>hk k.1)]; have:=hu c y; omega,fun k=>absurd k hk,fun x hx=>by rw[hR] at hx; exact .inl ⟨x,hx,rfl,rfl⟩,by rw[hR]; omega⟩
theorem zfq (h:Val b) (code:Y8) (y d n:Int) (c:Y8) (z:Int):usedE (withR b (b.A++[⟨b.A.length+1,code,y,d,n,0⟩])) c z=usedE b c z+if code=c/\y=z then n else 0:=by
 unfold usedE
 have e:(withR b (b.A++[⟨b.A.length+1,code,y,d,n,0⟩])).A=b.A++[⟨b.A.length+1,code,y,d,n,0⟩]:=rfl
 have e2:∀ m,rel (withR b (b.A++[⟨b.A.length+1,code,y,d,n,0⟩])) m=rel b m:=fun m=>rfl
 simp only[e,e2]
 rw[z7f,zw,zd1]
 simp only[zp5 h (show (b.A.length:Int)<(b.A.length:Int)+1 from om),yk,yu]
 by_cases k:code=c/\y=z
 ·rw[y7 k,y7 k]; omega
 ·rw[y6 k,y6 k]; omega
theorem zp6 (h0:(bookS b p).2=0):Eff b p (bookS b p).1:=by
 unfold bookS at h0 |-
 by_cases c1:p.M=1
 ·rw[y7 c1] at h0 |-
  obtain⟨hv,hg,⟨hy,hd,hn⟩,hyr,hl,e⟩:=zhi h0
  rw[e]
  unfold amtP at hn
  have hu:=zfq hv p.E p.H p.O p.I
  refine⟨hv,zij hv hg hy hd hn hyr hl,fun c y=>?_,fun _=>⟨hn.1,hn.2,hu⟩,fun x hx=>?_,by simp[withR]⟩
  ·rw[hu]
   by_cases k:p.E=c/\p.H=y
   ·rw[y7 k,y7 ⟨c1,k⟩]; omega
   ·rw[y6 k,y6 (fun q=>k q.2)]; omega
  ·simp only[withR,y1i,y22] at hx
   rcases hx with hx | rfl
   ·exact .inl ⟨x,hx,rfl,rfl⟩
   ·exact .inr ⟨c1,rfl,rfl⟩
 rw[y6 c1] at h0 |-
 have conv:∀ {b':TBo},Val b->Val b'->(∀ c y,usedV b' c y=usedV b c y)->∀ c y,usedE b' c y<=usedE b c y:=fun h h' e c y=>by
  have h1:=z3y h c y
  have h2:=z3y h' c y
  have:=e c y
  omega
 by_cases c2:p.M=2
 ·rw[y7 c2] at h0 |-
  obtain⟨hv,hv',hR⟩:=ziq h0
  exact z77 hv hv' hR c1 (conv hv hv' fun c y=>zha h0 c y)
 rw[y6 c2] at h0 |-
 by_cases c3:p.M=3
 ·rw[y7 c3] at h0 |-
  obtain⟨hv,hv',hR⟩:=zir h0
  exact z77 hv hv' hR c1 (conv hv hv' fun c y=>zhb h0 c y)
 rw[y6 c3] at h0 |-
 by_cases c4:p.M=4
 ·rw[y7 c4] at h0 |-
  obtain⟨hv,hv',hR⟩:=zkw h0
  exact z77 hv hv' hR c1 (conv hv hv' fun c y=>zil h0 c y)
 rw[y6 c4] at h0 |-
 by_cases c5:p.M=5
 ·rw[y7 c5] at h0 |-
  obtain⟨hv,hv',hn,hr,hL,e⟩:=zhj h0
  have hu:∀ c y,usedE (releaseS b p.Y p.I).1 c y<=usedE b c y:=fun c y=>by
   have h1:=z3y hv c y
   have h2:=z3y hv' c y
   have h3:=(ze4 hv hn h0 c y).2
   unfold amtP at hn
   split at h3
   ·rw[wrapId om om] at h3; omega
   ·rw[wrapId om om] at h3; omega
  refine⟨hv,hv',fun c y=>by rw[y6 (fun k=>c1 k.1)]; have:=hu c y; omega,fun k=>absurd k c1,fun x hx=>?_,by rw[e]; simp[withR]⟩
  rw[e] at hx
  left
  rcases y3b hx with hx | rfl
  ·exact⟨x,hx,rfl,rfl⟩
  ·exact⟨rAt b p.Y,ze2 hr,rfl,rfl⟩
 rw[y6 c5] at h0 |-
 by_cases c6:p.M=6
 ·rw[y7 c6] at h0 |-
  obtain⟨hv,hv',hn,hR⟩:=zne h0
  refine z77 hv hv' hR c1 fun c y=>?_
  have h1:=z3y hv c y
  have h2:=z3y hv' c y
  have h3:=(zis hv hn h0 c y).2
  unfold amtP at hn
  split at h3
  ·rw[wrapId om om] at h3; omega
  ·rw[wrapId om om] at h3; omega
 rw[y6 c6] at h0 |-
 obtain⟨hv,hv',hR,hC⟩:=znf h0
 refine z77 hv hv' hR c1 (conv hv hv' fun c y=>?_)
 unfold usedV rel
 rw[hR,hC]
variable {x:TRi}
theorem uniqR (hS:Srt l) (hg:∀ x∈l,RtOk x) {y:TRi} (hx:x∈l) (hy:y∈l) (h1:x.E=y.E) (h2:x.H=y.H):x=y:=by
 obtain⟨i,hi,rfl⟩:=z1s hx
 obtain⟨j,hj,rfl⟩:=z1s hy
 have h0:=(z5r (hg _ hx).1 (hg _ hy).1).2 ⟨h1,h2⟩
 rcases y4m i j with h | h | h
 ·have:=hS.lt hg h hj; omega
 ·rw[h]
 ·have:=hS.lt hg h hi
  have h3:=zey (b:=l.getD i dF) (hg _ hy).1
  omega
theorem zez (hS:Srt l) (hg:∀ x∈l,RtOk x) (hx:x∈l):rightV l x.E x.H=x:=by
 obtain⟨h1,h2,h3⟩:=z3x (z39.2 ⟨x,hx,rfl,rfl⟩:hasR l x.E x.H=true)
 exact uniqR hS hg h1 hx h2 h3
theorem zkx {a a' b b':TRi} (h1:a.E=a'.E) (h2:a.H=a'.H) (h3:b.E=b'.E) (h4:b.H=b'.H):cmpR a b=cmpR a' b':=by
 unfold cmpR; rw[h1,h2,h3,h4]
theorem zjq (h:x∈putL l r):x=r\/x∈l:=by
 unfold putL at h
 split at h
 ·exact (y3b h).symm
 ·unfold insL at h
  simp only[y1i,yh] at h
  rcases h with h | h | h
  ·exact .inr (y2q h)
  ·exact .inl h
  ·exact .inr (y1y h)
theorem zaa (l:List TRi) (r:TRi):r∈putL l r:=by
 unfold putL
 split
 ·rename_i h
  exact List.mem_set (z3i h).1 _
 ·unfold insL; simp
theorem zjr (hx:x∈l) (h:¬ (x.E=r.E/\x.H=r.H)):x∈putL l r:=by
 unfold putL
 split
 ·rename_i hh
  obtain⟨h1,h2,h3⟩:=z3i hh
  obtain⟨i,hi,e⟩:=List.mem_iff_getElem.mp hx
  have hne:rix l r.E r.H≠i:=fun k=>h (by subst k; rw[z1a h1,e] at h2 h3; exact⟨h2,h3⟩)
  have h4:(l.set (rix l r.E r.H) r)[i]'(by rw[yl]; exact hi)=x:=by rw[List.getElem_set,y6 hne,e]
  rw[<- h4]
  exact y4s _
 ·unfold insL
  rw[y1i,yh]
  have:x∈l.take (posR l r)++l.drop (posR l r):=by rw[y2o]; exact hx
  rcases y1i.1 this with h | h
  ·exact .inl h
  ·exact .inr (.inr h)
theorem zhk (hg:∀ x∈l,RtOk x) (hr:RtOk r):∀ x∈putL l r,RtOk x:=fun x hx=>by
 rcases zjq hx with rfl | h
 ·exact hr
 ·exact hg x h
theorem zjs (hS:Srt l) (hg:∀ x∈l,RtOk x) (hr:RtOk r):Srt (putL l r):=by
 unfold putL
 split
 ·rename_i hh
  obtain⟨h1,h2,h3⟩:=z3i hh
  intro i hi
  rw[yl] at hi
  have key:∀ j,(((l.set (rix l r.E r.H) r).getD j dF).E=(l.getD j dF).E)/\((l.set (rix l r.E r.H) r).getD j dF).H=(l.getD j dF).H:=fun j=>by
   rw[z5q _ _ _ _ h1]
   by_cases e:j=rix l r.E r.H
   ·rw[y7 e,e,h2,h3]; exact⟨rfl,rfl⟩
   ·rw[y6 e]; exact⟨rfl,rfl⟩
  refine (hS i hi).imp id fun k=>?_
  rw[zkx (key (i-1)).1 (key (i-1)).2 (key i).1 (key i).2]
  exact k
 ·rename_i hh
  have hp:=z6u l r
  intro i hi
  rw[z1c] at hi
  rw[z5m hp,z5m hp]
  by_cases h0:i=0
  ·exact .inl h0
  right
  by_cases c1:i<posR l r
  ·rw[y7 om,y7 c1]
   exact (hS i om).resolve_left h0
  ·by_cases c2:i=posR l r
   ·rw[y7 om,y6 c1,y7 c2]
    exact zb1 om
   ·rw[y6 c1,y6 c2]
    by_cases c3:i-1=posR l r
    ·rw[y6 om,y7 c3,c3]
     have h1:=zb2 (l:=l) (r:=r) om
     have hm:l.getD (posR l r) dF∈l:=zd om
     have h2:cmpR (l.getD (posR l r) dF) r≠0:=fun k=>by
      obtain⟨k1,k2⟩:=(z5r (hg _ hm).1 hr.1).1 k
      exact hh (z39.2 ⟨_,hm,k1,k2⟩)
     have h3:=zey (b:=r) (hg _ hm).1
     omega
    ·rw[y6 om,y6 c3]
     have:=(hS (i-1) om).resolve_left om
     exact this
theorem zr7 (h:hasR l c y=true):hasR (putL l r) c y=true:=by
 obtain⟨x,hx,h1,h2⟩:=z39.1 h
 by_cases k:x.E=r.E/\x.H=r.H
 ·exact z39.2 ⟨r,zaa l r,by rw[<- k.1,h1],by rw[<- k.2,h2]⟩
 ·exact z39.2 ⟨x,zjr hx k,h1,h2⟩
theorem zky (hS:Srt l) (hg:∀ x∈l,RtOk x) (hr:RtOk r) (c:Y8) (y:Int):rightV (putL l r) c y=if r.E=c/\r.H=y then r else rightV l c y:=by
 have hS':=zjs hS hg hr
 have hg':=zhk hg hr
 by_cases k:r.E=c/\r.H=y
 ·rw[y7 k,<- k.1,<- k.2]
  exact zez hS' hg' (zaa l r)
 ·rw[y6 k]
  by_cases h:hasR l c y=true
  ·obtain⟨h1,h2,h3⟩:=z3x h
   have:=zez hS' hg' (zjr (r:=r) h1 (by rw[h2,h3]; exact fun q=>k ⟨q.1.symm,q.2.symm⟩))
   rwa [h2,h3] at this
  ·have h':¬ hasR (putL l r) c y=true:=fun q=>by
    obtain⟨x,hx,h1,h2⟩:=z39.1 q
    rcases zjq hx with rfl | hx
    ·exact k ⟨h1,h2⟩
    ·exact h (z39.2 ⟨x,hx,h1,h2⟩)
   unfold rightV
   rw[y6 h,y6 h']
theorem zr8 (h:l.length<=60) (h2:hasR l r.E r.H=true\/(l.length:Int)≠60):(putL l r).length<=60:=by
 unfold putL
 split
 ·rw[yl]; exact h
 ·rename_i hh
  rw[z1c]
  have:=h2.resolve_left hh
  omega
theorem zf0 (hg:∀ x∈l,RtOk x) (c:Y8) (y:Int):0<=(rightV l c y).X/\(rightV l c y).X<=(rightV l c y).N/\(rightV l c y).N<=1000000000000000/\0<=(rightV l c y).Aa/\(rightV l c y).Aa<=1000000000000000:=by
 by_cases h:hasR l c y=true
 ·have:=hg _ (z3x h).1
  unfold RtOk at this
  omega
 ·unfold rightV; rw[y6 h]; simp
theorem z8t (hg:∀ x∈o.G,RtOk x) (hv:Val o.V) (c:Y8) (y:Int):unusedV o c y=(rightV o.G c y).N-(rightV o.G c y).X-usedE o.V c y:=by
 have h1:=zf0 hg c y
 have h2:=z3y hv c y
 unfold unusedV
 rw[wrapId (n:=(rightV o.G c y).N-(rightV o.G c y).X) om om,h2.1,wrapId om om]
theorem VO.unused (h:VO o) (c:Y8) (y:Int):unusedV o c y=(rightV o.G c y).N-(rightV o.G c y).X-usedE o.V c y:=z8t h.ok h.val c y
theorem zkz (h:∀ x∈b.A,¬ (x.E=c/\x.H=y)):usedE b c y=0:=by
 unfold usedE
 exact zjl fun x hx=>by
  have:=h x hx
  simp only[y40,y1t,ne_eq]
  by_cases h1:x.E=c
  ·exact .inr fun h2=>this ⟨h1,h2⟩
  ·exact .inl h1
theorem VO.unused_nn (h:VO o) (c:Y8) (y:Int):0<=unusedV o c y:=by
 by_cases hx:∃ x∈o.V.A,x.E=c/\x.H=y
 ·obtain⟨x,hx,rfl,rfl⟩:=hx
  exact (h.2.2.2.2.2 x hx).2
 ·rw[h.unused,zkz fun x hx' e=>hx ⟨x,hx',e⟩]
  have:=zf0 h.ok c y
  omega
theorem VO.smO (h:VO o):SmO o:=by
 have h1:=h.val
 have h2:=h1.2.2.2.2.2.2
 refine⟨⟨⟨om,om,om,om⟩,fun r hr=>?_⟩,by have:=h.len; omega,fun r hr=>(h.ok r hr).len⟩
 have:=z4l (h1.1.mem hr).1.2.1
 omega
theorem zr9 (hv:VO o) (hk:p.M≠7/\p.M≠8) (h0:(stepS o p).2=0) :
  (stepS o p).1=⟨o.F,o.G,(bookS o.V p).1⟩/\(bookS o.V p).2=0/\Eff o.V p (bookS o.V p).1/\(p.M=1->p.I<=unusedV o p.E p.H)/\VO (stepS o p).1:=by
 unfold stepS at h0 |-
 rw[y6 hk.2,y6 hk.1] at h0 |-
 by_cases c1:(bookS o.V p).2≠0
 ·rw[y7 c1] at h0; exact absurd h0 c1
 rw[y6 c1] at h0 |-
 by_cases c2:p.M=1/\p.I>unusedV o p.E p.H
 ·rw[y7 c2] at h0; cases h0
 rw[y6 c2]
 have c1:=nnm c1
 have he:=zp6 c1
 have hu:p.M=1->p.I<=unusedV o p.E p.H:=fun k=>Int.not_lt.1 fun q=>c2 ⟨k,q⟩
 refine⟨rfl,c1,he,hu,hv.1,hv.len,he.2.1,hv.ok,hv.srt,fun x hx=>?_⟩
 have hx:=he.2.2.2.2.1 x hx
 have hh:hasR o.G x.E x.H=true:=by
  rcases hx with ⟨z,hz,e1,e2⟩ | ⟨k,e1,e2⟩
  ·rw[<- e1,<- e2]; exact (hv.2.2.2.2.2 z hz).1
  ·rw[e1,e2]
   have h1:=hu k
   have h2:=(he.2.2.2.1 k).1
   refine Classical.byContradiction fun q=>?_
   rw[hv.unused] at h1
   have h3:=z3y hv.val p.E p.H
   unfold rightV at h1
   rw[y6 q] at h1
   simp only at h1
   omega
 refine⟨hh,?_⟩
 rw[z8t (o:=⟨o.F,o.G,(bookS o.V p).1⟩) hv.ok he.2.1]
 have h1:=he.2.2.1 x.E x.H
 have h2:=hv.unused x.E x.H
 have h3:=hv.unused_nn x.E x.H
 by_cases k:p.M=1/\p.E=x.E/\p.H=x.H
 ·rw[y7 k] at h1
  have h4:=hu k.1
  rw[k.2.1,k.2.2] at h4
  simp only
  omega
 ·rw[y6 k] at h1
  simp only
  omega
theorem zng (hv:VO o) (hr:RtOk r) (hl:hasR o.G r.E r.H=true\/(o.G.length:Int)≠60) (hu:usedE o.V r.E r.H<=r.N-r.X):VO ⟨o.F,putL o.G r,o.V⟩:=by
 refine⟨hv.1,zr8 hv.len hl,hv.val,zhk hv.ok hr,zjs hv.srt hv.ok hr,fun x hx=>⟨zr7 (hv.2.2.2.2.2 x hx).1,?_⟩⟩
 rw[z8t (o:=⟨o.F,putL o.G r,o.V⟩) (zhk hv.ok hr) hv.val]
 simp only
 rw[zky hv.srt hv.ok hr]
 by_cases k:r.E=x.E/\r.H=x.H
 ·rw[y7 k,<- k.1,<- k.2]; omega
 ·rw[y6 k]
  have h2:=hv.unused x.E x.H
  have h3:=hv.unused_nn x.E x.H
  omega
theorem zra (hv:VO o) (h0:(hearS o p).2=0) :
  ∃ r,(hearS o p).1=⟨o.F,putL o.G r,o.V⟩/\RtOk r/\r.E=p.E/\r.H=p.H/\r=⟨p.E,p.H,if p.N>(rightV o.G p.E p.H).N then p.N else (rightV o.G p.E p.H).N,if p.Q>(rightV o.G p.E p.H).Aa then p.Q else (rightV o.G p.E p.H).Aa,(rightV o.G p.E p.H).X⟩/\VO (hearS o p).1:=by
 unfold hearS at h0 |-
 by_cases c1:¬ good p.E=true
 ·rw[y7 c1] at h0; cases h0
 rw[y6 c1] at h0 |-
 by_cases c2:p.H<0\/p.H>99
 ·rw[y7 c2] at h0; cases h0
 rw[y6 c2] at h0 |-
 by_cases c3:hasR o.G p.E p.H=false/\(o.G.length:Int)=60
 ·rw[y7 c3] at h0; cases h0
 rw[y6 c3] at h0 |-
 by_cases c4:(learnS (rightV o.G p.E p.H) (msgOf p)).2≠0
 ·rw[y7 c4] at h0; exact absurd h0 c4
 rw[y6 c4]
 have h1:=za9 (nnm c4)
 have hcy:=z68 o.G p.E p.H
 rw[hcy.1,hcy.2] at h1
 refine⟨_,rfl,h1.2.2.2.2,by rw[h1.2.2.2.1],by rw[h1.2.2.2.1],h1.2.2.2.1,zng hv h1.2.2.2.2 ?_ ?_⟩
 ·rw[h1.2.2.2.1]
  simp only
  by_cases k:hasR o.G p.E p.H=true
  ·exact .inl k
  ·exact .inr fun q=>c3 ⟨by simpa using k,q⟩
 ·rw[h1.2.2.2.1]
  have h2:=hv.unused p.E p.H
  have h3:=hv.unused_nn p.E p.H
  have h4:(rightV o.G p.E p.H).N<=if (msgOf p).N>(rightV o.G p.E p.H).N then (msgOf p).N else (rightV o.G p.E p.H).N:=by split <;> omega
  simp only
  omega
theorem zrb (hv:VO o) (h0:(giveS o p).2=0) :
  hasR o.G p.E p.H=true/\1<=p.I/\p.I<=unusedV o p.E p.H/\∃ r,(giveS o p).1=⟨o.F,putL o.G r,o.V⟩/\RtOk r/\r=⟨p.E,p.H,(rightV o.G p.E p.H).N,(rightV o.G p.E p.H).Aa,(rightV o.G p.E p.H).X+p.I⟩/\VO (giveS o p).1:=by
 unfold giveS at h0 |-
 by_cases c1:¬ hasR o.G p.E p.H=true
 ·rw[y7 c1] at h0; cases h0
 rw[y6 c1] at h0 |-
 by_cases c4:(returnS (rightV o.G p.E p.H) (usedV o.V p.E p.H) p.I).2≠0
 ·rw[y7 c4] at h0; exact absurd h0 c4
 rw[y6 c4]
 have h1:=z8s (nnm c4)
 have hcy:=z68 o.G p.E p.H
 have hu:=z3y hv.val p.E p.H
 rw[hcy.1,hcy.2,hu.1] at h1
 have c1:=nnm c1
 rw[hu.1]
 refine⟨c1,h1.2.2.1,by rw[hv.unused]; exact h1.2.2.2.1,_,rfl,h1.2.2.2.2.2,h1.2.2.2.2.1,zng hv h1.2.2.2.2.2 (.inl ?_) ?_⟩
 ·rw[h1.2.2.2.2.1]; exact c1
 ·rw[h1.2.2.2.2.1]
  simp only
  omega
theorem zrc (h0:(doS o p).2=0):VO o/\(1<=p.M/\p.M<=9)/\doS o p=stepS o p:=by
 unfold doS at h0 |-
 split at h0
 ·cases h0
 ·rename_i h
  rw[y6 h]
  exact⟨Classical.byContradiction fun k=>h (.inl k),om,rfl⟩
theorem zd9 (hv:VO o) (hk:1<=p.M/\p.M<=9):doS o p=stepS o p:=by
 unfold doS
 rw[y6 (fun k=>k.elim (fun k=>k hv) fun k=>om)]
theorem z8u (h0:(doS o p).2=0):VO (doS o p).1:=by
 obtain⟨hv,hk,e⟩:=zrc h0
 rw[e] at h0 |-
 by_cases c8:p.M=8
 ·have e8:stepS o p=hearS o p:=by unfold stepS; rw[y7 c8]
  rw[e8] at h0 |-
  obtain⟨r,_,_,_,_,_,h⟩:=zra hv h0
  exact h
 by_cases c7:p.M=7
 ·have e7:stepS o p=giveS o p:=by unfold stepS; rw[y6 c8,y7 c7]
  rw[e7] at h0 |-
  obtain⟨_,_,_,r,_,_,_,h⟩:=zrb hv h0
  exact h
 exact (zr9 hv ⟨c7,c8⟩ h0).2.2.2.2
def OI (k:Nat) (o:TOf):Prop:=VO o/\o.V.A.length<=k/\o.G.length<=k/\∀ r∈o.G,r.N<=1000
theorem z59 (n:Int):F_q2f n=some (if n<1\/n>6 then (noO,2) else (⟨n,[],nb⟩,0)):=by
 simp only[F_q2f,S_q2f,Scr.den,zb]
 exact st (by simp only[ye,y8]) (fun _=>rfl) (fun _=>rfl)
theorem znh (h1:1<=n) (h2:n<=6):OI 0 ⟨n,[],nb⟩ :=
 ⟨⟨⟨h1,h2⟩,sj,zn5,(fun _ h=>nomatch h),(fun i hi=>absurd hi sj),(fun x hx=>nomatch hx)⟩,(by simp[nb]),sj,(fun _ h=>nomatch h)⟩
def a1:TOf:=⟨2,[],nb⟩
def a2:TOf:=⟨2,[⟨[49],12,100,0,0⟩],nb⟩
def aR:TRe:=⟨1,[49],12,4330,60,0⟩
def a3:TOf:=⟨2,[⟨[49],12,100,0,0⟩],⟨[aR],[],[],[]⟩⟩
def a4:TOf:=⟨2,[⟨[49],12,100,0,40⟩],⟨[aR],[],[],[]⟩⟩
def q1:TOp:=⟨8,[49],12,0,0,0,0,0,100,0⟩
def q2:TOp:=⟨1,[49],12,4330,0,60,0,0,0,0⟩
def q3:TOp:=⟨7,[49],12,0,0,40,0,0,0,0⟩
def q4:TOp:=⟨1,[49],12,4330,0,1,0,0,0,0⟩
theorem va1:VO a1:=(znh om om).1
theorem st1:doS a1 q1=(a2,0):=by
 rw[zd9 va1 dk]
 unfold stepS
 rw[y7 dk]
 kernel_rfl
theorem va2:VO a2:=by have:=z8u (o:=a1) (p:=q1) (by rw[st1]); rwa [st1] at this
theorem st2:doS a2 q2=(a3,0):=by
 rw[zd9 va2 dk]
 unfold stepS
 have h:reserveS a2.V q2.E q2.H q2.O q2.I=(⟨[aR],[],[],[]⟩,0) :=
  zio (b:=nb) (code:=[49]) (y:=12) (d:=4330) (n:=60) zn5 (by decide +kernel) dk dk dk dk dk
 have hu:unusedV a2 q2.E q2.H=100:=by decide +kernel
 have hb:bookS a2.V q2=(⟨[aR],[],[],[]⟩,0):=by unfold bookS; rw[y7 dk,h]
 rw[y6 dk,y6 dk,hb,y6 dk,y6 (by rw[hu]; decide)]
 rfl
theorem va3:VO a3:=by have:=z8u (o:=a2) (p:=q2) (by rw[st2]); rwa [st2] at this
theorem st3:doS a3 q3=(a4,0):=by
 rw[zd9 va3 dk]
 unfold stepS
 rw[y6 dk,y7 dk]
 kernel_rfl
def getF (p:TOp):Nat->Int
 | 0=>p.H
 | 1=>p.O
 | 2=>p.I
 | 3=>p.Y
 | 4=>p.T
 | 5=>p.W
 | 6=>p.N
 | _=>p.Q
def clrF (p:TOp):Nat->TOp
 | 0=>⟨p.M,p.E,0,p.O,p.Y,p.I,p.T,p.W,p.N,p.Q⟩
 | 1=>⟨p.M,p.E,p.H,0,p.Y,p.I,p.T,p.W,p.N,p.Q⟩
 | 2=>⟨p.M,p.E,p.H,p.O,p.Y,0,p.T,p.W,p.N,p.Q⟩
 | 3=>⟨p.M,p.E,p.H,p.O,0,p.I,p.T,p.W,p.N,p.Q⟩
 | 4=>⟨p.M,p.E,p.H,p.O,p.Y,p.I,0,p.W,p.N,p.Q⟩
 | 5=>⟨p.M,p.E,p.H,p.O,p.Y,p.I,p.T,0,p.N,p.Q⟩
 | 6=>⟨p.M,p.E,p.H,p.O,p.Y,p.I,p.T,p.W,0,p.Q⟩
 | 7=>⟨p.M,p.E,p.H,p.O,p.Y,p.I,p.T,p.W,p.N,0⟩
 | _=>⟨p.M,[],p.H,p.O,p.Y,p.I,p.T,p.W,p.N,p.Q⟩
def nmF:Nat->Y8
 | 0=>[89,69,65,82]
 | 1=>[68,65,89]
 | 2=>[65,77,79,85,78,84]
 | 3=>[79,70]
 | 4=>[80,65,89,69,69]
 | 5=>[68,85,69]
 | 6=>[71,82,65,78,84,69,68]
 | 7=>[65,83,75,69,68,66,65,67,75]
 | _=>[67,79,68,69]
def mostF (k:Nat):Int:=if k=0 then 99 else 1000000000000000
def condF (p:TOp) (k:Nat):Prop:=if k=8 then good p.E=true else 0<=getF p k/\getF p k<=mostF k
instance (p:TOp) (k:Nat):Decidable (condF p k):=by unfold condF; infer_instance
theorem zb3 (p:TOp):condF p 8↔good p.E=true:=by
 show (if (8:Nat)=8 then good p.E=true else _)↔_
 rw[y7 rfl]
variable {k:Nat}
theorem condN (h:k≠8):condF p k↔0<=getF p k/\getF p k<=mostF k:=by
 show (if k=8 then good p.E=true else _)↔_
 rw[y6 h]
def txtF (p:TOp) (k:Nat):Y8:=if k=8 then p.E else Lib.itoa (getF p k)
theorem F_q54 (k:Nat) (hk:k<8):F_q15 (nmF k)=some (mostF k):=by
 have:k=0\/k=1\/k=2\/k=3\/k=4\/k=5\/k=6\/k=7:=om
 rcases this with rfl | rfl | rfl | rfl | rfl | rfl | rfl | rfl <;> rfl
theorem z3j (h0:0<=n) (h1:n<=1000000000000000):F_q2i n=some (Lib.itoa n):=z6 ⟨om,om⟩
theorem z5s (k:Nat):mostF k<=1000000000000000:=by unfold mostF; split <;> omega
variable {rv1:List Y8}
theorem zrd {r:TOp} (hc:p.E.length<=1000000) {l:List Y8} {i:Nat} (hi:i+1<l.length) (hb:l.length<=1000) (hk:k<=8) (hp:l.getD (0+1+i) dF=nmF k) :
  (S_q5_b1 p rv1 i (l,r)).den=some (if condF p k then .cont (l.set (i+1) (txtF p k),clrF r k) else .ret []):=by
 have ei:(i64.wrap ((i:Int)+1))=((i+1:Nat):Int):=wrapId om om
 have hcode:k=8->(S_q5_b1 p rv1 i (l,r)).den=some (if condF p k then .cont (l.set (i+1) (txtF p k),clrF r k) else .ret []):=fun h8=>by
  subst h8
  simp only[S_q5_b1,Scr.den]
  rw[z6 ⟨om,trivial⟩,hp,y7 (by rfl),ei]
  rw[show F_q4z p.E=some (parts p.E) from z4k om]
  simp only[obind,zhh,yi,y1a]
  by_cases hg:good p.E=true
  ·rw[y6 (by simp[hg]),y7 ((zb3 p).2 hg),z6 ⟨om,hi,hi,trivial⟩]
   rfl
  ·rw[y7 (by simpa using hg),y6 fun h=>hg ((zb3 p).1 h)]
 by_cases h8:k=8
 ·exact hcode h8
 clear hcode
 have e:k=0\/k=1\/k=2\/k=3\/k=4\/k=5\/k=6\/k=7:=om
 have hm:F_q15 (nmF k)=some (mostF k):=F_q54 k om
 have hml:=z5s k
 have fin:∀ (n:Int) (x:Option (Step (List Y8×TOp) R_q5)),n=getF p k ->
   x=((optD [(decide (n<0))=false] (F_q15 (nmF k)) dF).bind fun m=>if (decide (n<0)||decide (n>m))=true then some (.ret []) else (F_q2i n).bind fun t=>guardP (AllP [(0:Int)<=((i+1:Nat):Int),i+1<l.length,i+1<l.length]) (some (.cont (l.set (i+1) t,clrF r k)))) ->
   x=some (if condF p k then .cont (l.set (i+1) (txtF p k),clrF r k) else .ret []):=by
  rintro n x rfl rfl
  have ht:txtF p k=Lib.itoa (getF p k):=y6 h8
  have hcn:=condN (p:=p) h8
  rw[hm,ht]
  by_cases h0:getF p k<0
  ·rw[show optD [(decide (getF p k<0))=false] (some (mostF k)) dF=some dF from y6 fun h=>by simp[AllP] at h; omega]
   simp only[obind]
   rw[y7 (by simp[h0]),y6 fun h=>Int.not_lt.2 (hcn.1 h).1 h0]
  ·rw[zg (by simp[AllP]; omega)]
   simp only[obind]
   by_cases h1:getF p k<=mostF k
   ·rw[y6 sk,y7 (hcn.2 ⟨om,h1⟩),z3j om om]
    simp only[obind]
    rw[z6 ⟨om,hi,hi,trivial⟩]
   ·rw[y7 sk,y6 fun h=>h1 (hcn.1 h).2]
 rcases e with rfl | rfl | rfl | rfl | rfl | rfl | rfl | rfl
 all_goals
  simp only[S_q5_b1,Scr.den]
  rw[z6 ⟨om,trivial⟩,hp,ei]
  refine fin _ _ rfl ?_
  simp only[yi,y1a,zb]
 ·have f:∀ q,F_q2w (nmF 0) q=some ():=fun q=>z6 ⟨dk,trivial⟩
  rw[y6 dk,y7 dk]
  simp only[f,obind]
  rfl
 ·have f:∀ q,F_q2x (nmF 1) q=some ():=fun q=>(z6 ⟨dk,trivial⟩).trans (z6 ⟨dk,trivial⟩)
  rw[y6 dk,y6 dk,y7 dk]
  simp only[f,obind]
  rfl
 ·have f:∀ q,F_q2y (nmF 2) q=some ():=fun q=>(z6 ⟨dk,trivial⟩).trans ((z6 ⟨dk,trivial⟩).trans (z6 ⟨dk,trivial⟩))
  rw[y6 dk,y6 dk,y6 dk,y7 dk]
  simp only[f,obind]
  rfl
 ·have f:∀ q,F_q2z (nmF 3) q=some ():=fun q=>(z6 ⟨dk,trivial⟩).trans ((z6 ⟨dk,trivial⟩).trans ((z6 ⟨dk,trivial⟩).trans (z6 ⟨dk,trivial⟩)))
  rw[y6 dk,y6 dk,y6 dk,y6 dk,y7 dk]
  simp only[f,obind]
  rfl
 ·have f:∀ q,F_q30 (nmF 4) q=some ():=fun q=>(z6 ⟨dk,trivial⟩).trans ((z6 ⟨dk,trivial⟩).trans ((z6 ⟨dk,trivial⟩).trans ((z6 ⟨dk,trivial⟩).trans (z6 ⟨dk,trivial⟩))))
  rw[y6 dk,y6 dk,y6 dk,y6 dk,y6 dk,y7 dk]
  simp only[f,obind]
  rfl
 ·have f:∀ q,F_q31 (nmF 5) q=some ():=fun q=>(z6 ⟨dk,trivial⟩).trans ((z6 ⟨dk,trivial⟩).trans ((z6 ⟨dk,trivial⟩).trans ((z6 ⟨dk,trivial⟩).trans ((z6 ⟨dk,trivial⟩).trans (z6 ⟨dk,trivial⟩)))))
  rw[y6 dk,y6 dk,y6 dk,y6 dk,y6 dk,y6 dk,y7 dk]
  simp only[f,obind]
  rfl
 ·have f:∀ q,F_q32 (nmF 6) q=some ():=fun q=>(z6 ⟨dk,trivial⟩).trans ((z6 ⟨dk,trivial⟩).trans ((z6 ⟨dk,trivial⟩).trans ((z6 ⟨dk,trivial⟩).trans ((z6 ⟨dk,trivial⟩).trans ((z6 ⟨dk,trivial⟩).trans (z6 ⟨dk,trivial⟩))))))
  rw[y6 dk,y6 dk,y6 dk,y6 dk,y6 dk,y6 dk,y6 dk,y7 dk]
  simp only[f,obind]
  rfl
 ·have f:∀ q,F_q33 (nmF 7) q=some ():=fun q=>(z6 ⟨dk,trivial⟩).trans ((z6 ⟨dk,trivial⟩).trans ((z6 ⟨dk,trivial⟩).trans ((z6 ⟨dk,trivial⟩).trans ((z6 ⟨dk,trivial⟩).trans ((z6 ⟨dk,trivial⟩).trans ((z6 ⟨dk,trivial⟩).trans (z6 ⟨dk,trivial⟩)))))))
  rw[y6 dk,y6 dk,y6 dk,y6 dk,y6 dk,y6 dk,y6 dk,y6 dk]
  simp only[f,obind]
  rfl
theorem zni (hc:p.E.length<=1000000) (hb:rv1.length<=1000):∀ (ks:List Nat) (i:Nat) (l:List Y8) (r:TOp),l.length=rv1.length->i+1+ks.length=l.length->(∀ k∈ks,k<=8)->l.drop (i+1)=ks.map nmF ->
  ((∀ k∈ks,condF p k)->rangeM (fun i s=>(S_q5_b1 p rv1 i s).den) ks.length i (l,r)=some (.next (l.take (i+1)++ks.map (txtF p),ks.foldl clrF r))) /\
  ((¬ ∀ k∈ks,condF p k)->rangeM (fun i s=>(S_q5_b1 p rv1 i s).den) ks.length i (l,r)=some (.ret [])):=by
 intro ks
 induction ks with
 | nil =>
  intro i l r hl hi _ hd
  refine⟨fun _=>?_,fun h=>absurd (fun k hk=>nomatch hk) h⟩
  rw[List.map_nil,y2v,y1d (by simp at hi; omega)]
  rfl
 | cons k ks ih =>
  intro i l r hl hi h8 hd
  rw[yf] at hi
  have hlt:i+1<l.length:=om
  have hg:l.getD (0+1+i) dF=nmF k:=by
   rw[show 0+1+i=i+1 from om,z1a hlt]
   have:=yj (fun z=>z[0]?) hd
   simpa [List.getElem?_drop,List.getElem?_eq_getElem hlt] using this
  have hs:=zrd (p:=p) (r:=r) (rv1:=rv1) hc hlt om (h8 k (y13 ..)) hg
  have hd2:(l.set (i+1) (txtF p k)).drop (i+1+1)=ks.map nmF:=by
   rw[List.drop_set_of_lt om]
   have:=yj (List.drop 1) hd
   simpa [List.drop_drop] using this
  obtain⟨g1,g2⟩:=ih (i+1) (l.set (i+1) (txtF p k)) (clrF r k) (by rw[yl]; exact hl) (by rw[yl]; omega) (fun x hx=>h8 x (yo _ hx)) hd2
  simp only[yf,rangeM,hs]
  refine⟨fun h=>?_,fun h=>?_⟩
  ·rw[y7 (h k (y13 ..))]
   have e1:=g1 fun x hx=>h x (yo _ hx)
   refine e1.trans ?_
   have e2:(l.set (i+1) (txtF p k)).take (i+1+1)=l.take (i+1)++[txtF p k]:=by
    rw[y2i,List.take_set_of_le om,y10 hlt]
    rfl
   rw[e2,y1v]
   rfl
  ·by_cases hk:condF p k
   ·rw[y7 hk]
    exact g2 fun h'=>h fun x hx=>by
     rcases yh.1 hx with rfl | hx
     ·exact hk
     ·exact h' x hx
   ·rw[y6 hk]
def partsK (k:Int):List Nat :=
 if k=1 then [8,0,1,2] else if k=2 then [3,1,2,4,5] else if k=3 then [3,1,2] else if k=4 then [3,1] else if k=5 then [3,2] else if k=6 then [3,2] else
 if k=7 then [8,0,2] else if k=8 then [8,0,6,7] else if k=9 then [3] else []
def wordK (k:Int):Y8 :=
 if k=1 then [114,101,115,101,114,118,101] else if k=2 then [99,111,109,109,105,116] else if k=3 then [118,101,114,105,102,121] else if k=4 then [111,114,100,101,114] else
 if k=5 then [114,101,108,101,97,115,101] else if k=6 then [100,114,111,112] else if k=7 then [114,101,116,117,114,110] else if k=8 then [104,101,97,114] else [114,101,116,117,114,110,101,100]
def zOp:TOp:=⟨0,[],0,0,0,0,0,0,0,0⟩
def unK (p:TOp):TOp:=⟨0,p.E,p.H,p.O,p.Y,p.I,p.T,p.W,p.N,p.Q⟩
def POp (p:TOp):Prop:=(1<=p.M/\p.M<=9)/\(∀ k∈partsK p.M,condF p k)/\(partsK p.M).foldl clrF (unK p)=zOp
theorem z2j {k:Int} (h:1<=k/\k<=9):k=1\/k=2\/k=3\/k=4\/k=5\/k=6\/k=7\/k=8\/k=9:=om
theorem zda {k:Int} (h:1<=k/\k<=9):∃ s,F_q2o k=some s/\F_q52 s=some (wordK k :: (partsK k).map nmF):=by
 rcases z2j h with rfl | rfl | rfl | rfl | rfl | rfl | rfl | rfl | rfl <;> exact⟨_,rfl,z6 ⟨dk,dk⟩⟩
theorem znj {k:Int} (h:¬ (1<=k/\k<=9)):F_q2o k=some []:=by
 simp only[F_q2o,S_q2o,Scr.den]
 rw[y6 sk,y6 sk,y6 sk,y6 sk,y6 sk,y6 sk,y6 sk,y6 sk,y6 sk]
theorem z7k (k:Int):∀ x∈partsK k,x<=8:=by
 unfold partsK
 repeat' split
 all_goals decide
theorem z6k (k:Int):(partsK k).length<=5:=by
 unfold partsK
 repeat' split
 all_goals decide
theorem z4w (k:Int):0<(wordK k).length/\(wordK k).length<=8:=by
 unfold wordK
 repeat' split
 all_goals decide
theorem z5a {B:Nat} {s:Y8}:∀ {l:List Y8},(∀ x∈l,x.length<=B)->(Lib.joinTail s l).length<=l.length * (s.length+B)
 | [],_=>by simp[Lib.joinTail]
 | x :: l,h=>by
  have h1:=h x sj
  have h2:=z5a (s:=s) (l:=l) fun y hy=>h y (by simp[hy])
  have e:Lib.joinTail s (x :: l)=(s++x)++Lib.joinTail s l:=by simp[Lib.joinTail]
  rw[e,yn,yn,yf,y1m]
  omega
theorem zh {σ ρ α:Type} (s:σ) (k:σ->Option α) (kr:ρ->Option α):outM (some (.next s)) k kr=k s:=rfl
theorem z3k (a b:TOp):((a.M==b.M)&&((a.E==b.E)&&((a.H==b.H)&&((a.O==b.O)&&((a.Y==b.Y)&&((a.I==b.I)&&((a.T==b.T)&&((a.W==b.W)&&((a.N==b.N)&&((a.Q==b.Q)&&true))))))))))=true↔a=b:=by
 obtain⟨a0,a1,a2,a3,a4,a5,a6,a7,a8,a9⟩:=a
 obtain⟨b0,b1,b2,b3,b4,b5,b6,b7,b8,b9⟩:=b
 simp
theorem zp7 (h:condF p k):(txtF p k).length<=60:=by
 by_cases h8:k=8
 ·subst h8
  have:=z4l ((zb3 p).1 h)
  show p.E.length<=60
  omega
 ·rw[show txtF p k=Lib.itoa (getF p k) from y6 h8]
  have h1:=z5s k
  have h2:=(condN h8).1 h
  have:=Lib.itoa_length_le (getF p k) om om
  omega
theorem POp.len (h:POp p):p.E.length<=60:=by
 obtain⟨hk,hc,hz⟩:=h
 by_cases h8:8∈partsK p.M
 ·have:=hc 8 h8
  have:=z4l ((zb3 p).1 this)
  omega
 ·have key:∀ (ks:List Nat) (r:TOp),8 ∉ ks->(∀ k∈ks,k<=8)->(ks.foldl clrF r).E=r.E:=by
   intro ks
   induction ks with
   | nil=>intro r _ _; rfl
   | cons k ks ih =>
    intro r hk h9
    rw[y2l,ih _ (fun h=>hk (yo _ h)) fun x hx=>h9 x (yo _ hx)]
    have h1:k≠8:=fun e=>hk (e▸y13 ..)
    have h2:=h9 k (y13 ..)
    have:k=0\/k=1\/k=2\/k=3\/k=4\/k=5\/k=6\/k=7:=om
    rcases this with rfl | rfl | rfl | rfl | rfl | rfl | rfl | rfl <;> rfl
  have h2:=key (partsK p.M) (unK p) h8 (z7k _)
  rw[hz] at h2
  have h3:(unK p).E=p.E:=rfl
  rw[<- h3,<- h2]
  decide
theorem zre {x:Y8} {l:List Y8} (hx:0<x.length) (s:Y8):Lib.join (x :: l) s≠[]:=by
 rw[Lib.join_cons]
 intro h
 have:=yj List.length h
 rw[yn,y11] at this
 omega
def textT (p:TOp):Y8:=Lib.join (wordK p.M :: (partsK p.M).map (txtF p)) [32]
open Classical in
noncomputable def textS (p:TOp):Y8:=if POp p then textT p else []
theorem z1x (h:POp p):textS p=textT p:=y7 h
theorem z2r (h:¬ POp p):textS p=[]:=y6 h
theorem zp8 (p:TOp):textT p≠[]:=zre (z4w _).1 _
theorem zf1 (h:POp p):(textT p).length<=400:=by
 have hwl:=z4w p.M
 have hpl:=z6k p.M
 unfold textT
 rw[Lib.join_cons,yn]
 have h1:=z5a (B:=60) (s:=[32]) (l:=(partsK p.M).map (txtF p)) fun x hx=>by
  obtain⟨k,hk,rfl⟩:=y1f.1 hx
  exact zp7 (h.2.1 k hk)
 have h3:((partsK p.M).map (txtF p)).length * (1+60)<=5 * 61:=yp _ (by rw[y2f]; exact hpl)
 simp only[yf,y11] at h1
 omega
theorem z7l (p:TOp):(textS p).length<=400:=by
 by_cases h:POp p
 ·rw[z1x h]; exact zf1 h
 ·rw[z2r h]; simp
theorem zhl:textS p≠[]↔POp p:=by
 by_cases h:POp p
 ·rw[z1x h]; exact⟨fun _=>h,fun _=>zp8 p⟩
 ·rw[z2r h]; exact⟨fun k=>absurd rfl k,fun k=>absurd k h⟩
theorem zb4 (hc:p.E.length<=1000000):F_q5 p=some (textS p):=by
 by_cases hk:1<=p.M/\p.M<=9
 ·obtain⟨s,e1,e2⟩:=zda hk
  have hpl:=z6k p.M
  have hwl:=z4w p.M
  have hn:(wordK p.M :: (partsK p.M).map nmF).length-1=(partsK p.M).length:=sj
  obtain⟨g1,g2⟩:=zni (p:=p) hc (rv1:=wordK p.M :: (partsK p.M).map nmF) sk (partsK p.M) 0 (wordK p.M :: (partsK p.M).map nmF) (unK p) rfl sk (z7k _) sj
  have hS:F_q5 p=(outM (rangeM (fun i s=>(S_q5_b1 p (wordK p.M :: (partsK p.M).map nmF) i s).den) (partsK p.M).length 0 (wordK p.M :: (partsK p.M).map nmF,unK p)) (fun s=>if (!((s.2.M==0)&&((s.2.E==([]))&&((s.2.H==0)&&((s.2.O==0)&&((s.2.Y==0)&&((s.2.I==0)&&((s.2.T==0)&&((s.2.W==0)&&((s.2.N==0)&&((s.2.Q==0)&&true)))))))))))=true then some [] else guardP (AllP [s.1.length<2 ^ 63]) ((F_q53 s.1 [32]).bind fun r=>some r)) (fun x=>some (id x))):=by
   simp only[F_q5,S_q5,Scr.den,e1,e2,obind]
   rw[y6 sk,z6 ⟨sj,trivial⟩,z6 ⟨sk,trivial⟩,hn]
   rfl
  rw[hS]
  by_cases h:∀ k∈partsK p.M,condF p k
  ·rw[g1 h]
   simp only[zh]
   have hz:=z3k ((partsK p.M).foldl clrF (unK p)) zOp
   by_cases hz':(partsK p.M).foldl clrF (unK p)=zOp
   ·have hb:=hz.2 hz'
    have hP:POp p:=⟨hk,h,hz'⟩
    rw[y6 (by
     intro hh
     rw[yc] at hh
     exact y3x (hh.symm.trans hb))]
    have el:(wordK p.M :: (partsK p.M).map nmF).take (0+1)++(partsK p.M).map (txtF p)=wordK p.M :: (partsK p.M).map (txtF p):=rfl
    rw[el,z1x hP]
    have hj:=zf1 hP
    unfold textT at hj |-
    rw[z6 ⟨sk,trivial⟩,show F_q53 (wordK p.M :: (partsK p.M).map (txtF p)) [32]=some _ from z6 ⟨sj,sk,om⟩]
    rfl
   ·rw[z2r (fun hp=>hz' hp.2.2)]
    rw[y7 (by
     rw[yc]
     exact y36.2 fun hh=>hz' (hz.1 hh))]
  ·rw[g2 h,z2r (fun hp=>h hp.2.1)]
   rfl
 ·rw[z2r (fun hp=>hk hp.1)]
  simp only[F_q5,S_q5,Scr.den,znj hk,obind]
  rw[show F_q52 []=some [] from z6 ⟨dk,dk⟩]
  rfl
open Classical in
theorem z8v (hc:p.E.length<=1000000):F_q28 p=some (decide (POp p)):=by
 simp only[F_q28,S_q28,Scr.den,zb4 hc,obind]
 by_cases h:POp p
 ·have:=zhl.2 h
  rw[y1z h]
  simp[this]
 ·rw[z2r h,yx h]
  rfl
def numT (n:Int):Prop:=0<=n/\n<=1000000000000000
theorem zp9 (l:List Int) (c:Bool):((∀ x∈l,numT x)->rangeM (fun i s=>(S_q9_b1 (l,c) i s).den) l.length 0 ()=some (.next ()))/\((¬ ∀ x∈l,numT x)->rangeM (fun i s=>(S_q9_b1 (l,c) i s).den) l.length 0 ()=some (.ret false)):=by
 have ra:=zy (ρ:=Bool) (n:=l.length) (c:=false) (body:=fun i s=>(S_q9_b1 (l,c) i s).den) (fun i=>numT (l.getD i dF)) (fun i hi h=>by
  simp only[S_q9_b1,Scr.den,zb]
  unfold numT at h
  rw[y6 (by simp only[ye,y8]; omega)]) (fun i hi h=>by
  simp only[S_q9_b1,Scr.den,zb]
  unfold numT at h
  rw[y7 (by simp only[ye,y8]; omega)])
 exact⟨fun h=>ra.1 fun j hj=>h _ (zd hj),fun h=>ra.2 fun h'=>h (z6j (p:=numT) h')⟩
open Classical in
theorem z2w {q:TOp} {l:List Int} {c:Bool} (hk:1<=p.M/\p.M<=9) (hc:p.E.length<=1000000) (e1:F_qv p=some (l,c)) (e2:F_q1 p.M p.E p.H l=some q) :
  F_q9 p=some (decide ((if c=true then good p.E=true/\0<=p.H/\p.H<=99 else p.E=[]/\p.H=0)/\(∀ x∈l,numT x)/\q=p)):=by
 simp only[F_q9,S_q9,Scr.den,e1,obind,zb,zj]
 rw[y6 (by simp only[ye,y8]; omega)]
 obtain⟨g1,g2⟩:=zp9 l c
 have fin:outM (rangeM (fun i s=>(S_q9_b1 (l,c) i s).den) l.length 0 ()) (fun _=>(F_q1 p.M p.E p.H l).bind fun r=>some ((r.M==p.M)&&((r.E==p.E)&&((r.H==p.H)&&((r.O==p.O)&&((r.Y==p.Y)&&((r.I==p.I)&&((r.T==p.T)&&((r.W==p.W)&&((r.N==p.N)&&((r.Q==p.Q)&&true))))))))))) (fun x=>some (id x))=some (decide ((∀ x∈l,numT x)/\q=p)):=by
  by_cases h:∀ x∈l,numT x
  ·rw[g1 h]
   simp only[zh,e2,obind]
   congr 1
   rw[y27,z3k,y8]
   exact⟨fun k=>⟨h,k⟩,fun k=>k.2⟩
  ·rw[g2 h,yx (fun k=>h k.1)]
   rfl
 cases c
 ·rw[show ∀ {α:Type} (x:Option α) (d:α),optD [false=true] x d=some d from fun _ _=>y6 fun h=>y3x h.1]
  simp only[obind]
  by_cases h:p.E=[]/\p.H=0
  ·rw[y6 (by simp[h.1,h.2]),fin]
   congr 1
   rw[y27,y8,y8,y6 sj]
   exact⟨fun k=>⟨h,k⟩,fun k=>k.2⟩
  ·rw[y7 (by
    by_cases h1:p.E=[]
    ·have h2:p.H≠0:=fun e=>h ⟨h1,e⟩
     simp[h1,h2]
    ·simp[h1]),yx (fun k=>h (by simpa using k.1))]
 ·rw[zg (by simp[AllP]),z4a om]
  simp only[obind]
  by_cases h:good p.E=true/\0<=p.H/\p.H<=99
  ·rw[y6 (by simp[h.1]; omega),fin]
   congr 1
   rw[y27,y8,y8,y7 trivial]
   exact⟨fun k=>⟨h,k⟩,fun k=>k.2⟩
  ·rw[y7 (by
    by_cases h1:good p.E=true
    ·have h2:p.H<0\/99<p.H:=by
      rcases Int.lt_or_le p.H 0 with k | k
      ·exact .inl k
      ·exact .inr (Int.not_le.1 fun k2=>h ⟨h1,k,k2⟩)
     rcases h2 with h2 | h2 <;> simp[h1,h2]
    ·simp[h1]),yx (fun k=>h (by simpa using k.1))]
open Classical in
theorem z1y (hc:p.E.length<=1000000):F_q9 p=some (decide (POp p)):=by
 by_cases hk:¬ (1<=p.M/\p.M<=9)
 ·simp only[F_q9,S_q9,Scr.den,zb]
  rw[y7 (by simp only[ye,y8]; omega),yx (fun h=>hk h.1)]
 have hk:=y3z.1 hk
 have z:∀ x:Int,decide (0=x)=decide (x=0):=fun x=>decide_eq_decide.2 eq_comm
 obtain⟨K,C,Y,D,O,A,P,U,G,B⟩:=p
 rcases z2j hk with h | h | h | h | h | h | h | h | h <;> simp only at h <;> subst h
 ·have e1:F_qv ⟨1,C,Y,D,O,A,P,U,G,B⟩=some ([D,A],true):=rfl
  have e2:F_q1 1 C Y [D,A]=some ⟨1,C,Y,D,0,A,0,0,0,0⟩:=by
   simp[F_q1,S_q1,Scr.den,guardP,AllP,outM]
  rw[z2w hk hc e1 e2]
  congr 1
  simp[POp,partsK,condF,getF,mostF,clrF,unK,zOp,numT]
  simp only[z]
  ac_rfl
 ·have e1:F_qv ⟨2,C,Y,D,O,A,P,U,G,B⟩=some ([O,D,A,P,U],false):=rfl
  have e2:F_q1 2 C Y [O,D,A,P,U]=some ⟨2,C,Y,D,O,A,P,U,0,0⟩:=by
   simp[F_q1,S_q1,Scr.den,guardP,AllP,outM]
  rw[z2w hk hc e1 e2]
  congr 1
  simp[POp,partsK,condF,getF,mostF,clrF,unK,zOp,numT]
  simp only[z]
  ac_rfl
 ·have e1:F_qv ⟨3,C,Y,D,O,A,P,U,G,B⟩=some ([O,D,A],false):=rfl
  have e2:F_q1 3 C Y [O,D,A]=some ⟨3,C,Y,D,O,A,0,0,0,0⟩:=by
   simp[F_q1,S_q1,Scr.den,guardP,AllP,outM]
  rw[z2w hk hc e1 e2]
  congr 1
  simp[POp,partsK,condF,getF,mostF,clrF,unK,zOp,numT]
  simp only[z]
  ac_rfl
 ·have e1:F_qv ⟨4,C,Y,D,O,A,P,U,G,B⟩=some ([O,D],false):=rfl
  have e2:F_q1 4 C Y [O,D]=some ⟨4,C,Y,D,O,0,0,0,0,0⟩:=by
   simp[F_q1,S_q1,Scr.den,guardP,AllP,outM]
  rw[z2w hk hc e1 e2]
  congr 1
  simp[POp,partsK,condF,getF,mostF,clrF,unK,zOp,numT]
  simp only[z]
  ac_rfl
 ·have e1:F_qv ⟨5,C,Y,D,O,A,P,U,G,B⟩=some ([O,A],false):=rfl
  have e2:F_q1 5 C Y [O,A]=some ⟨5,C,Y,0,O,A,0,0,0,0⟩:=by
   simp[F_q1,S_q1,Scr.den,guardP,AllP,outM]
  rw[z2w hk hc e1 e2]
  congr 1
  simp[POp,partsK,condF,getF,mostF,clrF,unK,zOp,numT]
  simp only[z]
  ac_rfl
 ·have e1:F_qv ⟨6,C,Y,D,O,A,P,U,G,B⟩=some ([O,A],false):=rfl
  have e2:F_q1 6 C Y [O,A]=some ⟨6,C,Y,0,O,A,0,0,0,0⟩:=by
   simp[F_q1,S_q1,Scr.den,guardP,AllP,outM]
  rw[z2w hk hc e1 e2]
  congr 1
  simp[POp,partsK,condF,getF,mostF,clrF,unK,zOp,numT]
  simp only[z]
  ac_rfl
 ·have e1:F_qv ⟨7,C,Y,D,O,A,P,U,G,B⟩=some ([A],true):=rfl
  have e2:F_q1 7 C Y [A]=some ⟨7,C,Y,0,0,A,0,0,0,0⟩:=by
   simp[F_q1,S_q1,Scr.den,guardP,AllP,outM]
  rw[z2w hk hc e1 e2]
  congr 1
  simp[POp,partsK,condF,getF,mostF,clrF,unK,zOp,numT]
  simp only[z]
  ac_rfl
 ·have e1:F_qv ⟨8,C,Y,D,O,A,P,U,G,B⟩=some ([G,B],true):=rfl
  have e2:F_q1 8 C Y [G,B]=some ⟨8,C,Y,0,0,0,0,0,G,B⟩:=by
   simp[F_q1,S_q1,Scr.den,guardP,AllP,outM]
  rw[z2w hk hc e1 e2]
  congr 1
  simp[POp,partsK,condF,getF,mostF,clrF,unK,zOp,numT]
  simp only[z]
  ac_rfl
 ·have e1:F_qv ⟨9,C,Y,D,O,A,P,U,G,B⟩=some ([O],false):=rfl
  have e2:F_q1 9 C Y [O]=some ⟨9,C,Y,0,O,0,0,0,0,0⟩:=by
   simp[F_q1,S_q1,Scr.den,guardP,AllP,outM]
  rw[z2w hk hc e1 e2]
  congr 1
  simp[POp,partsK,condF,getF,mostF,clrF,unK,zOp,numT]
  simp only[z]
  ac_rfl
end Go.Proofs.YtpbnkbjhlhlaiaaGreatDoor
