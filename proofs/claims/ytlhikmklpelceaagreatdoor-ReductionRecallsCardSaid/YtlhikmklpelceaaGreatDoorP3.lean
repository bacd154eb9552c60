/- A part of the proof: plain laws of what the functions compute. No condition. -/
import Derived.Test.YtlhikmklpelceaaGreatDoorP2
import Derived.Test.YtlhikmklpelceaaGreatDoorT9
import Derived.Lib.ItoaLen
namespace Go.Proofs.YtlhikmklpelceaaGreatDoor
open Go Go.TA
open Go.IntKind (i64)
def noO:TOf:=⟨0,[],nb⟩
def msgOf (p:TOp):TMe:=⟨0,0,p.D,p.E,p.A,p.Af,0,0⟩
def hearS (o:TOf) (p:TOp):TOf×Int :=
 if ¬ good p.D=true then (noO,5) else
 if p.E<0\/p.E>99 then (noO,2) else
 if hasR o.J p.D p.E=false/\(o.J.length:Int)=60 then (noO,3) else
 if (learnS (rightV o.J p.D p.E) (msgOf p)).2≠0 then (noO,(learnS (rightV o.J p.D p.E) (msgOf p)).2) else
 (⟨o.O,putL o.J (learnS (rightV o.J p.D p.E) (msgOf p)).1,o.Ae⟩,0)
def giveS (o:TOf) (p:TOp):TOf×Int :=
 if ¬ hasR o.J p.D p.E=true then (noO,6) else
 if (returnS (rightV o.J p.D p.E) (usedV o.Ae p.D p.E) p.S).2≠0 then (noO,(returnS (rightV o.J p.D p.E) (usedV o.Ae p.D p.E) p.S).2) else
 (⟨o.O,putL o.J (returnS (rightV o.J p.D p.E) (usedV o.Ae p.D p.E) p.S).1,o.Ae⟩,0)
noncomputable def bookS (b:TBo) (p:TOp):TBo×Int :=
 if p.Q=1 then reserveS b p.D p.E p.Z p.S else
 if p.Q=2 then commitS b p.Of p.Z p.S p.Ah p.Aj else
 if p.Q=3 then verifyS b p.Of p.Z p.S else
 if p.Q=4 then orderS b p.Of p.Z else
 if p.Q=5 then releaseS b p.Of p.S else
 if p.Q=6 then dropS b p.Of p.S else backS b p.Of
noncomputable def stepS (o:TOf) (p:TOp):TOf×Int :=
 if p.Q=8 then hearS o p else
 if p.Q=7 then giveS o p else
 if (bookS o.Ae p).2≠0 then (noO,(bookS o.Ae p).2) else
 if p.Q=1/\p.S>unusedV o p.D p.E then (noO,15) else
 (⟨o.O,o.J,(bookS o.Ae p).1⟩,0)
open Classical in
noncomputable def doS (o:TOf) (p:TOp):TOf×Int :=
 if ¬ VO o\/p.Q<1\/p.Q>9 then (noO,1) else stepS o p
variable {o:TOf}
theorem VO.srt (h:VO o):Srt o.J:=h.2.2.2.2.1
theorem VO.ok (h:VO o):∀ x∈o.J,RtOk x:=h.2.2.2.1
theorem VO.val (h:VO o):Val o.Ae:=h.2.2.1
theorem VO.len (h:VO o):o.J.length<=60:=h.2.1
theorem z3x (l:List TRi) (c:Y8) (y:Int):(rightV l c y).D=c/\(rightV l c y).E=y:=by
 by_cases h:hasR l c y=true
 ·exact (z23 h).2
 ·unfold rightV; rw[y5 h]; exact⟨rfl,rfl⟩
variable {l:List TRi} {c:Y8}
theorem z9u (_hg:∀ x∈l,RtOk x) (hc:c.length<=1000000) (y:Int):(rightV l c y).D.length<=1000000:=by
 rw[(z3x l c y).1]; exact hc
variable {r:TRi}
theorem zb4 {m:TMe} (h:(learnS r m).2=0):RtOk r/\tot m.A/\tot m.K/\(learnS r m).1=⟨r.D,r.E,if m.A>r.A then m.A else r.A,if m.K>r.K then m.K else r.K,r.M⟩/\RtOk (learnS r m).1:=by
 unfold learnS at h |-
 split at h
 ·cases h
 ·rename_i h1
  split at h
  ·cases h
  ·rename_i h2
   have h1:=nnm h1
   have h2:=nnm h2
   rw[y5 (fun k=>k h1),y5 (fun k=>k h2)]
   refine⟨h1.1,h2.1,h2.2,rfl,?_⟩
   have h3:=h1.1
   unfold RtOk tot at *
   refine⟨h3.1,h3.2.1,?_,?_,?_⟩
   ·simp only; split <;> omega
   ·simp only; split <;> omega
   ·simp only; split <;> omega
variable {n u:Int}
theorem z9v (h:(returnS r u n).2=0):RtOk r/\(0<=u/\u<=r.A-r.M)/\1<=n/\n<=r.A-r.M-u/\(returnS r u n).1=⟨r.D,r.E,r.A,r.K,r.M+n⟩/\RtOk (returnS r u n).1:=by
 unfold returnS at h |-
 split at h
 ·cases h
 ·rename_i h1
  split at h
  ·cases h
  ·rename_i h2
   split at h
   ·cases h
   ·rename_i h3
    have h1:=nnm h1
    have h2:=nnm h2
    have h4:=h1.1
    unfold RtOk at h4
    have w1:i64.wrap (r.A-r.M)=r.A-r.M:=wrapId om om
    rw[y5 (fun k=>k h1),y5 (fun k=>k h2),y5 h3]
    obtain⟨h5,h6,h7⟩:=h1
    rw[w1] at h7 h3
    rw[wrapId (n:=r.A-r.M-u) om om] at h3
    rw[wrapId (n:=r.M+n) om om]
    refine⟨h5,⟨h6,h7⟩,h2.1,om,rfl,h4.1,h4.2.1,h4.2.2.1,h4.2.2.2.1,?_⟩
    simp only; omega
theorem zhx {l:Y8}:(((parts l).length:Int)==0)=!good l:=by
 rw[<- z2t,y1l]; simp
variable {p:TOp}
theorem zs5 (hv:VO o) (hc:p.D.length<=1000000):F_q5l o p=some (hearS o p):=by
 have hl:=hv.len
 have hr:=z9u hv.ok hc p.E
 simp only[F_q5l,S_q5l,Scr.den,z2y (show p.D.length<=1099511627776 from om),zdq,z3v,z84 hr,obind,zd,zg,zhx]
 unfold hearS
 refine st sj (fun _=>rfl) fun _=>?_
 refine st sj (fun _=>rfl) fun _=>?_
 refine st sj (fun _=>rfl) fun _=>?_
 refine st (by simp only[y1r,ne_eq]; exact Iff.rfl) (fun _=>rfl) fun h=>?_
 have h:=nnm h
 have h1:=zb4 h
 rw[show (⟨0,0,p.D,p.E,p.A,p.Af,0,0⟩:TMe)=msgOf p from rfl,zno om hv.srt hv.ok h1.2.2.2.2]
 rfl
theorem zes (hv:VO o) (hc:p.D.length<=1000000):F_q5m o p=some (giveS o p):=by
 have hl:=hv.len
 have hr:=z9u hv.ok hc p.E
 simp only[F_q5m,S_q5m,Scr.den,zdq,z3v,zbp,z7k hr,obind]
 unfold giveS
 refine st sj (fun _=>rfl) fun _=>?_
 refine st (by simp only[y1r,ne_eq]) (fun _=>rfl) fun h=>?_
 have h:=nnm h
 have h1:=z9v h
 rw[zno om hv.srt hv.ok h1.2.2.2.2.2]
 rfl
variable {b:TBo}
theorem zs6 (hb:Small b) (hc:p.D.length<=1000000):F_q5x b p=some (bookS b p):=by
 simp only[F_q5x,S_q5x,Scr.den,zl5 hb hc,znf hb,zng hb,zpr hb,zl6 hb,zrz hb,zs0 hb,obind]
 unfold bookS
 refine st (by simp only[y12]) (fun _=>rfl) fun _=>?_
 refine st (by simp only[y12]) (fun _=>rfl) fun _=>?_
 refine st (by simp only[y12]) (fun _=>rfl) fun _=>?_
 refine st (by simp only[y12]) (fun _=>rfl) fun _=>?_
 refine st (by simp only[y12]) (fun _=>rfl) fun _=>?_
 refine st (by simp only[y12]) (fun _=>rfl) fun _=>rfl
variable {d:Int}
theorem zs7 {a:Bool} {x:Int} {_:Decidable (AllP [a=true])}:(a&&decide (n>if AllP [a=true] then x else d))=(a&&decide (n>x)):=by
 cases a
 ·rfl
 ·rw[y6 ⟨rfl,trivial⟩]
theorem zs8 (hv:VO o) (hs:SmO o) (hc:p.D.length<=1000000):F_q3x o p=some (stepS o p):=by
 open Classical in simp only[F_q3x,S_q3x,Scr.den,zs5 hv hc,zes hv hc,zs6 hs.1 hc,zb3,zw,obind,zg,zs7]
 unfold stepS
 refine st (by simp only[y12]) (fun _=>rfl) fun _=>?_
 refine st (by simp only[y12]) (fun _=>rfl) fun _=>?_
 refine st (by simp only[y1r,ne_eq]) (fun _=>rfl) fun _=>?_
 refine st (by simp only[yl,y12,y7]) (fun _=>rfl) fun _=>rfl
theorem zd6 (l:List TRi) (p:Nat) (hp:p<=l.length) (z r:TRi) :
  (copyL (l++[z]) (0+(p+1)) (min ((l++[z]).length-p) ((l++[z]).length-(p+1))) (fun i=>(l++[z]).getD ((0+p)+i) dF)).set (0+p) r=insL l p r:=by
 refine y33 (by simp[copyL,insL]; omega) fun i h1 h2=>?_
 have hi:i<l.length+1:=by rw[zr] at h2; exact h2
 rw[<- z17 h2,z1o hp,y3z]
 by_cases e:i<p
 ·rw[y5 om,y6 e]
  simp only[copyL,y34,y3e]
  rw[y5 om,y8,y8,ym om]
 ·by_cases e2:i=p
  ·rw[y6 om,y5 e,y6 e2]
  ·rw[y5 om,y5 e,y5 e2]
   simp only[copyL,y34,y3e,yu,y23]
   rw[y6 om,show 0+p+(i-(0+(p+1)))=i-1 from om,y8,y8,ym om]
theorem znp (hv:VO o) {q:(TRi×Int)} (hr:RtOk q.1) (hn:hasR o.J q.1.D q.1.E=false) :
  iterM (fun s=>(S_q1h_b1 o q s).den) 0=some (.next (posR o.J q.1:Int)):=by
 have hl:=hv.len
 have hp:=z7a o.J q.1
 obtain⟨s,e,hJ⟩:=z1p (step:=fun s=>(S_q1h_b1 o q s).den) (fun s=>(61-s).toNat) (fun s=>0<=s/\s<=(posR o.J q.1:Int)) (fun s=>s=(posR o.J q.1:Int)) (fun s hI=>by
  obtain⟨i,rfl⟩:=Int.eq_ofNat_of_zero_le hI.1
  have hi:i<=posR o.J q.1:=om
  simp only[S_q1h_b1,Scr.den,ye,yo,zd,zg]
  by_cases h:i<o.J.length
  ·have hg:=hv.ok _ (zb h)
   rw[y6 sk,z4f hg.1 hr.1,obind,za ⟨om,h,h,trivial⟩,za ⟨fun _=>om,fun _=>h,fun _=>h,trivial⟩]
   have hc:=z8t (a:=o.J.getD i dF) (b:=q.1) (.inl hg.1)
   have hne:cmpR (o.J.getD i dF) q.1≠0:=fun h0=>by
    obtain⟨k1,k2⟩:=(z55 hg.1 hr.1).1 h0
    have:hasR o.J q.1.D q.1.E=true:=has_iff.2 ⟨_,zb h,k1,k2⟩
    rw[hn] at this; cases this
   by_cases hip:i<posR o.J q.1
   ·left
    have hlt:=hc.1 (zbs hip)
    rw[y5 (by
     simp only[yc,yl,y7,y12]
     exact fun k=>ltr hlt (k.imp id fun k=>⟨k.1,om⟩)),wrapId om om]
    exact⟨_,rfl,⟨om,om⟩,om⟩
   ·right
    have hge:0<=cmpR (o.J.getD i dF) q.1:=by
     have:i=posR o.J q.1:=om
     subst this; exact zbt h
    rw[y6 (by
     have k1:¬ _:=fun k=>absurd (hc.2 k) om
     have k2:¬ (lexC (parts (o.J.getD i dF).D) (parts q.1.D)=0/\(o.J.getD i dF).E=q.1.E):=fun k=>hne ((z55 hg.1 hr.1).2 ⟨z7z hg.1 hr.1 (z34 k.1),k.2⟩)
     simp only[yc,yl,y7,y12]
     rcases ltr' k1 with k | ⟨k,k'⟩
     ·exact .inl k
     ·exact .inr ⟨k,by have:¬ _:=fun e=>k2 ⟨k,e⟩; omega⟩)]
    exact⟨_,rfl,om⟩
  ·right
   rw[y5 (by simpa using h)]
   exact⟨_,rfl,om⟩) _ 0 (y2j _) ⟨om,om⟩
 rw[e,hJ]
theorem zj1 (hv:VO o) (hc:p.D.length<=1000000):F_q1h o p=some (hearS o p):=by
 have hl:=hv.len
 have hr:=z9u hv.ok hc p.E
 simp only[F_q1h,S_q1h,Scr.den,z2x (show p.D.length<4611686018427387904 from om),at_eq,z2n,zhv hr,obind,zd,zg]
 unfold hearS
 refine st sj (fun _=>rfl) fun _=>?_
 refine st sj (fun _=>rfl) fun _=>?_
 refine st (by cases hh:hasR o.J p.D p.E <;> simp <;> (try exact fun h1=>absurd h1 (y37.2 (y1w _)))) (fun _=>rfl) fun _=>?_
 refine st (by simp only[y1r,ne_eq]; exact Iff.rfl) (fun _=>rfl) fun h=>?_
 have h:=nnm h
 have h1:=zb4 h
 rw[show (⟨0,0,p.D,p.E,p.A,p.Af,0,0⟩:TMe)=msgOf p from rfl,za ⟨om,trivial⟩]
 have hcy:(learnS (rightV o.J p.D p.E) (msgOf p)).1.D=p.D/\(learnS (rightV o.J p.D p.E) (msgOf p)).1.E=p.E:=by rw[h1.2.2.2.1]; exact z3x _ _ _
 generalize hq:learnS (rightV o.J p.D p.E) (msgOf p)=q at h h1 hcy |-
 have hlen:=zhw o.J q.1
 have hp:=z7a o.J q.1
 unfold putL at hlen |-
 rw[hcy.1,hcy.2] at hlen |-
 by_cases hh:hasR o.J p.D p.E=true
 ·have h3:=(z3u hh).1
  rw[y6 hh] at hlen
  simp only[y6 hh]
  rw[y5 sj]
  simp only[outM,ye,yo]
  rw[za ⟨om,h3,h3,trivial⟩,za ⟨by rw[ya]; omega,trivial⟩]
 ·rw[y5 hh] at hlen
  simp only[y5 hh]
  have hn:hasR o.J q.1.D q.1.E=false:=by rw[hcy.1,hcy.2]; simpa using hh
  have hw:(i64.wrap ((posR o.J q.1:Int)+1)).toNat=posR o.J q.1+1:=by rw[wrapId om om]; omega
  have hw':i64.wrap ((posR o.J q.1:Int)+1)=(posR o.J q.1:Int)+1:=wrapId om om
  rw[y6 dk,znp hv h1.2.2.2.2 hn]
  simp only[outM,ye,hw]
  rw[za ⟨om,trivial⟩,za ⟨by rw[hw']; omega,by rw[yu,y23]; omega,om,by rw[yu,y23]; omega,trivial⟩]
  simp only[ye]
  rw[zd6 o.J (posR o.J q.1) hp]
  rw[zr] at hlen
  rw[za ⟨om,by rw[zq,yu,y23]; omega,by rw[zq,yu,y23]; omega,trivial⟩,za ⟨by rw[zr]; omega,trivial⟩]
theorem zfr (hs:SmO o) (hc:p.D.length<=1000000):F_q44 o p=some (doS o p):=by
 simp only[F_q44,S_q44,Scr.den,z7j hs,zen hs.1 hc,zgb hs.1,zgc hs.1,zhm hs.1,zeo hs.1,ziv hs.1,ziw hs.1,z6l,z4l,at_eq,obind,zg]
 by_cases hv:VO o
 ·rw[y5 (by simp[hv])]
  have hl:=hv.len
  have fin:∀ x:TBo×Int,outM (some (Out.next (x.1,x.2))) (fun (s:TBo×Int)=>if (s.2 != 0)=true then some (noO,s.2) else some ((⟨o.O,o.J,s.1⟩:TOf),(0:Int))) some=some (if x.2≠0 then (noO,x.2) else (⟨o.O,o.J,x.1⟩,0)):=fun x=>by
   simp only[outM]
   by_cases h:x.2=0 <;> simp[h]
  have hd:∀ {k:Int},p.Q=k->1<=k->k<=9->doS o p=stepS o p:=fun h h1 h2=>by
   unfold doS; rw[y5 (fun k=>k.elim (fun k=>k hv) fun k=>om)]
  by_cases c1:p.Q=1
  ·rw[y6 (by simpa using c1),hd c1 om om]
   unfold stepS bookS
   rw[y5 om,y5 om,y6 c1]
   generalize reserveS o.Ae p.D p.E p.Z p.S=x
   by_cases hx:x.2=0
   ·rw[zk (by exact⟨by simp[hx],trivial⟩),obind]
    by_cases hu:p.S>unusedV o p.D p.E
    ·rw[y6 (by simp[hx]; exact hu),y5 (by simp[hx]),y6 ⟨c1,hu⟩]
     exact fin (x.1,15)
    ·rw[y5 (by simp[hx]; exact y37.1 hu),y5 (by simp[hx]),y5 (fun k=>hu k.2)]
     rw[show (⟨o.O,o.J,x.1⟩,(0:Int))=if x.2≠0 then (noO,x.2) else (⟨o.O,o.J,x.1⟩,0) by rw[y5 (by simp[hx])]]
     exact fin x
   ·rw[zp (by simp[AllP,hx]),obind,y5 (by simp[hx]),y6 hx]
    rw[show (noO,x.2)=if x.2≠0 then (noO,x.2) else (⟨o.O,o.J,x.1⟩,0) by rw[y6 hx]]
    exact fin x
  rw[y5 (by simpa using c1)]
  have hb:∀ {k:Int} (x:TBo×Int),p.Q=k->2<=k->k<=9->k≠7->k≠8->bookS o.Ae p=x->outM (some (Out.next (x.1,x.2))) (fun (s:TBo×Int)=>if (s.2 != 0)=true then some (noO,s.2) else some ((⟨o.O,o.J,s.1⟩:TOf),(0:Int))) some=some (doS o p):=fun x hk h1 h2 h3 h4 e=>by
   have h5:stepS o p=if x.2≠0 then (noO,x.2) else (⟨o.O,o.J,x.1⟩,0):=by
    unfold stepS
    rw[y5 (show ¬ p.Q=8 from om),y5 (show ¬ p.Q=7 from om),e,y5 (fun k:p.Q=1/\_=>c1 k.1)]
   rw[hd hk om h2,fin,h5]
  by_cases c2:p.Q=2
  ·rw[y6 (by simpa using c2)]
   exact hb _ c2 om om om om (by unfold bookS; rw[y5 c1,y6 c2])
  rw[y5 (by simpa using c2)]
  by_cases c3:p.Q=3
  ·rw[y6 (by simpa using c3)]
   exact hb _ c3 om om om om (by unfold bookS; rw[y5 c1,y5 c2,y6 c3])
  rw[y5 (by simpa using c3)]
  by_cases c4:p.Q=4
  ·rw[y6 (by simpa using c4)]
   exact hb _ c4 om om om om (by unfold bookS; rw[y5 c1,y5 c2,y5 c3,y6 c4])
  rw[y5 (by simpa using c4)]
  by_cases c5:p.Q=5
  ·rw[y6 (by simpa using c5)]
   exact hb _ c5 om om om om (by unfold bookS; rw[y5 c1,y5 c2,y5 c3,y5 c4,y6 c5])
  rw[y5 (by simpa using c5)]
  by_cases c6:p.Q=6
  ·rw[y6 (by simpa using c6)]
   exact hb _ c6 om om om om (by unfold bookS; rw[y5 c1,y5 c2,y5 c3,y5 c4,y5 c5,y6 c6])
  rw[y5 (by simpa using c6)]
  by_cases c9:p.Q=9
  ·rw[y6 (by simpa using c9)]
   exact hb _ c9 om om om om (by unfold bookS; rw[y5 c1,y5 c2,y5 c3,y5 c4,y5 c5,y5 c6])
  rw[y5 (by simpa using c9)]
  by_cases c8:p.Q=8
  ·rw[y6 (by simpa using c8),zj1 hv hc,hd c8 om om]
   unfold stepS
   rw[y6 c8]
   rfl
  rw[y5 (by simpa using c8)]
  by_cases c7:p.Q=7
  ·rw[y6 (by simpa using c7),hd c7 om om]
   unfold stepS giveS
   rw[y5 c8,y6 c7]
   by_cases hh:hasR o.J p.D p.E=true
   ·have h3:=(z3u hh).1
    have hg:=hv.ok _ (zb h3)
    have hrt:o.J.getD (rix o.J p.D p.E) dF=rightV o.J p.D p.E:=by unfold rightV; rw[y6 hh]
    simp only[y6 hh,ye,yo,zgd hg.len,obind]
    rw[y5 sj,za ⟨om,h3,trivial⟩,hrt,y5 (show ¬ ¬ hasR o.J p.D p.E=true from fun k=>k hh)]
    by_cases hx:(returnS (rightV o.J p.D p.E) (usedV o.Ae p.D p.E) p.S).2=0
    ·have h1:=z9v hx
     have hcy:(returnS (rightV o.J p.D p.E) (usedV o.Ae p.D p.E) p.S).1.D=p.D/\(returnS (rightV o.J p.D p.E) (usedV o.Ae p.D p.E) p.S).1.E=p.E:=by rw[h1.2.2.2.2.1]; exact z3x _ _ _
     rw[y5 (by simp[hx]),za ⟨om,trivial⟩,za ⟨h3,trivial⟩,za ⟨by rw[ya]; omega,trivial⟩,y5 (by simp[hx])]
     unfold putL
     rw[hcy.1,hcy.2,y6 hh]
     rfl
    ·rw[y6 (by simpa using hx),y6 hx]
     rfl
   ·simp only[y5 hh]
    rw[y6 dk,y6 hh]
    rfl
  rw[y5 (by simpa using c7)]
  have:doS o p=(noO,1):=by
   unfold doS
   split
   ·rfl
   ·rename_i h
    exact absurd om h
  rw[this]
  rfl
 ·rw[y6 (by simp[hv])]
  unfold doS
  rw[y6 (.inl hv)]
  rfl
def usedE (b:TBo) (c:Y8) (y:Int):Int:=sm b.C (fun r=>r.D==c&&r.E==y) (fun r=>r.S-r.Ad-rel b r.O)
theorem znq (h:Val b) (n:Int):0<=rel b n/\rel b n<=cmt b n:=by
 have hc:∀ c∈b.G,0<=c.Ad/\c.Ad<=c.S:=fun c hc=>(h.2.1.mem hc).1.2.2.2.2.1
 exact⟨zfn fun c k=>(hc c k).1,zrv fun c k=>(hc c k).2⟩
theorem z1g (h:Val b) (c:Y8) (y:Int):usedV b c y=usedE b c y/\0<=usedE b c y/\usedE b c y<=200000000000000:=by
 have hb:0<=usedE b c y/\usedE b c y<=200 * 1000000000000:=zl7 (fun r hr=>by
  have h1:=z9s h hr
  have h2:=znq h r.O
  have h3:=(h.1.mem hr).1.2.2.2.2.2
  unfold amtP at h3
  omega) h.2.2.2.2.2.2.1 om
 refine⟨?_,hb.1,om⟩
 unfold usedV
 change i64.wrap (usedE b c y)=_
 exact wrapId om om
theorem zpw (h:Val b) (hn:(b.C.length:Int)<n):rel b n=0:=by
 have h1:=znq h n
 have h2:=zhq h hn
 omega
variable {y:Int} {code:Y8}
theorem zhy (h0:(reserveS b code y d n).2=0):Val b/\good code=true/\((0<=y/\y<=99)/\dayP d/\amtP n)/\yr d=y/\(b.C.length:Int)≠200/\(reserveS b code y d n).1=withR b (b.C++[⟨b.C.length+1,code,y,d,n,0⟩]):=by
 unfold reserveS at h0 |-
 obtain⟨e,c1⟩:=zt h0 dk; rw[e] at h0 |-; clear e
 obtain⟨e,c2⟩:=zt h0 dk; rw[e] at h0 |-; clear e
 obtain⟨e,c3⟩:=zt h0 dk; rw[e] at h0 |-; clear e
 obtain⟨e,c4⟩:=zt h0 dk; rw[e] at h0 |-; clear e
 obtain⟨e,c5⟩:=zt h0 dk; rw[e] at h0 |-; clear e
 exact⟨nnm c1,by simpa using c2,nnm c3,nnm c4,c5,rfl⟩
theorem zj2 (h:Val b) (hg:good code=true) (hy:0<=y/\y<=99) (hd:dayP d) (hn:amtP n) (hyr:yr d=y) (hl:(b.C.length:Int)≠200):reserveS b code y d n=(withR b (b.C++[⟨b.C.length+1,code,y,d,n,0⟩]),0):=by
 unfold reserveS
 rw[y5 (fun k=>k h),y5 (by simp[hg]),y5 (fun k=>k ⟨hy,hd,hn⟩),y5 (fun k=>k hyr),y5 hl]
theorem zj3 {r p:Int} (h0:(commitS b r d n p u).2=0):Val b/\Val (commitS b r d n p u).1/\(commitS b r d n p u).1.C=b.C:=by
 unfold commitS at h0 |-
 obtain⟨e,c1⟩:=zt h0 dk; rw[e] at h0 |-; clear e
 obtain⟨e,c2⟩:=zt h0 dk; rw[e] at h0 |-; clear e
 obtain⟨e,c3⟩:=zt h0 dk; rw[e] at h0 |-; clear e
 obtain⟨e,c4⟩:=zt h0 dk; rw[e] at h0 |-; clear e
 obtain⟨e,c5⟩:=zt h0 dk; rw[e] at h0 |-; clear e
 obtain⟨e,c6⟩:=zt h0 dk; rw[e] at h0 |-; clear e
 obtain⟨e,c7⟩:=zt h0 dk; rw[e] at h0 |-; clear e
 have c3:=nnm c3
 exact⟨nnm c1,zl8 (nnm c1) (nnm c2) c3.1 c3.2.1 c3.2.2.1 c3.2.2.2 (nnm c4) om om c7,rfl⟩
theorem zj4 {c:Int} (h0:(verifyS b c d n).2=0):Val b/\Val (verifyS b c d n).1/\(verifyS b c d n).1.C=b.C:=by
 unfold verifyS at h0 |-
 obtain⟨e,c1⟩:=zt h0 dk; rw[e] at h0 |-; clear e
 obtain⟨e,c2⟩:=zt h0 dk; rw[e] at h0 |-; clear e
 obtain⟨e,c3⟩:=zt h0 dk; rw[e] at h0 |-; clear e
 obtain⟨e,c4⟩:=zt h0 dk; rw[e] at h0 |-; clear e
 obtain⟨e,c5⟩:=zt h0 dk; rw[e] at h0 |-; clear e
 obtain⟨e,c6⟩:=zt h0 dk; rw[e] at h0 |-; clear e
 obtain⟨e,c7⟩:=zt h0 dk; rw[e] at h0 |-; clear e
 have c3:=nnm c3
 exact⟨nnm c1,zl9 (nnm c1) (nnm c2) c3.1 c3.2 om om om c7,rfl⟩
variable {v:Int}
theorem zlb (h0:(orderS b v d).2=0):Val b/\Val (orderS b v d).1/\(orderS b v d).1.C=b.C:=by
 unfold orderS at h0 |-
 obtain⟨e,c1⟩:=zt h0 dk; rw[e] at h0 |-; clear e
 obtain⟨e,c2⟩:=zt h0 dk; rw[e] at h0 |-; clear e
 obtain⟨e,c3⟩:=zt h0 dk; rw[e] at h0 |-; clear e
 obtain⟨e,c4⟩:=zt h0 dk; rw[e] at h0 |-; clear e
 obtain⟨e,c5⟩:=zt h0 dk; rw[e] at h0 |-; clear e
 obtain⟨e,c6⟩:=zt h0 dk; rw[e] at h0 |-; clear e
 obtain⟨e,c7⟩:=zt h0 dk; rw[e] at h0 |-; clear e
 refine⟨nnm c1,zni (nnm c1) (nnm c2) (nnm c3) om om (fun hl=>⟨?_,om⟩) c7,rfl⟩
 cases hb:(lastV b v).Al with
 | true=>rfl
 | false=>exact absurd ⟨hl,hb⟩ c5
theorem zhz {r:Int} (h0:(releaseS b r n).2=0):Val b/\Val (releaseS b r n).1/\amtP n/\(1<=r/\r<=b.C.length)/\n<=leftN b r/\(releaseS b r n).1=withR b (b.C.set (r-1).toNat ⟨(rAt b r).O,(rAt b r).D,(rAt b r).E,(rAt b r).Z,(rAt b r).S,i64.wrap ((rAt b r).Ad+n)⟩):=by
 unfold releaseS at h0 |-
 obtain⟨e,c1⟩:=zt h0 dk; rw[e] at h0 |-; clear e
 obtain⟨e,c2⟩:=zt h0 dk; rw[e] at h0 |-; clear e
 obtain⟨e,c3⟩:=zt h0 dk; rw[e] at h0 |-; clear e
 obtain⟨e,c4⟩:=zt h0 dk; rw[e] at h0 |-; clear e
 exact⟨nnm c1,ziy (nnm c1) (nnm c2) (nnm c3) om,nnm c3,nnm c2,om,rfl⟩
theorem znr {c:Int} (h0:(dropS b c n).2=0):Val b/\Val (dropS b c n).1/\amtP n/\(dropS b c n).1.C=b.C:=by
 unfold dropS at h0 |-
 obtain⟨e,c1⟩:=zt h0 dk; rw[e] at h0 |-; clear e
 obtain⟨e,c2⟩:=zt h0 dk; rw[e] at h0 |-; clear e
 obtain⟨e,c3⟩:=zt h0 dk; rw[e] at h0 |-; clear e
 obtain⟨e,c4⟩:=zt h0 dk; rw[e] at h0 |-; clear e
 exact⟨nnm c1,zpt (nnm c1) (nnm c2) (nnm c3) om,nnm c3,rfl⟩
theorem zns (h0:(backS b v).2=0):Val b/\Val (backS b v).1/\(backS b v).1.C=b.C/\(backS b v).1.G=b.G:=by
 unfold backS at h0 |-
 obtain⟨e,c1⟩:=zt h0 dk; rw[e] at h0 |-; clear e
 obtain⟨e,c2⟩:=zt h0 dk; rw[e] at h0 |-; clear e
 obtain⟨e,c3⟩:=zt h0 dk; rw[e] at h0 |-; clear e
 exact⟨nnm c1,zpu (nnm c1) om,rfl,rfl⟩
theorem zet (h:Val b) {r:Int} (hn0:amtP n) (h0:(releaseS b r n).2=0) (code:Y8) (y:Int):(1<=r/\r<=b.C.length)/\usedV (releaseS b r n).1 code y=i64.wrap (usedV b code y-if mt b code y r=true then n else 0):=by
 have hn:1<=n/\n<=1000000000000:=hn0
 unfold releaseS at h0 |-
 obtain⟨e,_⟩:=zt h0 dk; rw[e] at h0 |-; clear e
 obtain⟨e,hr⟩:=zt h0 dk; rw[e] at h0 |-; clear e
 obtain⟨e,_⟩:=zt h0 dk; rw[e] at h0 |-; clear e
 obtain⟨e,_⟩:=zt h0 dk; rw[e] at h0 |-; clear e
 have hr:=nnm hr
 refine⟨hr,?_⟩
 have hk:(r-1).toNat<b.C.length:=om
 have f:=(h.1.at hr).2.2.2.2.2
 have f6:=f.1
 unfold amtP at f6
 have hw:i64.wrap ((rAt b r).Ad+n)=(rAt b r).Ad+n:=wrapId om om
 rw[hw]
 unfold usedV
 rw[z38]
 congr 1
 change sm (b.C.set (r-1).toNat _) _ (fun r=>r.S-r.Ad-rel b r.O)=_
 rw[zhg hk _ _ _ dF]
 change _-(if ((rAt b r).D==code&&(rAt b r).E==y)=true then (rAt b r).S-(rAt b r).Ad-rel b (rAt b r).O else 0)+(if ((rAt b r).D==code&&(rAt b r).E==y)=true then (rAt b r).S-((rAt b r).Ad+n)-rel b (rAt b r).O else 0)=_-(if ((rAt b r).D==code&&(rAt b r).E==y)=true then n else 0)
 split <;> omega
theorem zj5 (h:Val b) {c:Int} (hn0:amtP n) (h0:(dropS b c n).2=0) (code:Y8) (y:Int):(1<=c/\c<=b.G.length)/\usedV (dropS b c n).1 code y=i64.wrap (usedV b code y-if mt b code y (cAt b c).X=true then n else 0):=by
 have hn:1<=n/\n<=1000000000000:=hn0
 unfold dropS at h0 |-
 obtain⟨e,_⟩:=zt h0 dk; rw[e] at h0 |-; clear e
 obtain⟨e,hr⟩:=zt h0 dk; rw[e] at h0 |-; clear e
 obtain⟨e,_⟩:=zt h0 dk; rw[e] at h0 |-; clear e
 obtain⟨e,_⟩:=zt h0 dk; rw[e] at h0 |-; clear e
 have hr:=nnm hr
 refine⟨hr,?_⟩
 have hk:(c-1).toNat<b.G.length:=om
 have f:=(h.2.1.at hr)
 have f4:=f.2.2.2.1
 have f5:=f.2.2.2.2.1
 have f2:=f.2.1
 unfold amtP at f4
 have hw:i64.wrap ((cAt b c).Ad+n)=(cAt b c).Ad+n:=wrapId om om
 rw[hw]
 generalize hX:withC b (b.G.set (c-1).toNat ⟨(cAt b c).O,(cAt b c).X,(cAt b c).Z,(cAt b c).S,(cAt b c).Ad+n,(cAt b c).Ah,(cAt b c).Aj⟩)=X
 have hrel:∀ m,rel X m=rel b m+if ((cAt b c).X==m)=true then n else 0:=fun m=>by
  rw[<- hX]
  unfold rel withC
  simp only
  rw[zhg hk _ _ _ dF]
  change _-(if ((cAt b c).X==m)=true then (cAt b c).Ad else 0)+(if ((cAt b c).X==m)=true then (cAt b c).Ad+n else 0)=_
  split <;> omega
 have e1:usedV X code y=i64.wrap (sm b.C (fun r=>r.D==code&&r.E==y) (fun r=>r.S-r.Ad-rel X r.O)):=by
  unfold usedV
  rw[show X.C=b.C by rw[<- hX]; rfl]
 rw[e1]
 unfold usedV
 rw[z38]
 congr 1
 simp only[hrel]
 have e2:∀ r:TRe,r.S-r.Ad-(rel b r.O+if ((cAt b c).X==r.O)=true then n else 0)=(r.S-r.Ad-rel b r.O)-(if ((cAt b c).X==r.O)=true then n else 0):=fun r=>om
 simp only[e2]
 rw[ztq]
 congr 1
 have hi:((cAt b c).X-1).toNat<b.C.length:=om
 have hnum:(b.C.getD ((cAt b c).X-1).toNat dF).O=(cAt b c).X:=(h.1.at f2).1
 have:=znl (num:=fun r:TRe=>r.O) (q:=mt b code y) (p:=fun r=>r.D==code&&r.E==y) n b.C ((cAt b c).X-1).toNat hi (fun j hj hji=>by
  have:=(h.1 j hj).1
  rw[hnum]; omega) (zts h code y (zb hi)).symm
 simp only[hnum] at this
 exact this
def Eff (b:TBo) (p:TOp) (b':TBo):Prop:=Val b/\Val b' /\
 (∀ c y,usedE b' c y<=usedE b c y+if p.Q=1/\p.D=c/\p.E=y then p.S else 0) /\
 (p.Q=1->1<=p.S/\p.S<=1000000000000/\∀ c y,usedE b' c y=usedE b c y+if p.D=c/\p.E=y then p.S else 0) /\
 (∀ x∈b'.C,(∃ z∈b.C,z.D=x.D/\z.E=x.E)\/(p.Q=1/\x.D=p.D/\x.E=p.E)) /\
 b'.C.length<=b.C.length+1
theorem z7l {b':TBo} (hv:Val b) (hv':Val b') (hR:b'.C=b.C) (hk:p.Q≠1) (hu:∀ c y,usedE b' c y<=usedE b c y):Eff b p b' :=
 ⟨hv,hv',fun c y=>by rw[y5 (fun k=>hk k.1)]; have:=hu c y; omega,fun k=>absurd k hk,fun x hx=>by rw[hR] at hx; exact .inl ⟨x,hx,rfl,rfl⟩,by rw[hR]; omega⟩
theorem zge (h:Val b) (code:Y8) (y d n:Int) (c:Y8) (z:Int):usedE (withR b (b.C++[⟨b.C.length+1,code,y,d,n,0⟩])) c z=usedE b c z+if code=c/\y=z then n else 0:=by
 unfold usedE
 have e:(withR b (b.C++[⟨b.C.length+1,code,y,d,n,0⟩])).C=b.C++[⟨b.C.length+1,code,y,d,n,0⟩]:=rfl
 have e2:∀ m,rel (withR b (b.C++[⟨b.C.length+1,code,y,d,n,0⟩])) m=rel b m:=fun m=>rfl
 simp only[e,e2]
 rw[z7y,z15,zdm]
 simp only[zpw h (show (b.C.length:Int)<(b.C.length:Int)+1 from om),yl,y12]
 by_cases k:code=c/\y=z
 ·rw[y6 k,y6 k]; omega
 ·rw[y5 k,y5 k]; omega
theorem zpx (h0:(bookS b p).2=0):Eff b p (bookS b p).1:=by
 unfold bookS at h0 |-
 by_cases c1:p.Q=1
 ·rw[y6 c1] at h0 |-
  obtain⟨hv,hg,⟨hy,hd,hn⟩,hyr,hl,e⟩:=zhy h0
  rw[e]
  unfold amtP at hn
  have hu:=zge hv p.D p.E p.Z p.S
  refine⟨hv,zix hv hg hy hd hn hyr hl,fun c y=>?_,fun _=>⟨hn.1,hn.2,hu⟩,fun x hx=>?_,by simp[withR]⟩
  ·rw[hu]
   by_cases k:p.D=c/\p.E=y
   ·rw[y6 k,y6 ⟨c1,k⟩]; omega
   ·rw[y5 k,y5 (fun q=>k q.2)]; omega
  ·simp only[withR,y1o,y31] at hx
   rcases hx with hx | rfl
   ·exact .inl ⟨x,hx,rfl,rfl⟩
   ·exact .inr ⟨c1,rfl,rfl⟩
 rw[y5 c1] at h0 |-
 have conv:∀ {b':TBo},Val b->Val b'->(∀ c y,usedV b' c y=usedV b c y)->∀ c y,usedE b' c y<=usedE b c y:=fun h h' e c y=>by
  have h1:=z1g h c y
  have h2:=z1g h' c y
  have:=e c y
  omega
 by_cases c2:p.Q=2
 ·rw[y6 c2] at h0 |-
  obtain⟨hv,hv',hR⟩:=zj3 h0
  exact z7l hv hv' hR c1 (conv hv hv' fun c y=>zhs h0 c y)
 rw[y5 c2] at h0 |-
 by_cases c3:p.Q=3
 ·rw[y6 c3] at h0 |-
  obtain⟨hv,hv',hR⟩:=zj4 h0
  exact z7l hv hv' hR c1 (conv hv hv' fun c y=>zht h0 c y)
 rw[y5 c3] at h0 |-
 by_cases c4:p.Q=4
 ·rw[y6 c4] at h0 |-
  obtain⟨hv,hv',hR⟩:=zlb h0
  exact z7l hv hv' hR c1 (conv hv hv' fun c y=>ziz h0 c y)
 rw[y5 c4] at h0 |-
 by_cases c5:p.Q=5
 ·rw[y6 c5] at h0 |-
  obtain⟨hv,hv',hn,hr,hL,e⟩:=zhz h0
  have hu:∀ c y,usedE (releaseS b p.Of p.S).1 c y<=usedE b c y:=fun c y=>by
   have h1:=z1g hv c y
   have h2:=z1g hv' c y
   have h3:=(zet hv hn h0 c y).2
   unfold amtP at hn
   split at h3
   ·rw[wrapId om om] at h3; omega
   ·rw[wrapId om om] at h3; omega
  refine⟨hv,hv',fun c y=>by rw[y5 (fun k=>c1 k.1)]; have:=hu c y; omega,fun k=>absurd k c1,fun x hx=>?_,by rw[e]; simp[withR]⟩
  rw[e] at hx
  left
  rcases y2k hx with hx | rfl
  ·exact⟨x,hx,rfl,rfl⟩
  ·exact⟨rAt b p.Of,zep hr,rfl,rfl⟩
 rw[y5 c5] at h0 |-
 by_cases c6:p.Q=6
 ·rw[y6 c6] at h0 |-
  obtain⟨hv,hv',hn,hR⟩:=znr h0
  refine z7l hv hv' hR c1 fun c y=>?_
  have h1:=z1g hv c y
  have h2:=z1g hv' c y
  have h3:=(zj5 hv hn h0 c y).2
  unfold amtP at hn
  split at h3
  ·rw[wrapId om om] at h3; omega
  ·rw[wrapId om om] at h3; omega
 rw[y5 c6] at h0 |-
 obtain⟨hv,hv',hR,hC⟩:=zns h0
 refine z7l hv hv' hR c1 (conv hv hv' fun c y=>?_)
 unfold usedV rel
 rw[hR,hC]
variable {x:TRi}
theorem uniqR (hS:Srt l) (hg:∀ x∈l,RtOk x) {y:TRi} (hx:x∈l) (hy:y∈l) (h1:x.D=y.D) (h2:x.E=y.E):x=y:=by
 obtain⟨i,hi,rfl⟩:=z19 hx
 obtain⟨j,hj,rfl⟩:=z19 hy
 have h0:=(z55 (hg _ hx).1 (hg _ hy).1).2 ⟨h1,h2⟩
 rcases y3s i j with h | h | h
 ·have:=hS.lt hg h hj; omega
 ·rw[h]
 ·have:=hS.lt hg h hi
  have h3:=zfq (b:=l.getD i dF) (hg _ hy).1
  omega
theorem zb5 (hS:Srt l) (hg:∀ x∈l,RtOk x) (hx:x∈l):rightV l x.D x.E=x:=by
 obtain⟨h1,h2,h3⟩:=z23 (has_iff.2 ⟨x,hx,rfl,rfl⟩:hasR l x.D x.E=true)
 exact uniqR hS hg h1 hx h2 h3
theorem zlc {a a' b b':TRi} (h1:a.D=a'.D) (h2:a.E=a'.E) (h3:b.D=b'.D) (h4:b.E=b'.E):cmpR a b=cmpR a' b':=by
 unfold cmpR; rw[h1,h2,h3,h4]
theorem zeu (h:x∈putL l r):x=r\/x∈l:=by
 unfold putL at h
 split at h
 ·exact (y2k h).symm
 ·unfold insL at h
  simp only[y1o,y15] at h
  rcases h with h | h | h
  ·exact .inr (y3g h)
  ·exact .inl h
  ·exact .inr (y3u h)
theorem z7m (l:List TRi) (r:TRi):r∈putL l r:=by
 unfold putL
 split
 ·rename_i h
  exact List.mem_set (z3u h).1 _
 ·unfold insL; simp
theorem zk3 (hx:x∈l) (h:¬ (x.D=r.D/\x.E=r.E)):x∈putL l r:=by
 unfold putL
 split
 ·rename_i hh
  obtain⟨h1,h2,h3⟩:=z3u hh
  obtain⟨i,hi,e⟩:=List.mem_iff_getElem.mp hx
  have hne:rix l r.D r.E≠i:=fun k=>h (by subst k; rw[z17 h1,e] at h2 h3; exact⟨h2,h3⟩)
  have h4:(l.set (rix l r.D r.E) r)[i]'(by rw[ya]; exact hi)=x:=by rw[y3z,y5 hne,e]
  rw[<- h4]
  exact y51 _
 ·unfold insL
  rw[y1o,y15]
  have:x∈l.take (posR l r)++l.drop (posR l r):=by rw[y2n]; exact hx
  rcases y1o.1 this with h | h
  ·exact .inl h
  ·exact .inr (.inr h)
theorem z6j (hg:∀ x∈l,RtOk x) (hr:RtOk r):∀ x∈putL l r,RtOk x:=fun x hx=>by
 rcases zeu hx with rfl | h
 ·exact hr
 ·exact hg x h
theorem zk4 (hS:Srt l) (hg:∀ x∈l,RtOk x) (hr:RtOk r):Srt (putL l r):=by
 unfold putL
 split
 ·rename_i hh
  obtain⟨h1,h2,h3⟩:=z3u hh
  intro i hi
  rw[ya] at hi
  have key:∀ j,(((l.set (rix l r.D r.E) r).getD j dF).D=(l.getD j dF).D)/\((l.set (rix l r.D r.E) r).getD j dF).E=(l.getD j dF).E:=fun j=>by
   rw[z61 _ _ _ _ h1]
   by_cases e:j=rix l r.D r.E
   ·rw[y6 e,e,h2,h3]; exact⟨rfl,rfl⟩
   ·rw[y5 e]; exact⟨rfl,rfl⟩
  refine (hS i hi).imp id fun k=>?_
  rw[zlc (key (i-1)).1 (key (i-1)).2 (key i).1 (key i).2]
  exact k
 ·rename_i hh
  have hp:=z7a l r
  intro i hi
  rw[zr] at hi
  rw[z1o hp,z1o hp]
  by_cases h0:i=0
  ·exact .inl h0
  right
  by_cases c1:i<posR l r
  ·rw[y6 om,y6 c1]
   exact (hS i om).resolve_left h0
  ·by_cases c2:i=posR l r
   ·rw[y6 om,y5 c1,y6 c2]
    exact zbs om
   ·rw[y5 c1,y5 c2]
    by_cases c3:i-1=posR l r
    ·rw[y5 om,y6 c3,c3]
     have h1:=zbt (l:=l) (r:=r) om
     have hm:l.getD (posR l r) dF∈l:=zb om
     have h2:cmpR (l.getD (posR l r) dF) r≠0:=fun k=>by
      obtain⟨k1,k2⟩:=(z55 (hg _ hm).1 hr.1).1 k
      exact hh (has_iff.2 ⟨_,hm,k1,k2⟩)
     have h3:=zfq (b:=r) (hg _ hm).1
     omega
    ·rw[y5 om,y5 c3]
     have:=(hS (i-1) om).resolve_left om
     exact this
theorem zk5 (h:hasR l c y=true):hasR (putL l r) c y=true:=by
 obtain⟨x,hx,h1,h2⟩:=has_iff.1 h
 by_cases k:x.D=r.D/\x.E=r.E
 ·exact has_iff.2 ⟨r,z7m l r,by rw[<- k.1,h1],by rw[<- k.2,h2]⟩
 ·exact has_iff.2 ⟨x,zk3 hx k,h1,h2⟩
theorem z9w (hS:Srt l) (hg:∀ x∈l,RtOk x) (hr:RtOk r) (c:Y8) (y:Int):rightV (putL l r) c y=if r.D=c/\r.E=y then r else rightV l c y:=by
 have hS':=zk4 hS hg hr
 have hg':=z6j hg hr
 by_cases k:r.D=c/\r.E=y
 ·rw[y6 k,<- k.1,<- k.2]
  exact zb5 hS' hg' (z7m l r)
 ·rw[y5 k]
  by_cases h:hasR l c y=true
  ·obtain⟨h1,h2,h3⟩:=z23 h
   have:=zb5 hS' hg' (zk3 (r:=r) h1 (by rw[h2,h3]; exact fun q=>k ⟨q.1.symm,q.2.symm⟩))
   rwa [h2,h3] at this
  ·have h':¬ hasR (putL l r) c y=true:=fun q=>by
    obtain⟨x,hx,h1,h2⟩:=has_iff.1 q
    rcases zeu hx with rfl | hx
    ·exact k ⟨h1,h2⟩
    ·exact h (has_iff.2 ⟨x,hx,h1,h2⟩)
   unfold rightV
   rw[y5 h,y5 h']
theorem zs9 (h:l.length<=60) (h2:hasR l r.D r.E=true\/(l.length:Int)≠60):(putL l r).length<=60:=by
 unfold putL
 split
 ·rw[ya]; exact h
 ·rename_i hh
  rw[zr]
  have:=h2.resolve_left hh
  omega
theorem z2i (hg:∀ x∈l,RtOk x) (c:Y8) (y:Int):0<=(rightV l c y).M/\(rightV l c y).M<=(rightV l c y).A/\(rightV l c y).A<=1000000000000000/\0<=(rightV l c y).K/\(rightV l c y).K<=1000000000000000:=by
 by_cases h:hasR l c y=true
 ·have:=hg _ (z23 h).1
  unfold RtOk at this
  omega
 ·unfold rightV; rw[y5 h]; simp
theorem z9x (hg:∀ x∈o.J,RtOk x) (hv:Val o.Ae) (c:Y8) (y:Int):unusedV o c y=(rightV o.J c y).A-(rightV o.J c y).M-usedE o.Ae c y:=by
 have h1:=z2i hg c y
 have h2:=z1g hv c y
 unfold unusedV
 rw[wrapId (n:=(rightV o.J c y).A-(rightV o.J c y).M) om om,h2.1,wrapId om om]
theorem VO.unused (h:VO o) (c:Y8) (y:Int):unusedV o c y=(rightV o.J c y).A-(rightV o.J c y).M-usedE o.Ae c y:=z9x h.ok h.val c y
theorem zld (h:∀ x∈b.C,¬ (x.D=c/\x.E=y)):usedE b c y=0:=by
 unfold usedE
 exact zk0 fun x hx=>by
  have:=h x hx
  simp only[y3o,y43,ne_eq]
  by_cases h1:x.D=c
  ·exact .inr fun h2=>this ⟨h1,h2⟩
  ·exact .inl h1
theorem VO.unused_nn (h:VO o) (c:Y8) (y:Int):0<=unusedV o c y:=by
 by_cases hx:∃ x∈o.Ae.C,x.D=c/\x.E=y
 ·obtain⟨x,hx,rfl,rfl⟩:=hx
  exact (h.2.2.2.2.2 x hx).2
 ·rw[h.unused,zld fun x hx' e=>hx ⟨x,hx',e⟩]
  have:=z2i h.ok c y
  omega
theorem VO.smO (h:VO o):SmO o:=by
 have h1:=h.val
 have h2:=h1.2.2.2.2.2.2
 refine⟨⟨⟨om,om,om,om⟩,fun r hr=>?_⟩,by have:=h.len; omega,fun r hr=>(h.ok r hr).len⟩
 have:=z2m (h1.1.mem hr).1.2.1
 omega
theorem zk6 (hv:VO o) (hk:p.Q≠7/\p.Q≠8) (h0:(stepS o p).2=0) :
  (stepS o p).1=⟨o.O,o.J,(bookS o.Ae p).1⟩/\(bookS o.Ae p).2=0/\Eff o.Ae p (bookS o.Ae p).1/\(p.Q=1->p.S<=unusedV o p.D p.E)/\VO (stepS o p).1:=by
 unfold stepS at h0 |-
 rw[y5 hk.2,y5 hk.1] at h0 |-
 by_cases c1:(bookS o.Ae p).2≠0
 ·rw[y6 c1] at h0; exact absurd h0 c1
 rw[y5 c1] at h0 |-
 by_cases c2:p.Q=1/\p.S>unusedV o p.D p.E
 ·rw[y6 c2] at h0; cases h0
 rw[y5 c2]
 have c1:=nnm c1
 have he:=zpx c1
 have hu:p.Q=1->p.S<=unusedV o p.D p.E:=fun k=>y37.1 fun q=>c2 ⟨k,q⟩
 refine⟨rfl,c1,he,hu,hv.1,hv.len,he.2.1,hv.ok,hv.srt,fun x hx=>?_⟩
 have hx:=he.2.2.2.2.1 x hx
 have hh:hasR o.J x.D x.E=true:=by
  rcases hx with ⟨z,hz,e1,e2⟩ | ⟨k,e1,e2⟩
  ·rw[<- e1,<- e2]; exact (hv.2.2.2.2.2 z hz).1
  ·rw[e1,e2]
   have h1:=hu k
   have h2:=(he.2.2.2.1 k).1
   refine Classical.byContradiction fun q=>?_
   rw[hv.unused] at h1
   have h3:=z1g hv.val p.D p.E
   unfold rightV at h1
   rw[y5 q] at h1
   simp only at h1
   omega
 refine⟨hh,?_⟩
 rw[z9x (o:=⟨o.O,o.J,(bookS o.Ae p).1⟩) hv.ok he.2.1]
 have h1:=he.2.2.1 x.D x.E
 have h2:=hv.unused x.D x.E
 have h3:=hv.unused_nn x.D x.E
 by_cases k:p.Q=1/\p.D=x.D/\p.E=x.E
 ·rw[y6 k] at h1
  have h4:=hu k.1
  rw[k.2.1,k.2.2] at h4
  simp only
  omega
 ·rw[y5 k] at h1
  simp only
  omega
theorem znt (hv:VO o) (hr:RtOk r) (hl:hasR o.J r.D r.E=true\/(o.J.length:Int)≠60) (hu:usedE o.Ae r.D r.E<=r.A-r.M):VO ⟨o.O,putL o.J r,o.Ae⟩:=by
 refine⟨hv.1,zs9 hv.len hl,hv.val,z6j hv.ok hr,zk4 hv.srt hv.ok hr,fun x hx=>⟨zk5 (hv.2.2.2.2.2 x hx).1,?_⟩⟩
 rw[z9x (o:=⟨o.O,putL o.J r,o.Ae⟩) (z6j hv.ok hr) hv.val]
 simp only
 rw[z9w hv.srt hv.ok hr]
 by_cases k:r.D=x.D/\r.E=x.E
 ·rw[y6 k,<- k.1,<- k.2]; omega
 ·rw[y5 k]
  have h2:=hv.unused x.D x.E
  have h3:=hv.unused_nn x.D x.E
  omega
theorem zev (hv:VO o) (h0:(hearS o p).2=0) :
  ∃ r,(hearS o p).1=⟨o.O,putL o.J r,o.Ae⟩/\RtOk r/\r.D=p.D/\r.E=p.E/\r=⟨p.D,p.E,if p.A>(rightV o.J p.D p.E).A then p.A else (rightV o.J p.D p.E).A,if p.Af>(rightV o.J p.D p.E).K then p.Af else (rightV o.J p.D p.E).K,(rightV o.J p.D p.E).M⟩/\VO (hearS o p).1:=by
 unfold hearS at h0 |-
 by_cases c1:¬ good p.D=true
 ·rw[y6 c1] at h0; cases h0
 rw[y5 c1] at h0 |-
 by_cases c2:p.E<0\/p.E>99
 ·rw[y6 c2] at h0; cases h0
 rw[y5 c2] at h0 |-
 by_cases c3:hasR o.J p.D p.E=false/\(o.J.length:Int)=60
 ·rw[y6 c3] at h0; cases h0
 rw[y5 c3] at h0 |-
 by_cases c4:(learnS (rightV o.J p.D p.E) (msgOf p)).2≠0
 ·rw[y6 c4] at h0; exact absurd h0 c4
 rw[y5 c4]
 have h1:=zb4 (nnm c4)
 have hcy:=z3x o.J p.D p.E
 rw[hcy.1,hcy.2] at h1
 refine⟨_,rfl,h1.2.2.2.2,by rw[h1.2.2.2.1],by rw[h1.2.2.2.1],h1.2.2.2.1,znt hv h1.2.2.2.2 ?_ ?_⟩
 ·rw[h1.2.2.2.1]
  simp only
  by_cases k:hasR o.J p.D p.E=true
  ·exact .inl k
  ·exact .inr fun q=>c3 ⟨by simpa using k,q⟩
 ·rw[h1.2.2.2.1]
  have h2:=hv.unused p.D p.E
  have h3:=hv.unused_nn p.D p.E
  have h4:(rightV o.J p.D p.E).A<=if (msgOf p).A>(rightV o.J p.D p.E).A then (msgOf p).A else (rightV o.J p.D p.E).A:=by split <;> omega
  simp only
  omega
theorem zbu (hv:VO o) (h0:(giveS o p).2=0) :
  hasR o.J p.D p.E=true/\1<=p.S/\p.S<=unusedV o p.D p.E/\∃ r,(giveS o p).1=⟨o.O,putL o.J r,o.Ae⟩/\RtOk r/\r=⟨p.D,p.E,(rightV o.J p.D p.E).A,(rightV o.J p.D p.E).K,(rightV o.J p.D p.E).M+p.S⟩/\VO (giveS o p).1:=by
 unfold giveS at h0 |-
 by_cases c1:¬ hasR o.J p.D p.E=true
 ·rw[y6 c1] at h0; cases h0
 rw[y5 c1] at h0 |-
 by_cases c4:(returnS (rightV o.J p.D p.E) (usedV o.Ae p.D p.E) p.S).2≠0
 ·rw[y6 c4] at h0; exact absurd h0 c4
 rw[y5 c4]
 have h1:=z9v (nnm c4)
 have hcy:=z3x o.J p.D p.E
 have hu:=z1g hv.val p.D p.E
 rw[hcy.1,hcy.2,hu.1] at h1
 have c1:=nnm c1
 rw[hu.1]
 refine⟨c1,h1.2.2.1,by rw[hv.unused]; exact h1.2.2.2.1,_,rfl,h1.2.2.2.2.2,h1.2.2.2.2.1,znt hv h1.2.2.2.2.2 (.inl ?_) ?_⟩
 ·rw[h1.2.2.2.2.1]; exact c1
 ·rw[h1.2.2.2.2.1]
  simp only
  omega
theorem zbv (h0:(doS o p).2=0):VO o/\(1<=p.Q/\p.Q<=9)/\doS o p=stepS o p:=by
 unfold doS at h0 |-
 split at h0
 ·cases h0
 ·rename_i h
  rw[y5 h]
  exact⟨Classical.byContradiction fun k=>h (.inl k),om,rfl⟩
theorem z8v (hv:VO o) (hk:1<=p.Q/\p.Q<=9):doS o p=stepS o p:=by
 unfold doS
 rw[y5 (fun k=>k.elim (fun k=>k hv) fun k=>om)]
theorem zbw (h0:(doS o p).2=0):VO (doS o p).1:=by
 obtain⟨hv,hk,e⟩:=zbv h0
 rw[e] at h0 |-
 by_cases c8:p.Q=8
 ·have e8:stepS o p=hearS o p:=by unfold stepS; rw[y6 c8]
  rw[e8] at h0 |-
  obtain⟨r,_,_,_,_,_,h⟩:=zev hv h0
  exact h
 by_cases c7:p.Q=7
 ·have e7:stepS o p=giveS o p:=by unfold stepS; rw[y5 c8,y6 c7]
  rw[e7] at h0 |-
  obtain⟨_,_,_,r,_,_,_,h⟩:=zbu hv h0
  exact h
 exact (zk6 hv ⟨c7,c8⟩ h0).2.2.2.2
theorem zj6 (hg:∀ x∈l,RtOk x) (hc:good c=true) (hy:0<=y/\y<=99):RtOk (rightV l c y):=by
 by_cases h:hasR l c y=true
 ·exact hg _ (z23 h).1
 ·unfold rightV; rw[y5 h]; exact⟨hc,hy,sj,sj,sj⟩
theorem znu (hv:VO o) (hc:good p.D=true) (hy:0<=p.E/\p.E<=99) (hl:hasR o.J p.D p.E=true\/(o.J.length:Int)≠60) (h1:tot p.A) (h2:tot p.Af):(hearS o p).2=0:=by
 have hr:=zj6 hv.ok hc hy
 have hcy:=z3x o.J p.D p.E
 have hk:(learnS (rightV o.J p.D p.E) (msgOf p)).2=0:=by
  unfold learnS
  rw[y5 (fun k=>k ⟨hr,rfl,hcy.1.symm,hcy.2.symm⟩),y5 (fun k=>k ⟨h1,h2⟩)]
 unfold hearS
 rw[y5 (fun k=>k hc),y5 om,y5 (fun k=>by
  rcases hl with h | h
  ·rw[k.1] at h; cases h
  ·exact h k.2),y5 (fun k=>k hk)]
def OI (k:Nat) (o:TOf):Prop:=VO o/\o.Ae.C.length<=k/\o.J.length<=k/\∀ r∈o.J,r.A<=1000
variable {s:TTape}
theorem zsa (ho:Few o.Ae) (hs:TapeOk s) (day:Int):∃ p s',F_q31 o day s=some (p,s')/\TapeOk s'/\p.D.length<=60/\p.A<=1000/\p.S<=120:=by
 obtain⟨l1,l2,l3,l4⟩:=ho
 obtain⟨k,s1,e1,t1,k1⟩:=z3b (l:=[1,1,1,2,2,2,3,3,3,4,4,5,6,7,8,8,9]) hs dk dk
 obtain⟨co,s2,e2,t2,hc,_⟩:=zb2 t1
 obtain⟨n1,s3,e3,t3,_,hn1⟩:=z2g (lo:=1) (hi:=120) t2 om om om
 obtain⟨n2,s4,e4,t4,hn2⟩:=z3b (l:=[10,50,n1]) t3 sj sj
 have hn2:n2<=120:=by simp at hn2; omega
 simp only[F_q31,S_q31,Scr.den,e1,e2,e3,e4,obind]
 generalize i64.wrap (day.tdiv 360)=yy
 have fin:∀ (s5:TTape) (p:TOp),TapeOk s5->p.D.length<=60->p.A<=1000->p.S<=120 ->
   ∃ p' s',outM (some (Out.next (s5,p):Out (TTape×TOp) R_q31)) (fun (sv5:TTape×TOp)=>outM (if (sv5.2.Q==2)=true then (F_qr 1 4 sv5.1).bind fun rv17=>(F_q4 60 rv17.2).bind fun rv18=>some (Out.next (rv18.2,(⟨sv5.2.Q,sv5.2.D,sv5.2.E,sv5.2.Z,sv5.2.Of,sv5.2.S,rv17.1,(i64.wrap (day+rv18.1)),sv5.2.A,sv5.2.Af⟩:TOp)):Out (TTape×TOp) R_q31) else some (Out.next (sv5.1,sv5.2))) (fun (sv16:TTape×TOp)=>some (sv16.2,sv16.1)) some) some=some (p',s')/\TapeOk s'/\p'.D.length<=60/\p'.A<=1000/\p'.S<=120:=fun s5 p ht h1 h2 h3=>by
  simp only[outM]
  by_cases hk:(p.Q==2)=true
  ·rw[y6 hk]
   obtain⟨x1,s6,q1,t6,_,_⟩:=z2g (lo:=1) (hi:=4) ht om om om
   obtain⟨x2,s7,q2,t7,_,_⟩:=z2e (n:=60) t6 om om
   simp only[q1,q2,obind]
   exact⟨_,_,rfl,t7,h1,h2,h3⟩
  ·rw[y5 hk]
   exact⟨_,_,rfl,ht,h1,h2,h3⟩
 have lm:∀ {α:Type} (l:List α),l.length<=1000000->(1:Int)<=(if (l.length:Int)>1 then (l.length:Int) else 1)/\(if (l.length:Int)>1 then (l.length:Int) else 1)<=1000000:=fun l h=>by split <;> omega
 have m1:=lm o.Ae.C l1
 have m2:=lm o.Ae.G l2
 have m3:=lm o.Ae.I l3
 have two:∀ {c d:Bool} {P:Prop},(c=true->P)->(d=true->P)->(c=false->d=false->P)->P:=fun {c d P} h1 h2 h3=>by
  cases hc:c
  ·cases hd:d
   ·exact h3 hc hd
   ·exact h2 hd
  ·exact h1 hc
 have g1:∀ {β:Type} (c d:Bool),(c||d)=true->(if c=true then some (Out.next c) else some (Out.next d):Option (Out Bool β))=some (Out.next true):=fun {_} c d h=>by cases c <;> cases d <;> first | rfl | cases h
 have g0:∀ {β:Type} (c d:Bool),(c||d)=false->(if c=true then some (Out.next c) else some (Out.next d):Option (Out Bool β))=some (Out.next false):=fun {_} c d h=>by cases c <;> cases d <;> first | rfl | cases h
 by_cases c1:((k==2)||(k==5))=true
 ·rw[g1 _ _ c1]
  obtain⟨x1,s5,q1,t5,_,_⟩:=z2g (lo:=1) (hi:=(if (o.Ae.C.length:Int)>1 then (o.Ae.C.length:Int) else 1)) t4 om m1.1 om
  simp only[outM,y18,q1,obind]
  exact fin _ ⟨k,co,yy,day,x1,n2,0,0,0,0⟩ t5 hc (by show (0:Int)<=1000; decide) hn2
 have c1:((k==2)||(k==5))=false:=by simpa using c1
 rw[g0 _ _ c1]
 by_cases c2:((k==3)||(k==6))=true
 ·rw[g1 _ _ c2]
  obtain⟨x1,s5,q1,t5,_,_⟩:=z2g (lo:=1) (hi:=(if (o.Ae.G.length:Int)>1 then (o.Ae.G.length:Int) else 1)) t4 om m2.1 om
  simp only[outM,yv,y18,yx,q1,obind]
  exact fin _ ⟨k,co,yy,day,x1,n2,0,0,0,0⟩ t5 hc (by show (0:Int)<=1000; decide) hn2
 have c2:((k==3)||(k==6))=false:=by simpa using c2
 rw[g0 _ _ c2]
 by_cases c3:((k==4)||(k==9))=true
 ·rw[g1 _ _ c3]
  obtain⟨x1,s5,q1,t5,_,_⟩:=z2g (lo:=1) (hi:=(if (o.Ae.I.length:Int)>1 then (o.Ae.I.length:Int) else 1)) t4 om m3.1 om
  simp only[outM,yv,y18,yx,q1,obind]
  exact fin _ ⟨k,co,yy,day,x1,n2,0,0,0,0⟩ t5 hc (by show (0:Int)<=1000; decide) hn2
 have c3:((k==4)||(k==9))=false:=by simpa using c3
 rw[g0 _ _ c3]
 by_cases c4:(k==8)=true
 ·obtain⟨x1,s5,q1,t5,_,y1⟩:=z2e (n:=1000) t4 om om
  obtain⟨x2,s6,q2,t6,y2⟩:=z3b (l:=[100,400,x1]) t5 sj sj
  obtain⟨x3,s7,q3,t7,_,y3⟩:=z2e (n:=200) t6 om om
  obtain⟨x4,s8,q4,t8,y4⟩:=z3b (l:=[0,0,x3]) t7 sj sj
  simp only[outM,yv,yx,y6 c4,q1,q2,q3,q4,obind]
  exact fin _ ⟨k,co,yy,day,0,n2,0,0,x2,x4⟩ t8 hc (by simp at y2; show x2<=1000; omega) hn2
 ·simp only[outM,yv,yx,y5 c4]
  exact fin _ ⟨k,co,yy,day,0,n2,0,0,0,0⟩ t4 hc (by show (0:Int)<=1000; decide) hn2
theorem zpy (hv:VO o) (hs:TapeOk s) (day:Int):∃ p s',F_q31 o day s=some (p,s')/\TapeOk s'/\p.D.length<=60/\p.A<=1000/\p.S<=120:=zsa hv.smO.1.1 hs day
theorem zle (n:Int):F_q3j n=some (if n<1\/n>6 then (noO,2) else (⟨n,[],nb⟩,0)):=by
 simp only[F_q3j,S_q3j,Scr.den,zd]
 exact st (by simp only[yc,y7]) (fun _=>rfl) (fun _=>rfl)
theorem znv (h1:1<=n) (h2:n<=6):OI 0 ⟨n,[],nb⟩ :=
 ⟨⟨⟨h1,h2⟩,sj,znk,(fun _ h=>nomatch h),(fun i hi=>absurd hi sj),(fun x hx=>nomatch hx)⟩,(by simp[nb]),sj,(fun _ h=>nomatch h)⟩
def wantedS (r:TRi) (u:Int):Int :=
 if RtOk r/\(0<=u/\u<=r.A-r.M) then (if r.A-u<r.K then (if r.A-u-r.M>0 then r.A-u-r.M else 0) else (if r.K-r.M>0 then r.K-r.M else 0)) else 0
theorem wn1 {x:Int}:(if 0>x then 0 else x)=(if x>0 then x else 0):=by split <;> split <;> omega
theorem wn2 {x:Int} (h:x=y):(if x>0 then x else 0)=(if y>0 then y else 0):=by rw[h]
theorem z7n (h:r.D.length<=1000000):F_q3i r u=some (wantedS r u):=by
 open Classical in simp only[F_q3i,S_q3i,Scr.den,z1i h,zx,zw,obind,zd,z1e]
 unfold wantedS
 by_cases hR:RtOk r
 ·have hR':=hR
  unfold RtOk at hR'
  have w1:i64.wrap (r.A-r.M)=r.A-r.M:=wrapId om om
  rw[w1]
  by_cases hu:0<=u/\u<=r.A-r.M
  ·rw[y6 (show RtOk r/\(0<=u/\u<=r.A-r.M) from ⟨hR,hu⟩),y5 (by simp[hR,hu]),wrapId (n:=r.A-u) om om]
   refine yi some ?_
   by_cases k:r.A-u<r.K
   ·simp only[y6 k]
    rw[wrapId om om]
    exact wn1
   ·simp only[y5 k]
    rw[wrapId om om]
    exact wn1
  ·rw[y6 (by simp[hR]; omega),y5 (fun k=>hu k.2)]
 ·rw[y6 (by simp[hR]),y5 (fun k=>hR k.1)]
theorem zgf (h:r.D.length<=1000000):F_q54 r u=some (wantedS r u):=by
 simp only[F_q54,S_q54,Scr.den,z5j h,obind,zd]
 unfold wantedS
 by_cases hR:RtOk r
 ·have hR':=hR
  unfold RtOk at hR'
  have w1:i64.wrap (r.A-r.M)=r.A-r.M:=wrapId om om
  rw[w1]
  by_cases hu:0<=u/\u<=r.A-r.M
  ·rw[y6 (show RtOk r/\(0<=u/\u<=r.A-r.M) from ⟨hR,hu⟩),y5 (by simp[hR]; omega),wrapId (n:=r.A-r.M-u) om om,wrapId (n:=r.K-r.M) om om]
   refine yi some ?_
   by_cases k:r.A-u<r.K
   ·rw[y6 k]
    simp only[y6 (show r.A-r.M-u<r.K-r.M from om)]
    exact wn2 om
   ·rw[y5 k]
    simp only[y5 (show ¬ (r.A-r.M-u<r.K-r.M) from om)]
  ·rw[y6 (by simp[hR]; omega),y5 (fun k=>hu k.2)]
 ·rw[y6 (by simp[hR]),y5 (fun k=>hR k.1)]
def noP:TOp:=⟨0,[],0,0,0,0,0,0,0,0⟩
open Classical in
noncomputable def answerS (o:TOf) (c:Y8) (y:Int):TOp×Bool :=
 if ¬ VO o then (noP,false) else
 if wantedS (rightV o.J c y) (usedV o.Ae c y)=0 then (noP,false) else (⟨7,c,y,0,0,wantedS (rightV o.J c y) (usedV o.Ae c y),0,0,0,0⟩,true)
theorem zcm (l:List TRi) (hc:c.length<=1000000) (y:Int):(rightV l c y).D.length<=1000000:=by
 rw[(z3x l c y).1]; exact hc
theorem znw (hs:SmO o) (hc:c.length<=1000000) (y:Int):F_q6f o c y=some (answerS o c y):=by
 simp only[F_q6f,S_q6f,Scr.den,z8u hs,z3v,zbp,z7n (zcm o.J hc y),obind]
 unfold answerS
 refine st sj (fun _=>rfl) fun _=>?_
 refine st (by simp only[y12]) (fun _=>rfl) fun _=>rfl
theorem zab (hs:SmO o) (hc:c.length<=1000000) (y:Int):F_q45 o c y=some (answerS o c y):=by
 simp only[F_q45,S_q45,Scr.den,z7j hs,z2n,z4l,zgf (zcm o.J hc y),obind]
 unfold answerS
 refine st sj (fun _=>rfl) fun _=>?_
 refine st (by simp only[y12]) (fun _=>rfl) fun _=>rfl
def noM:TMe:=⟨0,0,[],0,0,0,0,0⟩
open Classical in
noncomputable def reportS (o:TOf) (c:Y8) (y:Int):TMe×Int :=
 if ¬ VO o then (noM,1) else
 if ¬ hasR o.J c y=true then (noM,6) else (⟨o.O,0,c,y,0,0,(rightV o.J c y).M,usedV o.Ae c y⟩,0)
theorem znx (hs:SmO o) (c:Y8) (y:Int):F_q67 o c y=some (reportS o c y):=by
 simp only[F_q67,S_q67,Scr.den,z8u hs,zdq,z3v,zbp,obind]
 unfold reportS
 refine st sj (fun _=>rfl) fun _=>?_
 refine st sj (fun _=>rfl) fun _=>rfl
theorem zgg (hs:SmO o) (c:Y8) (y:Int):F_q5c o c y=some (reportS o c y):=by
 simp only[F_q5c,S_q5c,Scr.den,z7j hs,at_eq,z2n,z4l,obind]
 unfold reportS
 refine st sj (fun _=>rfl) fun _=>?_
 refine st (by cases hh:hasR o.J c y <;> simp <;> (try exact y37.2 (y1w _))) (fun _=>rfl) fun _=>rfl
def a1:TOf:=⟨2,[],nb⟩
def a2:TOf:=⟨2,[⟨[49],12,100,0,0⟩],nb⟩
def aR:TRe:=⟨1,[49],12,4330,60,0⟩
def a3:TOf:=⟨2,[⟨[49],12,100,0,0⟩],⟨[aR],[],[],[]⟩⟩
def a4:TOf:=⟨2,[⟨[49],12,100,0,40⟩],⟨[aR],[],[],[]⟩⟩
def q1:TOp:=⟨8,[49],12,0,0,0,0,0,100,0⟩
def q2:TOp:=⟨1,[49],12,4330,0,60,0,0,0,0⟩
def q3:TOp:=⟨7,[49],12,0,0,40,0,0,0,0⟩
def q4:TOp:=⟨1,[49],12,4330,0,1,0,0,0,0⟩
theorem va1:VO a1:=(znv om om).1
theorem st1:doS a1 q1=(a2,0):=by
 rw[z8v va1 dk]
 unfold stepS
 rw[y6 dk]
 kernel_rfl
theorem va2:VO a2:=by have:=zbw (o:=a1) (p:=q1) (by rw[st1]); rwa [st1] at this
theorem st2:doS a2 q2=(a3,0):=by
 rw[z8v va2 dk]
 unfold stepS
 have h:reserveS a2.Ae q2.D q2.E q2.Z q2.S=(⟨[aR],[],[],[]⟩,0) :=
  zj2 (b:=nb) (code:=[49]) (y:=12) (d:=4330) (n:=60) znk (by decide +kernel) dk dk dk dk dk
 have hu:unusedV a2 q2.D q2.E=100:=by decide +kernel
 have hb:bookS a2.Ae q2=(⟨[aR],[],[],[]⟩,0):=by unfold bookS; rw[y6 dk,h]
 rw[y5 dk,y5 dk,hb,y5 dk,y5 (by rw[hu]; decide)]
 rfl
theorem va3:VO a3:=by have:=zbw (o:=a2) (p:=q2) (by rw[st2]); rwa [st2] at this
theorem st3:doS a3 q3=(a4,0):=by
 rw[z8v va3 dk]
 unfold stepS
 rw[y5 dk,y6 dk]
 kernel_rfl
def getF (p:TOp):Nat->Int
 | 0=>p.E
 | 1=>p.Z
 | 2=>p.S
 | 3=>p.Of
 | 4=>p.Ah
 | 5=>p.Aj
 | 6=>p.A
 | _=>p.Af
def clrF (p:TOp):Nat->TOp
 | 0=>⟨p.Q,p.D,0,p.Z,p.Of,p.S,p.Ah,p.Aj,p.A,p.Af⟩
 | 1=>⟨p.Q,p.D,p.E,0,p.Of,p.S,p.Ah,p.Aj,p.A,p.Af⟩
 | 2=>⟨p.Q,p.D,p.E,p.Z,p.Of,0,p.Ah,p.Aj,p.A,p.Af⟩
 | 3=>⟨p.Q,p.D,p.E,p.Z,0,p.S,p.Ah,p.Aj,p.A,p.Af⟩
 | 4=>⟨p.Q,p.D,p.E,p.Z,p.Of,p.S,0,p.Aj,p.A,p.Af⟩
 | 5=>⟨p.Q,p.D,p.E,p.Z,p.Of,p.S,p.Ah,0,p.A,p.Af⟩
 | 6=>⟨p.Q,p.D,p.E,p.Z,p.Of,p.S,p.Ah,p.Aj,0,p.Af⟩
 | 7=>⟨p.Q,p.D,p.E,p.Z,p.Of,p.S,p.Ah,p.Aj,p.A,0⟩
 | _=>⟨p.Q,[],p.E,p.Z,p.Of,p.S,p.Ah,p.Aj,p.A,p.Af⟩
def nmF:Nat->Y8
 | 0=>[89,69,65,82]
 | 1=>[68,65,89]
 | 2=>[65,77,79,85,78,84]
 | 3=>[79,70]
 | 4=>[80,65,89,69,69]
 | 5=>[68,85,69]
 | 6=>[71,82,65,78,84,69,68]
 | 7=>[65,83,75,69,68,66,65,67,75]
 | _=>[67,79,68,69]
def mostF (k:Nat):Int:=if k=0 then 99 else 1000000000000000
def condF (p:TOp) (k:Nat):Prop:=if k=8 then good p.D=true else 0<=getF p k/\getF p k<=mostF k
instance (p:TOp) (k:Nat):Decidable (condF p k):=by unfold condF; infer_instance
theorem zbx (p:TOp):condF p 8↔good p.D=true:=by
 show (if (8:Nat)=8 then good p.D=true else _)↔_
 rw[y6 rfl]
variable {k:Nat}
theorem condN (h:k≠8):condF p k↔0<=getF p k/\getF p k<=mostF k:=by
 show (if k=8 then good p.D=true else _)↔_
 rw[y5 h]
def txtF (p:TOp) (k:Nat):Y8:=if k=8 then p.D else Lib.itoa (getF p k)
theorem F_q7h (k:Nat) (hk:k<8):F_q1l (nmF k)=some (mostF k):=by
 have:k=0\/k=1\/k=2\/k=3\/k=4\/k=5\/k=6\/k=7:=om
 rcases this with rfl | rfl | rfl | rfl | rfl | rfl | rfl | rfl <;> rfl
theorem zny (h0:0<=n) (h1:n<=1000000000000000):F_q79 n=some (Lib.itoa n):=za ⟨om,om⟩
theorem zi0 (k:Nat):mostF k<=1000000000000000:=by unfold mostF; split <;> omega
variable {i:Nat} {rv1:List Y8}
theorem zsb {r:TOp} (hc:p.D.length<=1000000) {l:List Y8} (hi:i+1<l.length) (hb:l.length<=1000) (hk:k<=8) (hp:l.getD (0+1+i) dF=nmF k) :
  (S_q5_b1 p rv1 i (l,r)).den=some (if condF p k then .cont (l.set (i+1) (txtF p k),clrF r k) else .ret []):=by
 have ei:(i64.wrap ((i:Int)+1))=((i+1:Nat):Int):=wrapId om om
 have hcode:k=8->(S_q5_b1 p rv1 i (l,r)).den=some (if condF p k then .cont (l.set (i+1) (txtF p k),clrF r k) else .ret []):=fun h8=>by
  subst h8
  simp only[S_q5_b1,Scr.den]
  rw[za ⟨om,trivial⟩,hp,y6 (by rfl),ei]
  rw[show F_q7d p.D=some (parts p.D) from z2y om]
  simp only[obind,zhx,ye,yo]
  by_cases hg:good p.D=true
  ·rw[y5 (by simp[hg]),y6 ((zbx p).2 hg),za ⟨om,hi,hi,trivial⟩]
   rfl
  ·rw[y6 (by simpa using hg),y5 fun h=>hg ((zbx p).1 h)]
 by_cases h8:k=8
 ·exact hcode h8
 clear hcode
 have e:k=0\/k=1\/k=2\/k=3\/k=4\/k=5\/k=6\/k=7:=om
 have hm:F_q1l (nmF k)=some (mostF k):=F_q7h k om
 have hml:=zi0 k
 have fin:∀ (n:Int) (x:Option (Step (List Y8×TOp) R_q5)),n=getF p k ->
   x=((optD [(decide (n<0))=false] (F_q1l (nmF k)) dF).bind fun m=>if (decide (n<0)||decide (n>m))=true then some (.ret []) else (F_q79 n).bind fun t=>guardP (AllP [(0:Int)<=((i+1:Nat):Int),i+1<l.length,i+1<l.length]) (some (.cont (l.set (i+1) t,clrF r k)))) ->
   x=some (if condF p k then .cont (l.set (i+1) (txtF p k),clrF r k) else .ret []):=by
  rintro n x rfl rfl
  have ht:txtF p k=Lib.itoa (getF p k):=y5 h8
  have hcn:=condN (p:=p) h8
  rw[hm,ht]
  by_cases h0:getF p k<0
  ·rw[show optD [(decide (getF p k<0))=false] (some (mostF k)) dF=some dF from y5 fun h=>by simp[AllP] at h; omega]
   simp only[obind]
   rw[y6 (by simp[h0]),y5 fun h=>y37.2 (hcn.1 h).1 h0]
  ·rw[zk (by simp[AllP]; omega)]
   simp only[obind]
   by_cases h1:getF p k<=mostF k
   ·rw[y5 sk,y6 (hcn.2 ⟨om,h1⟩),zny om om]
    simp only[obind]
    rw[za ⟨om,hi,hi,trivial⟩]
   ·rw[y6 sk,y5 fun h=>h1 (hcn.1 h).2]
 rcases e with rfl | rfl | rfl | rfl | rfl | rfl | rfl | rfl
 all_goals
  simp only[S_q5_b1,Scr.den]
  rw[za ⟨om,trivial⟩,hp,ei]
  refine fin _ _ rfl ?_
  simp only[ye,yo,zd]
 ·have f:∀ q,F_q6r (nmF 0) q=some ():=fun q=>za ⟨dk,trivial⟩
  rw[y5 dk,y6 dk]
  simp only[f,obind]
  rfl
 ·have f:∀ q,F_q6s (nmF 1) q=some ():=fun q=>(za ⟨dk,trivial⟩).trans (za ⟨dk,trivial⟩)
  rw[y5 dk,y5 dk,y6 dk]
  simp only[f,obind]
  rfl
 ·have f:∀ q,F_q6t (nmF 2) q=some ():=fun q=>(za ⟨dk,trivial⟩).trans ((za ⟨dk,trivial⟩).trans (za ⟨dk,trivial⟩))
  rw[y5 dk,y5 dk,y5 dk,y6 dk]
  simp only[f,obind]
  rfl
 ·have f:∀ q,F_q6u (nmF 3) q=some ():=fun q=>(za ⟨dk,trivial⟩).trans ((za ⟨dk,trivial⟩).trans ((za ⟨dk,trivial⟩).trans (za ⟨dk,trivial⟩)))
  rw[y5 dk,y5 dk,y5 dk,y5 dk,y6 dk]
  simp only[f,obind]
  rfl
 ·have f:∀ q,F_q6v (nmF 4) q=some ():=fun q=>(za ⟨dk,trivial⟩).trans ((za ⟨dk,trivial⟩).trans ((za ⟨dk,trivial⟩).trans ((za ⟨dk,trivial⟩).trans (za ⟨dk,trivial⟩))))
  rw[y5 dk,y5 dk,y5 dk,y5 dk,y5 dk,y6 dk]
  simp only[f,obind]
  rfl
 ·have f:∀ q,F_q6w (nmF 5) q=some ():=fun q=>(za ⟨dk,trivial⟩).trans ((za ⟨dk,trivial⟩).trans ((za ⟨dk,trivial⟩).trans ((za ⟨dk,trivial⟩).trans ((za ⟨dk,trivial⟩).trans (za ⟨dk,trivial⟩)))))
  rw[y5 dk,y5 dk,y5 dk,y5 dk,y5 dk,y5 dk,y6 dk]
  simp only[f,obind]
  rfl
 ·have f:∀ q,F_q6x (nmF 6) q=some ():=fun q=>(za ⟨dk,trivial⟩).trans ((za ⟨dk,trivial⟩).trans ((za ⟨dk,trivial⟩).trans ((za ⟨dk,trivial⟩).trans ((za ⟨dk,trivial⟩).trans ((za ⟨dk,trivial⟩).trans (za ⟨dk,trivial⟩))))))
  rw[y5 dk,y5 dk,y5 dk,y5 dk,y5 dk,y5 dk,y5 dk,y6 dk]
  simp only[f,obind]
  rfl
 ·have f:∀ q,F_q6y (nmF 7) q=some ():=fun q=>(za ⟨dk,trivial⟩).trans ((za ⟨dk,trivial⟩).trans ((za ⟨dk,trivial⟩).trans ((za ⟨dk,trivial⟩).trans ((za ⟨dk,trivial⟩).trans ((za ⟨dk,trivial⟩).trans ((za ⟨dk,trivial⟩).trans (za ⟨dk,trivial⟩)))))))
  rw[y5 dk,y5 dk,y5 dk,y5 dk,y5 dk,y5 dk,y5 dk,y5 dk]
  simp only[f,obind]
  rfl
theorem znz (hc:p.D.length<=1000000) (hb:rv1.length<=1000):∀ (ks:List Nat) (i:Nat) (l:List Y8) (r:TOp),l.length=rv1.length->i+1+ks.length=l.length->(∀ k∈ks,k<=8)->l.drop (i+1)=ks.map nmF ->
  ((∀ k∈ks,condF p k)->∃ l',rangeM (fun i s=>(S_q5_b1 p rv1 i s).den) ks.length i (l,r)=some (.next (l',ks.foldl clrF r))/\l'.length=l.length/\l'.take (i+1)=l.take (i+1)/\∀ x∈l',x∈l.take (i+1)\/∃ k∈ks,x=txtF p k) /\
  ((¬ ∀ k∈ks,condF p k)->rangeM (fun i s=>(S_q5_b1 p rv1 i s).den) ks.length i (l,r)=some (.ret [])):=by
 intro ks
 induction ks with
 | nil =>
  intro i l r hl hi _ hd
  refine⟨fun _=>⟨l,rfl,rfl,rfl,fun x hx=>.inl ?_⟩,fun h=>absurd (fun k hk=>nomatch hk) h⟩
  rw[y1y (by simp at hi; omega)]
  exact hx
 | cons k ks ih =>
  intro i l r hl hi h8 hd
  rw[yw] at hi
  have hlt:i+1<l.length:=om
  have hg:l.getD (0+1+i) dF=nmF k:=by
   rw[show 0+1+i=i+1 from om,z17 hlt]
   have:=yi (fun z=>z[0]?) hd
   simpa [List.getElem?_drop,List.getElem?_eq_getElem hlt] using this
  have hs:=zsb (p:=p) (r:=r) (rv1:=rv1) hc hlt om (h8 k (y1t ..)) hg
  have hd2:(l.set (i+1) (txtF p k)).drop (i+1+1)=ks.map nmF:=by
   rw[List.drop_set_of_lt om]
   have:=yi (List.drop 1) hd
   simpa [List.drop_drop] using this
  obtain⟨g1,g2⟩:=ih (i+1) (l.set (i+1) (txtF p k)) (clrF r k) (by rw[ya]; exact hl) (by rw[ya]; omega) (fun x hx=>h8 x (y1c _ hx)) hd2
  simp only[yw,rangeM,hs]
  refine⟨fun h=>?_,fun h=>?_⟩
  ·rw[y6 (h k (y1t ..))]
   obtain⟨l',e1,e2,e3,e4⟩:=g1 fun x hx=>h x (y1c _ hx)
   refine⟨l',e1,by rw[e2,ya],?_,fun x hx=>?_⟩
   ·have:=yi (List.take (i+1)) e3
    rw[List.take_take,List.take_take,Nat.min_eq_left om,y5j om] at this
    exact this
   ·rcases e4 x hx with h1 | ⟨q,h1,h2⟩
    ·rw[y3a,y5j om,y1o] at h1
     rcases h1 with h1 | h1
     ·exact .inl h1
     ·rw[y11 hlt] at h1
      exact .inr ⟨k,y1t ..,by simpa using h1⟩
    ·exact .inr ⟨q,y1c _ h1,h2⟩
  ·by_cases hk:condF p k
   ·rw[y6 hk]
    exact g2 fun h'=>h fun x hx=>by
     rcases y15.1 hx with rfl | hx
     ·exact hk
     ·exact h' x hx
   ·rw[y5 hk]
def partsK (k:Int):List Nat :=
 if k=1 then [8,0,1,2] else if k=2 then [3,1,2,4,5] else if k=3 then [3,1,2] else if k=4 then [3,1] else if k=5 then [3,2] else if k=6 then [3,2] else
 if k=7 then [8,0,2] else if k=8 then [8,0,6,7] else if k=9 then [3] else []
def wordK (k:Int):Y8 :=
 if k=1 then [114,101,115,101,114,118,101] else if k=2 then [99,111,109,109,105,116] else if k=3 then [118,101,114,105,102,121] else if k=4 then [111,114,100,101,114] else
 if k=5 then [114,101,108,101,97,115,101] else if k=6 then [100,114,111,112] else if k=7 then [114,101,116,117,114,110] else if k=8 then [104,101,97,114] else [114,101,116,117,114,110,101,100]
def zOp:TOp:=⟨0,[],0,0,0,0,0,0,0,0⟩
def unK (p:TOp):TOp:=⟨0,p.D,p.E,p.Z,p.Of,p.S,p.Ah,p.Aj,p.A,p.Af⟩
def POp (p:TOp):Prop:=(1<=p.Q/\p.Q<=9)/\(∀ k∈partsK p.Q,condF p k)/\(partsK p.Q).foldl clrF (unK p)=zOp
theorem zds {k:Int} (h:1<=k/\k<=9):k=1\/k=2\/k=3\/k=4\/k=5\/k=6\/k=7\/k=8\/k=9:=om
theorem zlf {k:Int} (h:1<=k/\k<=9):∃ s,F_q49 k=some s/\F_q7f s=some (wordK k :: (partsK k).map nmF):=by
 rcases zds h with rfl | rfl | rfl | rfl | rfl | rfl | rfl | rfl | rfl <;> exact⟨_,rfl,za ⟨dk,dk⟩⟩
theorem zo0 {k:Int} (h:¬ (1<=k/\k<=9)):F_q49 k=some []:=by
 simp only[F_q49,S_q49,Scr.den]
 rw[y5 sk,y5 sk,y5 sk,y5 sk,y5 sk,y5 sk,y5 sk,y5 sk,y5 sk]
theorem zfs (k:Int):∀ x∈partsK k,x<=8:=by
 unfold partsK
 repeat' split
 all_goals decide
theorem zlg (k:Int):(partsK k).length<=5:=by
 unfold partsK
 repeat' split
 all_goals decide
theorem zo1 (k:Int):0<(wordK k).length/\(wordK k).length<=8:=by
 unfold wordK
 repeat' split
 all_goals decide
theorem zb6 {B:Nat} {s:Y8}:∀ {l:List Y8},(∀ x∈l,x.length<=B)->(Lib.joinTail s l).length<=l.length * (s.length+B)
 | [],_=>by simp[Lib.joinTail]
 | x :: l,h=>by
  have h1:=h x sj
  have h2:=zb6 (s:=s) (l:=l) fun y hy=>h y (by simp[hy])
  have e:Lib.joinTail s (x :: l)=(s++x)++Lib.joinTail s l:=by simp[Lib.joinTail]
  rw[e,yu,yu,yw,y1i]
  omega
theorem zo {σ ρ α:Type} (s:σ) (k:σ->Option α) (kr:ρ->Option α):outM (some (.next s)) k kr=k s:=rfl
theorem zi1 (a b:TOp):((a.Q==b.Q)&&((a.D==b.D)&&((a.E==b.E)&&((a.Z==b.Z)&&((a.Of==b.Of)&&((a.S==b.S)&&((a.Ah==b.Ah)&&((a.Aj==b.Aj)&&((a.A==b.A)&&((a.Af==b.Af)&&true))))))))))=true↔a=b:=by
 obtain⟨a0,a1,a2,a3,a4,a5,a6,a7,a8,a9⟩:=a
 obtain⟨b0,b1,b2,b3,b4,b5,b6,b7,b8,b9⟩:=b
 simp
theorem zpz (h:condF p k):(txtF p k).length<=60:=by
 by_cases h8:k=8
 ·subst h8
  have:=z2m ((zbx p).1 h)
  show p.D.length<=60
  omega
 ·rw[show txtF p k=Lib.itoa (getF p k) from y5 h8]
  have h1:=zi0 k
  have h2:=(condN h8).1 h
  have:=Lib.itoa_length_le (getF p k) om om
  omega
theorem POp.len (h:POp p):p.D.length<=60:=by
 obtain⟨hk,hc,hz⟩:=h
 by_cases h8:8∈partsK p.Q
 ·have:=hc 8 h8
  have:=z2m ((zbx p).1 this)
  omega
 ·have key:∀ (ks:List Nat) (r:TOp),8 ∉ ks->(∀ k∈ks,k<=8)->(ks.foldl clrF r).D=r.D:=by
   intro ks
   induction ks with
   | nil=>intro r _ _; rfl
   | cons k ks ih =>
    intro r hk h9
    rw[y2x,ih _ (fun h=>hk (y1c _ h)) fun x hx=>h9 x (y1c _ hx)]
    have h1:k≠8:=fun e=>hk (e▸y1t ..)
    have h2:=h9 k (y1t ..)
    have:k=0\/k=1\/k=2\/k=3\/k=4\/k=5\/k=6\/k=7:=om
    rcases this with rfl | rfl | rfl | rfl | rfl | rfl | rfl | rfl <;> rfl
  have h2:=key (partsK p.Q) (unK p) h8 (zfs _)
  rw[hz] at h2
  have h3:(unK p).D=p.D:=rfl
  rw[<- h3,<- h2]
  decide
theorem zsc {x:Y8} {l:List Y8} (hx:0<x.length) (s:Y8):Lib.join (x :: l) s≠[]:=by
 rw[Lib.join_cons]
 intro h
 have:=yi List.length h
 rw[yu,y1q] at this
 omega
theorem zk7 (hc:p.D.length<=1000000):(POp p->∃ t,F_q5 p=some t/\t≠[])/\(¬ POp p->F_q5 p=some []):=by
 by_cases hk:1<=p.Q/\p.Q<=9
 ·obtain⟨s,e1,e2⟩:=zlf hk
  have hpl:=zlg p.Q
  have hwl:=zo1 p.Q
  have hn:(wordK p.Q :: (partsK p.Q).map nmF).length-1=(partsK p.Q).length:=sj
  obtain⟨g1,g2⟩:=znz (p:=p) hc (rv1:=wordK p.Q :: (partsK p.Q).map nmF) sk (partsK p.Q) 0 (wordK p.Q :: (partsK p.Q).map nmF) (unK p) rfl sk (zfs _) sj
  have hS:F_q5 p=(outM (rangeM (fun i s=>(S_q5_b1 p (wordK p.Q :: (partsK p.Q).map nmF) i s).den) (partsK p.Q).length 0 (wordK p.Q :: (partsK p.Q).map nmF,unK p)) (fun s=>if (!((s.2.Q==0)&&((s.2.D==([]))&&((s.2.E==0)&&((s.2.Z==0)&&((s.2.Of==0)&&((s.2.S==0)&&((s.2.Ah==0)&&((s.2.Aj==0)&&((s.2.A==0)&&((s.2.Af==0)&&true)))))))))))=true then some [] else guardP (AllP [s.1.length<2 ^ 63]) ((F_q7e s.1 [32]).bind fun r=>some r)) (fun x=>some (id x))):=by
   simp only[F_q5,S_q5,Scr.den,e1,e2,obind]
   rw[y5 sk,za ⟨sj,trivial⟩,za ⟨sk,trivial⟩,hn]
   rfl
  rw[hS]
  by_cases h:∀ k∈partsK p.Q,condF p k
  ·obtain⟨l',q1,q2,q3,q4⟩:=g1 h
   rw[q1]
   simp only[zo]
   have hz:=zi1 ((partsK p.Q).foldl clrF (unK p)) zOp
   by_cases hz':(partsK p.Q).foldl clrF (unK p)=zOp
   ·have hb:=hz.2 hz'
    refine⟨fun _=>?_,fun hn=>absurd ⟨hk,h,hz'⟩ hn⟩
    rw[y5 (by
     intro hh
     rw[yg] at hh
     exact y5o (hh.symm.trans hb))]
    have hl:l'.length<=6:=by rw[q2]; simp; omega
    have hw:l'=wordK p.Q :: l'.drop 1:=by
     conv=>lhs; rw[<- y2n 1 l']
     rw[show l'.take 1=[wordK p.Q] by simpa using q3]
     rfl
    have hlen:∀ x∈l',x.length<=60:=fun x hx=>by
     rcases q4 x hx with h1 | ⟨k,h1,rfl⟩
     ·have:x=wordK p.Q:=by simpa using h1
      rw[this]; omega
     ·exact zpz (h k h1)
    have hj:(Lib.join l' [32]).length<=1000:=by
     rw[hw,Lib.join_cons,yu]
     have h1:=zb6 (B:=60) (s:=[32]) (l:=l'.drop 1) fun x hx=>hlen x (y3u hx)
     have h2:(l'.drop 1).length<=5:=by rw[y3d]; omega
     have h3:(l'.drop 1).length * (1+60)<=5 * 61:=yp _ h2
     simp only[yw,y1q] at h1
     omega
    have hl0:0<l'.length:=by rw[hw]; simp
    rw[za ⟨om,trivial⟩,show F_q7e l' [32]=some (Lib.join l' [32]) from za ⟨hl0,om,om⟩]
    refine⟨_,rfl,?_⟩
    rw[hw]
    exact zsc hwl.1 _
   ·refine⟨fun hp=>absurd hp.2.2 hz',fun _=>?_⟩
    rw[y6 (by
     rw[yg]
     exact y4c.2 fun hh=>hz' (hz.1 hh))]
  ·rw[g2 h]
   exact⟨fun hp=>absurd hp.2.1 h,fun _=>rfl⟩
 ·refine⟨fun hp=>absurd hp.1 hk,fun _=>?_⟩
  simp only[F_q5,S_q5,Scr.den,zo0 hk,obind]
  rw[show F_q7f []=some [] from za ⟨dk,dk⟩]
  rfl
open Classical in
theorem zdt (hc:p.D.length<=1000000):F_q4a p=some (decide (POp p)):=by
 simp only[F_q4a,S_q4a,Scr.den]
 by_cases h:POp p
 ·obtain⟨t,e,ht⟩:=(zk7 hc).1 h
  rw[e,yd h]
  simp only[obind]
  simp[ht]
 ·rw[(zk7 hc).2 h,yh h]
  rfl
def numT (n:Int):Prop:=0<=n/\n<=1000000000000000
theorem zq0 (l:List Int) (c:Bool):((∀ x∈l,numT x)->rangeM (fun i s=>(S_q7_b1 (l,c) i s).den) l.length 0 ()=some (.next ()))/\((¬ ∀ x∈l,numT x)->rangeM (fun i s=>(S_q7_b1 (l,c) i s).den) l.length 0 ()=some (.ret false)):=by
 have ra:=z16 (ρ:=Bool) (n:=l.length) (c:=false) (body:=fun i s=>(S_q7_b1 (l,c) i s).den) (fun i=>numT (l.getD i dF)) (fun i hi h=>by
  simp only[S_q7_b1,Scr.den,zd]
  unfold numT at h
  rw[y5 (by simp only[yc,y7]; omega)]) (fun i hi h=>by
  simp only[S_q7_b1,Scr.den,zd]
  unfold numT at h
  rw[y6 (by simp only[yc,y7]; omega)])
 exact⟨fun h=>ra.1 fun j hj=>h _ (zb hj),fun h=>ra.2 fun h'=>h (z4g (p:=numT) h')⟩
open Classical in
theorem z3g {q:TOp} {l:List Int} {c:Bool} (hk:1<=p.Q/\p.Q<=9) (hc:p.D.length<=1000000) (e1:F_q11 p=some (l,c)) (e2:F_q3 p.Q p.D p.E l=some q) :
  F_q7 p=some (decide ((if c=true then good p.D=true/\0<=p.E/\p.E<=99 else p.D=[]/\p.E=0)/\(∀ x∈l,numT x)/\q=p)):=by
 simp only[F_q7,S_q7,Scr.den,e1,obind,zd,zg]
 rw[y5 (by simp only[yc,y7]; omega)]
 obtain⟨g1,g2⟩:=zq0 l c
 have fin:outM (rangeM (fun i s=>(S_q7_b1 (l,c) i s).den) l.length 0 ()) (fun _=>(F_q3 p.Q p.D p.E l).bind fun r=>some ((r.Q==p.Q)&&((r.D==p.D)&&((r.E==p.E)&&((r.Z==p.Z)&&((r.Of==p.Of)&&((r.S==p.S)&&((r.Ah==p.Ah)&&((r.Aj==p.Aj)&&((r.A==p.A)&&((r.Af==p.Af)&&true))))))))))) (fun x=>some (id x))=some (decide ((∀ x∈l,numT x)/\q=p)):=by
  by_cases h:∀ x∈l,numT x
  ·rw[g1 h]
   simp only[zo,e2,obind]
   congr 1
   rw[y1l,zi1,y7]
   exact⟨fun k=>⟨h,k⟩,fun k=>k.2⟩
  ·rw[g2 h,yh (fun k=>h k.1)]
   rfl
 cases c
 ·rw[show ∀ {α:Type} (x:Option α) (d:α),optD [false=true] x d=some d from fun _ _=>y5 fun h=>y5o h.1]
  simp only[obind]
  by_cases h:p.D=[]/\p.E=0
  ·rw[y5 (by simp[h.1,h.2]),fin]
   congr 1
   rw[y1l,y7,y7,y5 sj]
   exact⟨fun k=>⟨h,k⟩,fun k=>k.2⟩
  ·rw[y6 (by
    by_cases h1:p.D=[]
    ·have h2:p.E≠0:=fun e=>h ⟨h1,e⟩
     simp[h1,h2]
    ·simp[h1]),yh (fun k=>h (by simpa using k.1))]
 ·rw[zk (by simp[AllP]),z2x om]
  simp only[obind]
  by_cases h:good p.D=true/\0<=p.E/\p.E<=99
  ·rw[y5 (by simp[h.1]; omega),fin]
   congr 1
   rw[y1l,y7,y7,y6 trivial]
   exact⟨fun k=>⟨h,k⟩,fun k=>k.2⟩
  ·rw[y6 (by
    by_cases h1:good p.D=true
    ·have h2:p.E<0\/99<p.E:=by
      rcases Int.lt_or_le p.E 0 with k | k
      ·exact .inl k
      ·exact .inr (y4v.1 fun k2=>h ⟨h1,k,k2⟩)
     rcases h2 with h2 | h2 <;> simp[h1,h2]
    ·simp[h1]),yh (fun k=>h (by simpa using k.1))]
open Classical in
theorem zb7 (hc:p.D.length<=1000000):F_q7 p=some (decide (POp p)):=by
 by_cases hk:¬ (1<=p.Q/\p.Q<=9)
 ·simp only[F_q7,S_q7,Scr.den,zd]
  rw[y6 (by simp only[yc,y7]; omega),yh (fun h=>hk h.1)]
 have hk:=Decidable.not_not.1 hk
 have z:∀ x:Int,decide (0=x)=decide (x=0):=fun x=>decide_eq_decide.2 eq_comm
 obtain⟨K,C,Y,D,O,A,P,U,G,B⟩:=p
 rcases zds hk with h | h | h | h | h | h | h | h | h <;> simp only at h <;> subst h
 ·have e1:F_q11 ⟨1,C,Y,D,O,A,P,U,G,B⟩=some ([D,A],true):=rfl
  have e2:F_q3 1 C Y [D,A]=some ⟨1,C,Y,D,0,A,0,0,0,0⟩:=by
   simp[F_q3,S_q3,Scr.den,guardP,AllP,outM]
  rw[z3g hk hc e1 e2]
  congr 1
  simp[POp,partsK,condF,getF,mostF,clrF,unK,zOp,numT]
  simp only[z]
  ac_rfl
 ·have e1:F_q11 ⟨2,C,Y,D,O,A,P,U,G,B⟩=some ([O,D,A,P,U],false):=rfl
  have e2:F_q3 2 C Y [O,D,A,P,U]=some ⟨2,C,Y,D,O,A,P,U,0,0⟩:=by
   simp[F_q3,S_q3,Scr.den,guardP,AllP,outM]
  rw[z3g hk hc e1 e2]
  congr 1
  simp[POp,partsK,condF,getF,mostF,clrF,unK,zOp,numT]
  simp only[z]
  ac_rfl
 ·have e1:F_q11 ⟨3,C,Y,D,O,A,P,U,G,B⟩=some ([O,D,A],false):=rfl
  have e2:F_q3 3 C Y [O,D,A]=some ⟨3,C,Y,D,O,A,0,0,0,0⟩:=by
   simp[F_q3,S_q3,Scr.den,guardP,AllP,outM]
  rw[z3g hk hc e1 e2]
  congr 1
  simp[POp,partsK,condF,getF,mostF,clrF,unK,zOp,numT]
  simp only[z]
  ac_rfl
 ·have e1:F_q11 ⟨4,C,Y,D,O,A,P,U,G,B⟩=some ([O,D],false):=rfl
  have e2:F_q3 4 C Y [O,D]=some ⟨4,C,Y,D,O,0,0,0,0,0⟩:=by
   simp[F_q3,S_q3,Scr.den,guardP,AllP,outM]
  rw[z3g hk hc e1 e2]
  congr 1
  simp[POp,partsK,condF,getF,mostF,clrF,unK,zOp,numT]
  simp only[z]
  ac_rfl
 ·have e1:F_q11 ⟨5,C,Y,D,O,A,P,U,G,B⟩=some ([O,A],false):=rfl
  have e2:F_q3 5 C Y [O,A]=some ⟨5,C,Y,0,O,A,0,0,0,0⟩:=by
   simp[F_q3,S_q3,Scr.den,guardP,AllP,outM]
  rw[z3g hk hc e1 e2]
  congr 1
  simp[POp,partsK,condF,getF,mostF,clrF,unK,zOp,numT]
  simp only[z]
  ac_rfl
 ·have e1:F_q11 ⟨6,C,Y,D,O,A,P,U,G,B⟩=some ([O,A],false):=rfl
  have e2:F_q3 6 C Y [O,A]=some ⟨6,C,Y,0,O,A,0,0,0,0⟩:=by
   simp[F_q3,S_q3,Scr.den,guardP,AllP,outM]
  rw[z3g hk hc e1 e2]
  congr 1
  simp[POp,partsK,condF,getF,mostF,clrF,unK,zOp,numT]
  simp only[z]
  ac_rfl
 ·have e1:F_q11 ⟨7,C,Y,D,O,A,P,U,G,B⟩=some ([A],true):=rfl
  have e2:F_q3 7 C Y [A]=some ⟨7,C,Y,0,0,A,0,0,0,0⟩:=by
   simp[F_q3,S_q3,Scr.den,guardP,AllP,outM]
  rw[z3g hk hc e1 e2]
  congr 1
  simp[POp,partsK,condF,getF,mostF,clrF,unK,zOp,numT]
  simp only[z]
  ac_rfl
 ·have e1:F_q11 ⟨8,C,Y,D,O,A,P,U,G,B⟩=some ([G,B],true):=rfl
  have e2:F_q3 8 C Y [G,B]=some ⟨8,C,Y,0,0,0,0,0,G,B⟩:=by
   simp[F_q3,S_q3,Scr.den,guardP,AllP,outM]
  rw[z3g hk hc e1 e2]
  congr 1
  simp[POp,partsK,condF,getF,mostF,clrF,unK,zOp,numT]
  simp only[z]
  ac_rfl
 ·have e1:F_q11 ⟨9,C,Y,D,O,A,P,U,G,B⟩=some ([O],false):=rfl
  have e2:F_q3 9 C Y [O]=some ⟨9,C,Y,0,O,0,0,0,0,0⟩:=by
   simp[F_q3,S_q3,Scr.den,guardP,AllP,outM]
  rw[z3g hk hc e1 e2]
  congr 1
  simp[POp,partsK,condF,getF,mostF,clrF,unK,zOp,numT]
  simp only[z]
  ac_rfl
def newO (n:Int):TOf:=⟨n,[],nb⟩
theorem zby (h:1<=n/\n<=6):VO (newO n):=(znv h.1 h.2).1
noncomputable def runO (o:TOf) (l:List TOp):TOf:=l.foldl (fun o p=>(doS o p).1) o
def Runs:TOf->List TOp->Prop
 | _,[]=>True
 | o,p :: l=>(POp p/\(doS o p).2=0)/\Runs (doS o p).1 l
theorem z8h:∀ {l:List TOp} {o:TOf} {p:TOp},Runs o (l++[p])↔Runs o l/\POp p/\(doS (runO o l) p).2=0
 | [],o,p=>⟨fun h=>⟨trivial,h.1⟩,fun h=>⟨h.2,trivial⟩⟩
 | q :: l,o,p=>by
  show ((POp q/\(doS o q).2=0)/\Runs (doS o q).1 (l++[p]))↔_
  rw[z8h]
  exact⟨fun h=>⟨⟨h.1,h.2.1⟩,h.2.2⟩,fun h=>⟨h.1.1,h.1.2,h.2⟩⟩
theorem zcn (o:TOf) (l l':List TOp):runO o (l++l')=runO (runO o l) l':=List.foldl_append ..
theorem zb8 (o:TOf) (l:List TOp) (p:TOp):runO o (l++[p])=(doS (runO o l) p).1:=by rw[zcn]; rfl
theorem z9y:∀ {l l':List TOp} {o:TOf},Runs o (l++l')↔Runs o l/\Runs (runO o l) l'
 | [],l',o=>⟨fun h=>⟨trivial,h⟩,fun h=>h.2⟩
 | q :: l,l',o=>by
  show ((POp q/\(doS o q).2=0)/\Runs (doS o q).1 (l++l'))↔_
  rw[z9y]
  exact⟨fun h=>⟨⟨h.1,h.2.1⟩,h.2.2⟩,fun h=>⟨h.1.1,h.1.2,h.2⟩⟩
theorem z3y {l:List TOp} (h:Runs o l) (n:Nat):Runs o (l.take n):=by
 rw[<- y2n n l] at h
 exact (z9y.1 h).1
theorem zk8 {l:List TOp} (h:Runs o l) (hi:i<l.length):POp (l.getD i dF)/\(doS (runO o (l.take i)) (l.getD i dF)).2=0:=by
 have h1:=z3y h (i+1)
 rw[y3a,yb hi] at h1
 have:=(z8h.1 h1).2
 rwa [<- z17 hi] at this
theorem z8w:∀ {l:List TOp} {o:TOf},VO o->Runs o l->VO (runO o l)
 | [],_,h,_=>h
 | q :: l,o,_,h=>show VO (runO (doS o q).1 l) from z8w (zbw h.1.2) h.2
theorem zft {l:List TOp} (hi:i<l.length):l.take (i+1)=l.take i++[l.getD i dF]:=by
 rw[y3a,yb hi,z17 hi]
 rfl
theorem zi2 (hv:VO o) (h:1<=p.Q/\p.Q<=9) (hc:p.D.length<=1000000):F_q3x o p=some (doS o p):=by
 rw[zs8 hv hv.smO hc,z8v hv h]
theorem zfu (hn:1<=n/\n<=6) {l:List TOp} (h:Runs (newO n) l):F_q16 n l=some (runO (newO n) l,(l.length:Int),0):=by
 simp only[F_q16,S_q16,Scr.den]
 obtain⟨o,e,ho⟩:=zm (body:=fun i s=>(S_q16_b1 l i s).den) (n:=l.length) (fun i o=>o=runO (newO n) (l.take i)) (s0:=newO n) rfl (fun i o hi ho=>by
  obtain⟨h1,h2⟩:=zk8 h hi
  subst ho
  have hv:=z8w (zby hn) (z3y h i)
  have hl:=h1.len
  simp only[S_q16_b1,Scr.den]
  rw[zdt om,@decide_eq_true _ (_) h1]
  simp only[obind]
  rw[y5 dk,zi2 hv h1.1 om]
  simp only[obind]
  rw[y5 (by rw[h2]; decide)]
  exact⟨_,rfl,by rw[zft hi,zb8]⟩)
 rw[y1y (yf _)] at ho
 subst ho
 have e:rangeM (fun i s=>(S_q16_b1 l i s).den) l.length 0 (⟨n,[],(⟨[],[],[],[]⟩:TBo)⟩:TOf)=some (.next (runO (newO n) l)):=e
 rw[e]
 rfl
def VJ (j:TJo):Prop:=(1<=j.Y/\j.Y<=6)/\j.Ab.length<=400/\(0<=j.Ag/\j.Ag<=j.Ab.length)/\Runs (newO j.Y) j.Ab
noncomputable def nowJ (j:TJo):TOf:=runO (newO j.Y) j.Ab
noncomputable def stbJ (j:TJo):TOf:=runO (newO j.Y) (j.Ab.take j.Ag.toNat)
variable {j:TJo}
theorem VJ.now (h:VJ j):VO (nowJ j):=z8w (zby h.1) h.2.2.2
theorem VJ.stb (h:VJ j):VO (stbJ j):=z8w (zby h.1) (z3y h.2.2.2 _)
theorem z6u (h:VJ j):F_q3d j=some (nowJ j,0):=by
 obtain⟨h1,h2,h3,h4⟩:=h
 simp only[F_q3d,S_q3d,Scr.den,F_q6q,S_q6q,zg,obind]
 rw[y5 sk,zfu h1 h4]
 rfl
theorem z5k (h:VJ j):F_q3y j=some true:=by
 simp only[F_q3y,S_q3y,Scr.den,z6u h,obind]
 rfl
theorem zco (h:VJ j):F_q4j j=some (stbJ j,0):=by
 have hv:=z5k h
 obtain⟨h1,h2,h3,h4⟩:=h
 simp only[F_q4j,S_q4j,Scr.den,hv,obind]
 rw[y5 dk,zfu h1 (z3y h4 _)]
 simp only[obind]
 rw[za ⟨h3.1,om,trivial⟩]
 rfl
theorem cloneOp {l:List TOp} (hl:l.length<=1000000):F_q4q l=some l:=by
 simp only[F_q4q,S_q4q,Scr.den]
 rw[za ⟨om,trivial⟩]
theorem zlh {l:List TOp} (hl:l.length<=1000000):F_q63 l=some l:=by
 simp only[F_q63,S_q63,Scr.den]
 rw[za ⟨om,trivial⟩]
def zJ:TJo:=⟨0,[],0⟩
open Classical in
noncomputable def appendS (j:TJo) (p:TOp):TJo×Int :=
 if ¬ POp p then (zJ,1) else if (doS (nowJ j) p).2≠0 then (zJ,(doS (nowJ j) p).2) else if j.Ab.length=400 then (zJ,3) else (⟨j.Y,j.Ab++[p],j.Ag⟩,0)
theorem z4m (hp:¬ POp p):appendS j p=(zJ,1):=y6 hp
theorem z4n (hp:POp p) (h:(doS (nowJ j) p).2≠0):appendS j p=(zJ,(doS (nowJ j) p).2):=(y5 fun k=>k hp).trans (y6 h)
theorem z3z (hp:POp p) (h:(doS (nowJ j) p).2=0) (hl:j.Ab.length=400):appendS j p=(zJ,3):=(y5 fun k=>k hp).trans ((y5 fun k=>k h).trans (y6 hl))
theorem z2v (hp:POp p) (h:(doS (nowJ j) p).2=0) (hl:j.Ab.length≠400):appendS j p=(⟨j.Y,j.Ab++[p],j.Ag⟩,0):=(y5 fun k=>k hp).trans ((y5 fun k=>k h).trans (y5 hl))
theorem zcp (h:VJ j) (hc:p.D.length<=1000000):F_q4p j p=some (appendS j p):=by
 have hv:=h.now
 simp only[F_q4p,S_q4p,Scr.den,z6u h,obind]
 rw[zk (by simp[AllP]),zdt hc]
 simp only[obind,zd]
 by_cases hp:POp p
 ·rw[@decide_eq_true _ (_) hp,y5 sj,zi2 hv hp.1 hc]
  simp only[obind]
  by_cases h0:(doS (nowJ j) p).2=0
  ·rw[y5 (by simp[h0])]
   by_cases hl:j.Ab.length=400
   ·rw[y6 (by simp[hl]),z3z hp h0 hl]
    rfl
   ·rw[y5 sk,z2v hp h0 hl]
    simp only[F_q77,S_q77,Scr.den,zlh (show j.Ab.length<=1000000 by have:=h.2.1; omega),obind]
    rw[za ⟨by have:=h.2.1; show (j.Ab.length+1) * (2 * 88)<=2 ^ 48; omega,trivial⟩,za ⟨by have:=h.2.1; rw[yu]; simp; omega,trivial⟩]
  ·rw[y6 (by simpa using h0),z4n hp h0]
   rfl
 ·rw[@decide_eq_false _ (_) hp,y6 sj,z4m hp]
  rfl
def flushJ (j:TJo):TJo:=⟨j.Y,j.Ab,(j.Ab.length:Int)⟩
def crashJ (j:TJo):TJo:=⟨j.Y,j.Ab.take j.Ag.toNat,j.Ag⟩
theorem zli (h:VJ j):F_q65 j=some (flushJ j):=by
 have hl:=h.2.1
 simp only[F_q65,S_q65,Scr.den,z5k h,obind,y18,zo]
 simp only[F_q40,S_q40,Scr.den,cloneOp (show j.Ab.length<=1000000 from om),obind]
 rfl
theorem zlj (h:VJ j):F_q66 j=some (crashJ j):=by
 have hl:=h.2.1
 have hf:=h.2.2.1
 simp only[F_q66,S_q66,Scr.den,z5k h,obind,y18]
 rw[za ⟨hf.1,om,trivial⟩]
 simp only[zo]
 simp only[F_q40,S_q40,Scr.den,cloneOp (show (j.Ab.take j.Ag.toNat).length<=1000000 by rw[y1g]; omega),obind]
 rfl
theorem zb9 (h:VJ j) (h0:(appendS j p).2=0):VJ (appendS j p).1/\appendS j p=(⟨j.Y,j.Ab++[p],j.Ag⟩,0)/\POp p/\(doS (nowJ j) p).2=0:=by
 by_cases hp:POp p
 ·by_cases h1:(doS (nowJ j) p).2=0
  ·by_cases hl:j.Ab.length=400
   ·rw[z3z hp h1 hl] at h0; cases h0
   ·rw[z2v hp h1 hl]
    obtain⟨q1,q2,q3,q4⟩:=h
    refine⟨⟨q1,?_,⟨q3.1,?_⟩,z8h.2 ⟨q4,hp,h1⟩⟩,rfl,hp,h1⟩
    ·show (j.Ab++[p]).length<=400
     rw[yu]; simp; omega
    ·show j.Ag<=((j.Ab++[p]).length:Int)
     have h7:(j.Ab++[p]).length=j.Ab.length+1:=sj
     have h8:=q3.2
     omega
  ·rw[z4n hp h1] at h0
   exact absurd h0 h1
 ·rw[z4m hp] at h0; cases h0
theorem z5l:nowJ ⟨j.Y,j.Ab++[p],j.Ag⟩=(doS (nowJ j) p).1:=zb8 ..
theorem z6v (h:VJ j):stbJ ⟨j.Y,j.Ab++[p],j.Ag⟩=stbJ j:=by
 unfold stbJ
 have:=h.2.2.1
 rw[List.take_append_of_le_length (show j.Ag.toNat<=j.Ab.length from om)]
theorem zq1 (h:VJ j):VJ (flushJ j):=⟨h.1,h.2.1,⟨by show (0:Int)<=(j.Ab.length:Int); omega,y1d _⟩,h.2.2.2⟩
theorem z41 (j:TJo):nowJ (flushJ j)=nowJ j:=rfl
theorem z86 (j:TJo):stbJ (flushJ j)=nowJ j:=by
 unfold stbJ nowJ flushJ
 simp only[ye]
 rw[y1y (yf _)]
theorem zq2 (h:VJ j):VJ (crashJ j):=by
 obtain⟨h1,h2,h3,h4⟩:=h
 refine⟨h1,?_,⟨h3.1,?_⟩,z3y h4 _⟩
 ·show (j.Ab.take j.Ag.toNat).length<=400
  rw[y1g]; omega
 ·show j.Ag<=((j.Ab.take j.Ag.toNat).length:Int)
  rw[y1g]; omega
theorem zo2 (j:TJo):nowJ (crashJ j)=stbJ j:=rfl
theorem zfv (j:TJo):stbJ (crashJ j)=stbJ j:=by
 unfold stbJ crashJ
 simp only
 rw[List.take_take,Nat.min_self]
theorem zk9:hasR (putL l r) c y=true↔hasR l c y=true\/(r.D=c/\r.E=y):=by
 constructor
 ·intro h
  obtain⟨x,hx,h1,h2⟩:=has_iff.1 h
  rcases zeu hx with rfl | hx
  ·exact .inr ⟨h1,h2⟩
  ·exact .inl (has_iff.2 ⟨x,hx,h1,h2⟩)
 ·rintro (h | ⟨h1,h2⟩)
  ·exact zk5 h
  ·exact has_iff.2 ⟨r,z7m l r,h1,h2⟩
theorem z42 (h0:(doS o p).2=0):(doS o p).1.O=o.O/\∀ c y,
  (hasR (doS o p).1.J c y=true↔hasR o.J c y=true\/(p.Q=8/\p.D=c/\p.E=y)) /\
  (rightV (doS o p).1.J c y).A=(if p.Q=8/\p.D=c/\p.E=y then max (rightV o.J c y).A p.A else (rightV o.J c y).A) /\
  (rightV (doS o p).1.J c y).K=(if p.Q=8/\p.D=c/\p.E=y then max (rightV o.J c y).K p.Af else (rightV o.J c y).K) /\
  (rightV (doS o p).1.J c y).M=(if p.Q=7/\p.D=c/\p.E=y then (rightV o.J c y).M+p.S else (rightV o.J c y).M) /\
  (p.Q=7/\p.D=c/\p.E=y->hasR o.J c y=true/\1<=p.S):=by
 obtain⟨hv,_,e⟩:=zbv h0
 rw[e] at h0 |-
 by_cases c8:p.Q=8
 ·have e8:stepS o p=hearS o p:=by unfold stepS; rw[y6 c8]
  rw[e8] at h0 |-
  obtain⟨r,e1,hr,h1,h2,h3,_⟩:=zev hv h0
  rw[e1]
  refine⟨rfl,fun c y=>?_⟩
  have hr':=z9w (l:=o.J) hv.srt hv.ok hr c y
  have k7:¬ (p.Q=7/\p.D=c/\p.E=y):=fun k=>om
  rw[y5 k7]
  refine⟨?_,?_,?_,?_,fun k=>absurd k k7⟩
  ·rw[zk9,h1,h2]
   exact⟨fun k=>k.imp_right fun q=>⟨c8,q⟩,fun k=>k.imp_right fun q=>q.2⟩
  all_goals
   rw[hr']
   by_cases k:p.D=c/\p.E=y
   ·rw[y6 (show r.D=c/\r.E=y by rw[h1,h2]; exact k)]
    try rw[y6 (show p.Q=8/\p.D=c/\p.E=y from ⟨c8,k⟩)]
    obtain⟨rfl,rfl⟩:=k
    rw[h3]
    try simp only
    try (split <;> omega)
   ·rw[y5 (show ¬ (r.D=c/\r.E=y) by rw[h1,h2]; exact k)]
    try rw[y5 (show ¬ (p.Q=8/\p.D=c/\p.E=y) from fun q=>k q.2)]
 by_cases c7:p.Q=7
 ·have e7:stepS o p=giveS o p:=by unfold stepS; rw[y5 c8,y6 c7]
  rw[e7] at h0 |-
  obtain⟨g1,g2,_,r,e1,hr,h3,_⟩:=zbu hv h0
  rw[e1]
  refine⟨rfl,fun c y=>?_⟩
  have h1:r.D=p.D:=by rw[h3]
  have h2:r.E=p.E:=by rw[h3]
  have hr':=z9w (l:=o.J) hv.srt hv.ok hr c y
  have k8:¬ (p.Q=8/\p.D=c/\p.E=y):=fun k=>c8 k.1
  rw[y5 k8,y5 k8]
  refine⟨?_,?_,?_,?_,fun k=>⟨by rw[<- k.2.1,<- k.2.2]; exact g1,g2⟩⟩
  ·rw[zk9,h1,h2]
   refine⟨fun k=>k.elim .inl fun q=>.inl ?_,fun k=>k.elim .inl fun q=>absurd q k8⟩
   rw[<- q.1,<- q.2]
   exact g1
  all_goals
   rw[hr']
   by_cases k:p.D=c/\p.E=y
   ·rw[y6 (show r.D=c/\r.E=y by rw[h1,h2]; exact k)]
    try rw[y6 (show p.Q=7/\p.D=c/\p.E=y from ⟨c7,k⟩)]
    obtain⟨rfl,rfl⟩:=k
    rw[h3]
   ·rw[y5 (show ¬ (r.D=c/\r.E=y) by rw[h1,h2]; exact k)]
    try rw[y5 (show ¬ (p.Q=7/\p.D=c/\p.E=y) from fun q=>k q.2)]
 obtain⟨e1,_⟩:=zk6 hv ⟨c7,c8⟩ h0
 rw[e1]
 refine⟨rfl,fun c y=>?_⟩
 have k8:¬ (p.Q=8/\p.D=c/\p.E=y):=fun k=>c8 k.1
 have k7:¬ (p.Q=7/\p.D=c/\p.E=y):=fun k=>c7 k.1
 rw[y5 k8,y5 k8,y5 k7]
 exact⟨⟨.inl,fun k=>k.elim id fun q=>absurd q k8⟩,rfl,rfl,rfl,fun k=>absurd k k7⟩
theorem ztt (h0:(doS o p).2=0):(doS o p).1.O=o.O:=(z42 h0).1
def LeO (a b:TOf):Prop:=∀ c y,(hasR a.J c y=true->hasR b.J c y=true)/\(rightV a.J c y).A<=(rightV b.J c y).A/\(rightV a.J c y).K<=(rightV b.J c y).K/\(rightV a.J c y).M<=(rightV b.J c y).M
theorem LeO.refl (a:TOf):LeO a a:=fun _ _=>⟨id,y1d _,y1d _,y1d _⟩
theorem LeO.trans {a b c:TOf} (h:LeO a b) (h':LeO b c):LeO a c:=fun d y=>by
 obtain⟨h1,h2,h3,h4⟩:=h d y
 obtain⟨g1,g2,g3,g4⟩:=h' d y
 exact⟨fun k=>g1 (h1 k),om,om,om⟩
theorem zuu (h0:(doS o p).2=0):LeO o (doS o p).1:=fun c y=>by
 obtain⟨h1,h2,h3,h4,h5⟩:=(z42 h0).2 c y
 rw[h2,h3,h4]
 refine⟨fun k=>h1.2 (.inl k),?_,?_,?_⟩
 ·split <;> omega
 ·split <;> omega
 ·split
  ·have:=(h5 ‹_›).2; omega
  ·omega
theorem zka:∀ {l:List TOp} {o:TOf},Runs o l->LeO o (runO o l)
 | [],o,_=>LeO.refl o
 | q :: l,o,h=>show LeO o (runO (doS o q).1 l) from (zuu h.1.2).trans (zka h.2)
theorem z8x (h:VJ j):LeO (stbJ j) (nowJ j):=by
 have h4:=h.2.2.2
 unfold stbJ nowJ
 rw[<- y2n j.Ag.toNat j.Ab] at h4
 have h5:=(z9y.1 h4).2
 have:=zka h5
 rwa [<- zcn,y2n] at this
end Go.Proofs.YtlhikmklpelceaaGreatDoor
namespace Go.Proofs.YtlhikmklpelceaaGreatDoor.J13
open Go Go.TA
open Go.IntKind (i64)
def tot (n:Int):Prop:=0<=n/\n<=1000000000000000
instance (n:Int):Decidable (tot n):=by unfold tot; infer_instance
theorem zdu (l:List Int) (a:Int):l.foldl (fun s x=>i64.wrap (s+x)) (i64.wrap a)=i64.wrap (a+l.sum):=by
 induction l generalizing a with
 | nil=>simp
 | cons x l ih=>rw[y2x,z6f,ih,y25,y5q]
theorem z87:i64.wrap 0=0:=wrapId om om
theorem zi3 (l:List Int):F_qx l=some (i64.wrap l.sum):=by
 have e:=zdu l 0
 rw[z87,Int.zero_add] at e
 simp only[F_qx,S_qx,Scr.den]
 rw[z1r (ρ:=Int) (body:=fun i s=>(S_qx_b1 l i s).den) l (fun (s:Int) x=>i64.wrap (s+x)) (fun i s hi=>rfl)]
 simp only[outM,e]
variable {c:Y8}
theorem zi4 (hc:c.length<=1000000) (y:Int):F_q25 c y=some (good c&&decide (0<=y/\y<=99)):=by
 have hg:=z2t c
 simp only[F_q25,S_q25,Scr.den,z2y (l:=c) om,obind,zg]
 have e:decide (((parts c).length:Int)>0)=good c:=by rw[<- hg]; simp
 rw[e]
 cases good c with
 | true=>rw[zk (by simp[AllP])]; simp[zx]
 | false=>rw[zp (by simp[AllP])]; simp
theorem z8i (n:Int):F_q13 n=some (decide (tot n)):=by rw[z3o]; rfl
theorem z3w (n:Int):F_qe n=some (decide (tot n)):=by
 simp only[F_qe,S_qe,Scr.den,zg]
 congr 1
 by_cases h:tot n
 ·rw[yd h,yd h.1,yd h.2]; rfl
 ·rw[yh h]
  unfold tot at h
  simp only[y3o,y9,y3x]
  omega
def rowT (l:List Int):Bool:=l.all fun x=>decide (tot x)
theorem zi5 (l:List Int):F_q2k l=some (if rowT l=true then -1 else ((l.findIdx fun x=>!decide (tot x):Nat):Int)):=by
 simp only[F_q2k,S_q2k,Scr.den]
 rw[z4v l (fun x=>!decide (tot x)) (fun i=>(i:Int)) (fun i hi=>by
  simp only[S_q2k_b1,F_q6o,S_q6o,Scr.den,z8i,obind]
  split <;> rfl)]
 have e:(l.any fun x=>!decide (tot x))=!rowT l:=by rw[rowT,List.all_eq_not_any_not,Bool.not_not]
 rw[e]
 cases rowT l <;> rfl
theorem zj7 (l:List Int):F_q5h l=some (!rowT l):=by
 simp only[F_q5h,S_q5h,Scr.den,zi5,obind]
 congr 1
 cases rowT l with
 | true=>rfl
 | false=>simp
variable {l:List Int}
theorem z63:rowT l=true↔∀ x∈l,tot x:=by simp[rowT]
def rowOk (n:Int) (l:List Int):Prop:=(l.length:Int)=n/\∀ x∈l,tot x
instance (n:Int) (l:List Int):Decidable (rowOk n l):=by unfold rowOk; infer_instance
def leRow (a b:List Int):Prop:=∀ i,i<b.length->a.getD i dF<=b.getD i dF
instance (a b:List Int):Decidable (leRow a b):=by unfold leRow; infer_instance
def PotOk (n:Int) (p:TPo):Prop:=good p.D=true/\(0<=p.E/\p.E<=99)/\(-1000000000000000<=p.W/\p.W<=1000000000000000) /\
 (rowOk n p.A/\rowOk n p.L/\rowOk n p.K/\rowOk n p.P)/\(leRow p.L p.A/\leRow p.K p.A)/\p.A.sum<=1000000000000000
instance (n:Int) (p:TPo):Decidable (PotOk n p):=by unfold PotOk; infer_instance
theorem z56 (h:∀ x∈l,tot x):0<=l.sum/\l.sum<=l.length * 1000000000000000:=by
 induction l with
 | nil=>simp
 | cons x l ih =>
  have h1:=h x sj
  have h2:=ih fun y hy=>h y (by simp[hy])
  unfold tot at h1
  simp only[y25,yw]
  omega
variable {n:Int}
theorem zi6 (h:rowOk n l) (hn:n<=6):i64.wrap l.sum=l.sum:=by
 have:=z56 h.2
 have:=h.1
 exact wrapId om om
theorem zo3 (p:TPo) (n:Int):rangeM (fun i s=>(S_qg_b1 p n i s).den) 4 0 () =
  some (if rowOk n p.A/\rowOk n p.L/\rowOk n p.K/\rowOk n p.P then .next () else .ret false):=by
 have one:∀ i (l:List Int),([p.A,p.L,p.K,p.P]:List (List Int)).getD i dF=l->(S_qg_b1 p n i ()).den=some (if rowOk n l then .cont () else .ret false):=fun i l hl=>by
  simp only[S_qg_b1,Scr.den,hl,zd]
  by_cases h1:(l.length:Int)=n
  ·rw[zk (by simp[AllP,h1]),zj7]
   simp only[obind,h1,bne_self_eq_false,y3q]
   by_cases h2:rowT l=true
   ·rw[h2,y5 sj,y6 ⟨h1,z63.1 h2⟩]
   ·rw[y6 (by simpa using h2),y5 fun h=>h2 (z63.2 h.2)]
  ·rw[zp (by simp[AllP,h1])]
   simp only[obind]
   rw[y6 (by simp[h1]),y5 fun h=>h1 h.1]
 rw[show (4:Nat)=0+1+1+1+1 from rfl]
 simp only[rangeM,one 0 p.A rfl,one (0+1) p.L rfl,one (0+1+1) p.K rfl,one (0+1+1+1) p.P rfl]
 by_cases h1:rowOk n p.A <;> by_cases h2:rowOk n p.L <;> by_cases h3:rowOk n p.K <;> by_cases h4:rowOk n p.P <;> simp[h1,h2,h3,h4]
variable {p:TPo}
theorem zq3 (hc:p.D.length<=1000000) (hn:n<=6):F_qg p n=some (decide (PotOk n p)):=by
 simp only[F_qg,S_qg,Scr.den,zi4 hc,obind,zd]
 by_cases h1:(good p.D&&decide (0<=p.E/\p.E<=99))=true
 ·rw[zk (by rw[h1]; exact⟨rfl,trivial⟩),zx]
  simp only[obind,h1,y2t,y3q]
  by_cases h2:-1000000000000000<=p.W/\p.W<=1000000000000000
  ·rw[y5 (by simpa using h2),zo3]
   by_cases h3:rowOk n p.A/\rowOk n p.L/\rowOk n p.K/\rowOk n p.P
   ·rw[y6 h3]
    simp only[outM]
    have l1:=h3.1.1; have l2:=h3.2.1.1; have l3:=h3.2.2.1.1
    have ra:=z16 (ρ:=Bool) (n:=p.A.length) (c:=false) (body:=fun i s=>(S_qg_b2 p i s).den) (fun i=>p.L.getD i dF<=p.A.getD i dF/\p.K.getD i dF<=p.A.getD i dF) (fun i hi hp=>by
     simp only[S_qg_b2,Scr.den,zd]
     rw[za (by simp only[AllP,yn]; exact⟨om,fun _=>om⟩),y5 (by simp only[yc,y7]; omega)]) (fun i hi hp=>by
     simp only[S_qg_b2,Scr.den,zd]
     rw[za (by simp only[AllP,yn]; exact⟨om,fun _=>om⟩),y6 (by simp only[yc,y7]; omega)])
    by_cases h4:∀ j,j<p.A.length->p.L.getD j dF<=p.A.getD j dF/\p.K.getD j dF<=p.A.getD j dF
    ·rw[ra.1 h4]
     simp only[zi3,obind,zi6 h3.1 hn]
     congr 1
     refine decide_eq_decide.2 ⟨fun h=>?_,fun h=>h.2.2.2.2.2⟩
     simp only[yl,y7] at h1
     exact⟨h1.1,h1.2,h2,h3,⟨fun i hi=>(h4 i hi).1,fun i hi=>(h4 i hi).2⟩,h⟩
    ·rw[ra.2 h4]
     show some false=_
     rw[yh fun h=>h4 fun j hj=>⟨h.2.2.2.2.1.1 j hj,h.2.2.2.2.1.2 j hj⟩]
   ·rw[y5 h3]
    simp only[outM]
    rw[yh fun h=>h3 h.2.2.2.1]
    rfl
  ·rw[y6 (by simp only[yg,y9]; exact h2),yh fun h=>h2 h.2.2.1]
 ·rw[zp (by rw[y53] at h1; rw[h1]; simp[AllP])]
  simp only[obind]
  rw[y6 (by rw[y53] at h1; rw[h1]; rfl),yh fun h=>h1 (by simp[h.1,h.2.1])]
variable {ρ:Type}
theorem zdv {α σ:Type} [Inhabited α] {body:Nat->σ->Option (Step σ ρ)} (l:List α) (ok:Nat->Prop) [DecidablePred ok] (g:σ->α->σ) {c:ρ} {s0:σ} (hs:∀ i s,i<l.length->body i s=some (if ok i then .cont (g s (l.getD i dF)) else .ret c)) :
  rangeM body l.length 0 s0=some (if (∀ i,i<l.length->ok i) then .next (l.foldl g s0) else .ret c):=by
 by_cases h:∀ i,i<l.length->ok i
 ·rw[y6 h]
  exact z1r l g fun i s hi=>by rw[hs i s hi,y6 (h i hi)]
 ·rw[y5 h]
  have key:∀ (k i:Nat) (s:σ),i+k=l.length->(¬ ∀ j,i<=j->j<l.length->ok j)->rangeM body k i s=some (.ret c):=by
   intro k
   induction k with
   | zero=>intro i s hk hn; exact absurd (fun j h1 h2=>om) hn
   | succ k ih =>
    intro i s hk hn
    simp only[rangeM,hs i s om]
    by_cases ho:ok i
    ·rw[y6 ho]
     refine ih (i+1) _ om fun hall=>hn fun j h1 h2=>?_
     by_cases hj:j=i
     ·subst hj; exact ho
     ·exact hall j om h2
    ·rw[y5 ho]
  exact key l.length 0 s0 om fun hall=>h fun i hi=>hall i om hi
def okP (g h a u:Int):Prop:=tot g/\tot h/\tot a/\tot u/\h<=g/\a<=g
instance (g h a u:Int):Decidable (okP g h a u):=by unfold okP; infer_instance
variable {i:Nat}
theorem zq4 {s:Int} (h1:i<p.L.length) (h2:i<p.K.length) (h3:i<p.P.length) :
  (S_q1b_b1 p i s).den=some (if okP (p.A.getD i dF) (p.L.getD i dF) (p.K.getD i dF) (p.P.getD i dF) then .cont (i64.wrap (s+p.A.getD i dF)) else .ret false):=by
 simp only[S_q1b_b1,Scr.den,z3w,obind,zd]
 simp only[h1,h2,h3,implies_true]
 generalize p.A.getD i dF=g
 generalize p.L.getD i dF=h
 generalize p.K.getD i dF=a
 generalize p.P.getD i dF=u
 by_cases hA:tot g
 ·by_cases hB:tot h
  ·by_cases hC:tot a
   ·by_cases hD:tot u
    ·by_cases hE:h<=g
     ·by_cases hF:a<=g
      ·rw[y6 ⟨hA,hB,hC,hD,hE,hF⟩]
       simp[optD,AllP,hA,hB,hC,hD,guardP,Int.not_lt.2 hE,Int.not_lt.2 hF]
      ·rw[y5 fun h=>hF h.2.2.2.2.2]
       simp[optD,AllP,hA,hB,hC,hD,guardP,Int.not_lt.2 hE,Int.not_le.1 hF]
     ·rw[y5 fun h=>hE h.2.2.2.2.1]
      simp[optD,AllP,hA,hB,hC,hD,guardP,Int.not_le.1 hE]
    ·rw[y5 fun h=>hD h.2.2.2.1]
     simp[optD,AllP,hA,hB,hC,hD,guardP]
   ·rw[y5 fun h=>hC h.2.2.1]
    simp[optD,AllP,hA,hB,hC,guardP]
  ·rw[y5 fun h=>hB h.2.1]
   simp[optD,AllP,hA,hB,guardP]
 ·rw[y5 fun h=>hA h.1]
  simp[optD,AllP,hA,guardP]
theorem z3k:(∀ i,i<l.length->tot (l.getD i dF))↔∀ x∈l,tot x :=
 ⟨fun h x hx=>by obtain⟨i,hi,rfl⟩:=z19 hx; exact h i hi,fun h i hi=>h _ (zb hi)⟩
theorem zlk (hc:p.D.length<=1000000) (h6:n<=6):F_q1b p n=some (decide (PotOk n p)):=by
 simp only[F_q1b,S_q1b,Scr.den,z2x (l:=p.D) om,obind,zd]
 by_cases h1:good p.D=true/\(0<=p.E/\p.E<=99)/\(-1000000000000000<=p.W/\p.W<=1000000000000000)
 ·rw[y5 (by simp only[yc,yg,y7,h1.1,Bool.true_eq_false,false_or]; omega)]
  by_cases h2:(p.A.length:Int)=n/\(p.L.length:Int)=n/\(p.K.length:Int)=n/\(p.P.length:Int)=n
  ·obtain⟨l1,l2,l3,l4⟩:=h2
   rw[y5 (by simp[l1,l2,l3,l4]),za (by simp only[AllP,yn]; omega)]
   rw[zdv (body:=fun i s=>(S_q1b_b1 p i s).den) p.A (fun i=>okP (p.A.getD i dF) (p.L.getD i dF) (p.K.getD i dF) (p.P.getD i dF)) (fun (s:Int) x=>i64.wrap (s+x))
    (fun i s hi=>zq4 om om om)]
   by_cases h3:∀ i,i<p.A.length->okP (p.A.getD i dF) (p.L.getD i dF) (p.K.getD i dF) (p.P.getD i dF)
   ·rw[y6 h3]
    have g1:rowOk n p.A:=⟨l1,z3k.1 fun i hi=>(h3 i hi).1⟩
    have g2:rowOk n p.L:=⟨l2,z3k.1 fun i hi=>(h3 i om).2.1⟩
    have g3:rowOk n p.K:=⟨l3,z3k.1 fun i hi=>(h3 i om).2.2.1⟩
    have g4:rowOk n p.P:=⟨l4,z3k.1 fun i hi=>(h3 i om).2.2.2.1⟩
    have e:=zdu p.A 0
    rw[z87,Int.zero_add,zi6 g1 h6] at e
    show some (decide (_<=_))=_
    rw[e]
    congr 1
    exact decide_eq_decide.2 ⟨fun h=>⟨h1.1,h1.2.1,h1.2.2,⟨g1,g2,g3,g4⟩,⟨fun i hi=>(h3 i hi).2.2.2.2.1,fun i hi=>(h3 i hi).2.2.2.2.2⟩,h⟩,fun h=>h.2.2.2.2.2⟩
   ·rw[y5 h3]
    show some false=_
    rw[yh fun h=>h3 fun i hi=>⟨z3k.2 h.2.2.2.1.1.2 i hi,z3k.2 h.2.2.2.1.2.1.2 i om,z3k.2 h.2.2.2.1.2.2.1.2 i om,z3k.2 h.2.2.2.1.2.2.2.2 i om,h.2.2.2.2.1.1 i hi,h.2.2.2.2.1.2 i hi⟩]
  ·rw[y6 (by simp only[yc,y1r]; omega),yh fun h=>h2 ⟨h.2.2.2.1.1.1,h.2.2.2.1.2.1.1,h.2.2.2.1.2.2.1.1,h.2.2.2.1.2.2.2.1⟩]
 ·rw[y6 (by
   simp only[yc,yg,y7]
   by_cases hg:good p.D=true
   ·have:¬ ((0<=p.E/\p.E<=99)/\(-1000000000000000<=p.W/\p.W<=1000000000000000)):=fun h=>h1 ⟨hg,h⟩
    omega
   ·simp[Bool.not_eq_true] at hg; simp[hg]),yh fun h=>h1 ⟨h.1,h.2.1,h.2.2.1⟩]
def cmpP (a b:TPo):Int:=if cmpC a.D b.D≠0 then cmpC a.D b.D else cmpI a.E b.E
variable {b:TPo}
theorem zdw {a:TPo} (ha:a.D.length<=1000000) (hb:b.D.length<=1000000):F_q34 a b=some (cmpP a b):=by
 simp only[F_q34,S_q34,Scr.den,zdo ha hb,zel,obind,F_q14,S_q14,S_q14_b1,cmpP]
 by_cases h:cmpC a.D b.D=0
 ·rw[y5 (by simpa using h)]
  by_cases h2:cmpI a.E b.E=0
  ·simp[rangeM,h,h2,outM]
  ·simp[rangeM,h,h2,outM]
 ·rw[y6 h]
  simp[rangeM,h,outM]
def Small (t:TTr):Prop:=∀ p∈t.B,p.D.length<=1000000
def PotsOk (n:Int) (l:List TPo):Prop:=∀ i,i<l.length->PotOk n (l.getD i dF)/\(0<i->cmpP (l.getD (i-1) dF) (l.getD i dF)<0)
instance (n:Int) (l:List TPo):Decidable (PotsOk n l):=by unfold PotsOk; infer_instance
def TOk (t:TTr):Prop:=(1<=t.N/\t.N<=6)/\t.B.length<=60/\PotsOk t.N t.B
instance (t:TTr):Decidable (TOk t):=by unfold TOk; infer_instance
variable {t:TTr}
theorem z9z (h:Small t) (hi:i<t.B.length):(t.B.getD i dF).D.length<=1000000:=h _ (zb hi)
theorem wrapPred (h0:0<i) (h:i<9223372036854775808):i64.wrap ((i:Int)-1)=((i-1:Nat):Int):=by rw[wrapId om om]; omega
theorem Valid_eq (hs:Small t):F_qm t=some (decide (TOk t)):=by
 simp only[F_qm,S_qm,Scr.den,zx,obind,zd]
 by_cases h1:(1<=t.N/\t.N<=6)/\t.B.length<=60
 ·rw[y5 (by simp only[yc,yg,y9,y7]; omega)]
  have step:∀ i,i<t.B.length->(S_qm_b1 t i ()).den=some (if PotOk t.N (t.B.getD i dF)/\(0<i->cmpP (t.B.getD (i-1) dF) (t.B.getD i dF)<0) then .cont () else .ret false):=fun i hi=>by
   simp only[S_qm_b1,Scr.den,zq3 (z9z hs hi) h1.1.2,obind,zd,zg]
   by_cases h0:0<i
   ·rw[wrapPred h0 om,ye,zdw (z9z hs om) (z9z hs hi)]
    have hgu:∀ a:Prop,AllP [a->(0:Int)<=((i-1:Nat):Int),a->i-1<t.B.length]:=fun a=>⟨fun _=>om,fun _=>om,trivial⟩
    have e0:decide ((i:Int)>0)=true:=yd om
    by_cases h2:PotOk t.N (t.B.getD i dF)
    ·rw[zk (by simp only[AllP,e0,yd h2,y2t,yn])]
     simp only[obind]
     rw[za (hgu _)]
     simp only[e0,yd h2,y2t,y3q,y44,y7]
     by_cases h3:cmpP (t.B.getD (i-1) dF) (t.B.getD i dF)<0
     ·rw[y5 (y4v.2 h3),y6 ⟨h2,fun _=>h3⟩]
     ·rw[y6 (y37.1 h3),y5 fun h=>h3 (h.2 h0)]
    ·rw[zp (by simp only[AllP,yh h2,y4f,Bool.true_eq_false,and_false,y56,yk])]
     simp only[obind]
     rw[za (hgu _)]
     simp only[yh h2,y4f,Bool.true_or,y18]
     rw[y5 fun h=>h2 h.1]
   ·have hi0:i=0:=om
    subst hi0
    have e0:decide (((0:Nat):Int)>0)=false:=rfl
    rw[zp (by simp only[AllP,e0,yv,y56,yk])]
    simp only[obind,e0,Bool.false_and,Bool.or_false]
    rw[za (by simp only[AllP,yv,y56,false_implies,yn])]
    by_cases h2:PotOk t.N (t.B.getD 0 dF)
    ·rw[y5 (by simp only[yd h2,y2t,yv,yk]),y6 ⟨h2,fun h=>absurd h om⟩]
    ·rw[y6 (by simp only[yh h2,y4f]),y5 fun h=>h2 h.1]
  have ra:=z16 (ρ:=Bool) (n:=t.B.length) (c:=false) (body:=fun i s=>(S_qm_b1 t i s).den) (fun i=>PotOk t.N (t.B.getD i dF)/\(0<i->cmpP (t.B.getD (i-1) dF) (t.B.getD i dF)<0))
   (fun i hi hp=>by rw[step i hi,y6 hp]) (fun i hi hp=>by rw[step i hi,y5 hp])
  by_cases h4:PotsOk t.N t.B
  ·rw[ra.1 h4,yd (show TOk t from ⟨h1.1,h1.2,h4⟩)]; rfl
  ·rw[ra.2 h4,yh fun h:TOk t=>h4 h.2.2]; rfl
 ·rw[y6 (by simp only[yc,yg,y9,y7]; omega),yh fun h:TOk t=>h1 ⟨h.1,h.2.1⟩]
theorem zo4 {a:TPo} (ha:good a.D=true):cmpP a b<0↔lexC (parts a.D) (parts b.D)<0\/(lexC (parts a.D) (parts b.D)=0/\a.E<b.E):=by
 unfold cmpP
 rw[z2u (.inl ha)]
 unfold cmpI
 split
 ·omega
 ·split
  ·omega
  ·split <;> omega
theorem chk (c y y':Int):((decide (c>0)||(c==0&&decide (y>=y')))=true)↔¬ (c<0\/(c=0/\y<y')):=by
 simp only[yc,yl,y7,y12]; omega
theorem r13_Valid_eq (hs:Small t):F_qw t=some (decide (TOk t)):=by
 simp only[F_qw,S_qw,Scr.den,zd]
 by_cases h1:(1<=t.N/\t.N<=6)/\t.B.length<=60
 ·rw[y5 (by simp only[yc,y7]; omega)]
  have step:∀ i,i<t.B.length->(0<i->PotOk t.N (t.B.getD (i-1) dF))->(S_qw_b1 t i ()).den =
    some (if PotOk t.N (t.B.getD i dF)/\(0<i->cmpP (t.B.getD (i-1) dF) (t.B.getD i dF)<0) then .cont () else .ret false):=fun i hi hp=>by
   simp only[S_qw_b1,Scr.den,zlk (z9z hs hi) h1.1.2,obind,zg,zd]
   by_cases h2:PotOk t.N (t.B.getD i dF)
   ·rw[y5 (by simp only[yd h2,y2t,yv,yk])]
    by_cases h0:0<i
    ·have hp:=hp h0
     rw[y6 (yd om),wrapPred h0 om,ye,z4f hp.1 h2.1]
     simp only[obind]
     rw[za (by simp only[AllP,yn]; omega),za (by simp only[AllP,yn]; exact⟨fun _=>om,fun _=>om⟩)]
     have hc:=zo4 (a:=t.B.getD (i-1) dF) (b:=t.B.getD i dF) hp.1
     by_cases h3:cmpP (t.B.getD (i-1) dF) (t.B.getD i dF)<0
     ·rw[y5 fun h=>(chk _ _ _).1 h (hc.1 h3),y6 ⟨h2,fun _=>h3⟩]
     ·rw[y6 ((chk _ _ _).2 fun h=>h3 (hc.2 h)),y5 fun h=>h3 (h.2 h0)]
    ·rw[y5 (by simp only[y7]; omega),y6 ⟨h2,fun h=>absurd h h0⟩]
   ·rw[y6 (by simp only[yh h2,y4f]),y5 fun h=>h2 h.1]
  have key:∀ (k i:Nat),i+k=t.B.length->(∀ j,j<i->PotOk t.N (t.B.getD j dF)/\(0<j->cmpP (t.B.getD (j-1) dF) (t.B.getD j dF)<0))->rangeM (fun i s=>(S_qw_b1 t i s).den) k i ()=some (if PotsOk t.N t.B then .next () else .ret false):=by
   intro k
   induction k with
   | zero =>
    intro i hk hj
    rw[y6 (show PotsOk t.N t.B from fun j h=>hj j om)]
    rfl
   | succ k ih =>
    intro i hk hj
    have hi:i<t.B.length:=om
    simp only[rangeM,step i hi fun h0=>(hj (i-1) om).1]
    by_cases h2:PotOk t.N (t.B.getD i dF)/\(0<i->cmpP (t.B.getD (i-1) dF) (t.B.getD i dF)<0)
    ·rw[y6 h2]
     exact ih (i+1) om fun j hj'=>by
      by_cases e:j=i
      ·subst e; exact h2
      ·exact hj j om
    ·rw[y5 h2,y5 fun hp:PotsOk t.N t.B=>h2 (hp i hi)]
  rw[key t.B.length 0 om (fun j h=>absurd h om)]
  by_cases h4:PotsOk t.N t.B
  ·rw[y6 h4,yd (show TOk t from ⟨h1.1,h1.2,h4⟩)]; rfl
  ·rw[y5 h4,yh fun h:TOk t=>h4 h.2.2]; rfl
 ·rw[y6 (by simp only[yc,y7]; omega),yh fun h:TOk t=>h1 ⟨h.1,h.2.1⟩]
def isP (c:Y8) (y:Int) (p:TPo):Bool:=p.D==c&&p.E==y
variable {y:Int}
theorem zew:isP c y p=true↔p.D=c/\p.E=y:=by simp[isP]
def hasP (l:List TPo) (c:Y8) (y:Int):Bool:=l.any (isP c y)
def pix (l:List TPo) (c:Y8) (y:Int):Nat:=l.findIdx (isP c y)
theorem pix_lt {l:List TPo} (h:hasP l c y=true):pix l c y<l.length/\(l.getD (pix l c y) dF).D=c/\(l.getD (pix l c y) dF).E=y:=by
 unfold hasP at h
 obtain⟨x,hx,hp⟩:=y4h.1 h
 have hlt:l.findIdx (isP c y)<l.length:=y54 ⟨x,hx,hp⟩
 have h1:=y3w (w:=hlt)
 have e:l.getD (l.findIdx (isP c y)) dF=l[l.findIdx (isP c y)]:=by simp[List.getD_eq_getElem?_getD,List.getElem?_eq_getElem hlt]
 exact⟨hlt,by unfold pix; rw[e]; exact zew.1 h1⟩
theorem z62 (t:TTr) (c:Y8) (y:Int):F_q3e t c y=some (if hasP t.B c y=true then (pix t.B c y:Int) else -1):=by
 simp only[F_q3e,S_q3e,F_q2u,S_q2u,Scr.den]
 rw[z4v t.B (isP c y) (fun i=>(i:Int))]
 ·unfold hasP
  by_cases h:t.B.any (isP c y)=true
  ·rw[y6 h,y6 h]; rfl
  ·rw[y5 h,y5 h]; rfl
 ·intro i hi
  simp only[S_q2u_b1,F_q72,S_q72,Scr.den,obind,zg]
  unfold isP
  split <;> rfl
theorem at_eq (t:TTr) (c:Y8) (y:Int):F_q1i t c y=some (if hasP t.B c y=true then (pix t.B c y:Int) else -1):=by
 simp only[F_q1i,S_q1i,Scr.den]
 rw[z4v t.B (isP c y) (fun i=>(i:Int))]
 ·unfold hasP
  by_cases h:t.B.any (isP c y)=true
  ·rw[y6 h,y6 h]; rfl
  ·rw[y5 h,y5 h]; rfl
 ·intro i hi
  simp only[S_q1i_b1,Scr.den,zg]
  unfold isP
  split <;> rfl
def outV (p:TPo):Int:=(p.A.take (min p.A.length p.L.length)).sum-(p.L.take (min p.A.length p.L.length)).sum
theorem Out_eq (p:TPo):F_q2v p=some (i64.wrap (outV p)):=by
 have e:(if (p.L.length:Int)<(p.A.length:Int) then (p.L.length:Int) else (p.A.length:Int))=((min p.A.length p.L.length:Nat):Int):=by split <;> omega
 simp only[F_q2v,S_q2v,Scr.den,e,ye,zi3,obind]
 rw[za (by simp only[AllP,yn]; omega),z38,z52]
 rfl
theorem r13_Out_eq (hl:p.A.length<4611686018427387904):F_ql p=some (i64.wrap (outV p)):=by
 simp only[F_ql,S_ql,Scr.den]
 let m:=min p.A.length p.L.length
 let S:Nat->Int:=fun k=>(p.A.take k).sum-(p.L.take k).sum
 have hS:∀ k,k<m->S (k+1)=S k+(p.A.getD k dF-p.L.getD k dF):=fun k hk=>by
  have h1:k<p.A.length:=om
  have h2:k<p.L.length:=om
  simp only[S]
  rw[y40 h1,y40 h2,y49,y49,z29 h1,z29 h2]
  simp only[y25,List.sum_nil]
  omega
 have stepT:∀ (i:Nat) (s:Int),i<m->(S_ql_b1 p (s,(i:Int))).den=some (.cont (i64.wrap (s+(p.A.getD i dF-p.L.getD i dF)),((i+1:Nat):Int))):=fun i s hi=>by
  simp only[S_ql_b1,Scr.den,zg]
  rw[y6 (by simp only[yl,y7]; omega),za (by simp only[AllP,ye,yn]; omega)]
  simp only[ye]
  rw[zas,wrapId (n:=(i:Int)+1) om om]
  rfl
 have stepF:∀ s:Int,(S_ql_b1 p (s,(m:Int))).den=some (.brk (s,(m:Int))):=fun s=>by
  simp only[S_ql_b1,Scr.den,zg]
  rw[y5 (by simp only[yl,y7]; omega)]
 have key:∀ (k i:Nat),i+k=m->iterM (fun s=>(S_ql_b1 p s).den) (i64.wrap (S i),(i:Int))=some (.next (i64.wrap (S m),(m:Int))):=by
  intro k
  induction k with
  | zero =>
   intro i hk
   obtain rfl:i=m:=om
   rw[z2l]
   simp only[stepF]
  | succ k ih =>
   intro i hk
   rw[z2l]
   simp only[stepT i _ (show i<m from om)]
   rw[z6f,<- hS i om]
   exact ih (i+1) om
 have h0:=key m 0 om
 rw[show S 0=0 by simp[S],z87] at h0
 rw[show ((0:Int),(0:Int))=(0,((0:Nat):Int)) from rfl,h0]
 rfl
theorem zsd (p:TPo):F_q60 p=some (i64.wrap (p.W-outV p)):=by
 simp only[F_q60,S_q60,Scr.den,Out_eq,obind,z52]
theorem zj8 (hl:p.A.length<4611686018427387904):F_q55 p=some (i64.wrap (p.W-outV p)):=by
 simp only[F_q55,S_q55,Scr.den,r13_Out_eq hl,obind,z52]
theorem maxw (n:Int):(if 0>n then 0 else n)=max n 0:=by split <;> omega
theorem Shortfall_eq (p:TPo):F_q2w p=some (max (i64.wrap (outV p-p.W)) 0):=by
 simp only[F_q2w,S_q2w,Scr.den,Out_eq,obind,z38]
 congr 1
 exact maxw _
theorem clone_eq (h:l.length<=1000000):F_q1u l=some l:=by
 simp only[F_q1u,S_q1u,Scr.den]
 rw[za (by simp only[AllP,yn]; omega)]
theorem z6w (h:l.length<=1000000):F_q3g l=some l:=by
 simp only[F_q3g,S_q3g,Scr.den]
 rw[za (by simp only[AllP,yn]; omega)]
def PSmall (p:TPo):Prop:=p.A.length<=1000000/\p.L.length<=1000000/\p.K.length<=1000000/\p.P.length<=1000000
theorem PotOk.small (h:PotOk n p) (hn:n<=6):PSmall p:=by
 obtain⟨_,_,_,⟨⟨h1,_⟩,⟨h2,_⟩,⟨h3,_⟩,⟨h4,_⟩⟩,_⟩:=h
 exact⟨om,om,om,om⟩
theorem z25 (h:PSmall p):F_q3f p=some p:=by
 obtain⟨h1,h2,h3,h4⟩:=h
 simp only[F_q3f,S_q3f,Scr.den,clone_eq h1,clone_eq h2,clone_eq h3,clone_eq h4,obind]
theorem zj9 (h:PSmall p):F_q5z p=some (p.D,p.E,p.W,p.A,p.L,p.K,p.P):=by
 obtain⟨h1,h2,h3,h4⟩:=h
 simp only[F_q5z,S_q5z,Scr.den,z6w h1,z6w h2,z6w h3,z6w h4,obind]
def TSmall (t:TTr):Prop:=t.B.length<=1000000/\∀ i,i<t.B.length->PSmall (t.B.getD i dF)
theorem z88 {body:Nat->Int×List TPo->Option (Step (Int×List TPo) ρ)} (hs:∀ i (l:List TPo),i<t.B.length->l.length=i->body i (t.N,l)=some (.cont (t.N,l++[t.B.getD i dF]))) :
  rangeM body t.B.length 0 (t.N,[])=some (.next (t.N,t.B)):=by
 obtain⟨s,h1,h2⟩:=zm (ρ:=ρ) (body:=body) (n:=t.B.length) (fun i s=>s=(t.N,t.B.take i)) (s0:=(t.N,[])) sj (fun i s hi hI=>by
  subst hI
  refine⟨_,hs i _ hi sk,?_⟩
  rw[y40 hi]
  simp[List.getD_eq_getElem?_getD,List.getElem?_eq_getElem hi])
 rw[h1,h2,y41]
theorem zll (h:TSmall t):F_q2o t=some (t.N,t.B):=by
 simp only[F_q2o,S_q2o,Scr.den]
 rw[z88 (fun i l hi hl=>by
  simp only[S_q2o_b1,Scr.den,z25 (h.2 i hi),obind]
  rw[za (by have:=h.1; simp only[AllP,yn]; omega)])]
 rfl
variable {i0:Nat}
theorem za0 (h:TSmall t) (hi0:i0<t.B.length) (hpos:0<(t.B.getD i0 dF).A.length/\0<(t.B.getD i0 dF).L.length/\0<(t.B.getD i0 dF).K.length/\0<(t.B.getD i0 dF).P.length) :
  F_q1w t i0=some (t.N,t.B):=by
 simp only[F_q1w,S_q1w,Scr.den]
 rw[z88 (fun i l hi hl=>by
  obtain⟨q1,q2,q3,q4⟩:=h.2 i hi
  simp only[S_q1w_b1,Scr.den,zj9 (h.2 i hi),obind]
  rw[za (by have:=h.1; simp only[AllP,yn]; omega),za (by
   simp only[AllP,yn]
   exact⟨fun e=>by rw[hl] at e; subst e; exact hpos,om,om,om,om⟩)])]
 simp only[outM]
 rw[za (by simp only[AllP,yn]; exact hi0)]
theorem zdx (h:TSmall t):F_q22 t=some (t.N,t.B):=by
 simp only[F_q22,S_q22,Scr.den]
 rw[z88 (fun i l hi hl=>by
  obtain⟨q1,q2,q3,q4⟩:=h.2 i hi
  simp only[S_q22_b1,Scr.den]
  iterate 5 rw[za (by have:=h.1; simp only[AllP,yn]; omega)])]
 rfl
theorem z5m (h:TSmall t) (hi0:i0<t.B.length) (hpos:0<(t.B.getD i0 dF).A.length/\0<(t.B.getD i0 dF).L.length/\0<(t.B.getD i0 dF).K.length/\0<(t.B.getD i0 dF).P.length) :
  F_q12 t i0=some (t.N,t.B):=by
 simp only[F_q12,S_q12,Scr.den]
 rw[z88 (fun i l hi hl=>by
  obtain⟨q1,q2,q3,q4⟩:=h.2 i hi
  simp only[S_q12_b1,Scr.den]
  iterate 5 rw[za (by have:=h.1; simp only[AllP,yn]; omega)]
  rw[za (by
   simp only[AllP,yn]
   exact⟨fun e=>by rw[hl] at e; subst e; exact hpos,om,om,om,om⟩)])]
 simp only[outM]
 rw[za (by simp only[AllP,yn]; exact hi0)]
def addN (G a:List Int) (i:Nat):List Int:=(List.range G.length).map fun j=>if j<i then G.getD j dF+a.getD j dF else G.getD j dF
variable {a G:List Int}
theorem addN_length:(addN G a i).length=G.length:=by simp[addN]
variable {j:Nat}
theorem addN_get (hj:j<G.length):(addN G a i).getD j dF=if j<i then G.getD j dF+a.getD j dF else G.getD j dF:=by
 simp only[addN]
 rw[y8 (l:=List.map _ _),y24,y4m hj,y1p,y3y]
theorem za1 {l':List Int} (h:l.length=l'.length) (he:∀ j,j<l.length->l.getD j dF=l'.getD j dF):l=l':=by
 apply y33 h
 intro j h1 h2
 have:=he j h1
 rw[z29 h1,z29 h2] at this
 exact this
theorem zo5:addN G a 0=G:=za1 addN_length fun j hj=>by
 rw[addN_get (by simpa [addN_length] using hj),y5 om]
variable {x:Int}
theorem getD_set_int (hj:j<l.length):(l.set i x).getD j dF=if j=i then x else l.getD j dF:=by
 rw[y8,y4d]
 by_cases h:i=j
 ·subst h; simp[hj]
 ·rw[y5 h,y5 fun e=>h e.symm,y8]
theorem zo6 (hi:i<G.length):(addN G a i).set i ((addN G a i).getD i dF+a.getD i dF)=addN G a (i+1):=by
 refine za1 (by simp[addN_length]) fun j hj=>?_
 have hj':j<G.length:=by simpa [addN_length] using hj
 rw[getD_set_int (by rw[addN_length]; exact hj'),addN_get hj',addN_get hi,addN_get hj',y5 (y4z i)]
 by_cases h:j=i
 ·subst h; rw[y6 rfl,y6 om]
 ·rw[y5 h]
  by_cases h2:j<i
  ·rw[y6 h2,y6 om]
  ·rw[y5 h2,y5 om]
theorem zi7 {body:Nat->List Int->Option (Step (List Int) ρ)} (hl:a.length=G.length) (hs:∀ i (s:List Int),i<G.length->s.length=G.length->body i s=some (.cont (s.set (0+i) (i64.wrap (s.getD (0+i) dF+a.getD i dF))))) (hG:∀ x∈G,tot x) (ha:∀ x∈a,tot x):rangeM body a.length 0 G=some (.next (addN G a a.length)):=by
 obtain⟨s,h1,h2⟩:=zm (ρ:=ρ) (body:=body) (n:=a.length) (fun i s=>s=addN G a i) (s0:=G) zo5.symm (fun i s hi hI=>by
  subst hI
  have hi':i<G.length:=om
  refine⟨_,hs i _ hi' addN_length,?_⟩
  have t1:=hG _ (zb hi')
  have t2:=ha _ (zb hi)
  unfold tot at t1 t2
  rw[yo,wrapId (by rw[addN_get hi',y5 (y4z i)]; omega) (by rw[addN_get hi',y5 (y4z i)]; omega),zo6 hi'])
 rw[h1,h2]
def giveV (total:Int) (p:TPo) (a:List Int):Int×List Int :=
 if total-outV p<a.sum then (15,p.A) else if 1000000000000000<p.A.sum+a.sum then (3,p.A) else (0,addN p.A a a.length)
theorem zba (h:PotOk n p) (hn:n<=6):-6000000000000000<=outV p/\outV p<=6000000000000000:=by
 obtain⟨_,_,_,⟨h1,h2,_,_⟩,_⟩:=h
 have b1:=z56 (l:=p.A.take (min p.A.length p.L.length)) fun x hx=>h1.2 x (y3g hx)
 have b2:=z56 (l:=p.L.take (min p.A.length p.L.length)) fun x hx=>h2.2 x (y3g hx)
 have l1:=h1.1
 have l2:=h2.1
 simp only[y1g] at b1 b2
 unfold outV
 have e1:(min (min p.A.length p.L.length) p.A.length:Nat)<=6:=om
 have e2:(min (min p.A.length p.L.length) p.L.length:Nat)<=6:=om
 omega
theorem zes (h:PotOk n p) (hn:n<=6) (ha:∀ x∈a,tot x) (hl:a.length=p.A.length) {l:List TPo} (hi:i<l.length) :
  F_q19 a i l p.D p.E p.W p.A p.L p.K p.P=some (giveV p.W p a):=by
 have ho:=zba h hn
 obtain⟨_,_,ht,⟨h1,h2,h3,h4⟩,_,hsum⟩:=h
 have l1:=h1.1; have l2:=h2.1; have l3:=h3.1; have l4:=h4.1
 have s1:=z56 ha
 have s2:=z56 h1.2
 simp only[F_q19,S_q19,Scr.den,zi3,obind,zsd]
 rw[za ⟨om,om,om,om⟩]
 simp only[obind]
 rw[za (by simp only[AllP,yn]; exact hi),wrapId (n:=a.sum) om om,wrapId (n:=p.W-_) (by show _<=p.W-outV p; omega) (by show p.W-outV p<_; omega)]
 unfold giveV
 by_cases c1:p.W-outV p<a.sum
 ·rw[y6 (yd c1),y6 c1]
 ·rw[y5 (by rw[yh c1]; simp),y5 c1,za om,wrapId (n:=p.A.sum) om om]
  simp only[obind]
  rw[wrapId (n:=p.A.sum+a.sum) om om]
  by_cases c2:1000000000000000<p.A.sum+a.sum
  ·rw[y6 (yd c2),y6 c2]
  ·rw[y5 (by rw[yh c2]; simp),y5 c2]
   rw[zi7 (ρ:=R_q19) (G:=p.A) (a:=a) (body:=fun i' s=>(S_q19_b1 a i l p.A i' s).den) hl (fun j s hj hs=>by
    simp only[S_q19_b1,Scr.den]
    rw[za (by simp only[AllP,yn]; omega)]) h1.2 ha]
   rfl
abbrev zT:TTr:=⟨0,[]⟩
def withG (p:TPo) (g:List Int):TPo:=⟨p.D,p.E,p.W,g,p.L,p.K,p.P⟩
def oneHot (n k:Nat) (x:Int):List Int:=(List.replicate n (0:Int)).set k x
def potAt (t:TTr) (c:Y8) (y:Int):TPo:=t.B.getD (pix t.B c y) dF
def putP (t:TTr) (c:Y8) (y:Int) (p:TPo):TTr:=⟨t.N,t.B.set (pix t.B c y) p⟩
def grantM (t:TTr) (k:Int) (c:Y8) (y x:Int):TTr×Int :=
 if ¬ TOk t then (zT,1) else if ¬ hasP t.B c y=true then (zT,6) else if ¬ (1<=k/\k<=t.N) then (zT,6) else if ¬ (1<=x/\x<=1000000000000000) then (zT,2) else
  if (giveV (potAt t c y).W (potAt t c y) (oneHot (potAt t c y).A.length (k-1).toNat x)).1≠0 then (zT,(giveV (potAt t c y).W (potAt t c y) (oneHot (potAt t c y).A.length (k-1).toNat x)).1)
  else (putP t c y (withG (potAt t c y) (giveV (potAt t c y).W (potAt t c y) (oneHot (potAt t c y).A.length (k-1).toNat x)).2),0)
theorem oneHot_tot {n k:Nat} (hx:1<=x/\x<=1000000000000000):∀ y∈oneHot n k x,tot y:=fun y hy=>by
 rcases y2k hy with h | h
 ·rw[List.eq_of_mem_replicate h]; exact⟨om,om⟩
 ·subst h; exact⟨om,om⟩
theorem oneHot_length {n k:Nat}:(oneHot n k x).length=n:=by simp[oneHot]
theorem TOk.potAt {t:TTr} (h:TOk t) {c:Y8} {y:Int} (hp:hasP t.B c y=true):PotOk t.N (potAt t c y):=(h.2.2 _ (pix_lt hp).1).1
theorem TOk.small (h:TOk t):TSmall t:=⟨by have:=h.2.1; omega,fun i hi=>(h.2.2 i hi).1.small h.1.2⟩
theorem TOk.pos (h:TOk t) (hp:hasP t.B c y=true) :
  0<(t.B.getD (pix t.B c y) dF).A.length/\0<(t.B.getD (pix t.B c y) dF).L.length/\0<(t.B.getD (pix t.B c y) dF).K.length/\0<(t.B.getD (pix t.B c y) dF).P.length:=by
 obtain⟨_,_,_,⟨⟨h1,_⟩,⟨h2,_⟩,⟨h3,_⟩,⟨h4,_⟩⟩,_⟩:=h.potAt hp
 have:=h.1
 exact⟨by show 0<(Go.Proofs.YtlhikmklpelceaaGreatDoor.J13.potAt t c y).A.length; omega,by show 0<(Go.Proofs.YtlhikmklpelceaaGreatDoor.J13.potAt t c y).L.length; omega,by show 0<(Go.Proofs.YtlhikmklpelceaaGreatDoor.J13.potAt t c y).K.length; omega,by show 0<(Go.Proofs.YtlhikmklpelceaaGreatDoor.J13.potAt t c y).P.length; omega⟩
theorem zo7 {total:Int}:(giveV total p a).2.length=p.A.length:=by
 unfold giveV
 split
 ·rfl
 ·split
  ·rfl
  ·exact addN_length
theorem zo8 (h:PotOk n p) (hn:n<=6) {l:List TPo} (hi:i<l.length) (k x:Int) :
  F_q4l i l p.D p.E p.W k x p.A p.L p.K p.P =
   some (if ¬ (1<=k/\k<=n) then (6,p.A) else if ¬ (1<=x/\x<=1000000000000000) then (2,p.A) else giveV p.W p (oneHot p.A.length (k-1).toNat x)):=by
 have l1:=h.2.2.2.1.1.1
 simp only[F_q4l,S_q4l,Scr.den,zx,obind,l1]
 rw[za (by simp only[AllP,yn]; exact hi)]
 by_cases c1:1<=k/\k<=n
 ·rw[y5 (show ¬ (!decide (1<=k/\k<=n))=true by rw[yd c1]; simp),y5 (show ¬ ¬ (1<=k/\k<=n) from fun h=>h c1)]
  by_cases c2:1<=x/\x<=1000000000000000
  ·have e1:i64.wrap (k-1)=(((k-1).toNat:Nat):Int):=by rw[wrapId om om]; omega
   have e2:n.toNat=p.A.length:=om
   rw[y5 (show ¬ (!decide (1<=x/\x<=1000000000000000))=true by rw[yd c2]; simp),y5 (show ¬ ¬ (1<=x/\x<=1000000000000000) from fun h=>h c2),e1,e2,ye,za (by simp only[AllP,yn]; omega),za (by simp only[AllP,yn,y1x]; omega),
    za (by simp only[AllP,yn,ya,y1x]; omega),yo]
   show (F_q19 (oneHot p.A.length (k-1).toNat x) i l p.D p.E p.W p.A p.L p.K p.P).bind _=_
   rw[zes h hn (oneHot_tot c2) oneHot_length hi]
   rfl
  ·rw[y6 (show (!decide (1<=x/\x<=1000000000000000))=true by rw[yh c2]; simp),y6 c2]
 ·rw[y6 (show (!decide (1<=k/\k<=n))=true by rw[yh c1]; simp),y6 c1]
theorem Grant_eq (hs:Small t) (k:Int) (c:Y8) (y x:Int):F_q61 t k c y x=some (grantM t k c y x):=by
 simp only[F_q61,S_q61,Scr.den,F_q75,S_q75,Valid_eq hs,z62,obind]
 unfold grantM
 by_cases h1:TOk t
 ·rw[y5 (show ¬ (!decide (TOk t))=true by rw[yd h1]; simp),y5 (show ¬ ¬ TOk t from fun h=>h h1)]
  by_cases h2:hasP t.B c y=true
  ·have hlt:=(pix_lt h2).1
   have hp:=h1.potAt h2
   have l0:=h1.2.1
   rw[y6 (show hasP t.B c y=true from h2),y5 (show ¬ ¬ hasP t.B c y=true from fun h=>h h2),y5 (show ¬ decide (((pix t.B c y:Nat):Int)<0)=true by rw[y7]; omega),ye,za0 h1.small hlt (h1.pos h2)]
   simp only[obind]
   show ((F_q4l (pix t.B c y) t.B (potAt t c y).D (potAt t c y).E (potAt t c y).W k x (potAt t c y).A (potAt t c y).L (potAt t c y).K (potAt t c y).P).bind _).bind _=_
   rw[zo8 hp h1.1.2 hlt]
   simp only[obind]
   rw[za (by simp only[AllP,yn]; exact⟨om,hlt⟩)]
   by_cases h3:1<=k/\k<=t.N
   ·simp only[show ¬ ¬ (1<=k/\k<=t.N) from fun h=>h h3,yx]
    by_cases h4:1<=x/\x<=1000000000000000
    ·simp only[show ¬ ¬ (1<=x/\x<=1000000000000000) from fun h=>h h4,yx]
     have hlen:=zo7 (total:=(potAt t c y).W) (p:=potAt t c y) (a:=oneHot (potAt t c y).A.length (k-1).toNat x)
     generalize giveV (potAt t c y).W (potAt t c y) (oneHot (potAt t c y).A.length (k-1).toNat x)=gv at hlen
     by_cases h5:gv.1=0
     ·rw[y5 (show ¬ (gv.1 != 0)=true by simp[h5]),y5 (show ¬ gv.1≠0 from fun h=>h h5)]
      obtain⟨q1,q2,q3,q4⟩:=hp.small h1.1.2
      rw[za (by simp only[AllP,yn]; exact hlen),za (by simp only[AllP,yn]; exact⟨by rw[hlen]; omega,y2b q2 om,y2b q3 om,y2b q4 om⟩),za (by simp only[AllP,yn,ya]; omega)]
      rfl
     ·rw[y6 (show (gv.1 != 0)=true by simp[h5]),y6 (show gv.1≠0 from h5)]; rfl
    ·simp only[h4,yk,y18]; rfl
   ·simp only[h3,yk,y18]; rfl
  ·simp only[h2,y5,yk,y18,yv]; rfl
 ·rw[y6 (show (!decide (TOk t))=true by rw[yh h1]; simp),y6 (show ¬ TOk t from h1)]; rfl
def withA (p:TPo) (a:List Int):TPo:=⟨p.D,p.E,p.W,p.A,p.L,a,p.P⟩
def withH (p:TPo) (h u:List Int):TPo:=⟨p.D,p.E,p.W,p.A,h,p.K,u⟩
def nth (l:List Int) (k:Int):Int:=l.getD (k-1).toNat dF
def upd (l:List Int) (k x:Int):List Int:=l.set (k-1).toNat x
def askM (t:TTr) (k:Int) (c:Y8) (y x:Int):TTr×Int :=
 if ¬ TOk t then (zT,1) else if ¬ hasP t.B c y=true then (zT,6) else if ¬ (1<=k/\k<=t.N) then (zT,6) else if ¬ (1<=x/\x<=1000000000000000) then (zT,2) else
  if nth (potAt t c y).A k<nth (potAt t c y).K k+x then (zT,15)
  else (putP t c y (withA (potAt t c y) (upd (potAt t c y).K k (nth (potAt t c y).K k+x))),0)
def hearM (t:TTr) (m:TMe):TTr×Int :=
 if m.To≠0 then (zT,1) else if ¬ TOk t then (zT,1) else if ¬ hasP t.B m.D m.E=true then (zT,6) else if ¬ (1<=m.Aa/\m.Aa<=t.N) then (zT,6) else
  if ¬ ((0<=m.M/\m.M<=nth (potAt t m.D m.E).A m.Aa)/\tot m.P) then (zT,2)
  else (putP t m.D m.E (withH (potAt t m.D m.E) (upd (potAt t m.D m.E).L m.Aa (max (nth (potAt t m.D m.E).L m.Aa) m.M)) (upd (potAt t m.D m.E).P m.Aa m.P)),0)
variable {k:Int}
theorem nth_tot (h:rowOk n l) (hk:1<=k/\k<=n):tot (nth l k):=by
 have:=h.1
 exact h.2 _ (zb om)
theorem wrapK (hk:1<=k/\k<=6):i64.wrap (k-1)=(((k-1).toNat:Nat):Int):=by rw[wrapId om om]; omega
theorem zse (h:PotOk n p) (hn:n<=6) {l:List TPo} (hi:i<l.length) (k x:Int) :
  F_q4m i l p.D p.E p.W k x p.A p.L p.K p.P =
   some (if ¬ (1<=k/\k<=n) then (6,p.K) else if ¬ (1<=x/\x<=1000000000000000) then (2,p.K) else if nth p.A k<nth p.K k+x then (15,p.K) else (0,upd p.K k (nth p.K k+x))):=by
 have l1:=h.2.2.2.1.1.1
 have l3:=h.2.2.2.1.2.2.1.1
 simp only[F_q4m,S_q4m,Scr.den,zx,obind,l3]
 rw[za (by simp only[AllP,yn]; exact hi)]
 by_cases c1:1<=k/\k<=n
 ·rw[y5 (show ¬ (!decide (1<=k/\k<=n))=true by rw[yd c1]; simp),y5 (show ¬ ¬ (1<=k/\k<=n) from fun h=>h c1)]
  by_cases c2:1<=x/\x<=1000000000000000
  ·have t1:=nth_tot h.2.2.2.1.2.2.1 c1
   unfold tot at t1
   rw[y5 (show ¬ (!decide (1<=x/\x<=1000000000000000))=true by rw[yd c2]; simp),y5 (show ¬ ¬ (1<=x/\x<=1000000000000000) from fun h=>h c2),wrapK (k:=k) om,ye,yo,
    za (by simp only[AllP,yn]; omega)]
   rw[show p.K.getD (k-1).toNat dF=nth p.K k from rfl,show p.A.getD (k-1).toNat dF=nth p.A k from rfl,wrapId (n:=nth p.K k+x) om om]
   by_cases c3:nth p.A k<nth p.K k+x
   ·rw[y6 (show decide (nth p.K k+x>nth p.A k)=true from yd c3),y6 c3]
   ·rw[y5 (show ¬ decide (nth p.K k+x>nth p.A k)=true by rw[y7]; exact c3),y5 c3]
    rfl
  ·rw[y6 (show (!decide (1<=x/\x<=1000000000000000))=true by rw[yh c2]; simp),y6 c2]
 ·rw[y6 (show (!decide (1<=k/\k<=n))=true by rw[yh c1]; simp),y6 c1]
theorem upd_length:(upd l k x).length=l.length:=by simp[upd]
theorem Ask_eq (hs:Small t) (k:Int) (c:Y8) (y x:Int):F_q4n t k c y x=some (askM t k c y x):=by
 simp only[F_q4n,S_q4n,Scr.den,F_q76,S_q76,Valid_eq hs,z62,obind]
 unfold askM
 by_cases h1:TOk t
 ·rw[y5 (show ¬ (!decide (TOk t))=true by rw[yd h1]; simp),y5 (show ¬ ¬ TOk t from fun h=>h h1)]
  by_cases h2:hasP t.B c y=true
  ·have hlt:=(pix_lt h2).1
   have hp:=h1.potAt h2
   have l0:=h1.2.1
   rw[y6 (show hasP t.B c y=true from h2),y5 (show ¬ ¬ hasP t.B c y=true from fun h=>h h2),y5 (show ¬ decide (((pix t.B c y:Nat):Int)<0)=true by rw[y7]; omega),ye,za0 h1.small hlt (h1.pos h2)]
   simp only[obind]
   show ((F_q4m (pix t.B c y) t.B (potAt t c y).D (potAt t c y).E (potAt t c y).W k x (potAt t c y).A (potAt t c y).L (potAt t c y).K (potAt t c y).P).bind _).bind _=_
   rw[zse hp h1.1.2 hlt]
   simp only[obind]
   rw[za (by simp only[AllP,yn]; exact⟨om,hlt⟩)]
   obtain⟨q1,q2,q3,q4⟩:=hp.small h1.1.2
   by_cases h3:1<=k/\k<=t.N
   ·simp only[show ¬ ¬ (1<=k/\k<=t.N) from fun h=>h h3,yx]
    by_cases h4:1<=x/\x<=1000000000000000
    ·simp only[show ¬ ¬ (1<=x/\x<=1000000000000000) from fun h=>h h4,yx]
     by_cases h5:nth (potAt t c y).A k<nth (potAt t c y).K k+x
     ·simp only[h5,y18]; rfl
     ·simp only[h5,yx]
      rw[y5 sj,za (by simp only[AllP,yn]; exact upd_length),za (by simp only[AllP,yn]; exact⟨y2b q1 om,y2b q2 om,by rw[upd_length]; exact y2b q3 om,y2b q4 om⟩),za (by simp only[AllP,yn,ya]; omega)]
      rfl
    ·simp only[h4,yk,y18]; rfl
   ·simp only[h3,yk,y18]; rfl
  ·simp only[h2,y5,yk,y18,yv]; rfl
 ·rw[y6 (show (!decide (TOk t))=true by rw[yh h1]; simp),y6 (show ¬ TOk t from h1)]; rfl
theorem maxE (a b:Int):(if a>b then a else b)=max b a:=by split <;> omega
theorem zq5 (h:PotOk n p) (hn:n<=6) {l:List TPo} (hi:i<l.length) (m:TMe) :
  F_q4r i l p.D p.E p.W m p.A p.L p.K p.P =
   some (if ¬ (1<=m.Aa/\m.Aa<=n) then (6,p.L,p.P) else if ¬ ((0<=m.M/\m.M<=nth p.A m.Aa)/\tot m.P) then (2,p.L,p.P) else
    (0,upd p.L m.Aa (max (nth p.L m.Aa) m.M),upd p.P m.Aa m.P)):=by
 have l1:=h.2.2.2.1.1.1
 have l2:=h.2.2.2.1.2.1.1
 have l4:=h.2.2.2.1.2.2.2.1
 simp only[F_q4r,S_q4r,Scr.den,zx,z8i,obind,l2,zd]
 rw[za (by simp only[AllP,yn]; exact hi)]
 by_cases c1:1<=m.Aa/\m.Aa<=n
 ·rw[y5 (show ¬ (!decide (1<=m.Aa/\m.Aa<=n))=true by rw[yd c1]; simp),y5 (show ¬ ¬ (1<=m.Aa/\m.Aa<=n) from fun h=>h c1),wrapK (k:=m.Aa) om,ye,yo]
  rw[show p.A.getD (m.Aa-1).toNat dF=nth p.A m.Aa from rfl,show p.L.getD (m.Aa-1).toNat dF=nth p.L m.Aa from rfl]
  by_cases c2:0<=m.M/\m.M<=nth p.A m.Aa
  ·rw[zk (by rw[yd c2]; exact⟨rfl,trivial⟩)]
   simp only[obind]
   rw[za (by simp only[AllP,yn]; omega)]
   by_cases c3:tot m.P
   ·rw[y5 (by rw[yd c2,yd c3]; simp),y5 (show ¬ ¬ ((0<=m.M/\m.M<=nth p.A m.Aa)/\tot m.P) from fun h=>h ⟨c2,c3⟩),za (by simp only[AllP,yn]; omega),maxE]
    rfl
   ·rw[y6 (by rw[yh c3]; simp),y6 fun h=>c3 h.2]
  ·rw[zp (by rw[yh c2]; simp[AllP])]
   simp only[obind]
   rw[za (by simp only[AllP,yn]; omega),y6 (by rw[yh c2]; simp),y6 fun h=>c2 h.1]
 ·rw[y6 (show (!decide (1<=m.Aa/\m.Aa<=n))=true by rw[yh c1]; simp),y6 c1]
theorem Hear_eq (hs:Small t) (m:TMe):F_q69 t m=some (hearM t m):=by
 simp only[F_q69,S_q69,Scr.den,F_q78,S_q78,Valid_eq hs,z62,obind]
 unfold hearM
 by_cases h0:m.To=0
 ·rw[y5 (show ¬ (m.To != 0)=true by simp[h0]),y5 (show ¬ m.To≠0 from fun h=>h h0)]
  by_cases h1:TOk t
  ·rw[y5 (show ¬ (!decide (TOk t))=true by rw[yd h1]; simp),y5 (show ¬ ¬ TOk t from fun h=>h h1)]
   by_cases h2:hasP t.B m.D m.E=true
   ·have hlt:=(pix_lt h2).1
    have hp:=h1.potAt h2
    have l0:=h1.2.1
    rw[y6 (show hasP t.B m.D m.E=true from h2),y5 (show ¬ ¬ hasP t.B m.D m.E=true from fun h=>h h2),y5 (show ¬ decide (((pix t.B m.D m.E:Nat):Int)<0)=true by rw[y7]; omega),ye,za0 h1.small hlt (h1.pos h2)]
    simp only[obind]
    show ((F_q4r (pix t.B m.D m.E) t.B (potAt t m.D m.E).D (potAt t m.D m.E).E (potAt t m.D m.E).W m (potAt t m.D m.E).A (potAt t m.D m.E).L (potAt t m.D m.E).K (potAt t m.D m.E).P).bind _).bind _=_
    rw[zq5 hp h1.1.2 hlt]
    simp only[obind]
    rw[za (by simp only[AllP,yn]; exact⟨om,hlt⟩)]
    obtain⟨q1,q2,q3,q4⟩:=hp.small h1.1.2
    by_cases h3:1<=m.Aa/\m.Aa<=t.N
    ·simp only[show ¬ ¬ (1<=m.Aa/\m.Aa<=t.N) from fun h=>h h3,yx]
     by_cases h4:(0<=m.M/\m.M<=nth (potAt t m.D m.E).A m.Aa)/\tot m.P
     ·simp only[show ¬ ¬ ((0<=m.M/\m.M<=nth (potAt t m.D m.E).A m.Aa)/\tot m.P) from fun h=>h h4,yx]
      rw[y5 sj,za (by simp only[AllP,yn]; exact⟨upd_length,upd_length⟩),za (by simp only[AllP,yn]; exact⟨y2b q1 om,by rw[upd_length]; exact y2b q2 om,y2b q3 om,by rw[upd_length]; exact y2b q4 om⟩),za (by simp only[AllP,yn,ya]; omega)]
      rfl
     ·simp only[h4,yk,y18]; rfl
    ·simp only[h3,yk,y18]; rfl
   ·simp only[h2,y5,yk,y18,yv]; rfl
  ·rw[y6 (show (!decide (TOk t))=true by rw[yh h1]; simp),y6 (show ¬ TOk t from h1)]; rfl
 ·rw[y6 (show (m.To != 0)=true by simp[h0]),y6 (show m.To≠0 from h0)]
def potM (t:TTr) (c:Y8) (y:Int):TPo×Bool:=if hasP t.B c y=true then (potAt t c y,true) else (⟨[],0,0,[],[],[],[]⟩,false)
theorem Pot_eq (hs:TSmall t) (c:Y8) (y:Int):F_q2b t c y=some (potM t c y):=by
 simp only[F_q2b,S_q2b,Scr.den,z62,obind]
 unfold potM
 by_cases h2:hasP t.B c y=true
 ·have hlt:=(pix_lt h2).1
  have l0:=hs.1
  rw[y6 (show hasP t.B c y=true from h2),y6 (show hasP t.B c y=true from h2),y5 (show ¬ decide (((pix t.B c y:Nat):Int)<0)=true by rw[y7]; omega),ye,z25 (hs.2 _ hlt)]
  simp only[obind]
  rw[za (by simp only[AllP,yn]; exact⟨om,hlt⟩)]
  rfl
 ·rw[y5 h2,y5 h2]; rfl
def tellM (t:TTr) (k:Int) (c:Y8) (y:Int):TMe×Int :=
 if ¬ TOk t then (⟨0,0,[],0,0,0,0,0⟩,1) else if ¬ (hasP t.B c y=true/\1<=k/\k<=t.N) then (⟨0,0,[],0,0,0,0,0⟩,6)
 else (⟨0,k,c,y,nth (potAt t c y).A k,nth (potAt t c y).K k,0,0⟩,0)
theorem Tell_eq (hs:Small t) (k:Int) (c:Y8) (y:Int):F_q4o t k c y=some (tellM t k c y):=by
 simp only[F_q4o,S_q4o,Scr.den,Valid_eq hs,obind,zd]
 unfold tellM
 by_cases h1:TOk t
 ·rw[y5 (show ¬ (!decide (TOk t))=true by rw[yd h1]; simp),y5 (show ¬ ¬ TOk t from fun h=>h h1),Pot_eq h1.small]
  simp only[obind,zx]
  unfold potM
  by_cases h2:hasP t.B c y=true
  ·rw[y6 h2]
   rw[zk (gs:=[(!true)=false]) ⟨rfl,trivial⟩]
   simp only[obind,y2t,y3q]
   obtain⟨_,_,_,⟨g1,_,g3,_⟩,_⟩:=h1.potAt h2
   have e1:=g1.1
   have e3:=g3.1
   have e0:=h1.1
   by_cases h3:1<=k/\k<=t.N
   ·rw[y5 (by rw[yd h3]; simp),y5 (show ¬ ¬ (hasP t.B c y=true/\1<=k/\k<=t.N) from fun h=>h ⟨h2,h3⟩),wrapK (k:=k) om,ye,za (by simp only[AllP,yn]; omega)]
    rfl
   ·rw[y6 (by rw[yh h3]; rfl),y6 fun h=>h3 h.2]
  ·rw[y5 h2,zp (by simp[AllP])]
   simp only[obind]
   rw[y6 (by rfl),y6 fun h=>h2 h.1]
 ·rw[y6 (show (!decide (TOk t))=true by rw[yh h1]; simp),y6 h1]
def findM (t:TTr) (k:Int) (c:Y8) (y:Int):Int×Int :=
 if ¬ TOk t then (0,1) else if ¬ (hasP t.B c y=true/\1<=k/\k<=t.N) then (0,6) else ((pix t.B c y:Int),0)
theorem r13_find_eq (hs:Small t) (k:Int) (c:Y8) (y:Int):F_q23 t k c y=some (findM t k c y):=by
 simp only[F_q23,S_q23,Scr.den,r13_Valid_eq hs,at_eq,obind,zd]
 unfold findM
 by_cases h1:TOk t
 ·rw[y5 (show ¬ (!decide (TOk t))=true by rw[yd h1]; simp),y5 (show ¬ ¬ TOk t from fun h=>h h1)]
  by_cases h2:hasP t.B c y=true
  ·rw[y6 (show hasP t.B c y=true from h2)]
   by_cases h3:1<=k/\k<=t.N
   ·have hb:(decide (((pix t.B c y:Nat):Int)<0)||decide (k<1)||decide (k>t.N))=false:=by
     simp only[y36,y9]; omega
    rw[y5 (by rw[hb]; simp),y5 (show ¬ ¬ (hasP t.B c y=true/\1<=k/\k<=t.N) from fun h=>h ⟨h2,h3⟩)]
   ·rw[y6 (by simp only[yc,y7]; omega),y6 fun h=>h3 h.2]
  ·rw[y5 (show ¬ hasP t.B c y=true from h2),y6 (by rfl),y6 fun h=>h2 h.1]
 ·rw[y6 (show (!decide (TOk t))=true by rw[yh h1]; simp),y6 h1]
theorem r13_Ask_eq (hs:Small t) (k:Int) (c:Y8) (y x:Int):F_q57 t k c y x=some (askM t k c y x):=by
 simp only[F_q57,S_q57,Scr.den,r13_find_eq hs,obind,zd]
 unfold askM findM
 by_cases h1:TOk t
 ·simp only[show ¬ ¬ TOk t from fun h=>h h1,yx]
  by_cases h2:hasP t.B c y=true
  ·have hlt:=(pix_lt h2).1
   have hp:=h1.potAt h2
   have l0:=h1.2.1
   obtain⟨q1,q2,q3,q4⟩:=hp.small h1.1.2
   have l1:=hp.2.2.2.1.1.1
   have l3:=hp.2.2.2.1.2.2.1.1
   have e0:=h1.1
   simp only[show ¬ ¬ hasP t.B c y=true from fun h=>h h2,yx]
   by_cases h3:1<=k/\k<=t.N
   ·simp only[show ¬ ¬ (1<=k/\k<=t.N) from fun h=>h h3,show ¬ ¬ (hasP t.B c y=true/\1<=k/\k<=t.N) from fun h=>h ⟨h2,h3⟩,yx]
    rw[y5 (show ¬ ((0:Int) != 0)=true from sj)]
    by_cases h4:1<=x/\x<=1000000000000000
    ·have t1:=nth_tot hp.2.2.2.1.2.2.1 h3
     unfold tot at t1
     rw[y5 (by simp only[yc,y7]; omega)]
     simp only[show ¬ ¬ (1<=x/\x<=1000000000000000) from fun h=>h h4,yx,wrapK (k:=k) om,ye]
     rw[z5m h1.small hlt (h1.pos h2)]
     simp only[obind,show t.B.getD (pix t.B c y) dF=potAt t c y from rfl,yo,show (potAt t c y).K.getD (k-1).toNat dF=nth (potAt t c y).K k from rfl,show (potAt t c y).A.getD (k-1).toNat dF=nth (potAt t c y).A k from rfl]
     rw[za (by simp only[AllP,yn]; omega),wrapId (n:=nth (potAt t c y).K k+x) om om]
     by_cases h5:nth (potAt t c y).A k<nth (potAt t c y).K k+x
     ·rw[y6 (show decide (nth (potAt t c y).K k+x>nth (potAt t c y).A k)=true from yd h5),y6 h5]
     ·rw[y5 (show ¬ decide (nth (potAt t c y).K k+x>nth (potAt t c y).A k)=true by rw[y7]; exact h5),y5 h5]
      rw[za (by simp only[AllP,yn]; omega),za (by simp only[AllP,yn,ya]),za (by simp only[AllP,yn,ya]; omega),za (by simp only[AllP,yn,ya]; omega)]
      rfl
    ·rw[y6 (by simp only[yc,y7]; omega)]
     simp only[h4,yk,y18]
   ·simp only[h3,and_false,yk,y18]; rfl
  ·simp only[h2,y56,yk,y18,yv]; rfl
 ·simp only[h1,yk,y18]; rfl
theorem r13_Hear_eq (hs:Small t) (m:TMe):F_q5e t m=some (hearM t m):=by
 simp only[F_q5e,S_q5e,Scr.den,r13_Valid_eq hs,r13_find_eq hs,obind,zd]
 unfold hearM findM
 by_cases h0:m.To=0
 ·rw[y5 (show ¬ m.To≠0 from fun h=>h h0)]
  by_cases h1:TOk t
  ·rw[y5 (by rw[yd h1]; simp[h0])]
   simp only[show ¬ ¬ TOk t from fun h=>h h1,yx]
   by_cases h2:hasP t.B m.D m.E=true
   ·have hlt:=(pix_lt h2).1
    have hp:=h1.potAt h2
    have l0:=h1.2.1
    obtain⟨q1,q2,q3,q4⟩:=hp.small h1.1.2
    have l1:=hp.2.2.2.1.1.1
    have l2:=hp.2.2.2.1.2.1.1
    have l4:=hp.2.2.2.1.2.2.2.1
    have e0:=h1.1
    simp only[show ¬ ¬ hasP t.B m.D m.E=true from fun h=>h h2,yx]
    by_cases h3:1<=m.Aa/\m.Aa<=t.N
    ·simp only[show ¬ ¬ (1<=m.Aa/\m.Aa<=t.N) from fun h=>h h3,show ¬ ¬ (hasP t.B m.D m.E=true/\1<=m.Aa/\m.Aa<=t.N) from fun h=>h ⟨h2,h3⟩,yx]
     rw[y5 (show ¬ ((0:Int) != 0)=true from sj)]
     simp only[wrapK (k:=m.Aa) om,ye,z3w,show t.B.getD (pix t.B m.D m.E) dF=potAt t m.D m.E from rfl,show (potAt t m.D m.E).A.getD (m.Aa-1).toNat dF=nth (potAt t m.D m.E).A m.Aa from rfl]
     have hgu:∀ a:Prop,AllP [a->(0:Int)<=((pix t.B m.D m.E:Nat):Int),a->pix t.B m.D m.E<t.B.length,a->(0:Int)<=(((m.Aa-1).toNat:Nat):Int),a->(m.Aa-1).toNat<(potAt t m.D m.E).A.length] :=
      fun a=>⟨fun _=>om,fun _=>hlt,fun _=>om,fun _=>om,trivial⟩
     by_cases h4:0<=m.M/\m.M<=nth (potAt t m.D m.E).A m.Aa
     ·rw[zk (by rw[yh (show ¬ m.M<0 from om),yh (show ¬ m.M>nth (potAt t m.D m.E).A m.Aa from om)]; exact⟨rfl,trivial⟩)]
      simp only[obind]
      rw[za (hgu _)]
      by_cases h5:tot m.P
      ·rw[y5 (by rw[yh (show ¬ m.M<0 from om),yh (show ¬ m.M>nth (potAt t m.D m.E).A m.Aa from om),yd h5]; simp),y5 (show ¬ ¬ ((0<=m.M/\m.M<=nth (potAt t m.D m.E).A m.Aa)/\tot m.P) from fun h=>h ⟨h4,h5⟩)]
       rw[z5m h1.small hlt (h1.pos h2)]
       simp only[obind,show t.B.getD (pix t.B m.D m.E) dF=potAt t m.D m.E from rfl,yo,show (potAt t m.D m.E).L.getD (m.Aa-1).toNat dF=nth (potAt t m.D m.E).L m.Aa from rfl,maxE]
       rw[za (by simp only[AllP,yn]; omega),za (by simp only[AllP,yn]; omega),za (by simp only[AllP,ya,and_self]),za (by simp only[AllP,yn,ya]; omega),za (by simp only[AllP,yn,ya]; omega)]
       rfl
      ·rw[y6 (by rw[yh h5]; simp),y6 (show ¬ ((0<=m.M/\m.M<=nth (potAt t m.D m.E).A m.Aa)/\tot m.P) from fun h=>h5 h.2)]
     ·have hb:(decide (m.M<0)||decide (m.M>nth (potAt t m.D m.E).A m.Aa))=true:=by
       simp only[yc,y7]; omega
      rw[zp (by rw[hb]; simp[AllP])]
      simp only[obind]
      rw[za (hgu _),y6 (by rw[hb]; rfl),y6 (show ¬ ((0<=m.M/\m.M<=nth (potAt t m.D m.E).A m.Aa)/\tot m.P) from fun h=>h4 h.1)]
    ·simp only[h3,and_false,yk,y18]; rfl
   ·simp only[h2,y56,yk,y18,yv]; rfl
  ·rw[y6 (by rw[yh h1]; rfl)]
   simp only[h1,yk,y18]
 ·rw[y6 (by simp[h0]),y6 (show m.To≠0 from h0)]
def divideM (t:TTr) (c:Y8) (y:Int) (a:List Int):TTr×Int :=
 if ¬ TOk t then (zT,1) else if ¬ hasP t.B c y=true then (zT,6) else if ¬ (a.length:Int)=t.N then (zT,6) else if ¬ rowT a=true then (zT,2) else
  if (giveV (potAt t c y).W (potAt t c y) a).1≠0 then (zT,(giveV (potAt t c y).W (potAt t c y) a).1)
  else (putP t c y (withG (potAt t c y) (giveV (potAt t c y).W (potAt t c y) a).2),0)
theorem zi8:∀ (a b:List Int) (u v:Int),a.length=b.length ->
  (a.zip b).foldl (fun (s:Int×Int) x=>(i64.wrap (s.1+x.1),i64.wrap (s.2+x.2))) (i64.wrap u,i64.wrap v)=(i64.wrap (u+a.sum),i64.wrap (v+b.sum))
 | [],[],u,v,_=>sj
 | x :: a,y :: b,u,v,h=>by
  simp only[List.zip_cons_cons,y2x,z6f,y25]
  rw[zi8 a b (u+x) (v+y) (by simpa using h),y5q,y5q]
 | [],_ :: _,_,_,h=>by simp at h
 | _ :: _,[],_,_,h=>by simp at h
theorem zq6 {b:List Int} (h:a.length=b.length) (hi:i<a.length):(a.zip b).getD i dF=(a.getD i dF,b.getD i dF):=by
 rw[y8,yb sk,List.getElem_zip,z29 hi,z29 om]
 rfl
theorem zgh (hs:Small t) (c:Y8) (y:Int) (a:List Int):F_qa t c y a=some (divideM t c y a):=by
 simp only[F_qa,S_qa,Scr.den,r13_find_eq hs,obind]
 unfold divideM
 by_cases h1:TOk t
 ·simp only[findM,show ¬ ¬ TOk t from fun h=>h h1,yx]
  by_cases h2:hasP t.B c y=true
  ·have hlt:=(pix_lt h2).1
   have hp:=h1.potAt h2
   have l0:=h1.2.1
   obtain⟨q1,q2,q3,q4⟩:=hp.small h1.1.2
   have l1:=hp.2.2.2.1.1.1
   have e0:=h1.1
   have ho:=zba hp h1.1.2
   have ht:=hp.2.2.1
   simp only[show ¬ ¬ hasP t.B c y=true from fun h=>h h2,show ¬ ¬ (hasP t.B c y=true/\(1:Int)<=1/\1<=t.N) from fun h=>h ⟨h2,om,om⟩,yx]
   rw[y5 (show ¬ ((0:Int) != 0)=true from sj)]
   by_cases h3:(a.length:Int)=t.N
   ·rw[y5 (show ¬ ((a.length:Int) != t.N)=true by simp[h3]),y5 (show ¬ ¬ (a.length:Int)=t.N from fun h=>h h3)]
    simp only[ye]
    have hl:a.length=(potAt t c y).A.length:=om
    have hz:(a.zip (potAt t c y).A).length=a.length:=sk
    have hch:=zdv (ρ:=R_qa) (body:=fun i s=>(S_qa_b1 t a ((pix t.B c y:Int),0) i s).den) (a.zip (potAt t c y).A) (fun i=>tot (a.getD i dF))
     (fun (s:Int×Int) x=>(i64.wrap (s.1+x.1),i64.wrap (s.2+x.2))) (c:=(zT,2)) (s0:=(0,0)) (fun i s hi=>by
      rw[hz] at hi
      simp only[S_qa_b1,Scr.den,z3w,obind,ye,show t.B.getD (pix t.B c y) dF=potAt t c y from rfl,zq6 hl hi]
      by_cases c1:tot (a.getD i dF)
      ·rw[y5 (by rw[yd c1]; simp),y6 c1,za (by simp only[AllP,yn]; omega)]
      ·rw[y6 (by rw[yh c1]; rfl),y5 c1])
    rw[hz] at hch
    rw[hch]
    by_cases h4:rowT a=true
    ·have ha:=z63.1 h4
     have s1:=z56 ha
     have s2:=z56 hp.2.2.2.1.1.2
     have hf:=zi8 a (potAt t c y).A 0 0 hl
     rw[z87,Int.zero_add,Int.zero_add,wrapId (n:=a.sum) om om,wrapId (n:=(potAt t c y).A.sum) om om] at hf
     rw[y6 (z3k.2 ha),hf,y5 (show ¬ ¬ rowT a=true from fun h=>h h4)]
     simp only[outM,show t.B.getD (pix t.B c y) dF=potAt t c y from rfl]
     rw[zj8 om]
     simp only[obind]
     rw[za (by simp only[AllP,yn]; omega),wrapId (n:=(potAt t c y).W-outV (potAt t c y)) om om,wrapId (n:=a.sum+(potAt t c y).A.sum) om om]
     unfold giveV
     by_cases c1:(potAt t c y).W-outV (potAt t c y)<a.sum
     ·rw[y6 (show decide (a.sum>(potAt t c y).W-outV (potAt t c y))=true from yd c1),y6 c1]
      rfl
     ·rw[y5 (show ¬ decide (a.sum>(potAt t c y).W-outV (potAt t c y))=true by rw[y7]; exact c1),y5 c1]
      by_cases c2:1000000000000000<(potAt t c y).A.sum+a.sum
      ·rw[y6 (yd om),y6 c2]
       rfl
      ·rw[y5 (by rw[y7]; omega),y5 c2,z5m h1.small hlt (h1.pos h2)]
       simp only[obind,show t.B.getD (pix t.B c y) dF=potAt t c y from rfl]
       rw[zi7 (ρ:=R_qa) (G:=(potAt t c y).A) (a:=a) (body:=fun i s=>(S_qa_b2 a ((pix t.B c y:Int),0) (t.N,t.B) i s).den) hl (fun j s hj hs'=>by
        simp only[S_qa_b2,Scr.den,ye,show t.B.getD (pix t.B c y) dF=potAt t c y from rfl]
        rw[za (by simp only[AllP,yn]; omega)]) hp.2.2.2.1.1.2 ha]
       simp only
       rw[za (by simp only[AllP,yn]; exact addN_length),za (by simp only[AllP,yn]; exact⟨by rw[addN_length]; omega,om,om,om⟩),za (by simp only[AllP,yn,ya]; omega)]
       rfl
    ·rw[y5 fun h=>h4 (z63.2 (z3k.1 h)),y6 (show ¬ rowT a=true from h4)]
     rfl
   ·rw[y6 (show ((a.length:Int) != t.N)=true by simp[h3]),y6 (show ¬ (a.length:Int)=t.N from h3)]
  ·simp only[h2,y56,yk,y18,yv]; rfl
 ·simp only[findM,h1,yk,y18]; rfl
theorem r13_Grant_eq (hs:Small t) (k:Int) (c:Y8) (y x:Int):F_q56 t k c y x=some (grantM t k c y x):=by
 simp only[F_q56,S_q56,Scr.den,r13_find_eq hs,obind,zd]
 unfold grantM
 by_cases h1:TOk t
 ·simp only[findM,show ¬ ¬ TOk t from fun h=>h h1,yx]
  by_cases h2:hasP t.B c y=true
  ·have hp:=h1.potAt h2
   have l1:=hp.2.2.2.1.1.1
   have e0:=h1.1
   simp only[show ¬ ¬ hasP t.B c y=true from fun h=>h h2,yx]
   by_cases h3:1<=k/\k<=t.N
   ·simp only[show ¬ ¬ (1<=k/\k<=t.N) from fun h=>h h3,show ¬ ¬ (hasP t.B c y=true/\1<=k/\k<=t.N) from fun h=>h ⟨h2,h3⟩,yx]
    rw[y5 (show ¬ ((0:Int) != 0)=true from sj)]
    by_cases h4:1<=x/\x<=1000000000000000
    ·rw[y5 (by simp only[yc,y7]; omega)]
     simp only[show ¬ ¬ (1<=x/\x<=1000000000000000) from fun h=>h h4,yx,wrapK (k:=k) om,ye,yo]
     have e2:t.N.toNat=(potAt t c y).A.length:=om
     rw[e2,za (by simp only[AllP,yn]; omega),za (by simp only[AllP,yn,y1x]; omega),za (by simp only[AllP,yn,ya,y1x]; omega)]
     show (F_qa t c y (oneHot (potAt t c y).A.length (k-1).toNat x)).bind _=_
     rw[zgh hs]
     unfold divideM
     simp only[show ¬ ¬ TOk t from fun h=>h h1,show ¬ ¬ hasP t.B c y=true from fun h=>h h2,show ¬ ¬ (((oneHot (potAt t c y).A.length (k-1).toNat x).length:Int)=t.N) from fun h=>h (by rw[oneHot_length]; exact l1),
      show ¬ ¬ rowT (oneHot (potAt t c y).A.length (k-1).toNat x)=true from fun h=>h (z63.2 (oneHot_tot h4)),yx]
     rfl
    ·rw[y6 (by simp only[yc,y7]; omega)]
     simp only[h4,yk,y18]
   ·simp only[h3,and_false,yk,y18]; rfl
  ·simp only[h2,y56,yk,y18,yv]; rfl
 ·simp only[findM,h1,yk,y18]; rfl
end Go.Proofs.YtlhikmklpelceaaGreatDoor.J13
