/- A part of the proof: plain laws of what the functions compute. No condition. -/
import Derived.Test.YtkhgaalekilaeaaGreatDoorP2
import Derived.Test.YtkhgaalekilaeaaGreatDoorT10
import Derived.Lib.ItoaLen
namespace Go.Proofs.YtkhgaalekilaeaaGreatDoor
open Go Go.TA
open Go.IntKind (i64)
def noO:TOf:=⟨0,[],nb⟩
def msgOf (p:TOp):TMe:=⟨0,0,p.B,p.D,p.A,p.Ae,0,0⟩
def hearS (o:TOf) (p:TOp):TOf×Int :=
 if ¬ good p.B=true then (noO,5) else
 if p.D<0\/p.D>99 then (noO,2) else
 if hasR o.L p.B p.D=false/\(o.L.length:Int)=60 then (noO,3) else
 if (learnS (rightV o.L p.B p.D) (msgOf p)).2≠0 then (noO,(learnS (rightV o.L p.B p.D) (msgOf p)).2) else
 (⟨o.Q,putL o.L (learnS (rightV o.L p.B p.D) (msgOf p)).1,o.Ag⟩,0)
def giveS (o:TOf) (p:TOp):TOf×Int :=
 if ¬ hasR o.L p.B p.D=true then (noO,6) else
 if (returnS (rightV o.L p.B p.D) (usedV o.Ag p.B p.D) p.V).2≠0 then (noO,(returnS (rightV o.L p.B p.D) (usedV o.Ag p.B p.D) p.V).2) else
 (⟨o.Q,putL o.L (returnS (rightV o.L p.B p.D) (usedV o.Ag p.B p.D) p.V).1,o.Ag⟩,0)
noncomputable def bookS (b:TBo) (p:TOp):TBo×Int :=
 if p.U=1 then reserveS b p.B p.D p.Ab p.V else
 if p.U=2 then commitS b p.Of p.Ab p.V p.Ah p.Aj else
 if p.U=3 then verifyS b p.Of p.Ab p.V else
 if p.U=4 then orderS b p.Of p.Ab else
 if p.U=5 then releaseS b p.Of p.V else
 if p.U=6 then dropS b p.Of p.V else backS b p.Of
noncomputable def stepS (o:TOf) (p:TOp):TOf×Int :=
 if p.U=8 then hearS o p else
 if p.U=7 then giveS o p else
 if (bookS o.Ag p).2≠0 then (noO,(bookS o.Ag p).2) else
 if p.U=1/\p.V>unusedV o p.B p.D then (noO,15) else
 (⟨o.Q,o.L,(bookS o.Ag p).1⟩,0)
open Classical in
noncomputable def doS (o:TOf) (p:TOp):TOf×Int :=
 if ¬ VO o\/p.U<1\/p.U>9 then (noO,1) else stepS o p
variable {o:TOf}
theorem VO.srt (h:VO o):Srt o.L:=h.2.2.2.2.1
theorem VO.ok (h:VO o):∀ x∈o.L,RtOk x:=h.2.2.2.1
theorem VO.val (h:VO o):Val o.Ag:=h.2.2.1
theorem VO.len (h:VO o):o.L.length<=60:=h.2.1
theorem z3y (l:List TRi) (c:Y8) (y:Int):(rightV l c y).B=c/\(rightV l c y).D=y:=by
 by_cases h:hasR l c y=true
 ·exact (z31 h).2
 ·unfold rightV; rw[y7 h]; exact⟨rfl,rfl⟩
variable {l:List TRi} {c:Y8}
theorem z9p (_hg:∀ x∈l,RtOk x) (hc:c.length<=1000000) (y:Int):(rightV l c y).B.length<=1000000:=by
 rw[(z3y l c y).1]; exact hc
variable {r:TRi}
theorem zb8 {m:TMe} (h:(learnS r m).2=0):RtOk r/\tot m.A/\tot m.G/\(learnS r m).1=⟨r.B,r.D,if m.A>r.A then m.A else r.A,if m.G>r.G then m.G else r.G,r.S⟩/\RtOk (learnS r m).1:=by
 unfold learnS at h |-
 split at h
 ·cases h
 ·rename_i h1
  split at h
  ·cases h
  ·rename_i h2
   have h1:=nnm h1
   have h2:=nnm h2
   rw[y7 (fun k=>k h1),y7 (fun k=>k h2)]
   refine⟨h1.1,h2.1,h2.2,rfl,?_⟩
   have h3:=h1.1
   unfold RtOk tot at *
   refine⟨h3.1,h3.2.1,?_,?_,?_⟩
   ·simp only; split <;> omega
   ·simp only; split <;> omega
   ·simp only; split <;> omega
variable {n u:Int}
theorem z9q (h:(returnS r u n).2=0):RtOk r/\(0<=u/\u<=r.A-r.S)/\1<=n/\n<=r.A-r.S-u/\(returnS r u n).1=⟨r.B,r.D,r.A,r.G,r.S+n⟩/\RtOk (returnS r u n).1:=by
 unfold returnS at h |-
 split at h
 ·cases h
 ·rename_i h1
  split at h
  ·cases h
  ·rename_i h2
   split at h
   ·cases h
   ·rename_i h3
    have h1:=nnm h1
    have h2:=nnm h2
    have h4:=h1.1
    unfold RtOk at h4
    have w1:i64.wrap (r.A-r.S)=r.A-r.S:=wrapId om om
    rw[y7 (fun k=>k h1),y7 (fun k=>k h2),y7 h3]
    obtain⟨h5,h6,h7⟩:=h1
    rw[w1] at h7 h3
    rw[wrapId (n:=r.A-r.S-u) om om] at h3
    rw[wrapId (n:=r.S+n) om om]
    refine⟨h5,⟨h6,h7⟩,h2.1,om,rfl,h4.1,h4.2.1,h4.2.2.1,h4.2.2.2.1,?_⟩
    simp only; omega
theorem zjj {l:Y8}:(((parts l).length:Int)==0)=!good l:=by
 rw[<- z3g,y1q]; simp
variable {p:TOp}
theorem zu8 (hv:VO o) (hc:p.B.length<=1000000):F_q5m o p=some (hearS o p):=by
 have hl:=hv.len
 have hr:=z9p hv.ok hc p.D
 simp only[F_q5m,S_q5m,Scr.den,z3h (show p.B.length<=1099511627776 from om),zea,z2r,zec hr,obind,z9,zd,zjj]
 unfold hearS
 refine st sj (fun _=>rfl) fun _=>?_
 refine st sj (fun _=>rfl) fun _=>?_
 refine st sj (fun _=>rfl) fun _=>?_
 refine st (by simp only[y1j,ne_eq]; exact Iff.rfl) (fun _=>rfl) fun h=>?_
 have h:=nnm h
 have h1:=zb8 h
 rw[show (⟨0,0,p.B,p.D,p.A,p.Ae,0,0⟩:TMe)=msgOf p from rfl,zpm om hv.srt hv.ok h1.2.2.2.2]
 rfl
theorem zfr (hv:VO o) (hc:p.B.length<=1000000):F_q5o o p=some (giveS o p):=by
 have hl:=hv.len
 have hr:=z9p hv.ok hc p.D
 simp only[F_q5o,S_q5o,Scr.den,zea,z2r,zbv,zdh hr,obind]
 unfold giveS
 refine st sj (fun _=>rfl) fun _=>?_
 refine st (by simp only[y1j,ne_eq]) (fun _=>rfl) fun h=>?_
 have h:=nnm h
 have h1:=z9q h
 rw[zpm om hv.srt hv.ok h1.2.2.2.2.2]
 rfl
variable {b:TBo}
theorem zu9 (hb:Small b) (hc:p.B.length<=1000000):F_q5z b p=some (bookS b p):=by
 simp only[F_q5z,S_q5z,Scr.den,zn3 hb hc,zpd hb,zpe hb,zrw hb,zn4 hb,zu2 hb,zu3 hb,obind]
 unfold bookS
 refine st (by simp only[y15]) (fun _=>rfl) fun _=>?_
 refine st (by simp only[y15]) (fun _=>rfl) fun _=>?_
 refine st (by simp only[y15]) (fun _=>rfl) fun _=>?_
 refine st (by simp only[y15]) (fun _=>rfl) fun _=>?_
 refine st (by simp only[y15]) (fun _=>rfl) fun _=>?_
 refine st (by simp only[y15]) (fun _=>rfl) fun _=>rfl
variable {d:Int}
theorem zua {a:Bool} {x:Int} {_:Decidable (AllP [a=true])}:(a&&decide (n>if AllP [a=true] then x else d))=(a&&decide (n>x)):=by
 cases a
 ·rfl
 ·rw[y8 ⟨rfl,trivial⟩]
theorem zub (hv:VO o) (hs:SmO o) (hc:p.B.length<=1000000):F_q3u o p=some (stepS o p):=by
 open Classical in simp only[F_q3u,S_q3u,Scr.den,zu8 hv hc,zfr hv hc,zu9 hs.1 hc,zb7,z15,obind,zd,zua]
 unfold stepS
 refine st (by simp only[y15]) (fun _=>rfl) fun _=>?_
 refine st (by simp only[y15]) (fun _=>rfl) fun _=>?_
 refine st (by simp only[y1j,ne_eq]) (fun _=>rfl) fun _=>?_
 refine st (by simp only[yj,y15,y9]) (fun _=>rfl) fun _=>rfl
theorem zvo:zn8 nb:=by simp[zn8,nb]
theorem zdj (l:List TRi) (p:Nat) (hp:p<=l.length) (z r:TRi) :
  (copyL (l++[z]) (0+(p+1)) (min ((l++[z]).length-p) ((l++[z]).length-(p+1))) (fun i=>(l++[z]).getD ((0+p)+i) dF)).set (0+p) r=insL l p r:=by
 refine y34 (by simp[copyL,insL]; omega) fun i h1 h2=>?_
 have hi:i<l.length+1:=by rw[zu] at h2; exact h2
 rw[<- z18 h2,z1s hp,y4e]
 by_cases e:i<p
 ·rw[y7 om,y8 e]
  simp only[copyL,y3q,y3i]
  rw[y7 om,ya,ya,yn om]
 ·by_cases e2:i=p
  ·rw[y8 om,y7 e,y8 e2]
  ·rw[y7 om,y7 e,y7 e2]
   simp only[copyL,y3q,y3i,yp,y1w]
   rw[y8 om,show 0+p+(i-(0+(p+1)))=i-1 from om,ya,ya,yn om]
theorem zpn (hv:VO o) {q:(TRi×Int)} (hr:RtOk q.1) (hn:hasR o.L q.1.B q.1.D=false) :
  iterM (fun s=>(S_q2g_b1 o q s).den) 0=some (.next (posR o.L q.1:Int)):=by
 have hl:=hv.len
 have hp:=z71 o.L q.1
 obtain⟨s,e,hJ⟩:=z2i (step:=fun s=>(S_q2g_b1 o q s).den) (fun s=>(61-s).toNat) (fun s=>0<=s/\s<=(posR o.L q.1:Int)) (fun s=>s=(posR o.L q.1:Int)) (fun s hI=>by
  obtain⟨i,rfl⟩:=Int.eq_ofNat_of_zero_le hI.1
  have hi:i<=posR o.L q.1:=om
  simp only[S_q2g_b1,Scr.den,yg,yo,z9,zd]
  by_cases h:i<o.L.length
  ·have hg:=hv.ok _ (z8 h)
   rw[y8 sk,z4b hg.1 hr.1,obind,z7 ⟨om,h,h,trivial⟩,z7 ⟨fun _=>om,fun _=>h,fun _=>h,trivial⟩]
   have hc:=z8r (a:=o.L.getD i dF) (b:=q.1) (.inl hg.1)
   have hne:cmpR (o.L.getD i dF) q.1≠0:=fun h0=>by
    obtain⟨k1,k2⟩:=(z5w hg.1 hr.1).1 h0
    have:hasR o.L q.1.B q.1.D=true:=has_iff.2 ⟨_,z8 h,k1,k2⟩
    rw[hn] at this; cases this
   by_cases hip:i<posR o.L q.1
   ·left
    have hlt:=hc.1 (zby hip)
    rw[y7 (by
     simp only[ye,yj,y9,y15]
     exact fun k=>ltr hlt (k.imp id fun k=>⟨k.1,om⟩)),wrapId om om]
    exact⟨_,rfl,⟨om,om⟩,om⟩
   ·right
    have hge:0<=cmpR (o.L.getD i dF) q.1:=by
     have:i=posR o.L q.1:=om
     subst this; exact zbz h
    rw[y8 (by
     have k1:¬ _:=fun k=>absurd (hc.2 k) om
     have k2:¬ (lexC (parts (o.L.getD i dF).B) (parts q.1.B)=0/\(o.L.getD i dF).D=q.1.D):=fun k=>hne ((z5w hg.1 hr.1).2 ⟨z81 hg.1 hr.1 (z36 k.1),k.2⟩)
     simp only[ye,yj,y9,y15]
     rcases ltr' k1 with k | ⟨k,k'⟩
     ·exact .inl k
     ·exact .inr ⟨k,by have:¬ _:=fun e=>k2 ⟨k,e⟩; omega⟩)]
    exact⟨_,rfl,om⟩
  ·right
   rw[y7 (by simpa using h)]
   exact⟨_,rfl,om⟩) _ 0 (y4b _) ⟨om,om⟩
 rw[e,hJ]
theorem zkv (hv:VO o) (hc:p.B.length<=1000000):F_q2g o p=some (hearS o p):=by
 have hl:=hv.len
 have hr:=z9p hv.ok hc p.D
 simp only[F_q2g,S_q2g,Scr.den,z33 (show p.B.length<4611686018427387904 from om),at_eq,z1i,zjh hr,obind,z9,zd]
 unfold hearS
 refine st sj (fun _=>rfl) fun _=>?_
 refine st sj (fun _=>rfl) fun _=>?_
 refine st (by cases hh:hasR o.L p.B p.D <;> simp <;> (try exact fun h1=>absurd h1 (y2w.2 (y21 _)))) (fun _=>rfl) fun _=>?_
 refine st (by simp only[y1j,ne_eq]; exact Iff.rfl) (fun _=>rfl) fun h=>?_
 have h:=nnm h
 have h1:=zb8 h
 rw[show (⟨0,0,p.B,p.D,p.A,p.Ae,0,0⟩:TMe)=msgOf p from rfl,Ga]
 have hcy:(learnS (rightV o.L p.B p.D) (msgOf p)).1.B=p.B/\(learnS (rightV o.L p.B p.D) (msgOf p)).1.D=p.D:=by rw[h1.2.2.2.1]; exact z3y _ _ _
 generalize hq:learnS (rightV o.L p.B p.D) (msgOf p)=q at h h1 hcy |-
 have hlen:=zji o.L q.1
 have hp:=z71 o.L q.1
 unfold putL at hlen |-
 rw[hcy.1,hcy.2] at hlen |-
 by_cases hh:hasR o.L p.B p.D=true
 ·have h3:=(z3w hh).1
  rw[y8 hh] at hlen
  simp only[y8 hh]
  rw[y7 sj]
  simp only[outM,yg,yo]
  rw[z7 ⟨om,h3,h3,trivial⟩,z7 ⟨by rw[yl]; omega,trivial⟩]
 ·rw[y7 hh] at hlen
  simp only[y7 hh]
  have hn:hasR o.L q.1.B q.1.D=false:=by rw[hcy.1,hcy.2]; simpa using hh
  have hw:(i64.wrap ((posR o.L q.1:Int)+1)).toNat=posR o.L q.1+1:=by rw[wrapId om om]; omega
  have hw':i64.wrap ((posR o.L q.1:Int)+1)=(posR o.L q.1:Int)+1:=wrapId om om
  rw[y8 dk,zpn hv h1.2.2.2.2 hn]
  simp only[outM,yg,hw]
  rw[Ga,z7 ⟨by rw[hw']; omega,by rw[yp,y1w]; omega,om,by rw[yp,y1w]; omega,trivial⟩]
  simp only[yg]
  rw[zdj o.L (posR o.L q.1) hp]
  rw[zu] at hlen
  rw[z7 ⟨om,by rw[zt,yp,y1w]; omega,by rw[zt,yp,y1w]; omega,trivial⟩,z7 ⟨by rw[zu]; omega,trivial⟩]
theorem zb9 (hs:SmO o) (hc:p.B.length<=1000000):F_q53 o p=some (doS o p):=by
 simp only[F_q53,S_q53,Scr.den,z7j hs,zfm hs.1 hc,zhq hs.1,zhr hs.1,zj8 hs.1,zfn hs.1,zkp hs.1,zkq hs.1,za8,z4k,at_eq,obind,zd]
 by_cases hv:VO o
 ·rw[y7 (by simp[hv])]
  have hl:=hv.len
  have fin:∀ x:TBo×Int,outM (some (Out.next (x.1,x.2))) (fun (s:TBo×Int)=>if (s.2 != 0)=true then some (noO,s.2) else some ((⟨o.Q,o.L,s.1⟩:TOf),(0:Int))) some=some (if x.2≠0 then (noO,x.2) else (⟨o.Q,o.L,x.1⟩,0)):=fun x=>by
   simp only[outM]
   by_cases h:x.2=0 <;> simp[h]
  have hd:∀ {k:Int},p.U=k->1<=k->k<=9->doS o p=stepS o p:=fun h h1 h2=>by
   unfold doS; rw[y7 (fun k=>k.elim (fun k=>k hv) fun k=>om)]
  by_cases c1:p.U=1
  ·rw[y8 (by simpa using c1),hd c1 om om]
   unfold stepS bookS
   rw[y7 om,y7 om,y8 c1]
   generalize reserveS o.Ag p.B p.D p.Ab p.V=x
   by_cases hx:x.2=0
   ·rw[ze (by exact⟨by simp[hx],trivial⟩),obind]
    by_cases hu:p.V>unusedV o p.B p.D
    ·rw[y8 (by simp[hx]; exact hu),y7 (by simp[hx]),y8 ⟨c1,hu⟩]
     exact fin (x.1,15)
    ·rw[y7 (by simp[hx]; exact y2w.1 hu),y7 (by simp[hx]),y7 (fun k=>hu k.2)]
     rw[show (⟨o.Q,o.L,x.1⟩,(0:Int))=if x.2≠0 then (noO,x.2) else (⟨o.Q,o.L,x.1⟩,0) by rw[y7 (by simp[hx])]]
     exact fin x
   ·rw[zj (by simp[AllP,hx]),obind,y7 (by simp[hx]),y8 hx]
    rw[show (noO,x.2)=if x.2≠0 then (noO,x.2) else (⟨o.Q,o.L,x.1⟩,0) by rw[y8 hx]]
    exact fin x
  rw[y7 (by simpa using c1)]
  have hb:∀ {k:Int} (x:TBo×Int),p.U=k->2<=k->k<=9->k≠7->k≠8->bookS o.Ag p=x->outM (some (Out.next (x.1,x.2))) (fun (s:TBo×Int)=>if (s.2 != 0)=true then some (noO,s.2) else some ((⟨o.Q,o.L,s.1⟩:TOf),(0:Int))) some=some (doS o p):=fun x hk h1 h2 h3 h4 e=>by
   have h5:stepS o p=if x.2≠0 then (noO,x.2) else (⟨o.Q,o.L,x.1⟩,0):=by
    unfold stepS
    rw[y7 (show ¬ p.U=8 from om),y7 (show ¬ p.U=7 from om),e,y7 (fun k:p.U=1/\_=>c1 k.1)]
   rw[hd hk om h2,fin,h5]
  by_cases c2:p.U=2
  ·rw[y8 (by simpa using c2)]
   exact hb _ c2 om om om om (by unfold bookS; rw[y7 c1,y8 c2])
  rw[y7 (by simpa using c2)]
  by_cases c3:p.U=3
  ·rw[y8 (by simpa using c3)]
   exact hb _ c3 om om om om (by unfold bookS; rw[y7 c1,y7 c2,y8 c3])
  rw[y7 (by simpa using c3)]
  by_cases c4:p.U=4
  ·rw[y8 (by simpa using c4)]
   exact hb _ c4 om om om om (by unfold bookS; rw[y7 c1,y7 c2,y7 c3,y8 c4])
  rw[y7 (by simpa using c4)]
  by_cases c5:p.U=5
  ·rw[y8 (by simpa using c5)]
   exact hb _ c5 om om om om (by unfold bookS; rw[y7 c1,y7 c2,y7 c3,y7 c4,y8 c5])
  rw[y7 (by simpa using c5)]
  by_cases c6:p.U=6
  ·rw[y8 (by simpa using c6)]
   exact hb _ c6 om om om om (by unfold bookS; rw[y7 c1,y7 c2,y7 c3,y7 c4,y7 c5,y8 c6])
  rw[y7 (by simpa using c6)]
  by_cases c9:p.U=9
  ·rw[y8 (by simpa using c9)]
   exact hb _ c9 om om om om (by unfold bookS; rw[y7 c1,y7 c2,y7 c3,y7 c4,y7 c5,y7 c6])
  rw[y7 (by simpa using c9)]
  by_cases c8:p.U=8
  ·rw[y8 (by simpa using c8),zkv hv hc,hd c8 om om]
   unfold stepS
   rw[y8 c8]
   rfl
  rw[y7 (by simpa using c8)]
  by_cases c7:p.U=7
  ·rw[y8 (by simpa using c7),hd c7 om om]
   unfold stepS giveS
   rw[y7 c8,y8 c7]
   by_cases hh:hasR o.L p.B p.D=true
   ·have h3:=(z3w hh).1
    have hg:=hv.ok _ (z8 h3)
    have hrt:o.L.getD (rix o.L p.B p.D) dF=rightV o.L p.B p.D:=by unfold rightV; rw[y8 hh]
    simp only[y8 hh,yg,yo,zhs hg.len,obind]
    rw[y7 sj,z7 ⟨om,h3,trivial⟩,hrt,y7 (show ¬ ¬ hasR o.L p.B p.D=true from fun k=>k hh)]
    by_cases hx:(returnS (rightV o.L p.B p.D) (usedV o.Ag p.B p.D) p.V).2=0
    ·have h1:=z9q hx
     have hcy:(returnS (rightV o.L p.B p.D) (usedV o.Ag p.B p.D) p.V).1.B=p.B/\(returnS (rightV o.L p.B p.D) (usedV o.Ag p.B p.D) p.V).1.D=p.D:=by rw[h1.2.2.2.2.1]; exact z3y _ _ _
     rw[y7 (by simp[hx]),Ga,z7 ⟨h3,trivial⟩,z7 ⟨by rw[yl]; omega,trivial⟩,y7 (by simp[hx])]
     unfold putL
     rw[hcy.1,hcy.2,y8 hh]
     rfl
    ·rw[y8 (by simpa using hx),y8 hx]
     rfl
   ·simp only[y7 hh]
    rw[y8 dk,y8 hh]
    rfl
  rw[y7 (by simpa using c7)]
  have:doS o p=(noO,1):=by
   unfold doS
   split
   ·rfl
   ·rename_i h
    exact absurd om h
  rw[this]
  rfl
 ·rw[y8 (by simp[hv])]
  unfold doS
  rw[y8 (.inl hv)]
  rfl
def usedE (b:TBo) (c:Y8) (y:Int):Int:=sm b.C (fun r=>r.B==c&&r.D==y) (fun r=>r.V-r.Ad-rel b r.Q)
theorem zpo (h:Val b) (n:Int):0<=rel b n/\rel b n<=cmt b n:=by
 have hc:∀ c∈b.F,0<=c.Ad/\c.Ad<=c.V:=fun c hc=>(h.2.1.mem hc).1.2.2.2.2.1
 exact⟨zgt fun c k=>(hc c k).1,zty fun c k=>(hc c k).2⟩
theorem z2v (h:Val b) (c:Y8) (y:Int):usedV b c y=usedE b c y/\0<=usedE b c y/\usedE b c y<=200000000000000:=by
 have hb:0<=usedE b c y/\usedE b c y<=200 * 1000000000000:=zn5 (fun r hr=>by
  have h1:=z9n h hr
  have h2:=zpo h r.Q
  have h3:=(h.1.mem hr).1.2.2.2.2.2
  unfold amtP at h3
  omega) h.2.2.2.2.2.2.1 om
 refine⟨?_,hb.1,om⟩
 unfold usedV
 change i64.wrap (usedE b c y)=_
 exact wrapId om om
theorem zs2 (h:Val b) (hn:(b.C.length:Int)<n):rel b n=0:=by
 have h1:=zpo h n
 have h2:=zjc h hn
 omega
variable {y:Int} {code:Y8}
theorem zjk (h0:(reserveS b code y d n).2=0):Val b/\good code=true/\((0<=y/\y<=99)/\dayP d/\amtP n)/\yr d=y/\(b.C.length:Int)≠200/\(reserveS b code y d n).1=withR b (b.C++[⟨b.C.length+1,code,y,d,n,0⟩]):=by
 unfold reserveS at h0 |-
 obtain⟨e,c1⟩:=zw h0 dk; rw[e] at h0 |-; clear e
 obtain⟨e,c2⟩:=zw h0 dk; rw[e] at h0 |-; clear e
 obtain⟨e,c3⟩:=zw h0 dk; rw[e] at h0 |-; clear e
 obtain⟨e,c4⟩:=zw h0 dk; rw[e] at h0 |-; clear e
 obtain⟨e,c5⟩:=zw h0 dk; rw[e] at h0 |-; clear e
 exact⟨nnm c1,by simpa using c2,nnm c3,nnm c4,c5,rfl⟩
theorem zkw (h:Val b) (hg:good code=true) (hy:0<=y/\y<=99) (hd:dayP d) (hn:amtP n) (hyr:yr d=y) (hl:(b.C.length:Int)≠200):reserveS b code y d n=(withR b (b.C++[⟨b.C.length+1,code,y,d,n,0⟩]),0):=by
 unfold reserveS
 rw[y7 (fun k=>k h),y7 (by simp[hg]),y7 (fun k=>k ⟨hy,hd,hn⟩),y7 (fun k=>k hyr),y7 hl]
theorem zkx {r p:Int} (h0:(commitS b r d n p u).2=0):Val b/\Val (commitS b r d n p u).1/\(commitS b r d n p u).1.C=b.C:=by
 unfold commitS at h0 |-
 obtain⟨e,c1⟩:=zw h0 dk; rw[e] at h0 |-; clear e
 obtain⟨e,c2⟩:=zw h0 dk; rw[e] at h0 |-; clear e
 obtain⟨e,c3⟩:=zw h0 dk; rw[e] at h0 |-; clear e
 obtain⟨e,c4⟩:=zw h0 dk; rw[e] at h0 |-; clear e
 obtain⟨e,c5⟩:=zw h0 dk; rw[e] at h0 |-; clear e
 obtain⟨e,c6⟩:=zw h0 dk; rw[e] at h0 |-; clear e
 obtain⟨e,c7⟩:=zw h0 dk; rw[e] at h0 |-; clear e
 have c3:=nnm c3
 exact⟨nnm c1,zn6 (nnm c1) (nnm c2) c3.1 c3.2.1 c3.2.2.1 c3.2.2.2 (nnm c4) om om c7,rfl⟩
theorem zky {c:Int} (h0:(verifyS b c d n).2=0):Val b/\Val (verifyS b c d n).1/\(verifyS b c d n).1.C=b.C:=by
 unfold verifyS at h0 |-
 obtain⟨e,c1⟩:=zw h0 dk; rw[e] at h0 |-; clear e
 obtain⟨e,c2⟩:=zw h0 dk; rw[e] at h0 |-; clear e
 obtain⟨e,c3⟩:=zw h0 dk; rw[e] at h0 |-; clear e
 obtain⟨e,c4⟩:=zw h0 dk; rw[e] at h0 |-; clear e
 obtain⟨e,c5⟩:=zw h0 dk; rw[e] at h0 |-; clear e
 obtain⟨e,c6⟩:=zw h0 dk; rw[e] at h0 |-; clear e
 obtain⟨e,c7⟩:=zw h0 dk; rw[e] at h0 |-; clear e
 have c3:=nnm c3
 exact⟨nnm c1,zn7 (nnm c1) (nnm c2) c3.1 c3.2 om om om c7,rfl⟩
variable {v:Int}
theorem zna (h0:(orderS b v d).2=0):Val b/\Val (orderS b v d).1/\(orderS b v d).1.C=b.C:=by
 unfold orderS at h0 |-
 obtain⟨e,c1⟩:=zw h0 dk; rw[e] at h0 |-; clear e
 obtain⟨e,c2⟩:=zw h0 dk; rw[e] at h0 |-; clear e
 obtain⟨e,c3⟩:=zw h0 dk; rw[e] at h0 |-; clear e
 obtain⟨e,c4⟩:=zw h0 dk; rw[e] at h0 |-; clear e
 obtain⟨e,c5⟩:=zw h0 dk; rw[e] at h0 |-; clear e
 obtain⟨e,c6⟩:=zw h0 dk; rw[e] at h0 |-; clear e
 obtain⟨e,c7⟩:=zw h0 dk; rw[e] at h0 |-; clear e
 refine⟨nnm c1,zpg (nnm c1) (nnm c2) (nnm c3) om om (fun hl=>⟨?_,om⟩) c7,rfl⟩
 cases hb:(lastV b v).Al with
 | true=>rfl
 | false=>exact absurd ⟨hl,hb⟩ c5
theorem zjl {r:Int} (h0:(releaseS b r n).2=0):Val b/\Val (releaseS b r n).1/\amtP n/\(1<=r/\r<=b.C.length)/\n<=leftN b r/\(releaseS b r n).1=withR b (b.C.set (r-1).toNat ⟨(rAt b r).Q,(rAt b r).B,(rAt b r).D,(rAt b r).Ab,(rAt b r).V,i64.wrap ((rAt b r).Ad+n)⟩):=by
 unfold releaseS at h0 |-
 obtain⟨e,c1⟩:=zw h0 dk; rw[e] at h0 |-; clear e
 obtain⟨e,c2⟩:=zw h0 dk; rw[e] at h0 |-; clear e
 obtain⟨e,c3⟩:=zw h0 dk; rw[e] at h0 |-; clear e
 obtain⟨e,c4⟩:=zw h0 dk; rw[e] at h0 |-; clear e
 exact⟨nnm c1,zks (nnm c1) (nnm c2) (nnm c3) om,nnm c3,nnm c2,om,rfl⟩
theorem zpp {c:Int} (h0:(dropS b c n).2=0):Val b/\Val (dropS b c n).1/\amtP n/\(dropS b c n).1.C=b.C:=by
 unfold dropS at h0 |-
 obtain⟨e,c1⟩:=zw h0 dk; rw[e] at h0 |-; clear e
 obtain⟨e,c2⟩:=zw h0 dk; rw[e] at h0 |-; clear e
 obtain⟨e,c3⟩:=zw h0 dk; rw[e] at h0 |-; clear e
 obtain⟨e,c4⟩:=zw h0 dk; rw[e] at h0 |-; clear e
 exact⟨nnm c1,zry (nnm c1) (nnm c2) (nnm c3) om,nnm c3,rfl⟩
theorem zpq (h0:(backS b v).2=0):Val b/\Val (backS b v).1/\(backS b v).1.C=b.C/\(backS b v).1.F=b.F:=by
 unfold backS at h0 |-
 obtain⟨e,c1⟩:=zw h0 dk; rw[e] at h0 |-; clear e
 obtain⟨e,c2⟩:=zw h0 dk; rw[e] at h0 |-; clear e
 obtain⟨e,c3⟩:=zw h0 dk; rw[e] at h0 |-; clear e
 exact⟨nnm c1,zrz (nnm c1) om,rfl,rfl⟩
theorem zfs (h:Val b) {r:Int} (hn0:amtP n) (h0:(releaseS b r n).2=0) (code:Y8) (y:Int):(1<=r/\r<=b.C.length)/\usedV (releaseS b r n).1 code y=i64.wrap (usedV b code y-if mt b code y r=true then n else 0):=by
 have hn:1<=n/\n<=1000000000000:=hn0
 unfold releaseS at h0 |-
 obtain⟨e,_⟩:=zw h0 dk; rw[e] at h0 |-; clear e
 obtain⟨e,hr⟩:=zw h0 dk; rw[e] at h0 |-; clear e
 obtain⟨e,_⟩:=zw h0 dk; rw[e] at h0 |-; clear e
 obtain⟨e,_⟩:=zw h0 dk; rw[e] at h0 |-; clear e
 have hr:=nnm hr
 refine⟨hr,?_⟩
 have hk:(r-1).toNat<b.C.length:=om
 have f:=(h.1.at hr).2.2.2.2.2
 have f6:=f.1
 unfold amtP at f6
 have hw:i64.wrap ((rAt b r).Ad+n)=(rAt b r).Ad+n:=wrapId om om
 rw[hw]
 unfold usedV
 rw[z38]
 congr 1
 change sm (b.C.set (r-1).toNat _) _ (fun r=>r.V-r.Ad-rel b r.Q)=_
 rw[zj3 hk _ _ _ dF]
 change _-(if ((rAt b r).B==code&&(rAt b r).D==y)=true then (rAt b r).V-(rAt b r).Ad-rel b (rAt b r).Q else 0)+(if ((rAt b r).B==code&&(rAt b r).D==y)=true then (rAt b r).V-((rAt b r).Ad+n)-rel b (rAt b r).Q else 0)=_-(if ((rAt b r).B==code&&(rAt b r).D==y)=true then n else 0)
 split <;> omega
theorem zkz (h:Val b) {c:Int} (hn0:amtP n) (h0:(dropS b c n).2=0) (code:Y8) (y:Int):(1<=c/\c<=b.F.length)/\usedV (dropS b c n).1 code y=i64.wrap (usedV b code y-if mt b code y (cAt b c).Y=true then n else 0):=by
 have hn:1<=n/\n<=1000000000000:=hn0
 unfold dropS at h0 |-
 obtain⟨e,_⟩:=zw h0 dk; rw[e] at h0 |-; clear e
 obtain⟨e,hr⟩:=zw h0 dk; rw[e] at h0 |-; clear e
 obtain⟨e,_⟩:=zw h0 dk; rw[e] at h0 |-; clear e
 obtain⟨e,_⟩:=zw h0 dk; rw[e] at h0 |-; clear e
 have hr:=nnm hr
 refine⟨hr,?_⟩
 have hk:(c-1).toNat<b.F.length:=om
 have f:=(h.2.1.at hr)
 have f4:=f.2.2.2.1
 have f5:=f.2.2.2.2.1
 have f2:=f.2.1
 unfold amtP at f4
 have hw:i64.wrap ((cAt b c).Ad+n)=(cAt b c).Ad+n:=wrapId om om
 rw[hw]
 generalize hX:withC b (b.F.set (c-1).toNat ⟨(cAt b c).Q,(cAt b c).Y,(cAt b c).Ab,(cAt b c).V,(cAt b c).Ad+n,(cAt b c).Ah,(cAt b c).Aj⟩)=X
 have hrel:∀ m,rel X m=rel b m+if ((cAt b c).Y==m)=true then n else 0:=fun m=>by
  rw[<- hX]
  unfold rel withC
  simp only
  rw[zj3 hk _ _ _ dF]
  change _-(if ((cAt b c).Y==m)=true then (cAt b c).Ad else 0)+(if ((cAt b c).Y==m)=true then (cAt b c).Ad+n else 0)=_
  split <;> omega
 have e1:usedV X code y=i64.wrap (sm b.C (fun r=>r.B==code&&r.D==y) (fun r=>r.V-r.Ad-rel X r.Q)):=by
  unfold usedV
  rw[show X.C=b.C by rw[<- hX]; rfl]
 rw[e1]
 unfold usedV
 rw[z38]
 congr 1
 simp only[hrel]
 have e2:∀ r:TRe,r.V-r.Ad-(rel b r.Q+if ((cAt b c).Y==r.Q)=true then n else 0)=(r.V-r.Ad-rel b r.Q)-(if ((cAt b c).Y==r.Q)=true then n else 0):=fun r=>om
 simp only[e2]
 rw[zvl]
 congr 1
 have hi:((cAt b c).Y-1).toNat<b.C.length:=om
 have hnum:(b.C.getD ((cAt b c).Y-1).toNat dF).Q=(cAt b c).Y:=(h.1.at f2).1
 have:=zpj (num:=fun r:TRe=>r.Q) (q:=mt b code y) (p:=fun r=>r.B==code&&r.D==y) n b.C ((cAt b c).Y-1).toNat hi (fun j hj hji=>by
  have:=(h.1 j hj).1
  rw[hnum]; omega) (zvn h code y (z8 hi)).symm
 simp only[hnum] at this
 exact this
def Eff (b:TBo) (p:TOp) (b':TBo):Prop:=Val b/\Val b' /\
 (∀ c y,usedE b' c y<=usedE b c y+if p.U=1/\p.B=c/\p.D=y then p.V else 0) /\
 (p.U=1->1<=p.V/\p.V<=1000000000000/\∀ c y,usedE b' c y=usedE b c y+if p.B=c/\p.D=y then p.V else 0) /\
 (∀ x∈b'.C,(∃ z∈b.C,z.B=x.B/\z.D=x.D)\/(p.U=1/\x.B=p.B/\x.D=p.D)) /\
 b'.C.length<=b.C.length+1
theorem z7k {b':TBo} (hv:Val b) (hv':Val b') (hR:b'.C=b.C) (hk:p.U≠1) (hu:∀ c y,usedE b' c y<=usedE b c y):Eff b p b' :=
 ⟨hv,hv',fun c y=>by rw[y7 (fun k=>hk k.1)]; have:=hu c y; omega,fun k=>absurd k hk,fun x hx=>by rw[hR] at hx; exact .inl ⟨x,hx,rfl,rfl⟩,by rw[hR]; omega⟩
theorem zht (h:Val b) (code:Y8) (y d n:Int) (c:Y8) (z:Int):usedE (withR b (b.C++[⟨b.C.length+1,code,y,d,n,0⟩])) c z=usedE b c z+if code=c/\y=z then n else 0:=by
 unfold usedE
 have e:(withR b (b.C++[⟨b.C.length+1,code,y,d,n,0⟩])).C=b.C++[⟨b.C.length+1,code,y,d,n,0⟩]:=rfl
 have e2:∀ m,rel (withR b (b.C++[⟨b.C.length+1,code,y,d,n,0⟩])) m=rel b m:=fun m=>rfl
 simp only[e,e2]
 rw[z80,z1c,ze6]
 simp only[zs2 h (show (b.C.length:Int)<(b.C.length:Int)+1 from om),yj,y15]
 by_cases k:code=c/\y=z
 ·rw[y8 k,y8 k]; omega
 ·rw[y7 k,y7 k]; omega
theorem zs3 (h0:(bookS b p).2=0):Eff b p (bookS b p).1:=by
 unfold bookS at h0 |-
 by_cases c1:p.U=1
 ·rw[y8 c1] at h0 |-
  obtain⟨hv,hg,⟨hy,hd,hn⟩,hyr,hl,e⟩:=zjk h0
  rw[e]
  unfold amtP at hn
  have hu:=zht hv p.B p.D p.Ab p.V
  refine⟨hv,zkr hv hg hy hd hn hyr hl,fun c y=>?_,fun _=>⟨hn.1,hn.2,hu⟩,fun x hx=>?_,by simp[withR]⟩
  ·rw[hu]
   by_cases k:p.B=c/\p.D=y
   ·rw[y8 k,y8 ⟨c1,k⟩]; omega
   ·rw[y7 k,y7 (fun q=>k q.2)]; omega
  ·simp only[withR,y1p,y2b] at hx
   rcases hx with hx | rfl
   ·exact .inl ⟨x,hx,rfl,rfl⟩
   ·exact .inr ⟨c1,rfl,rfl⟩
 rw[y7 c1] at h0 |-
 have conv:∀ {b':TBo},Val b->Val b'->(∀ c y,usedV b' c y=usedV b c y)->∀ c y,usedE b' c y<=usedE b c y:=fun h h' e c y=>by
  have h1:=z2v h c y
  have h2:=z2v h' c y
  have:=e c y
  omega
 by_cases c2:p.U=2
 ·rw[y8 c2] at h0 |-
  obtain⟨hv,hv',hR⟩:=zkx h0
  exact z7k hv hv' hR c1 (conv hv hv' fun c y=>zje h0 c y)
 rw[y7 c2] at h0 |-
 by_cases c3:p.U=3
 ·rw[y8 c3] at h0 |-
  obtain⟨hv,hv',hR⟩:=zky h0
  exact z7k hv hv' hR c1 (conv hv hv' fun c y=>zjf h0 c y)
 rw[y7 c3] at h0 |-
 by_cases c4:p.U=4
 ·rw[y8 c4] at h0 |-
  obtain⟨hv,hv',hR⟩:=zna h0
  exact z7k hv hv' hR c1 (conv hv hv' fun c y=>zkt h0 c y)
 rw[y7 c4] at h0 |-
 by_cases c5:p.U=5
 ·rw[y8 c5] at h0 |-
  obtain⟨hv,hv',hn,hr,hL,e⟩:=zjl h0
  have hu:∀ c y,usedE (releaseS b p.Of p.V).1 c y<=usedE b c y:=fun c y=>by
   have h1:=z2v hv c y
   have h2:=z2v hv' c y
   have h3:=(zfs hv hn h0 c y).2
   unfold amtP at hn
   split at h3
   ·rw[wrapId om om] at h3; omega
   ·rw[wrapId om om] at h3; omega
  refine⟨hv,hv',fun c y=>by rw[y7 (fun k=>c1 k.1)]; have:=hu c y; omega,fun k=>absurd k c1,fun x hx=>?_,by rw[e]; simp[withR]⟩
  rw[e] at hx
  left
  rcases y1v hx with hx | rfl
  ·exact⟨x,hx,rfl,rfl⟩
  ·exact⟨rAt b p.Of,zfo hr,rfl,rfl⟩
 rw[y7 c5] at h0 |-
 by_cases c6:p.U=6
 ·rw[y8 c6] at h0 |-
  obtain⟨hv,hv',hn,hR⟩:=zpp h0
  refine z7k hv hv' hR c1 fun c y=>?_
  have h1:=z2v hv c y
  have h2:=z2v hv' c y
  have h3:=(zkz hv hn h0 c y).2
  unfold amtP at hn
  split at h3
  ·rw[wrapId om om] at h3; omega
  ·rw[wrapId om om] at h3; omega
 rw[y7 c6] at h0 |-
 obtain⟨hv,hv',hR,hC⟩:=zpq h0
 refine z7k hv hv' hR c1 (conv hv hv' fun c y=>?_)
 unfold usedV rel
 rw[hR,hC]
variable {x:TRi}
theorem uniqR (hS:Srt l) (hg:∀ x∈l,RtOk x) {y:TRi} (hx:x∈l) (hy:y∈l) (h1:x.B=y.B) (h2:x.D=y.D):x=y:=by
 obtain⟨i,hi,rfl⟩:=z13 hx
 obtain⟨j,hj,rfl⟩:=z13 hy
 have h0:=(z5w (hg _ hx).1 (hg _ hy).1).2 ⟨h1,h2⟩
 rcases y3v i j with h | h | h
 ·have:=hS.lt hg h hj; omega
 ·rw[h]
 ·have:=hS.lt hg h hi
  have h3:=zgx (b:=l.getD i dF) (hg _ hy).1
  omega
theorem zba (hS:Srt l) (hg:∀ x∈l,RtOk x) (hx:x∈l):rightV l x.B x.D=x:=by
 obtain⟨h1,h2,h3⟩:=z31 (has_iff.2 ⟨x,hx,rfl,rfl⟩:hasR l x.B x.D=true)
 exact uniqR hS hg h1 hx h2 h3
theorem znb {a a' b b':TRi} (h1:a.B=a'.B) (h2:a.D=a'.D) (h3:b.B=b'.B) (h4:b.D=b'.D):cmpR a b=cmpR a' b':=by
 unfold cmpR; rw[h1,h2,h3,h4]
theorem zft (h:x∈putL l r):x=r\/x∈l:=by
 unfold putL at h
 split at h
 ·exact (y1v h).symm
 ·unfold insL at h
  simp only[y1p,y16] at h
  rcases h with h | h | h
  ·exact .inr (y35 h)
  ·exact .inl h
  ·exact .inr (y36 h)
theorem z7l (l:List TRi) (r:TRi):r∈putL l r:=by
 unfold putL
 split
 ·rename_i h
  exact List.mem_set (z3w h).1 _
 ·unfold insL; simp
theorem zly (hx:x∈l) (h:¬ (x.B=r.B/\x.D=r.D)):x∈putL l r:=by
 unfold putL
 split
 ·rename_i hh
  obtain⟨h1,h2,h3⟩:=z3w hh
  obtain⟨i,hi,e⟩:=List.mem_iff_getElem.mp hx
  have hne:rix l r.B r.D≠i:=fun k=>h (by subst k; rw[z18 h1,e] at h2 h3; exact⟨h2,h3⟩)
  have h4:(l.set (rix l r.B r.D) r)[i]'(by rw[yl]; exact hi)=x:=by rw[y4e,y7 hne,e]
  rw[<- h4]
  exact y53 _
 ·unfold insL
  rw[y1p,y16]
  have:x∈l.take (posR l r)++l.drop (posR l r):=by rw[y2d]; exact hx
  rcases y1p.1 this with h | h
  ·exact .inl h
  ·exact .inr (.inr h)
theorem z6k (hg:∀ x∈l,RtOk x) (hr:RtOk r):∀ x∈putL l r,RtOk x:=fun x hx=>by
 rcases zft hx with rfl | h
 ·exact hr
 ·exact hg x h
theorem zlz (hS:Srt l) (hg:∀ x∈l,RtOk x) (hr:RtOk r):Srt (putL l r):=by
 unfold putL
 split
 ·rename_i hh
  obtain⟨h1,h2,h3⟩:=z3w hh
  intro i hi
  rw[yl] at hi
  have key:∀ j,(((l.set (rix l r.B r.D) r).getD j dF).B=(l.getD j dF).B)/\((l.set (rix l r.B r.D) r).getD j dF).D=(l.getD j dF).D:=fun j=>by
   rw[z5u _ _ _ _ h1]
   by_cases e:j=rix l r.B r.D
   ·rw[y8 e,e,h2,h3]; exact⟨rfl,rfl⟩
   ·rw[y7 e]; exact⟨rfl,rfl⟩
  refine (hS i hi).imp id fun k=>?_
  rw[znb (key (i-1)).1 (key (i-1)).2 (key i).1 (key i).2]
  exact k
 ·rename_i hh
  have hp:=z71 l r
  intro i hi
  rw[zu] at hi
  rw[z1s hp,z1s hp]
  by_cases h0:i=0
  ·exact .inl h0
  right
  by_cases c1:i<posR l r
  ·rw[y8 om,y8 c1]
   exact (hS i om).resolve_left h0
  ·by_cases c2:i=posR l r
   ·rw[y8 om,y7 c1,y8 c2]
    exact zby om
   ·rw[y7 c1,y7 c2]
    by_cases c3:i-1=posR l r
    ·rw[y7 om,y8 c3,c3]
     have h1:=zbz (l:=l) (r:=r) om
     have hm:l.getD (posR l r) dF∈l:=z8 om
     have h2:cmpR (l.getD (posR l r) dF) r≠0:=fun k=>by
      obtain⟨k1,k2⟩:=(z5w (hg _ hm).1 hr.1).1 k
      exact hh (has_iff.2 ⟨_,hm,k1,k2⟩)
     have h3:=zgx (b:=r) (hg _ hm).1
     omega
    ·rw[y7 om,y7 c3]
     have:=(hS (i-1) om).resolve_left om
     exact this
theorem zm0 (h:hasR l c y=true):hasR (putL l r) c y=true:=by
 obtain⟨x,hx,h1,h2⟩:=has_iff.1 h
 by_cases k:x.B=r.B/\x.D=r.D
 ·exact has_iff.2 ⟨r,z7l l r,by rw[<- k.1,h1],by rw[<- k.2,h2]⟩
 ·exact has_iff.2 ⟨x,zly hx k,h1,h2⟩
theorem z9r (hS:Srt l) (hg:∀ x∈l,RtOk x) (hr:RtOk r) (c:Y8) (y:Int):rightV (putL l r) c y=if r.B=c/\r.D=y then r else rightV l c y:=by
 have hS':=zlz hS hg hr
 have hg':=z6k hg hr
 by_cases k:r.B=c/\r.D=y
 ·rw[y8 k,<- k.1,<- k.2]
  exact zba hS' hg' (z7l l r)
 ·rw[y7 k]
  by_cases h:hasR l c y=true
  ·obtain⟨h1,h2,h3⟩:=z31 h
   have:=zba hS' hg' (zly (r:=r) h1 (by rw[h2,h3]; exact fun q=>k ⟨q.1.symm,q.2.symm⟩))
   rwa [h2,h3] at this
  ·have h':¬ hasR (putL l r) c y=true:=fun q=>by
    obtain⟨x,hx,h1,h2⟩:=has_iff.1 q
    rcases zft hx with rfl | hx
    ·exact k ⟨h1,h2⟩
    ·exact h (has_iff.2 ⟨x,hx,h1,h2⟩)
   unfold rightV
   rw[y7 h,y7 h']
theorem zuc (h:l.length<=60) (h2:hasR l r.B r.D=true\/(l.length:Int)≠60):(putL l r).length<=60:=by
 unfold putL
 split
 ·rw[yl]; exact h
 ·rename_i hh
  rw[zu]
  have:=h2.resolve_left hh
  omega
theorem z51 (hg:∀ x∈l,RtOk x) (c:Y8) (y:Int):0<=(rightV l c y).S/\(rightV l c y).S<=(rightV l c y).A/\(rightV l c y).A<=1000000000000000/\0<=(rightV l c y).G/\(rightV l c y).G<=1000000000000000:=by
 by_cases h:hasR l c y=true
 ·have:=hg _ (z31 h).1
  unfold RtOk at this
  omega
 ·unfold rightV; rw[y7 h]; simp
theorem z9s (hg:∀ x∈o.L,RtOk x) (hv:Val o.Ag) (c:Y8) (y:Int):unusedV o c y=(rightV o.L c y).A-(rightV o.L c y).S-usedE o.Ag c y:=by
 have h1:=z51 hg c y
 have h2:=z2v hv c y
 unfold unusedV
 rw[wrapId (n:=(rightV o.L c y).A-(rightV o.L c y).S) om om,h2.1,wrapId om om]
theorem VO.unused (h:VO o) (c:Y8) (y:Int):unusedV o c y=(rightV o.L c y).A-(rightV o.L c y).S-usedE o.Ag c y:=z9s h.ok h.val c y
theorem znc (h:∀ x∈b.C,¬ (x.B=c/\x.D=y)):usedE b c y=0:=by
 unfold usedE
 exact zlv fun x hx=>by
  have:=h x hx
  simp only[y3r,y3b,ne_eq]
  by_cases h1:x.B=c
  ·exact .inr fun h2=>this ⟨h1,h2⟩
  ·exact .inl h1
theorem VO.unused_nn (h:VO o) (c:Y8) (y:Int):0<=unusedV o c y:=by
 by_cases hx:∃ x∈o.Ag.C,x.B=c/\x.D=y
 ·obtain⟨x,hx,rfl,rfl⟩:=hx
  exact (h.2.2.2.2.2 x hx).2
 ·rw[h.unused,znc fun x hx' e=>hx ⟨x,hx',e⟩]
  have:=z51 h.ok c y
  omega
theorem VO.smO (h:VO o):SmO o:=by
 have h1:=h.val
 have h2:=h1.2.2.2.2.2.2
 refine⟨⟨⟨om,om,om,om⟩,fun r hr=>?_⟩,by have:=h.len; omega,fun r hr=>(h.ok r hr).len⟩
 have:=z3u (h1.1.mem hr).1.2.1
 omega
theorem zm1 (hv:VO o) (hk:p.U≠7/\p.U≠8) (h0:(stepS o p).2=0) :
  (stepS o p).1=⟨o.Q,o.L,(bookS o.Ag p).1⟩/\(bookS o.Ag p).2=0/\Eff o.Ag p (bookS o.Ag p).1/\(p.U=1->p.V<=unusedV o p.B p.D)/\VO (stepS o p).1:=by
 unfold stepS at h0 |-
 rw[y7 hk.2,y7 hk.1] at h0 |-
 by_cases c1:(bookS o.Ag p).2≠0
 ·rw[y8 c1] at h0; exact absurd h0 c1
 rw[y7 c1] at h0 |-
 by_cases c2:p.U=1/\p.V>unusedV o p.B p.D
 ·rw[y8 c2] at h0; cases h0
 rw[y7 c2]
 have c1:=nnm c1
 have he:=zs3 c1
 have hu:p.U=1->p.V<=unusedV o p.B p.D:=fun k=>y2w.1 fun q=>c2 ⟨k,q⟩
 refine⟨rfl,c1,he,hu,hv.1,hv.len,he.2.1,hv.ok,hv.srt,fun x hx=>?_⟩
 have hx:=he.2.2.2.2.1 x hx
 have hh:hasR o.L x.B x.D=true:=by
  rcases hx with ⟨z,hz,e1,e2⟩ | ⟨k,e1,e2⟩
  ·rw[<- e1,<- e2]; exact (hv.2.2.2.2.2 z hz).1
  ·rw[e1,e2]
   have h1:=hu k
   have h2:=(he.2.2.2.1 k).1
   refine Classical.byContradiction fun q=>?_
   rw[hv.unused] at h1
   have h3:=z2v hv.val p.B p.D
   unfold rightV at h1
   rw[y7 q] at h1
   simp only at h1
   omega
 refine⟨hh,?_⟩
 rw[z9s (o:=⟨o.Q,o.L,(bookS o.Ag p).1⟩) hv.ok he.2.1]
 have h1:=he.2.2.1 x.B x.D
 have h2:=hv.unused x.B x.D
 have h3:=hv.unused_nn x.B x.D
 by_cases k:p.U=1/\p.B=x.B/\p.D=x.D
 ·rw[y8 k] at h1
  have h4:=hu k.1
  rw[k.2.1,k.2.2] at h4
  simp only
  omega
 ·rw[y7 k] at h1
  simp only
  omega
theorem zpr (hv:VO o) (hr:RtOk r) (hl:hasR o.L r.B r.D=true\/(o.L.length:Int)≠60) (hu:usedE o.Ag r.B r.D<=r.A-r.S):VO ⟨o.Q,putL o.L r,o.Ag⟩:=by
 refine⟨hv.1,zuc hv.len hl,hv.val,z6k hv.ok hr,zlz hv.srt hv.ok hr,fun x hx=>⟨zm0 (hv.2.2.2.2.2 x hx).1,?_⟩⟩
 rw[z9s (o:=⟨o.Q,putL o.L r,o.Ag⟩) (z6k hv.ok hr) hv.val]
 simp only
 rw[z9r hv.srt hv.ok hr]
 by_cases k:r.B=x.B/\r.D=x.D
 ·rw[y8 k,<- k.1,<- k.2]; omega
 ·rw[y7 k]
  have h2:=hv.unused x.B x.D
  have h3:=hv.unused_nn x.B x.D
  omega
theorem zfu (hv:VO o) (h0:(hearS o p).2=0) :
  ∃ r,(hearS o p).1=⟨o.Q,putL o.L r,o.Ag⟩/\RtOk r/\r.B=p.B/\r.D=p.D/\r=⟨p.B,p.D,if p.A>(rightV o.L p.B p.D).A then p.A else (rightV o.L p.B p.D).A,if p.Ae>(rightV o.L p.B p.D).G then p.Ae else (rightV o.L p.B p.D).G,(rightV o.L p.B p.D).S⟩/\VO (hearS o p).1:=by
 unfold hearS at h0 |-
 by_cases c1:¬ good p.B=true
 ·rw[y8 c1] at h0; cases h0
 rw[y7 c1] at h0 |-
 by_cases c2:p.D<0\/p.D>99
 ·rw[y8 c2] at h0; cases h0
 rw[y7 c2] at h0 |-
 by_cases c3:hasR o.L p.B p.D=false/\(o.L.length:Int)=60
 ·rw[y8 c3] at h0; cases h0
 rw[y7 c3] at h0 |-
 by_cases c4:(learnS (rightV o.L p.B p.D) (msgOf p)).2≠0
 ·rw[y8 c4] at h0; exact absurd h0 c4
 rw[y7 c4]
 have h1:=zb8 (nnm c4)
 have hcy:=z3y o.L p.B p.D
 rw[hcy.1,hcy.2] at h1
 refine⟨_,rfl,h1.2.2.2.2,by rw[h1.2.2.2.1],by rw[h1.2.2.2.1],h1.2.2.2.1,zpr hv h1.2.2.2.2 ?_ ?_⟩
 ·rw[h1.2.2.2.1]
  simp only
  by_cases k:hasR o.L p.B p.D=true
  ·exact .inl k
  ·exact .inr fun q=>c3 ⟨by simpa using k,q⟩
 ·rw[h1.2.2.2.1]
  have h2:=hv.unused p.B p.D
  have h3:=hv.unused_nn p.B p.D
  have h4:(rightV o.L p.B p.D).A<=if (msgOf p).A>(rightV o.L p.B p.D).A then (msgOf p).A else (rightV o.L p.B p.D).A:=by split <;> omega
  simp only
  omega
theorem zm2 (hv:VO o) (h0:(giveS o p).2=0) :
  hasR o.L p.B p.D=true/\1<=p.V/\p.V<=unusedV o p.B p.D/\∃ r,(giveS o p).1=⟨o.Q,putL o.L r,o.Ag⟩/\RtOk r/\r=⟨p.B,p.D,(rightV o.L p.B p.D).A,(rightV o.L p.B p.D).G,(rightV o.L p.B p.D).S+p.V⟩/\VO (giveS o p).1:=by
 unfold giveS at h0 |-
 by_cases c1:¬ hasR o.L p.B p.D=true
 ·rw[y8 c1] at h0; cases h0
 rw[y7 c1] at h0 |-
 by_cases c4:(returnS (rightV o.L p.B p.D) (usedV o.Ag p.B p.D) p.V).2≠0
 ·rw[y8 c4] at h0; exact absurd h0 c4
 rw[y7 c4]
 have h1:=z9q (nnm c4)
 have hcy:=z3y o.L p.B p.D
 have hu:=z2v hv.val p.B p.D
 rw[hcy.1,hcy.2,hu.1] at h1
 have c1:=nnm c1
 rw[hu.1]
 refine⟨c1,h1.2.2.1,by rw[hv.unused]; exact h1.2.2.2.1,_,rfl,h1.2.2.2.2.2,h1.2.2.2.2.1,zpr hv h1.2.2.2.2.2 (.inl ?_) ?_⟩
 ·rw[h1.2.2.2.2.1]; exact c1
 ·rw[h1.2.2.2.2.1]
  simp only
  omega
theorem zfv (h0:(doS o p).2=0):VO o/\(1<=p.U/\p.U<=9)/\doS o p=stepS o p:=by
 unfold doS at h0 |-
 split at h0
 ·cases h0
 ·rename_i h
  rw[y7 h]
  exact⟨Classical.byContradiction fun k=>h (.inl k),om,rfl⟩
theorem zbb (hv:VO o) (hk:1<=p.U/\p.U<=9):doS o p=stepS o p:=by
 unfold doS
 rw[y7 (fun k=>k.elim (fun k=>k hv) fun k=>om)]
theorem z9t (h0:(doS o p).2=0):VO (doS o p).1:=by
 obtain⟨hv,hk,e⟩:=zfv h0
 rw[e] at h0 |-
 by_cases c8:p.U=8
 ·have e8:stepS o p=hearS o p:=by unfold stepS; rw[y8 c8]
  rw[e8] at h0 |-
  obtain⟨r,_,_,_,_,_,h⟩:=zfu hv h0
  exact h
 by_cases c7:p.U=7
 ·have e7:stepS o p=giveS o p:=by unfold stepS; rw[y7 c8,y8 c7]
  rw[e7] at h0 |-
  obtain⟨_,_,_,r,_,_,_,h⟩:=zm2 hv h0
  exact h
 exact (zm1 hv ⟨c7,c8⟩ h0).2.2.2.2
theorem zl0 (hg:∀ x∈l,RtOk x) (hc:good c=true) (hy:0<=y/\y<=99):RtOk (rightV l c y):=by
 by_cases h:hasR l c y=true
 ·exact hg _ (z31 h).1
 ·unfold rightV; rw[y7 h]; exact⟨hc,hy,sj,sj,sj⟩
theorem zps (hv:VO o) (hc:good p.B=true) (hy:0<=p.D/\p.D<=99) (hl:hasR o.L p.B p.D=true\/(o.L.length:Int)≠60) (h1:tot p.A) (h2:tot p.Ae):(hearS o p).2=0:=by
 have hr:=zl0 hv.ok hc hy
 have hcy:=z3y o.L p.B p.D
 have hk:(learnS (rightV o.L p.B p.D) (msgOf p)).2=0:=by
  unfold learnS
  rw[y7 (fun k=>k ⟨hr,rfl,hcy.1.symm,hcy.2.symm⟩),y7 (fun k=>k ⟨h1,h2⟩)]
 unfold hearS
 rw[y7 (fun k=>k hc),y7 om,y7 (fun k=>by
  rcases hl with h | h
  ·rw[k.1] at h; cases h
  ·exact h k.2),y7 (fun k=>k hk)]
def OI (k:Nat) (o:TOf):Prop:=VO o/\o.Ag.C.length<=k/\o.L.length<=k/\∀ r∈o.L,r.A<=1000
variable {s:TTape}
theorem zud (ho:Few o.Ag) (hs:TapeOk s) (day:Int):∃ p s',F_q3y o day s=some (p,s')/\TapeOk s'/\p.B.length<=60/\p.A<=1000/\p.V<=120:=by
 obtain⟨l1,l2,l3,l4⟩:=ho
 obtain⟨k,s1,e1,t1,k1⟩:=z10 (l:=[1,1,1,2,2,2,3,3,3,4,4,5,6,7,8,8,9]) hs dk dk
 obtain⟨co,s2,e2,t2,hc,_⟩:=zjd t1
 obtain⟨n1,s3,e3,t3,_,hn1⟩:=z29 (lo:=1) (hi:=120) t2 om om om
 obtain⟨n2,s4,e4,t4,hn2⟩:=z10 (l:=[10,50,n1]) t3 sj sj
 have hn2:n2<=120:=by simp at hn2; omega
 simp only[F_q3y,S_q3y,Scr.den,e1,e2,e3,e4,obind]
 generalize i64.wrap (day.tdiv 360)=yy
 have fin:∀ (s5:TTape) (p:TOp),TapeOk s5->p.B.length<=60->p.A<=1000->p.V<=120 ->
   ∃ p' s',outM (some (Out.next (s5,p):Out (TTape×TOp) R_q3y)) (fun (sv5:TTape×TOp)=>outM (if (sv5.2.U==2)=true then (F_q16 1 4 sv5.1).bind fun rv17=>(F_q2 60 rv17.2).bind fun rv18=>some (Out.next (rv18.2,(⟨sv5.2.U,sv5.2.B,sv5.2.D,sv5.2.Ab,sv5.2.Of,sv5.2.V,rv17.1,(i64.wrap (day+rv18.1)),sv5.2.A,sv5.2.Ae⟩:TOp)):Out (TTape×TOp) R_q3y) else some (Out.next (sv5.1,sv5.2))) (fun (sv16:TTape×TOp)=>some (sv16.2,sv16.1)) some) some=some (p',s')/\TapeOk s'/\p'.B.length<=60/\p'.A<=1000/\p'.V<=120:=fun s5 p ht h1 h2 h3=>by
  simp only[outM]
  by_cases hk:(p.U==2)=true
  ·rw[y8 hk]
   obtain⟨x1,s6,q1,t6,_,_⟩:=z29 (lo:=1) (hi:=4) ht om om om
   obtain⟨x2,s7,q2,t7,_,_⟩:=z1d (n:=60) t6 om om
   simp only[q1,q2,obind]
   exact⟨_,_,rfl,t7,h1,h2,h3⟩
  ·rw[y7 hk]
   exact⟨_,_,rfl,ht,h1,h2,h3⟩
 have lm:∀ {α:Type} (l:List α),l.length<=1000000->(1:Int)<=(if (l.length:Int)>1 then (l.length:Int) else 1)/\(if (l.length:Int)>1 then (l.length:Int) else 1)<=1000000:=fun l h=>by split <;> omega
 have m1:=lm o.Ag.C l1
 have m2:=lm o.Ag.F l2
 have m3:=lm o.Ag.I l3
 have two:∀ {c d:Bool} {P:Prop},(c=true->P)->(d=true->P)->(c=false->d=false->P)->P:=fun {c d P} h1 h2 h3=>by
  cases hc:c
  ·cases hd:d
   ·exact h3 hc hd
   ·exact h2 hd
  ·exact h1 hc
 have g1:∀ {β:Type} (c d:Bool),(c||d)=true->(if c=true then some (Out.next c) else some (Out.next d):Option (Out Bool β))=some (Out.next true):=fun {_} c d h=>by cases c <;> cases d <;> first | rfl | cases h
 have g0:∀ {β:Type} (c d:Bool),(c||d)=false->(if c=true then some (Out.next c) else some (Out.next d):Option (Out Bool β))=some (Out.next false):=fun {_} c d h=>by cases c <;> cases d <;> first | rfl | cases h
 by_cases c1:((k==2)||(k==5))=true
 ·rw[g1 _ _ c1]
  obtain⟨x1,s5,q1,t5,_,_⟩:=z29 (lo:=1) (hi:=(if (o.Ag.C.length:Int)>1 then (o.Ag.C.length:Int) else 1)) t4 om m1.1 om
  simp only[outM,y17,q1,obind]
  exact fin _ ⟨k,co,yy,day,x1,n2,0,0,0,0⟩ t5 hc (by show (0:Int)<=1000; decide) hn2
 have c1:((k==2)||(k==5))=false:=by simpa using c1
 rw[g0 _ _ c1]
 by_cases c2:((k==3)||(k==6))=true
 ·rw[g1 _ _ c2]
  obtain⟨x1,s5,q1,t5,_,_⟩:=z29 (lo:=1) (hi:=(if (o.Ag.F.length:Int)>1 then (o.Ag.F.length:Int) else 1)) t4 om m2.1 om
  simp only[outM,yu,y17,y10,q1,obind]
  exact fin _ ⟨k,co,yy,day,x1,n2,0,0,0,0⟩ t5 hc (by show (0:Int)<=1000; decide) hn2
 have c2:((k==3)||(k==6))=false:=by simpa using c2
 rw[g0 _ _ c2]
 by_cases c3:((k==4)||(k==9))=true
 ·rw[g1 _ _ c3]
  obtain⟨x1,s5,q1,t5,_,_⟩:=z29 (lo:=1) (hi:=(if (o.Ag.I.length:Int)>1 then (o.Ag.I.length:Int) else 1)) t4 om m3.1 om
  simp only[outM,yu,y17,y10,q1,obind]
  exact fin _ ⟨k,co,yy,day,x1,n2,0,0,0,0⟩ t5 hc (by show (0:Int)<=1000; decide) hn2
 have c3:((k==4)||(k==9))=false:=by simpa using c3
 rw[g0 _ _ c3]
 by_cases c4:(k==8)=true
 ·obtain⟨x1,s5,q1,t5,_,y1⟩:=z1d (n:=1000) t4 om om
  obtain⟨x2,s6,q2,t6,y2⟩:=z10 (l:=[100,400,x1]) t5 sj sj
  obtain⟨x3,s7,q3,t7,_,y3⟩:=z1d (n:=200) t6 om om
  obtain⟨x4,s8,q4,t8,y4⟩:=z10 (l:=[0,0,x3]) t7 sj sj
  simp only[outM,yu,y10,y8 c4,q1,q2,q3,q4,obind]
  exact fin _ ⟨k,co,yy,day,0,n2,0,0,x2,x4⟩ t8 hc (by simp at y2; show x2<=1000; omega) hn2
 ·simp only[outM,yu,y10,y7 c4]
  exact fin _ ⟨k,co,yy,day,0,n2,0,0,0,0⟩ t4 hc (by show (0:Int)<=1000; decide) hn2
theorem zs4 (hv:VO o) (hs:TapeOk s) (day:Int):∃ p s',F_q3y o day s=some (p,s')/\TapeOk s'/\p.B.length<=60/\p.A<=1000/\p.V<=120:=zud hv.smO.1.1 hs day
theorem zed (n:Int):F_q4e n=some (if n<1\/n>6 then (noO,2) else (⟨n,[],nb⟩,0)):=by
 simp only[F_q4e,S_q4e,Scr.den,z9]
 exact st (by simp only[ye,y9]) (fun _=>rfl) (fun _=>rfl)
theorem zpt (h1:1<=n) (h2:n<=6):OI 0 ⟨n,[],nb⟩ :=
 ⟨⟨⟨h1,h2⟩,sj,zpi,(fun _ h=>nomatch h),(fun i hi=>absurd hi sj),(fun x hx=>nomatch hx)⟩,(by simp[nb]),sj,(fun _ h=>nomatch h)⟩
def wantedS (r:TRi) (u:Int):Int :=
 if RtOk r/\(0<=u/\u<=r.A-r.S) then (if r.A-u<r.G then (if r.A-u-r.S>0 then r.A-u-r.S else 0) else (if r.G-r.S>0 then r.G-r.S else 0)) else 0
theorem wn1 {x:Int}:(if 0>x then 0 else x)=(if x>0 then x else 0):=by split <;> split <;> omega
theorem wn2 {x:Int} (h:x=y):(if x>0 then x else 0)=(if y>0 then y else 0):=by rw[h]
theorem zdk (h:r.B.length<=1000000):F_q75 r u=some (wantedS r u):=by
 open Classical in simp only[F_q75,S_q75,Scr.den,z3p h,z16,z15,obind,z9,z1z]
 unfold wantedS
 by_cases hR:RtOk r
 ·have hR':=hR
  unfold RtOk at hR'
  have w1:i64.wrap (r.A-r.S)=r.A-r.S:=wrapId om om
  rw[w1]
  by_cases hu:0<=u/\u<=r.A-r.S
  ·rw[y8 (show RtOk r/\(0<=u/\u<=r.A-r.S) from ⟨hR,hu⟩),y7 (by simp[hR,hu]),wrapId (n:=r.A-u) om om]
   refine y18 some ?_
   by_cases k:r.A-u<r.G
   ·simp only[y8 k]
    rw[wrapId om om]
    exact wn1
   ·simp only[y7 k]
    rw[wrapId om om]
    exact wn1
  ·rw[y8 (by simp[hR]; omega),y7 (fun k=>hu k.2)]
 ·rw[y8 (by simp[hR]),y7 (fun k=>hR k.1)]
theorem zhu (h:r.B.length<=1000000):F_q6n r u=some (wantedS r u):=by
 simp only[F_q6n,S_q6n,Scr.den,z5f h,obind,z9]
 unfold wantedS
 by_cases hR:RtOk r
 ·have hR':=hR
  unfold RtOk at hR'
  have w1:i64.wrap (r.A-r.S)=r.A-r.S:=wrapId om om
  rw[w1]
  by_cases hu:0<=u/\u<=r.A-r.S
  ·rw[y8 (show RtOk r/\(0<=u/\u<=r.A-r.S) from ⟨hR,hu⟩),y7 (by simp[hR]; omega),wrapId (n:=r.A-r.S-u) om om,wrapId (n:=r.G-r.S) om om]
   refine y18 some ?_
   by_cases k:r.A-u<r.G
   ·rw[y8 k]
    simp only[y8 (show r.A-r.S-u<r.G-r.S from om)]
    exact wn2 om
   ·rw[y7 k]
    simp only[y7 (show ¬ (r.A-r.S-u<r.G-r.S) from om)]
  ·rw[y8 (by simp[hR]; omega),y7 (fun k=>hu k.2)]
 ·rw[y8 (by simp[hR]),y7 (fun k=>hR k.1)]
def noP:TOp:=⟨0,[],0,0,0,0,0,0,0,0⟩
open Classical in
noncomputable def answerS (o:TOf) (c:Y8) (y:Int):TOp×Bool :=
 if ¬ VO o then (noP,false) else
 if wantedS (rightV o.L c y) (usedV o.Ag c y)=0 then (noP,false) else (⟨7,c,y,0,0,wantedS (rightV o.L c y) (usedV o.Ag c y),0,0,0,0⟩,true)
theorem zcp (l:List TRi) (hc:c.length<=1000000) (y:Int):(rightV l c y).B.length<=1000000:=by
 rw[(z3y l c y).1]; exact hc
theorem zpu (hs:SmO o) (hc:c.length<=1000000) (y:Int):F_q76 o c y=some (answerS o c y):=by
 simp only[F_q76,S_q76,Scr.den,z8s hs,z2r,zbv,zdk (zcp o.L hc y),obind]
 unfold answerS
 refine st sj (fun _=>rfl) fun _=>?_
 refine st (by simp only[y15]) (fun _=>rfl) fun _=>rfl
theorem za9 (hs:SmO o) (hc:c.length<=1000000) (y:Int):F_q54 o c y=some (answerS o c y):=by
 simp only[F_q54,S_q54,Scr.den,z7j hs,z1i,z4k,zhu (zcp o.L hc y),obind]
 unfold answerS
 refine st sj (fun _=>rfl) fun _=>?_
 refine st (by simp only[y15]) (fun _=>rfl) fun _=>rfl
def noM:TMe:=⟨0,0,[],0,0,0,0,0⟩
open Classical in
noncomputable def reportS (o:TOf) (c:Y8) (y:Int):TMe×Int :=
 if ¬ VO o then (noM,1) else
 if ¬ hasR o.L c y=true then (noM,6) else (⟨o.Q,0,c,y,0,0,(rightV o.L c y).S,usedV o.Ag c y⟩,0)
theorem zpv (hs:SmO o) (c:Y8) (y:Int):F_q64 o c y=some (reportS o c y):=by
 simp only[F_q64,S_q64,Scr.den,z8s hs,zea,z2r,zbv,obind]
 unfold reportS
 refine st sj (fun _=>rfl) fun _=>?_
 refine st sj (fun _=>rfl) fun _=>rfl
theorem zhv (hs:SmO o) (c:Y8) (y:Int):F_q6v o c y=some (reportS o c y):=by
 simp only[F_q6v,S_q6v,Scr.den,z7j hs,at_eq,z1i,z4k,obind]
 unfold reportS
 refine st sj (fun _=>rfl) fun _=>?_
 refine st (by cases hh:hasR o.L c y <;> simp <;> (try exact y2w.2 (y21 _))) (fun _=>rfl) fun _=>rfl
def a1:TOf:=⟨2,[],nb⟩
def a2:TOf:=⟨2,[⟨[49],12,100,0,0⟩],nb⟩
def aR:TRe:=⟨1,[49],12,4330,60,0⟩
def a3:TOf:=⟨2,[⟨[49],12,100,0,0⟩],⟨[aR],[],[],[]⟩⟩
def a4:TOf:=⟨2,[⟨[49],12,100,0,40⟩],⟨[aR],[],[],[]⟩⟩
def q1:TOp:=⟨8,[49],12,0,0,0,0,0,100,0⟩
def q2:TOp:=⟨1,[49],12,4330,0,60,0,0,0,0⟩
def q3:TOp:=⟨7,[49],12,0,0,40,0,0,0,0⟩
def q4:TOp:=⟨1,[49],12,4330,0,1,0,0,0,0⟩
theorem va1:VO a1:=(zpt om om).1
theorem st1:doS a1 q1=(a2,0):=by
 rw[zbb va1 dk]
 unfold stepS
 rw[y8 dk]
 kernel_rfl
theorem va2:VO a2:=by have:=z9t (o:=a1) (p:=q1) (by rw[st1]); rwa [st1] at this
theorem st2:doS a2 q2=(a3,0):=by
 rw[zbb va2 dk]
 unfold stepS
 have h:reserveS a2.Ag q2.B q2.D q2.Ab q2.V=(⟨[aR],[],[],[]⟩,0) :=
  zkw (b:=nb) (code:=[49]) (y:=12) (d:=4330) (n:=60) zpi (by decide +kernel) dk dk dk dk dk
 have hu:unusedV a2 q2.B q2.D=100:=by decide +kernel
 have hb:bookS a2.Ag q2=(⟨[aR],[],[],[]⟩,0):=by unfold bookS; rw[y8 dk,h]
 rw[y7 dk,y7 dk,hb,y7 dk,y7 (by rw[hu]; decide)]
 rfl
theorem va3:VO a3:=by have:=z9t (o:=a2) (p:=q2) (by rw[st2]); rwa [st2] at this
theorem st3:doS a3 q3=(a4,0):=by
 rw[zbb va3 dk]
 unfold stepS
 rw[y7 dk,y8 dk]
 kernel_rfl
def getF (p:TOp):Nat->Int
 | 0=>p.D
 | 1=>p.Ab
 | 2=>p.V
 | 3=>p.Of
 | 4=>p.Ah
 | 5=>p.Aj
 | 6=>p.A
 | _=>p.Ae
def clrF (p:TOp):Nat->TOp
 | 0=>⟨p.U,p.B,0,p.Ab,p.Of,p.V,p.Ah,p.Aj,p.A,p.Ae⟩
 | 1=>⟨p.U,p.B,p.D,0,p.Of,p.V,p.Ah,p.Aj,p.A,p.Ae⟩
 | 2=>⟨p.U,p.B,p.D,p.Ab,p.Of,0,p.Ah,p.Aj,p.A,p.Ae⟩
 | 3=>⟨p.U,p.B,p.D,p.Ab,0,p.V,p.Ah,p.Aj,p.A,p.Ae⟩
 | 4=>⟨p.U,p.B,p.D,p.Ab,p.Of,p.V,0,p.Aj,p.A,p.Ae⟩
 | 5=>⟨p.U,p.B,p.D,p.Ab,p.Of,p.V,p.Ah,0,p.A,p.Ae⟩
 | 6=>⟨p.U,p.B,p.D,p.Ab,p.Of,p.V,p.Ah,p.Aj,0,p.Ae⟩
 | 7=>⟨p.U,p.B,p.D,p.Ab,p.Of,p.V,p.Ah,p.Aj,p.A,0⟩
 | _=>⟨p.U,[],p.D,p.Ab,p.Of,p.V,p.Ah,p.Aj,p.A,p.Ae⟩
def nmF:Nat->Y8
 | 0=>[89,69,65,82]
 | 1=>[68,65,89]
 | 2=>[65,77,79,85,78,84]
 | 3=>[79,70]
 | 4=>[80,65,89,69,69]
 | 5=>[68,85,69]
 | 6=>[71,82,65,78,84,69,68]
 | 7=>[65,83,75,69,68,66,65,67,75]
 | _=>[67,79,68,69]
def mostF (k:Nat):Int:=if k=0 then 99 else 1000000000000000
def condF (p:TOp) (k:Nat):Prop:=if k=8 then good p.B=true else 0<=getF p k/\getF p k<=mostF k
instance (p:TOp) (k:Nat):Decidable (condF p k):=by unfold condF; infer_instance
theorem zee (p:TOp):condF p 8↔good p.B=true:=by
 show (if (8:Nat)=8 then good p.B=true else _)↔_
 rw[y8 rfl]
variable {k:Nat}
theorem condN (h:k≠8):condF p k↔0<=getF p k/\getF p k<=mostF k:=by
 show (if k=8 then good p.B=true else _)↔_
 rw[y7 h]
def txtF (p:TOp) (k:Nat):Y8:=if k=8 then p.B else Lib.itoa (getF p k)
theorem F_q81 (k:Nat) (hk:k<8):F_q1z (nmF k)=some (mostF k):=by
 have:k=0\/k=1\/k=2\/k=3\/k=4\/k=5\/k=6\/k=7:=om
 rcases this with rfl | rfl | rfl | rfl | rfl | rfl | rfl | rfl <;> rfl
theorem zpw (h0:0<=n) (h1:n<=1000000000000000):F_q7s n=some (Lib.itoa n):=z7 ⟨om,om⟩
theorem zjm (k:Nat):mostF k<=1000000000000000:=by unfold mostF; split <;> omega
variable {i:Nat} {rv1:List Y8}
theorem zue {r:TOp} (hc:p.B.length<=1000000) {l:List Y8} (hi:i+1<l.length) (hb:l.length<=1000) (hk:k<=8) (hp:l.getD (0+1+i) dF=nmF k) :
  (S_qg_b1 p rv1 i (l,r)).den=some (if condF p k then .cont (l.set (i+1) (txtF p k),clrF r k) else .ret []):=by
 have ei:(i64.wrap ((i:Int)+1))=((i+1:Nat):Int):=wrapId om om
 have hcode:k=8->(S_qg_b1 p rv1 i (l,r)).den=some (if condF p k then .cont (l.set (i+1) (txtF p k),clrF r k) else .ret []):=fun h8=>by
  subst h8
  simp only[S_qg_b1,Scr.den]
  rw[Ga,hp,y8 (by rfl),ei]
  rw[show F_q7w p.B=some (parts p.B) from z3h om]
  simp only[obind,zjj,yg,yo]
  by_cases hg:good p.B=true
  ·rw[y7 (by simp[hg]),y8 ((zee p).2 hg),z7 ⟨om,hi,hi,trivial⟩]
   rfl
  ·rw[y8 (by simpa using hg),y7 fun h=>hg ((zee p).1 h)]
 by_cases h8:k=8
 ·exact hcode h8
 clear hcode
 have e:k=0\/k=1\/k=2\/k=3\/k=4\/k=5\/k=6\/k=7:=om
 have hm:F_q1z (nmF k)=some (mostF k):=F_q81 k om
 have hml:=zjm k
 have fin:∀ (n:Int) (x:Option (Step (List Y8×TOp) R_qg)),n=getF p k ->
   x=((optD [(decide (n<0))=false] (F_q1z (nmF k)) dF).bind fun m=>if (decide (n<0)||decide (n>m))=true then some (.ret []) else (F_q7s n).bind fun t=>guardP (AllP [(0:Int)<=((i+1:Nat):Int),i+1<l.length,i+1<l.length]) (some (.cont (l.set (i+1) t,clrF r k)))) ->
   x=some (if condF p k then .cont (l.set (i+1) (txtF p k),clrF r k) else .ret []):=by
  rintro n x rfl rfl
  have ht:txtF p k=Lib.itoa (getF p k):=y7 h8
  have hcn:=condN (p:=p) h8
  rw[hm,ht]
  by_cases h0:getF p k<0
  ·rw[show optD [(decide (getF p k<0))=false] (some (mostF k)) dF=some dF from y7 fun h=>by simp[AllP] at h; omega]
   simp only[obind]
   rw[y8 (by simp[h0]),y7 fun h=>y2w.2 (hcn.1 h).1 h0]
  ·rw[ze (by simp[AllP]; omega)]
   simp only[obind]
   by_cases h1:getF p k<=mostF k
   ·rw[y7 sk,y8 (hcn.2 ⟨om,h1⟩),zpw om om]
    simp only[obind]
    rw[z7 ⟨om,hi,hi,trivial⟩]
   ·rw[y8 sk,y7 fun h=>h1 (hcn.1 h).2]
 rcases e with rfl | rfl | rfl | rfl | rfl | rfl | rfl | rfl
 all_goals
  simp only[S_qg_b1,Scr.den]
  rw[Ga,hp,ei]
  refine fin _ _ rfl ?_
  simp only[yg,yo,z9]
 ·have f:∀ q,F_q7d (nmF 0) q=some ():=fun q=>Gd
  rw[y7 dk,y8 dk]
  simp only[f,obind]
  rfl
 ·have f:∀ q,F_q7e (nmF 1) q=some ():=fun q=>(Gd).trans (Gd)
  rw[y7 dk,y7 dk,y8 dk]
  simp only[f,obind]
  rfl
 ·have f:∀ q,F_q7f (nmF 2) q=some ():=fun q=>(Gd).trans ((Gd).trans (Gd))
  rw[y7 dk,y7 dk,y7 dk,y8 dk]
  simp only[f,obind]
  rfl
 ·have f:∀ q,F_q7g (nmF 3) q=some ():=fun q=>(Gd).trans ((Gd).trans ((Gd).trans (Gd)))
  rw[y7 dk,y7 dk,y7 dk,y7 dk,y8 dk]
  simp only[f,obind]
  rfl
 ·have f:∀ q,F_q7h (nmF 4) q=some ():=fun q=>(Gd).trans ((Gd).trans ((Gd).trans ((Gd).trans (Gd))))
  rw[y7 dk,y7 dk,y7 dk,y7 dk,y7 dk,y8 dk]
  simp only[f,obind]
  rfl
 ·have f:∀ q,F_q7i (nmF 5) q=some ():=fun q=>(Gd).trans ((Gd).trans ((Gd).trans ((Gd).trans ((Gd).trans (Gd)))))
  rw[y7 dk,y7 dk,y7 dk,y7 dk,y7 dk,y7 dk,y8 dk]
  simp only[f,obind]
  rfl
 ·have f:∀ q,F_q7j (nmF 6) q=some ():=fun q=>(Gd).trans ((Gd).trans ((Gd).trans ((Gd).trans ((Gd).trans ((Gd).trans (Gd))))))
  rw[y7 dk,y7 dk,y7 dk,y7 dk,y7 dk,y7 dk,y7 dk,y8 dk]
  simp only[f,obind]
  rfl
 ·have f:∀ q,F_q7k (nmF 7) q=some ():=fun q=>(Gd).trans ((Gd).trans ((Gd).trans ((Gd).trans ((Gd).trans ((Gd).trans ((Gd).trans (Gd)))))))
  rw[y7 dk,y7 dk,y7 dk,y7 dk,y7 dk,y7 dk,y7 dk,y7 dk]
  simp only[f,obind]
  rfl
theorem zpx (hc:p.B.length<=1000000) (hb:rv1.length<=1000):∀ (ks:List Nat) (i:Nat) (l:List Y8) (r:TOp),l.length=rv1.length->i+1+ks.length=l.length->(∀ k∈ks,k<=8)->l.drop (i+1)=ks.map nmF ->
  ((∀ k∈ks,condF p k)->∃ l',rangeM (fun i s=>(S_qg_b1 p rv1 i s).den) ks.length i (l,r)=some (.next (l',ks.foldl clrF r))/\l'.length=l.length/\l'.take (i+1)=l.take (i+1)/\∀ x∈l',x∈l.take (i+1)\/∃ k∈ks,x=txtF p k) /\
  ((¬ ∀ k∈ks,condF p k)->rangeM (fun i s=>(S_qg_b1 p rv1 i s).den) ks.length i (l,r)=some (.ret [])):=by
 intro ks
 induction ks with
 | nil =>
  intro i l r hl hi _ hd
  refine⟨fun _=>⟨l,rfl,rfl,rfl,fun x hx=>.inl ?_⟩,fun h=>absurd (fun k hk=>nomatch hk) h⟩
  rw[y23 (by simp at hi; omega)]
  exact hx
 | cons k ks ih =>
  intro i l r hl hi h8 hd
  rw[yq] at hi
  have hlt:i+1<l.length:=om
  have hg:l.getD (0+1+i) dF=nmF k:=by
   rw[show 0+1+i=i+1 from om,z18 hlt]
   have:=y18 (fun z=>z[0]?) hd
   simpa [List.getElem?_drop,List.getElem?_eq_getElem hlt] using this
  have hs:=zue (p:=p) (r:=r) (rv1:=rv1) hc hlt om (h8 k (y1y ..)) hg
  have hd2:(l.set (i+1) (txtF p k)).drop (i+1+1)=ks.map nmF:=by
   rw[List.drop_set_of_lt om]
   have:=y18 (List.drop 1) hd
   simpa [List.drop_drop] using this
  obtain⟨g1,g2⟩:=ih (i+1) (l.set (i+1) (txtF p k)) (clrF r k) (by rw[yl]; exact hl) (by rw[yl]; omega) (fun x hx=>h8 x (y1d _ hx)) hd2
  simp only[yq,rangeM,hs]
  refine⟨fun h=>?_,fun h=>?_⟩
  ·rw[y8 (h k (y1y ..))]
   obtain⟨l',e1,e2,e3,e4⟩:=g1 fun x hx=>h x (y1d _ hx)
   refine⟨l',e1,by rw[e2,yl],?_,fun x hx=>?_⟩
   ·have:=y18 (List.take (i+1)) e3
    rw[List.take_take,List.take_take,Nat.min_eq_left om,y5l om] at this
    exact this
   ·rcases e4 x hx with h1 | ⟨q,h1,h2⟩
    ·rw[y39,y5l om,y1p] at h1
     rcases h1 with h1 | h1
     ·exact .inl h1
     ·rw[y13 hlt] at h1
      exact .inr ⟨k,y1y ..,by simpa using h1⟩
    ·exact .inr ⟨q,y1d _ h1,h2⟩
  ·by_cases hk:condF p k
   ·rw[y8 hk]
    exact g2 fun h'=>h fun x hx=>by
     rcases y16.1 hx with rfl | hx
     ·exact hk
     ·exact h' x hx
   ·rw[y7 hk]
def partsK (k:Int):List Nat :=
 if k=1 then [8,0,1,2] else if k=2 then [3,1,2,4,5] else if k=3 then [3,1,2] else if k=4 then [3,1] else if k=5 then [3,2] else if k=6 then [3,2] else
 if k=7 then [8,0,2] else if k=8 then [8,0,6,7] else if k=9 then [3] else []
def wordK (k:Int):Y8 :=
 if k=1 then [114,101,115,101,114,118,101] else if k=2 then [99,111,109,109,105,116] else if k=3 then [118,101,114,105,102,121] else if k=4 then [111,114,100,101,114] else
 if k=5 then [114,101,108,101,97,115,101] else if k=6 then [100,114,111,112] else if k=7 then [114,101,116,117,114,110] else if k=8 then [104,101,97,114] else [114,101,116,117,114,110,101,100]
def zOp:TOp:=⟨0,[],0,0,0,0,0,0,0,0⟩
def unK (p:TOp):TOp:=⟨0,p.B,p.D,p.Ab,p.Of,p.V,p.Ah,p.Aj,p.A,p.Ae⟩
def POp (p:TOp):Prop:=(1<=p.U/\p.U<=9)/\(∀ k∈partsK p.U,condF p k)/\(partsK p.U).foldl clrF (unK p)=zOp
theorem zef {k:Int} (h:1<=k/\k<=9):k=1\/k=2\/k=3\/k=4\/k=5\/k=6\/k=7\/k=8\/k=9:=om
theorem znd {k:Int} (h:1<=k/\k<=9):∃ s,F_q4p k=some s/\F_q7y s=some (wordK k :: (partsK k).map nmF):=by
 rcases zef h with rfl | rfl | rfl | rfl | rfl | rfl | rfl | rfl | rfl <;> exact⟨_,rfl,z7 ⟨dk,dk⟩⟩
theorem zpy {k:Int} (h:¬ (1<=k/\k<=9)):F_q4p k=some []:=by
 simp only[F_q4p,S_q4p,Scr.den]
 rw[y7 sk,y7 sk,y7 sk,y7 sk,y7 sk,y7 sk,y7 sk,y7 sk,y7 sk]
theorem zgy (k:Int):∀ x∈partsK k,x<=8:=by
 unfold partsK
 repeat' split
 all_goals decide
theorem zne (k:Int):(partsK k).length<=5:=by
 unfold partsK
 repeat' split
 all_goals decide
theorem zpz (k:Int):0<(wordK k).length/\(wordK k).length<=8:=by
 unfold wordK
 repeat' split
 all_goals decide
theorem zbc {B:Nat} {s:Y8}:∀ {l:List Y8},(∀ x∈l,x.length<=B)->(Lib.joinTail s l).length<=l.length * (s.length+B)
 | [],_=>by simp[Lib.joinTail]
 | x :: l,h=>by
  have h1:=h x sj
  have h2:=zbc (s:=s) (l:=l) fun y hy=>h y (by simp[hy])
  have e:Lib.joinTail s (x :: l)=(s++x)++Lib.joinTail s l:=by simp[Lib.joinTail]
  rw[e,yp,yp,yq,y1o]
  omega
theorem zb {σ ρ α:Type} (s:σ) (k:σ->Option α) (kr:ρ->Option α):outM (some (.next s)) k kr=k s:=rfl
theorem z5x (a b:TOp):((a.U==b.U)&&((a.B==b.B)&&((a.D==b.D)&&((a.Ab==b.Ab)&&((a.Of==b.Of)&&((a.V==b.V)&&((a.Ah==b.Ah)&&((a.Aj==b.Aj)&&((a.A==b.A)&&((a.Ae==b.Ae)&&true))))))))))=true↔a=b:=by
 obtain⟨a0,a1,a2,a3,a4,a5,a6,a7,a8,a9⟩:=a
 obtain⟨b0,b1,b2,b3,b4,b5,b6,b7,b8,b9⟩:=b
 simp
theorem zs5 (h:condF p k):(txtF p k).length<=60:=by
 by_cases h8:k=8
 ·subst h8
  have:=z3u ((zee p).1 h)
  show p.B.length<=60
  omega
 ·rw[show txtF p k=Lib.itoa (getF p k) from y7 h8]
  have h1:=zjm k
  have h2:=(condN h8).1 h
  have:=Lib.itoa_length_le (getF p k) om om
  omega
theorem POp.len (h:POp p):p.B.length<=60:=by
 obtain⟨hk,hc,hz⟩:=h
 by_cases h8:8∈partsK p.U
 ·have:=hc 8 h8
  have:=z3u ((zee p).1 this)
  omega
 ·have key:∀ (ks:List Nat) (r:TOp),8 ∉ ks->(∀ k∈ks,k<=8)->(ks.foldl clrF r).B=r.B:=by
   intro ks
   induction ks with
   | nil=>intro r _ _; rfl
   | cons k ks ih =>
    intro r hk h9
    rw[y2z,ih _ (fun h=>hk (y1d _ h)) fun x hx=>h9 x (y1d _ hx)]
    have h1:k≠8:=fun e=>hk (e▸y1y ..)
    have h2:=h9 k (y1y ..)
    have:k=0\/k=1\/k=2\/k=3\/k=4\/k=5\/k=6\/k=7:=om
    rcases this with rfl | rfl | rfl | rfl | rfl | rfl | rfl | rfl <;> rfl
  have h2:=key (partsK p.U) (unK p) h8 (zgy _)
  rw[hz] at h2
  have h3:(unK p).B=p.B:=rfl
  rw[<- h3,<- h2]
  decide
theorem zuf {x:Y8} {l:List Y8} (hx:0<x.length) (s:Y8):Lib.join (x :: l) s≠[]:=by
 rw[Lib.join_cons]
 intro h
 have:=y18 List.length h
 rw[yp,y1m] at this
 omega
theorem zm3 (hc:p.B.length<=1000000):(POp p->∃ t,F_qg p=some t/\t≠[])/\(¬ POp p->F_qg p=some []):=by
 by_cases hk:1<=p.U/\p.U<=9
 ·obtain⟨s,e1,e2⟩:=znd hk
  have hpl:=zne p.U
  have hwl:=zpz p.U
  have hn:(wordK p.U :: (partsK p.U).map nmF).length-1=(partsK p.U).length:=sj
  obtain⟨g1,g2⟩:=zpx (p:=p) hc (rv1:=wordK p.U :: (partsK p.U).map nmF) sk (partsK p.U) 0 (wordK p.U :: (partsK p.U).map nmF) (unK p) rfl sk (zgy _) sj
  have hS:F_qg p=(outM (rangeM (fun i s=>(S_qg_b1 p (wordK p.U :: (partsK p.U).map nmF) i s).den) (partsK p.U).length 0 (wordK p.U :: (partsK p.U).map nmF,unK p)) (fun s=>if (!((s.2.U==0)&&((s.2.B==([]))&&((s.2.D==0)&&((s.2.Ab==0)&&((s.2.Of==0)&&((s.2.V==0)&&((s.2.Ah==0)&&((s.2.Aj==0)&&((s.2.A==0)&&((s.2.Ae==0)&&true)))))))))))=true then some [] else guardP (AllP [s.1.length<2 ^ 63]) ((F_q7x s.1 [32]).bind fun r=>some r)) (fun x=>some (id x))):=by
   simp only[F_qg,S_qg,Scr.den,e1,e2,obind]
   rw[y7 sk,z7 ⟨sj,trivial⟩,z7 ⟨sk,trivial⟩,hn]
   rfl
  rw[hS]
  by_cases h:∀ k∈partsK p.U,condF p k
  ·obtain⟨l',q1,q2,q3,q4⟩:=g1 h
   rw[q1]
   simp only[zb]
   have hz:=z5x ((partsK p.U).foldl clrF (unK p)) zOp
   by_cases hz':(partsK p.U).foldl clrF (unK p)=zOp
   ·have hb:=hz.2 hz'
    refine⟨fun _=>?_,fun hn=>absurd ⟨hk,h,hz'⟩ hn⟩
    rw[y7 (by
     intro hh
     rw[yi] at hh
     exact y44 (hh.symm.trans hb))]
    have hl:l'.length<=6:=by rw[q2]; simp; omega
    have hw:l'=wordK p.U :: l'.drop 1:=by
     conv=>lhs; rw[<- y2d 1 l']
     rw[show l'.take 1=[wordK p.U] by simpa using q3]
     rfl
    have hlen:∀ x∈l',x.length<=60:=fun x hx=>by
     rcases q4 x hx with h1 | ⟨k,h1,rfl⟩
     ·have:x=wordK p.U:=by simpa using h1
      rw[this]; omega
     ·exact zs5 (h k h1)
    have hj:(Lib.join l' [32]).length<=1000:=by
     rw[hw,Lib.join_cons,yp]
     have h1:=zbc (B:=60) (s:=[32]) (l:=l'.drop 1) fun x hx=>hlen x (y36 hx)
     have h2:(l'.drop 1).length<=5:=by rw[y2v]; omega
     have h3:(l'.drop 1).length * (1+60)<=5 * 61:=yv _ h2
     simp only[yq,y1m] at h1
     omega
    have hl0:0<l'.length:=by rw[hw]; simp
    rw[Ga,show F_q7x l' [32]=some (Lib.join l' [32]) from z7 ⟨hl0,om,om⟩]
    refine⟨_,rfl,?_⟩
    rw[hw]
    exact zuf hwl.1 _
   ·refine⟨fun hp=>absurd hp.2.2 hz',fun _=>?_⟩
    rw[y8 (by
     rw[yi]
     exact y1x.2 fun hh=>hz' (hz.1 hh))]
  ·rw[g2 h]
   exact⟨fun hp=>absurd hp.2.1 h,fun _=>rfl⟩
 ·refine⟨fun hp=>absurd hp.1 hk,fun _=>?_⟩
  simp only[F_qg,S_qg,Scr.den,zpy hk,obind]
  rw[show F_q7y []=some [] from z7 ⟨dk,dk⟩]
  rfl
open Classical in
theorem z9u (hc:p.B.length<=1000000):F_q45 p=some (decide (POp p)):=by
 simp only[F_q45,S_q45,Scr.den]
 by_cases h:POp p
 ·obtain⟨t,e,ht⟩:=(zm3 hc).1 h
  rw[e,yb h]
  simp only[obind]
  simp[ht]
 ·rw[(zm3 hc).2 h,yc h]
  rfl
def numT (n:Int):Prop:=0<=n/\n<=1000000000000000
theorem zs6 (l:List Int) (c:Bool):((∀ x∈l,numT x)->rangeM (fun i s=>(S_qk_b1 (l,c) i s).den) l.length 0 ()=some (.next ()))/\((¬ ∀ x∈l,numT x)->rangeM (fun i s=>(S_qk_b1 (l,c) i s).den) l.length 0 ()=some (.ret false)):=by
 have ra:=zi (ρ:=Bool) (n:=l.length) (c:=false) (body:=fun i s=>(S_qk_b1 (l,c) i s).den) (fun i=>numT (l.getD i dF)) (fun i hi h=>by
  simp only[S_qk_b1,Scr.den,z9]
  unfold numT at h
  rw[y7 (by simp only[ye,y9]; omega)]) (fun i hi h=>by
  simp only[S_qk_b1,Scr.den,z9]
  unfold numT at h
  rw[y8 (by simp only[ye,y9]; omega)])
 exact⟨fun h=>ra.1 fun j hj=>h _ (z8 hj),fun h=>ra.2 fun h'=>h (z4c (p:=numT) h')⟩
open Classical in
theorem z3i {q:TOp} {l:List Int} {c:Bool} (hk:1<=p.U/\p.U<=9) (hc:p.B.length<=1000000) (e1:F_q1q p=some (l,c)) (e2:F_q5 p.U p.B p.D l=some q) :
  F_qk p=some (decide ((if c=true then good p.B=true/\0<=p.D/\p.D<=99 else p.B=[]/\p.D=0)/\(∀ x∈l,numT x)/\q=p)):=by
 simp only[F_qk,S_qk,Scr.den,e1,obind,z9,zd]
 rw[y7 (by simp only[ye,y9]; omega)]
 obtain⟨g1,g2⟩:=zs6 l c
 have fin:outM (rangeM (fun i s=>(S_qk_b1 (l,c) i s).den) l.length 0 ()) (fun _=>(F_q5 p.U p.B p.D l).bind fun r=>some ((r.U==p.U)&&((r.B==p.B)&&((r.D==p.D)&&((r.Ab==p.Ab)&&((r.Of==p.Of)&&((r.V==p.V)&&((r.Ah==p.Ah)&&((r.Aj==p.Aj)&&((r.A==p.A)&&((r.Ae==p.Ae)&&true))))))))))) (fun x=>some (id x))=some (decide ((∀ x∈l,numT x)/\q=p)):=by
  by_cases h:∀ x∈l,numT x
  ·rw[g1 h]
   simp only[zb,e2,obind]
   congr 1
   rw[y1q,z5x,y9]
   exact⟨fun k=>⟨h,k⟩,fun k=>k.2⟩
  ·rw[g2 h,yc (fun k=>h k.1)]
   rfl
 cases c
 ·rw[show ∀ {α:Type} (x:Option α) (d:α),optD [false=true] x d=some d from fun _ _=>y7 fun h=>y44 h.1]
  simp only[obind]
  by_cases h:p.B=[]/\p.D=0
  ·rw[y7 (by simp[h.1,h.2]),fin]
   congr 1
   rw[y1q,y9,y9,y7 sj]
   exact⟨fun k=>⟨h,k⟩,fun k=>k.2⟩
  ·rw[y8 (by
    by_cases h1:p.B=[]
    ·have h2:p.D≠0:=fun e=>h ⟨h1,e⟩
     simp[h1,h2]
    ·simp[h1]),yc (fun k=>h (by simpa using k.1))]
 ·rw[Gg,z33 om]
  simp only[obind]
  by_cases h:good p.B=true/\0<=p.D/\p.D<=99
  ·rw[y7 (by simp[h.1]; omega),fin]
   congr 1
   rw[y1q,y9,y9,y8 trivial]
   exact⟨fun k=>⟨h,k⟩,fun k=>k.2⟩
  ·rw[y8 (by
    by_cases h1:good p.B=true
    ·have h2:p.D<0\/99<p.D:=by
      rcases Int.lt_or_le p.D 0 with k | k
      ·exact .inl k
      ·exact .inr (y4d.1 fun k2=>h ⟨h1,k,k2⟩)
     rcases h2 with h2 | h2 <;> simp[h1,h2]
    ·simp[h1]),yc (fun k=>h (by simpa using k.1))]
open Classical in
theorem z5g (hc:p.B.length<=1000000):F_qk p=some (decide (POp p)):=by
 by_cases hk:¬ (1<=p.U/\p.U<=9)
 ·simp only[F_qk,S_qk,Scr.den,z9]
  rw[y8 (by simp only[ye,y9]; omega),yc (fun h=>hk h.1)]
 have hk:=Decidable.not_not.1 hk
 have z:∀ x:Int,decide (0=x)=decide (x=0):=fun x=>decide_eq_decide.2 eq_comm
 obtain⟨K,C,Y,D,O,A,P,U,G,B⟩:=p
 rcases zef hk with h | h | h | h | h | h | h | h | h <;> simp only at h <;> subst h
 ·have e1:F_q1q ⟨1,C,Y,D,O,A,P,U,G,B⟩=some ([D,A],true):=rfl
  have e2:F_q5 1 C Y [D,A]=some ⟨1,C,Y,D,0,A,0,0,0,0⟩:=by
   simp[F_q5,S_q5,Scr.den,guardP,AllP,outM]
  rw[z3i hk hc e1 e2]
  congr 1
  simp[POp,partsK,condF,getF,mostF,clrF,unK,zOp,numT]
  simp only[z]
  ac_rfl
 ·have e1:F_q1q ⟨2,C,Y,D,O,A,P,U,G,B⟩=some ([O,D,A,P,U],false):=rfl
  have e2:F_q5 2 C Y [O,D,A,P,U]=some ⟨2,C,Y,D,O,A,P,U,0,0⟩:=by
   simp[F_q5,S_q5,Scr.den,guardP,AllP,outM]
  rw[z3i hk hc e1 e2]
  congr 1
  simp[POp,partsK,condF,getF,mostF,clrF,unK,zOp,numT]
  simp only[z]
  ac_rfl
 ·have e1:F_q1q ⟨3,C,Y,D,O,A,P,U,G,B⟩=some ([O,D,A],false):=rfl
  have e2:F_q5 3 C Y [O,D,A]=some ⟨3,C,Y,D,O,A,0,0,0,0⟩:=by
   simp[F_q5,S_q5,Scr.den,guardP,AllP,outM]
  rw[z3i hk hc e1 e2]
  congr 1
  simp[POp,partsK,condF,getF,mostF,clrF,unK,zOp,numT]
  simp only[z]
  ac_rfl
 ·have e1:F_q1q ⟨4,C,Y,D,O,A,P,U,G,B⟩=some ([O,D],false):=rfl
  have e2:F_q5 4 C Y [O,D]=some ⟨4,C,Y,D,O,0,0,0,0,0⟩:=by
   simp[F_q5,S_q5,Scr.den,guardP,AllP,outM]
  rw[z3i hk hc e1 e2]
  congr 1
  simp[POp,partsK,condF,getF,mostF,clrF,unK,zOp,numT]
  simp only[z]
  ac_rfl
 ·have e1:F_q1q ⟨5,C,Y,D,O,A,P,U,G,B⟩=some ([O,A],false):=rfl
  have e2:F_q5 5 C Y [O,A]=some ⟨5,C,Y,0,O,A,0,0,0,0⟩:=by
   simp[F_q5,S_q5,Scr.den,guardP,AllP,outM]
  rw[z3i hk hc e1 e2]
  congr 1
  simp[POp,partsK,condF,getF,mostF,clrF,unK,zOp,numT]
  simp only[z]
  ac_rfl
 ·have e1:F_q1q ⟨6,C,Y,D,O,A,P,U,G,B⟩=some ([O,A],false):=rfl
  have e2:F_q5 6 C Y [O,A]=some ⟨6,C,Y,0,O,A,0,0,0,0⟩:=by
   simp[F_q5,S_q5,Scr.den,guardP,AllP,outM]
  rw[z3i hk hc e1 e2]
  congr 1
  simp[POp,partsK,condF,getF,mostF,clrF,unK,zOp,numT]
  simp only[z]
  ac_rfl
 ·have e1:F_q1q ⟨7,C,Y,D,O,A,P,U,G,B⟩=some ([A],true):=rfl
  have e2:F_q5 7 C Y [A]=some ⟨7,C,Y,0,0,A,0,0,0,0⟩:=by
   simp[F_q5,S_q5,Scr.den,guardP,AllP,outM]
  rw[z3i hk hc e1 e2]
  congr 1
  simp[POp,partsK,condF,getF,mostF,clrF,unK,zOp,numT]
  simp only[z]
  ac_rfl
 ·have e1:F_q1q ⟨8,C,Y,D,O,A,P,U,G,B⟩=some ([G,B],true):=rfl
  have e2:F_q5 8 C Y [G,B]=some ⟨8,C,Y,0,0,0,0,0,G,B⟩:=by
   simp[F_q5,S_q5,Scr.den,guardP,AllP,outM]
  rw[z3i hk hc e1 e2]
  congr 1
  simp[POp,partsK,condF,getF,mostF,clrF,unK,zOp,numT]
  simp only[z]
  ac_rfl
 ·have e1:F_q1q ⟨9,C,Y,D,O,A,P,U,G,B⟩=some ([O],false):=rfl
  have e2:F_q5 9 C Y [O]=some ⟨9,C,Y,0,O,0,0,0,0,0⟩:=by
   simp[F_q5,S_q5,Scr.den,guardP,AllP,outM]
  rw[z3i hk hc e1 e2]
  congr 1
  simp[POp,partsK,condF,getF,mostF,clrF,unK,zOp,numT]
  simp only[z]
  ac_rfl
def newO (n:Int):TOf:=⟨n,[],nb⟩
theorem z52 (h:1<=n/\n<=6):VO (newO n):=(zpt h.1 h.2).1
noncomputable def runO (o:TOf) (l:List TOp):TOf:=l.foldl (fun o p=>(doS o p).1) o
def Runs:TOf->List TOp->Prop
 | _,[]=>True
 | o,p :: l=>(POp p/\(doS o p).2=0)/\Runs (doS o p).1 l
theorem z8i:∀ {l:List TOp} {o:TOf} {p:TOp},Runs o (l++[p])↔Runs o l/\POp p/\(doS (runO o l) p).2=0
 | [],o,p=>⟨fun h=>⟨trivial,h.1⟩,fun h=>⟨h.2,trivial⟩⟩
 | q :: l,o,p=>by
  show ((POp q/\(doS o q).2=0)/\Runs (doS o q).1 (l++[p]))↔_
  rw[z8i]
  exact⟨fun h=>⟨⟨h.1,h.2.1⟩,h.2.2⟩,fun h=>⟨h.1.1,h.1.2,h.2⟩⟩
theorem zcq (o:TOf) (l l':List TOp):runO o (l++l')=runO (runO o l) l':=List.foldl_append ..
theorem zbd (o:TOf) (l:List TOp) (p:TOp):runO o (l++[p])=(doS (runO o l) p).1:=by rw[zcq]; rfl
theorem z9v:∀ {l l':List TOp} {o:TOf},Runs o (l++l')↔Runs o l/\Runs (runO o l) l'
 | [],l',o=>⟨fun h=>⟨trivial,h⟩,fun h=>h.2⟩
 | q :: l,l',o=>by
  show ((POp q/\(doS o q).2=0)/\Runs (doS o q).1 (l++l'))↔_
  rw[z9v]
  exact⟨fun h=>⟨⟨h.1,h.2.1⟩,h.2.2⟩,fun h=>⟨h.1.1,h.1.2,h.2⟩⟩
theorem z3b {l:List TOp} (h:Runs o l) (n:Nat):Runs o (l.take n):=by
 rw[<- y2d n l] at h
 exact (z9v.1 h).1
theorem zm4 {l:List TOp} (h:Runs o l) (hi:i<l.length):POp (l.getD i dF)/\(doS (runO o (l.take i)) (l.getD i dF)).2=0:=by
 have h1:=z3b h (i+1)
 rw[y39,yd hi] at h1
 have:=(z8i.1 h1).2
 rwa [<- z18 hi] at this
theorem z8t:∀ {l:List TOp} {o:TOf},VO o->Runs o l->VO (runO o l)
 | [],_,h,_=>h
 | q :: l,o,_,h=>show VO (runO (doS o q).1 l) from z8t (z9t h.1.2) h.2
theorem zgz {l:List TOp} (hi:i<l.length):l.take (i+1)=l.take i++[l.getD i dF]:=by
 rw[y39,yd hi,z18 hi]
 rfl
theorem zdl (hv:VO o) (h:1<=p.U/\p.U<=9) (hc:p.B.length<=1000000):F_q3u o p=some (doS o p):=by
 rw[zub hv hv.smO hc,zbb hv h]
theorem zh0 (hn:1<=n/\n<=6) {l:List TOp} (h:Runs (newO n) l):F_qs n l=some (runO (newO n) l,(l.length:Int),0):=by
 simp only[F_qs,S_qs,Scr.den]
 obtain⟨o,e,ho⟩:=zq (body:=fun i s=>(S_qs_b1 l i s).den) (n:=l.length) (fun i o=>o=runO (newO n) (l.take i)) (s0:=newO n) rfl (fun i o hi ho=>by
  obtain⟨h1,h2⟩:=zm4 h hi
  subst ho
  have hv:=z8t (z52 hn) (z3b h i)
  have hl:=h1.len
  simp only[S_qs_b1,Scr.den]
  rw[z9u om,@decide_eq_true _ (_) h1]
  simp only[obind]
  rw[y7 dk,zdl hv h1.1 om]
  simp only[obind]
  rw[y7 (by rw[h2]; decide)]
  exact⟨_,rfl,by rw[zgz hi,zbd]⟩)
 rw[y23 (yf _)] at ho
 subst ho
 have e:rangeM (fun i s=>(S_qs_b1 l i s).den) l.length 0 (⟨n,[],(⟨[],[],[],[]⟩:TBo)⟩:TOf)=some (.next (runO (newO n) l)):=e
 rw[e]
 rfl
def VJ (j:TJo):Prop:=(1<=j.Z/\j.Z<=6)/\j.M.length<=400/\(0<=j.Af/\j.Af<=j.M.length)/\Runs (newO j.Z) j.M
noncomputable def nowJ (j:TJo):TOf:=runO (newO j.Z) j.M
noncomputable def stbJ (j:TJo):TOf:=runO (newO j.Z) (j.M.take j.Af.toNat)
variable {j:TJo}
theorem VJ.now (h:VJ j):VO (nowJ j):=z8t (z52 h.1) h.2.2.2
theorem VJ.stb (h:VJ j):VO (stbJ j):=z8t (z52 h.1) (z3b h.2.2.2 _)
theorem z4d (h:VJ j):F_q28 j=some (nowJ j,0):=by
 obtain⟨h1,h2,h3,h4⟩:=h
 simp only[F_q28,S_q28,Scr.den,F_q4o,S_q4o,zd,obind]
 rw[y7 sk,zh0 h1 h4]
 rfl
theorem z5h (h:VJ j):F_q38 j=some true:=by
 simp only[F_q38,S_q38,Scr.den,z4d h,obind]
 rfl
theorem z8j (h:VJ j):F_q3f j=some (stbJ j,0):=by
 have hv:=z5h h
 obtain⟨h1,h2,h3,h4⟩:=h
 simp only[F_q3f,S_q3f,Scr.den,hv,obind]
 rw[y7 dk,zh0 h1 (z3b h4 _)]
 simp only[obind]
 rw[z7 ⟨h3.1,om,trivial⟩]
 rfl
theorem cloneOp {l:List TOp} (hl:l.length<=1000000):F_q4z l=some l:=by
 simp only[F_q4z,S_q4z,Scr.den]
 rw[Ga]
theorem znf {l:List TOp} (hl:l.length<=1000000):F_q60 l=some l:=by
 simp only[F_q60,S_q60,Scr.den]
 rw[Ga]
def zJ:TJo:=⟨0,[],0⟩
open Classical in
noncomputable def appendS (j:TJo) (p:TOp):TJo×Int :=
 if ¬ POp p then (zJ,1) else if (doS (nowJ j) p).2≠0 then (zJ,(doS (nowJ j) p).2) else if j.M.length=400 then (zJ,3) else (⟨j.Z,j.M++[p],j.Af⟩,0)
theorem z4l (hp:¬ POp p):appendS j p=(zJ,1):=y8 hp
theorem z4m (hp:POp p) (h:(doS (nowJ j) p).2≠0):appendS j p=(zJ,(doS (nowJ j) p).2):=(y7 fun k=>k hp).trans (y8 h)
theorem z3z (hp:POp p) (h:(doS (nowJ j) p).2=0) (hl:j.M.length=400):appendS j p=(zJ,3):=(y7 fun k=>k hp).trans ((y7 fun k=>k h).trans (y8 hl))
theorem z4e (hp:POp p) (h:(doS (nowJ j) p).2=0) (hl:j.M.length≠400):appendS j p=(⟨j.Z,j.M++[p],j.Af⟩,0):=(y7 fun k=>k hp).trans ((y7 fun k=>k h).trans (y7 hl))
theorem zcr (h:VJ j) (hc:p.B.length<=1000000):F_q4y j p=some (appendS j p):=by
 have hv:=h.now
 simp only[F_q4y,S_q4y,Scr.den,z4d h,obind]
 rw[Gg,z9u hc]
 simp only[obind,z9]
 by_cases hp:POp p
 ·rw[@decide_eq_true _ (_) hp,y7 sj,zdl hv hp.1 hc]
  simp only[obind]
  by_cases h0:(doS (nowJ j) p).2=0
  ·rw[y7 (by simp[h0])]
   by_cases hl:j.M.length=400
   ·rw[y8 (by simp[hl]),z3z hp h0 hl]
    rfl
   ·rw[y7 sk,z4e hp h0 hl]
    simp only[F_q7o,S_q7o,Scr.den,znf (show j.M.length<=1000000 by have:=h.2.1; omega),obind]
    rw[z7 ⟨by have:=h.2.1; show (j.M.length+1) * (2 * 88)<=2 ^ 48; omega,trivial⟩,z7 ⟨by have:=h.2.1; rw[yp]; simp; omega,trivial⟩]
  ·rw[y8 (by simpa using h0),z4m hp h0]
   rfl
 ·rw[@decide_eq_false _ (_) hp,y8 sj,z4l hp]
  rfl
def flushJ (j:TJo):TJo:=⟨j.Z,j.M,(j.M.length:Int)⟩
def crashJ (j:TJo):TJo:=⟨j.Z,j.M.take j.Af.toNat,j.Af⟩
theorem zng (h:VJ j):F_q62 j=some (flushJ j):=by
 have hl:=h.2.1
 simp only[F_q62,S_q62,Scr.den,z5h h,obind,y17,zb]
 simp only[F_q4a,S_q4a,Scr.den,cloneOp (show j.M.length<=1000000 from om),obind]
 rfl
theorem znh (h:VJ j):F_q63 j=some (crashJ j):=by
 have hl:=h.2.1
 have hf:=h.2.2.1
 simp only[F_q63,S_q63,Scr.den,z5h h,obind,y17]
 rw[z7 ⟨hf.1,om,trivial⟩]
 simp only[zb]
 simp only[F_q4a,S_q4a,Scr.den,cloneOp (show (j.M.take j.Af.toNat).length<=1000000 by rw[y1k]; omega),obind]
 rfl
theorem zh1 (h:VJ j) (h0:(appendS j p).2=0):VJ (appendS j p).1/\appendS j p=(⟨j.Z,j.M++[p],j.Af⟩,0)/\POp p/\(doS (nowJ j) p).2=0:=by
 by_cases hp:POp p
 ·by_cases h1:(doS (nowJ j) p).2=0
  ·by_cases hl:j.M.length=400
   ·rw[z3z hp h1 hl] at h0; cases h0
   ·rw[z4e hp h1 hl]
    obtain⟨q1,q2,q3,q4⟩:=h
    refine⟨⟨q1,?_,⟨q3.1,?_⟩,z8i.2 ⟨q4,hp,h1⟩⟩,rfl,hp,h1⟩
    ·show (j.M++[p]).length<=400
     rw[yp]; simp; omega
    ·show j.Af<=((j.M++[p]).length:Int)
     have h7:(j.M++[p]).length=j.M.length+1:=sj
     have h8:=q3.2
     omega
  ·rw[z4m hp h1] at h0
   exact absurd h0 h1
 ·rw[z4l hp] at h0; cases h0
theorem zeg:nowJ ⟨j.Z,j.M++[p],j.Af⟩=(doS (nowJ j) p).1:=zbd ..
theorem zeh (h:VJ j):stbJ ⟨j.Z,j.M++[p],j.Af⟩=stbJ j:=by
 unfold stbJ
 have:=h.2.2.1
 rw[List.take_append_of_le_length (show j.Af.toNat<=j.M.length from om)]
theorem zs7 (h:VJ j):VJ (flushJ j):=⟨h.1,h.2.1,⟨by show (0:Int)<=(j.M.length:Int); omega,y1h _⟩,h.2.2.2⟩
theorem zq0 (j:TJo):nowJ (flushJ j)=nowJ j:=rfl
theorem zh2 (j:TJo):stbJ (flushJ j)=nowJ j:=by
 unfold stbJ nowJ flushJ
 simp only[yg]
 rw[y23 (yf _)]
theorem zs8 (h:VJ j):VJ (crashJ j):=by
 obtain⟨h1,h2,h3,h4⟩:=h
 refine⟨h1,?_,⟨h3.1,?_⟩,z3b h4 _⟩
 ·show (j.M.take j.Af.toNat).length<=400
  rw[y1k]; omega
 ·show j.Af<=((j.M.take j.Af.toNat).length:Int)
  rw[y1k]; omega
theorem zq1 (j:TJo):nowJ (crashJ j)=stbJ j:=rfl
theorem zh3 (j:TJo):stbJ (crashJ j)=stbJ j:=by
 unfold stbJ crashJ
 simp only
 rw[List.take_take,Nat.min_self]
theorem zm5:hasR (putL l r) c y=true↔hasR l c y=true\/(r.B=c/\r.D=y):=by
 constructor
 ·intro h
  obtain⟨x,hx,h1,h2⟩:=has_iff.1 h
  rcases zft hx with rfl | hx
  ·exact .inr ⟨h1,h2⟩
  ·exact .inl (has_iff.2 ⟨x,hx,h1,h2⟩)
 ·rintro (h | ⟨h1,h2⟩)
  ·exact zm0 h
  ·exact has_iff.2 ⟨r,z7l l r,h1,h2⟩
theorem z53 (h0:(doS o p).2=0):(doS o p).1.Q=o.Q/\∀ c y,
  (hasR (doS o p).1.L c y=true↔hasR o.L c y=true\/(p.U=8/\p.B=c/\p.D=y)) /\
  (rightV (doS o p).1.L c y).A=(if p.U=8/\p.B=c/\p.D=y then max (rightV o.L c y).A p.A else (rightV o.L c y).A) /\
  (rightV (doS o p).1.L c y).G=(if p.U=8/\p.B=c/\p.D=y then max (rightV o.L c y).G p.Ae else (rightV o.L c y).G) /\
  (rightV (doS o p).1.L c y).S=(if p.U=7/\p.B=c/\p.D=y then (rightV o.L c y).S+p.V else (rightV o.L c y).S) /\
  (p.U=7/\p.B=c/\p.D=y->hasR o.L c y=true/\1<=p.V):=by
 obtain⟨hv,_,e⟩:=zfv h0
 rw[e] at h0 |-
 by_cases c8:p.U=8
 ·have e8:stepS o p=hearS o p:=by unfold stepS; rw[y8 c8]
  rw[e8] at h0 |-
  obtain⟨r,e1,hr,h1,h2,h3,_⟩:=zfu hv h0
  rw[e1]
  refine⟨rfl,fun c y=>?_⟩
  have hr':=z9r (l:=o.L) hv.srt hv.ok hr c y
  have k7:¬ (p.U=7/\p.B=c/\p.D=y):=fun k=>om
  rw[y7 k7]
  refine⟨?_,?_,?_,?_,fun k=>absurd k k7⟩
  ·rw[zm5,h1,h2]
   exact⟨fun k=>k.imp_right fun q=>⟨c8,q⟩,fun k=>k.imp_right fun q=>q.2⟩
  all_goals
   rw[hr']
   by_cases k:p.B=c/\p.D=y
   ·rw[y8 (show r.B=c/\r.D=y by rw[h1,h2]; exact k)]
    try rw[y8 (show p.U=8/\p.B=c/\p.D=y from ⟨c8,k⟩)]
    obtain⟨rfl,rfl⟩:=k
    rw[h3]
    try simp only
    try (split <;> omega)
   ·rw[y7 (show ¬ (r.B=c/\r.D=y) by rw[h1,h2]; exact k)]
    try rw[y7 (show ¬ (p.U=8/\p.B=c/\p.D=y) from fun q=>k q.2)]
 by_cases c7:p.U=7
 ·have e7:stepS o p=giveS o p:=by unfold stepS; rw[y7 c8,y8 c7]
  rw[e7] at h0 |-
  obtain⟨g1,g2,_,r,e1,hr,h3,_⟩:=zm2 hv h0
  rw[e1]
  refine⟨rfl,fun c y=>?_⟩
  have h1:r.B=p.B:=by rw[h3]
  have h2:r.D=p.D:=by rw[h3]
  have hr':=z9r (l:=o.L) hv.srt hv.ok hr c y
  have k8:¬ (p.U=8/\p.B=c/\p.D=y):=fun k=>c8 k.1
  rw[y7 k8,y7 k8]
  refine⟨?_,?_,?_,?_,fun k=>⟨by rw[<- k.2.1,<- k.2.2]; exact g1,g2⟩⟩
  ·rw[zm5,h1,h2]
   refine⟨fun k=>k.elim .inl fun q=>.inl ?_,fun k=>k.elim .inl fun q=>absurd q k8⟩
   rw[<- q.1,<- q.2]
   exact g1
  all_goals
   rw[hr']
   by_cases k:p.B=c/\p.D=y
   ·rw[y8 (show r.B=c/\r.D=y by rw[h1,h2]; exact k)]
    try rw[y8 (show p.U=7/\p.B=c/\p.D=y from ⟨c7,k⟩)]
    obtain⟨rfl,rfl⟩:=k
    rw[h3]
   ·rw[y7 (show ¬ (r.B=c/\r.D=y) by rw[h1,h2]; exact k)]
    try rw[y7 (show ¬ (p.U=7/\p.B=c/\p.D=y) from fun q=>k q.2)]
 obtain⟨e1,_⟩:=zm1 hv ⟨c7,c8⟩ h0
 rw[e1]
 refine⟨rfl,fun c y=>?_⟩
 have k8:¬ (p.U=8/\p.B=c/\p.D=y):=fun k=>c8 k.1
 have k7:¬ (p.U=7/\p.B=c/\p.D=y):=fun k=>c7 k.1
 rw[y7 k8,y7 k8,y7 k7]
 exact⟨⟨.inl,fun k=>k.elim id fun q=>absurd q k8⟩,rfl,rfl,rfl,fun k=>absurd k k7⟩
theorem zvp (h0:(doS o p).2=0):(doS o p).1.Q=o.Q:=(z53 h0).1
def LeO (a b:TOf):Prop:=∀ c y,(hasR a.L c y=true->hasR b.L c y=true)/\(rightV a.L c y).A<=(rightV b.L c y).A/\(rightV a.L c y).G<=(rightV b.L c y).G/\(rightV a.L c y).S<=(rightV b.L c y).S
theorem LeO.refl (a:TOf):LeO a a:=fun _ _=>⟨id,y1h _,y1h _,y1h _⟩
theorem LeO.trans {a b c:TOf} (h:LeO a b) (h':LeO b c):LeO a c:=fun d y=>by
 obtain⟨h1,h2,h3,h4⟩:=h d y
 obtain⟨g1,g2,g3,g4⟩:=h' d y
 exact⟨fun k=>g1 (h1 k),om,om,om⟩
theorem zwm (h0:(doS o p).2=0):LeO o (doS o p).1:=fun c y=>by
 obtain⟨h1,h2,h3,h4,h5⟩:=(z53 h0).2 c y
 rw[h2,h3,h4]
 refine⟨fun k=>h1.2 (.inl k),?_,?_,?_⟩
 ·split <;> omega
 ·split <;> omega
 ·split
  ·have:=(h5 ‹_›).2; omega
  ·omega
theorem zm6:∀ {l:List TOp} {o:TOf},Runs o l->LeO o (runO o l)
 | [],o,_=>LeO.refl o
 | q :: l,o,h=>show LeO o (runO (doS o q).1 l) from (zwm h.1.2).trans (zm6 h.2)
theorem zei (h:VJ j):LeO (stbJ j) (nowJ j):=by
 have h4:=h.2.2.2
 unfold stbJ nowJ
 rw[<- y2d j.Af.toNat j.M] at h4
 have h5:=(z9v.1 h4).2
 have:=zm6 h5
 rwa [<- zcq,y2d] at this
end Go.Proofs.YtkhgaalekilaeaaGreatDoor
namespace Go.Proofs.YtkhgaalekilaeaaGreatDoor.J13
open Go Go.TA
open Go.IntKind (i64)
def tot (n:Int):Prop:=0<=n/\n<=1000000000000000
instance (n:Int):Decidable (tot n):=by unfold tot; infer_instance
theorem zej (l:List Int) (a:Int):l.foldl (fun s x=>i64.wrap (s+x)) (i64.wrap a)=i64.wrap (a+l.sum):=by
 induction l generalizing a with
 | nil=>simp
 | cons x l ih=>rw[y2z,z6f,ih,y3e,y5r]
theorem z84:i64.wrap 0=0:=wrapId om om
theorem zjn (l:List Int):F_q14 l=some (i64.wrap l.sum):=by
 have e:=zej l 0
 rw[z84,Int.zero_add] at e
 simp only[F_q14,S_q14,Scr.den]
 rw[z1x (ρ:=Int) (body:=fun i s=>(S_q14_b1 l i s).den) l (fun (s:Int) x=>i64.wrap (s+x)) (fun i s hi=>rfl)]
 simp only[outM,e]
variable {c:Y8}
theorem zjo (hc:c.length<=1000000) (y:Int):F_q3b c y=some (good c&&decide (0<=y/\y<=99)):=by
 have hg:=z3g c
 simp only[F_q3b,S_q3b,Scr.den,z3h (l:=c) om,obind,zd]
 have e:decide (((parts c).length:Int)>0)=good c:=by rw[<- hg]; simp
 rw[e]
 cases good c with
 | true=>rw[Gg]; simp[z16]
 | false=>rw[Gh]; simp
theorem zcs (n:Int):F_q1w n=some (decide (tot n)):=by rw[z5e]; rfl
theorem z3x (n:Int):F_qq n=some (decide (tot n)):=by
 simp only[F_qq,S_qq,Scr.den,zd]
 congr 1
 by_cases h:tot n
 ·rw[yb h,yb h.1,yb h.2]; rfl
 ·rw[yc h]
  unfold tot at h
  simp only[y3r,yh,y3y]
  omega
def rowT (l:List Int):Bool:=l.all fun x=>decide (tot x)
theorem zjp (l:List Int):F_q33 l=some (if rowT l=true then -1 else ((l.findIdx fun x=>!decide (tot x):Nat):Int)):=by
 simp only[F_q33,S_q33,Scr.den]
 rw[z7i l (fun x=>!decide (tot x)) (fun i=>(i:Int)) (fun i hi=>by
  simp only[S_q33_b1,F_q78,S_q78,Scr.den,zcs,obind]
  split <;> rfl)]
 have e:(l.any fun x=>!decide (tot x))=!rowT l:=by rw[rowT,List.all_eq_not_any_not,Bool.not_not]
 rw[e]
 cases rowT l <;> rfl
theorem zl1 (l:List Int):F_q5a l=some (!rowT l):=by
 simp only[F_q5a,S_q5a,Scr.den,zjp,obind]
 congr 1
 cases rowT l with
 | true=>rfl
 | false=>simp
variable {l:List Int}
theorem z7m:rowT l=true↔∀ x∈l,tot x:=by simp[rowT]
def rowOk (n:Int) (l:List Int):Prop:=(l.length:Int)=n/\∀ x∈l,tot x
instance (n:Int) (l:List Int):Decidable (rowOk n l):=by unfold rowOk; infer_instance
def leRow (a b:List Int):Prop:=∀ i,i<b.length->a.getD i dF<=b.getD i dF
instance (a b:List Int):Decidable (leRow a b):=by unfold leRow; infer_instance
def PotOk (n:Int) (p:TPo):Prop:=good p.B=true/\(0<=p.D/\p.D<=99)/\(-1000000000000000<=p.T/\p.T<=1000000000000000) /\
 (rowOk n p.A/\rowOk n p.H/\rowOk n p.G/\rowOk n p.P)/\(leRow p.H p.A/\leRow p.G p.A)/\p.A.sum<=1000000000000000
instance (n:Int) (p:TPo):Decidable (PotOk n p):=by unfold PotOk; infer_instance
theorem z54 (h:∀ x∈l,tot x):0<=l.sum/\l.sum<=l.length * 1000000000000000:=by
 induction l with
 | nil=>simp
 | cons x l ih =>
  have h1:=h x sj
  have h2:=ih fun y hy=>h y (by simp[hy])
  unfold tot at h1
  simp only[y3e,yq]
  omega
variable {n:Int}
theorem zjq (h:rowOk n l) (hn:n<=6):i64.wrap l.sum=l.sum:=by
 have:=z54 h.2
 have:=h.1
 exact wrapId om om
theorem zq2 (p:TPo) (n:Int):rangeM (fun i s=>(S_qo_b1 p n i s).den) 4 0 () =
  some (if rowOk n p.A/\rowOk n p.H/\rowOk n p.G/\rowOk n p.P then .next () else .ret false):=by
 have one:∀ i (l:List Int),([p.A,p.H,p.G,p.P]:List (List Int)).getD i dF=l->(S_qo_b1 p n i ()).den=some (if rowOk n l then .cont () else .ret false):=fun i l hl=>by
  simp only[S_qo_b1,Scr.den,hl,z9]
  by_cases h1:(l.length:Int)=n
  ·rw[ze (by simp[AllP,h1]),zl1]
   simp only[obind,h1,bne_self_eq_false,y3t]
   by_cases h2:rowT l=true
   ·rw[h2,y7 sj,y8 ⟨h1,z7m.1 h2⟩]
   ·rw[y8 (by simpa using h2),y7 fun h=>h2 (z7m.2 h.2)]
  ·rw[zj (by simp[AllP,h1])]
   simp only[obind]
   rw[y8 (by simp[h1]),y7 fun h=>h1 h.1]
 rw[show (4:Nat)=0+1+1+1+1 from rfl]
 simp only[rangeM,one 0 p.A rfl,one (0+1) p.H rfl,one (0+1+1) p.G rfl,one (0+1+1+1) p.P rfl]
 by_cases h1:rowOk n p.A <;> by_cases h2:rowOk n p.H <;> by_cases h3:rowOk n p.G <;> by_cases h4:rowOk n p.P <;> simp[h1,h2,h3,h4]
variable {p:TPo}
theorem zs9 (hc:p.B.length<=1000000) (hn:n<=6):F_qo p n=some (decide (PotOk n p)):=by
 simp only[F_qo,S_qo,Scr.den,zjo hc,obind,z9]
 by_cases h1:(good p.B&&decide (0<=p.D/\p.D<=99))=true
 ·rw[ze (by rw[h1]; exact⟨rfl,trivial⟩),z16]
  simp only[obind,h1,y29,y3t]
  by_cases h2:-1000000000000000<=p.T/\p.T<=1000000000000000
  ·rw[y7 (by simpa using h2),zq2]
   by_cases h3:rowOk n p.A/\rowOk n p.H/\rowOk n p.G/\rowOk n p.P
   ·rw[y8 h3]
    simp only[outM]
    have l1:=h3.1.1; have l2:=h3.2.1.1; have l3:=h3.2.2.1.1
    have ra:=zi (ρ:=Bool) (n:=p.A.length) (c:=false) (body:=fun i s=>(S_qo_b2 p i s).den) (fun i=>p.H.getD i dF<=p.A.getD i dF/\p.G.getD i dF<=p.A.getD i dF) (fun i hi hp=>by
     simp only[S_qo_b2,Scr.den,z9]
     rw[z7 (by simp only[AllP,y1b]; exact⟨om,fun _=>om⟩),y7 (by simp only[ye,y9]; omega)]) (fun i hi hp=>by
     simp only[S_qo_b2,Scr.den,z9]
     rw[z7 (by simp only[AllP,y1b]; exact⟨om,fun _=>om⟩),y8 (by simp only[ye,y9]; omega)])
    by_cases h4:∀ j,j<p.A.length->p.H.getD j dF<=p.A.getD j dF/\p.G.getD j dF<=p.A.getD j dF
    ·rw[ra.1 h4]
     simp only[zjn,obind,zjq h3.1 hn]
     congr 1
     refine decide_eq_decide.2 ⟨fun h=>?_,fun h=>h.2.2.2.2.2⟩
     simp only[yj,y9] at h1
     exact⟨h1.1,h1.2,h2,h3,⟨fun i hi=>(h4 i hi).1,fun i hi=>(h4 i hi).2⟩,h⟩
    ·rw[ra.2 h4]
     show some false=_
     rw[yc fun h=>h4 fun j hj=>⟨h.2.2.2.2.1.1 j hj,h.2.2.2.2.1.2 j hj⟩]
   ·rw[y7 h3]
    simp only[outM]
    rw[yc fun h=>h3 h.2.2.2.1]
    rfl
  ·rw[y8 (by simp only[yi,yh]; exact h2),yc fun h=>h2 h.2.2.1]
 ·rw[zj (by rw[y55] at h1; rw[h1]; simp[AllP])]
  simp only[obind]
  rw[y8 (by rw[y55] at h1; rw[h1]; rfl),yc fun h=>h1 (by simp[h.1,h.2.1])]
variable {ρ:Type}
theorem zek {α σ:Type} [Inhabited α] {body:Nat->σ->Option (Step σ ρ)} (l:List α) (ok:Nat->Prop) [DecidablePred ok] (g:σ->α->σ) {c:ρ} {s0:σ} (hs:∀ i s,i<l.length->body i s=some (if ok i then .cont (g s (l.getD i dF)) else .ret c)) :
  rangeM body l.length 0 s0=some (if (∀ i,i<l.length->ok i) then .next (l.foldl g s0) else .ret c):=by
 by_cases h:∀ i,i<l.length->ok i
 ·rw[y8 h]
  exact z1x l g fun i s hi=>by rw[hs i s hi,y8 (h i hi)]
 ·rw[y7 h]
  have key:∀ (k i:Nat) (s:σ),i+k=l.length->(¬ ∀ j,i<=j->j<l.length->ok j)->rangeM body k i s=some (.ret c):=by
   intro k
   induction k with
   | zero=>intro i s hk hn; exact absurd (fun j h1 h2=>om) hn
   | succ k ih =>
    intro i s hk hn
    simp only[rangeM,hs i s om]
    by_cases ho:ok i
    ·rw[y8 ho]
     refine ih (i+1) _ om fun hall=>hn fun j h1 h2=>?_
     by_cases hj:j=i
     ·subst hj; exact ho
     ·exact hall j om h2
    ·rw[y7 ho]
  exact key l.length 0 s0 om fun hall=>h fun i hi=>hall i om hi
def okP (g h a u:Int):Prop:=tot g/\tot h/\tot a/\tot u/\h<=g/\a<=g
instance (g h a u:Int):Decidable (okP g h a u):=by unfold okP; infer_instance
variable {i:Nat}
theorem zsa {s:Int} (h1:i<p.H.length) (h2:i<p.G.length) (h3:i<p.P.length) :
  (S_q2a_b1 p i s).den=some (if okP (p.A.getD i dF) (p.H.getD i dF) (p.G.getD i dF) (p.P.getD i dF) then .cont (i64.wrap (s+p.A.getD i dF)) else .ret false):=by
 simp only[S_q2a_b1,Scr.den,z3x,obind,z9]
 simp only[h1,h2,h3,implies_true]
 generalize p.A.getD i dF=g
 generalize p.H.getD i dF=h
 generalize p.G.getD i dF=a
 generalize p.P.getD i dF=u
 by_cases hA:tot g
 ·by_cases hB:tot h
  ·by_cases hC:tot a
   ·by_cases hD:tot u
    ·by_cases hE:h<=g
     ·by_cases hF:a<=g
      ·rw[y8 ⟨hA,hB,hC,hD,hE,hF⟩]
       simp[optD,AllP,hA,hB,hC,hD,guardP,Int.not_lt.2 hE,Int.not_lt.2 hF]
      ·rw[y7 fun h=>hF h.2.2.2.2.2]
       simp[optD,AllP,hA,hB,hC,hD,guardP,Int.not_lt.2 hE,Int.not_le.1 hF]
     ·rw[y7 fun h=>hE h.2.2.2.2.1]
      simp[optD,AllP,hA,hB,hC,hD,guardP,Int.not_le.1 hE]
    ·rw[y7 fun h=>hD h.2.2.2.1]
     simp[optD,AllP,hA,hB,hC,hD,guardP]
   ·rw[y7 fun h=>hC h.2.2.1]
    simp[optD,AllP,hA,hB,hC,guardP]
  ·rw[y7 fun h=>hB h.2.1]
   simp[optD,AllP,hA,hB,guardP]
 ·rw[y7 fun h=>hA h.1]
  simp[optD,AllP,hA,guardP]
theorem z3n:(∀ i,i<l.length->tot (l.getD i dF))↔∀ x∈l,tot x :=
 ⟨fun h x hx=>by obtain⟨i,hi,rfl⟩:=z13 hx; exact h i hi,fun h i hi=>h _ (z8 hi)⟩
theorem zni (hc:p.B.length<=1000000) (h6:n<=6):F_q2a p n=some (decide (PotOk n p)):=by
 simp only[F_q2a,S_q2a,Scr.den,z33 (l:=p.B) om,obind,z9]
 by_cases h1:good p.B=true/\(0<=p.D/\p.D<=99)/\(-1000000000000000<=p.T/\p.T<=1000000000000000)
 ·rw[y7 (by simp only[ye,yi,y9,h1.1,Bool.true_eq_false,y46]; omega)]
  by_cases h2:(p.A.length:Int)=n/\(p.H.length:Int)=n/\(p.G.length:Int)=n/\(p.P.length:Int)=n
  ·obtain⟨l1,l2,l3,l4⟩:=h2
   rw[y7 (by simp[l1,l2,l3,l4]),Ge]
   rw[zek (body:=fun i s=>(S_q2a_b1 p i s).den) p.A (fun i=>okP (p.A.getD i dF) (p.H.getD i dF) (p.G.getD i dF) (p.P.getD i dF)) (fun (s:Int) x=>i64.wrap (s+x))
    (fun i s hi=>zsa om om om)]
   by_cases h3:∀ i,i<p.A.length->okP (p.A.getD i dF) (p.H.getD i dF) (p.G.getD i dF) (p.P.getD i dF)
   ·rw[y8 h3]
    have g1:rowOk n p.A:=⟨l1,z3n.1 fun i hi=>(h3 i hi).1⟩
    have g2:rowOk n p.H:=⟨l2,z3n.1 fun i hi=>(h3 i om).2.1⟩
    have g3:rowOk n p.G:=⟨l3,z3n.1 fun i hi=>(h3 i om).2.2.1⟩
    have g4:rowOk n p.P:=⟨l4,z3n.1 fun i hi=>(h3 i om).2.2.2.1⟩
    have e:=zej p.A 0
    rw[z84,Int.zero_add,zjq g1 h6] at e
    show some (decide (_<=_))=_
    rw[e]
    congr 1
    exact decide_eq_decide.2 ⟨fun h=>⟨h1.1,h1.2.1,h1.2.2,⟨g1,g2,g3,g4⟩,⟨fun i hi=>(h3 i hi).2.2.2.2.1,fun i hi=>(h3 i hi).2.2.2.2.2⟩,h⟩,fun h=>h.2.2.2.2.2⟩
   ·rw[y7 h3]
    show some false=_
    rw[yc fun h=>h3 fun i hi=>⟨z3n.2 h.2.2.2.1.1.2 i hi,z3n.2 h.2.2.2.1.2.1.2 i om,z3n.2 h.2.2.2.1.2.2.1.2 i om,z3n.2 h.2.2.2.1.2.2.2.2 i om,h.2.2.2.2.1.1 i hi,h.2.2.2.2.1.2 i hi⟩]
  ·rw[y8 (by simp only[ye,y1j]; omega),yc fun h=>h2 ⟨h.2.2.2.1.1.1,h.2.2.2.1.2.1.1,h.2.2.2.1.2.2.1.1,h.2.2.2.1.2.2.2.1⟩]
 ·rw[y8 (by
   simp only[ye,yi,y9]
   by_cases hg:good p.B=true
   ·have:¬ ((0<=p.D/\p.D<=99)/\(-1000000000000000<=p.T/\p.T<=1000000000000000)):=fun h=>h1 ⟨hg,h⟩
    omega
   ·simp[Bool.not_eq_true] at hg; simp[hg]),yc fun h=>h1 ⟨h.1,h.2.1,h.2.2.1⟩]
def cmpP (a b:TPo):Int:=if cmpC a.B b.B≠0 then cmpC a.B b.B else cmpI a.D b.D
variable {b:TPo}
theorem zel {a:TPo} (ha:a.B.length<=1000000) (hb:b.B.length<=1000000):F_q3i a b=some (cmpP a b):=by
 simp only[F_q3i,S_q3i,Scr.den,ze8 ha hb,zfl,obind,F_q1n,S_q1n,S_q1n_b1,cmpP]
 by_cases h:cmpC a.B b.B=0
 ·rw[y7 (by simpa using h)]
  by_cases h2:cmpI a.D b.D=0
  ·simp[rangeM,h,h2,outM]
  ·simp[rangeM,h,h2,outM]
 ·rw[y8 h]
  simp[rangeM,h,outM]
def Small (t:TTr):Prop:=∀ p∈t.E,p.B.length<=1000000
def PotsOk (n:Int) (l:List TPo):Prop:=∀ i,i<l.length->PotOk n (l.getD i dF)/\(0<i->cmpP (l.getD (i-1) dF) (l.getD i dF)<0)
instance (n:Int) (l:List TPo):Decidable (PotsOk n l):=by unfold PotsOk; infer_instance
def TOk (t:TTr):Prop:=(1<=t.O/\t.O<=6)/\t.E.length<=60/\PotsOk t.O t.E
instance (t:TTr):Decidable (TOk t):=by unfold TOk; infer_instance
variable {t:TTr}
theorem z9w (h:Small t) (hi:i<t.E.length):(t.E.getD i dF).B.length<=1000000:=h _ (z8 hi)
theorem wrapPred (h0:0<i) (h:i<9223372036854775808):i64.wrap ((i:Int)-1)=((i-1:Nat):Int):=by rw[wrapId om om]; omega
theorem Valid_eq (hs:Small t):F_qx t=some (decide (TOk t)):=by
 simp only[F_qx,S_qx,Scr.den,z16,obind,z9]
 by_cases h1:(1<=t.O/\t.O<=6)/\t.E.length<=60
 ·rw[y7 (by simp only[ye,yi,yh,y9]; omega)]
  have step:∀ i,i<t.E.length->(S_qx_b1 t i ()).den=some (if PotOk t.O (t.E.getD i dF)/\(0<i->cmpP (t.E.getD (i-1) dF) (t.E.getD i dF)<0) then .cont () else .ret false):=fun i hi=>by
   simp only[S_qx_b1,Scr.den,zs9 (z9w hs hi) h1.1.2,obind,z9,zd]
   by_cases h0:0<i
   ·rw[wrapPred h0 om,yg,zel (z9w hs om) (z9w hs hi)]
    have hgu:∀ a:Prop,AllP [a->(0:Int)<=((i-1:Nat):Int),a->i-1<t.E.length]:=fun a=>⟨fun _=>om,fun _=>om,trivial⟩
    have e0:decide ((i:Int)>0)=true:=yb om
    by_cases h2:PotOk t.O (t.E.getD i dF)
    ·rw[ze (by simp only[AllP,e0,yb h2,y29,y1b])]
     simp only[obind]
     rw[z7 (hgu _)]
     simp only[e0,yb h2,y29,y3t,y42,y9]
     by_cases h3:cmpP (t.E.getD (i-1) dF) (t.E.getD i dF)<0
     ·rw[y7 (y4d.2 h3),y8 ⟨h2,fun _=>h3⟩]
     ·rw[y8 (y2w.1 h3),y7 fun h=>h3 (h.2 h0)]
    ·rw[zj (by simp only[AllP,yc h2,y4s,Bool.true_eq_false,and_false,y57,ym])]
     simp only[obind]
     rw[z7 (hgu _)]
     simp only[yc h2,y4s,Bool.true_or,y17]
     rw[y7 fun h=>h2 h.1]
   ·have hi0:i=0:=om
    subst hi0
    have e0:decide (((0:Nat):Int)>0)=false:=rfl
    rw[zj (by simp only[AllP,e0,yu,y57,ym])]
    simp only[obind,e0,Bool.false_and,Bool.or_false]
    rw[z7 (by simp only[AllP,yu,y57,false_implies,y1b])]
    by_cases h2:PotOk t.O (t.E.getD 0 dF)
    ·rw[y7 (by simp only[yb h2,y29,yu,ym]),y8 ⟨h2,fun h=>absurd h om⟩]
    ·rw[y8 (by simp only[yc h2,y4s]),y7 fun h=>h2 h.1]
  have ra:=zi (ρ:=Bool) (n:=t.E.length) (c:=false) (body:=fun i s=>(S_qx_b1 t i s).den) (fun i=>PotOk t.O (t.E.getD i dF)/\(0<i->cmpP (t.E.getD (i-1) dF) (t.E.getD i dF)<0))
   (fun i hi hp=>by rw[step i hi,y8 hp]) (fun i hi hp=>by rw[step i hi,y7 hp])
  by_cases h4:PotsOk t.O t.E
  ·rw[ra.1 h4,yb (show TOk t from ⟨h1.1,h1.2,h4⟩)]; rfl
  ·rw[ra.2 h4,yc fun h:TOk t=>h4 h.2.2]; rfl
 ·rw[y8 (by simp only[ye,yi,yh,y9]; omega),yc fun h:TOk t=>h1 ⟨h.1,h.2.1⟩]
theorem zq3 {a:TPo} (ha:good a.B=true):cmpP a b<0↔lexC (parts a.B) (parts b.B)<0\/(lexC (parts a.B) (parts b.B)=0/\a.D<b.D):=by
 unfold cmpP
 rw[z30 (.inl ha)]
 unfold cmpI
 split
 ·omega
 ·split
  ·omega
  ·split <;> omega
theorem chk (c y y':Int):((decide (c>0)||(c==0&&decide (y>=y')))=true)↔¬ (c<0\/(c=0/\y<y')):=by
 simp only[ye,yj,y9,y15]; omega
theorem r13_Valid_eq (hs:Small t):F_q18 t=some (decide (TOk t)):=by
 simp only[F_q18,S_q18,Scr.den,z9]
 by_cases h1:(1<=t.O/\t.O<=6)/\t.E.length<=60
 ·rw[y7 (by simp only[ye,y9]; omega)]
  have step:∀ i,i<t.E.length->(0<i->PotOk t.O (t.E.getD (i-1) dF))->(S_q18_b1 t i ()).den =
    some (if PotOk t.O (t.E.getD i dF)/\(0<i->cmpP (t.E.getD (i-1) dF) (t.E.getD i dF)<0) then .cont () else .ret false):=fun i hi hp=>by
   simp only[S_q18_b1,Scr.den,zni (z9w hs hi) h1.1.2,obind,zd,z9]
   by_cases h2:PotOk t.O (t.E.getD i dF)
   ·rw[y7 (by simp only[yb h2,y29,yu,ym])]
    by_cases h0:0<i
    ·have hp:=hp h0
     rw[y8 (yb om),wrapPred h0 om,yg,z4b hp.1 h2.1]
     simp only[obind]
     rw[Ge,z7 (by simp only[AllP,y1b]; exact⟨fun _=>om,fun _=>om⟩)]
     have hc:=zq3 (a:=t.E.getD (i-1) dF) (b:=t.E.getD i dF) hp.1
     by_cases h3:cmpP (t.E.getD (i-1) dF) (t.E.getD i dF)<0
     ·rw[y7 fun h=>(chk _ _ _).1 h (hc.1 h3),y8 ⟨h2,fun _=>h3⟩]
     ·rw[y8 ((chk _ _ _).2 fun h=>h3 (hc.2 h)),y7 fun h=>h3 (h.2 h0)]
    ·rw[y7 (by simp only[y9]; omega),y8 ⟨h2,fun h=>absurd h h0⟩]
   ·rw[y8 (by simp only[yc h2,y4s]),y7 fun h=>h2 h.1]
  have key:∀ (k i:Nat),i+k=t.E.length->(∀ j,j<i->PotOk t.O (t.E.getD j dF)/\(0<j->cmpP (t.E.getD (j-1) dF) (t.E.getD j dF)<0))->rangeM (fun i s=>(S_q18_b1 t i s).den) k i ()=some (if PotsOk t.O t.E then .next () else .ret false):=by
   intro k
   induction k with
   | zero =>
    intro i hk hj
    rw[y8 (show PotsOk t.O t.E from fun j h=>hj j om)]
    rfl
   | succ k ih =>
    intro i hk hj
    have hi:i<t.E.length:=om
    simp only[rangeM,step i hi fun h0=>(hj (i-1) om).1]
    by_cases h2:PotOk t.O (t.E.getD i dF)/\(0<i->cmpP (t.E.getD (i-1) dF) (t.E.getD i dF)<0)
    ·rw[y8 h2]
     exact ih (i+1) om fun j hj'=>by
      by_cases e:j=i
      ·subst e; exact h2
      ·exact hj j om
    ·rw[y7 h2,y7 fun hp:PotsOk t.O t.E=>h2 (hp i hi)]
  rw[key t.E.length 0 om (fun j h=>absurd h om)]
  by_cases h4:PotsOk t.O t.E
  ·rw[y8 h4,yb (show TOk t from ⟨h1.1,h1.2,h4⟩)]; rfl
  ·rw[y7 h4,yc fun h:TOk t=>h4 h.2.2]; rfl
 ·rw[y8 (by simp only[ye,y9]; omega),yc fun h:TOk t=>h1 ⟨h.1,h.2.1⟩]
def isP (c:Y8) (y:Int) (p:TPo):Bool:=p.B==c&&p.D==y
variable {y:Int}
theorem zfw:isP c y p=true↔p.B=c/\p.D=y:=by simp[isP]
def hasP (l:List TPo) (c:Y8) (y:Int):Bool:=l.any (isP c y)
def pix (l:List TPo) (c:Y8) (y:Int):Nat:=l.findIdx (isP c y)
theorem pix_lt {l:List TPo} (h:hasP l c y=true):pix l c y<l.length/\(l.getD (pix l c y) dF).B=c/\(l.getD (pix l c y) dF).D=y:=by
 unfold hasP at h
 obtain⟨x,hx,hp⟩:=y52.1 h
 have hlt:l.findIdx (isP c y)<l.length:=List.findIdx_lt_length_of_exists ⟨x,hx,hp⟩
 have h1:=y4c (w:=hlt)
 have e:l.getD (l.findIdx (isP c y)) dF=l[l.findIdx (isP c y)]:=by simp[List.getD_eq_getElem?_getD,List.getElem?_eq_getElem hlt]
 exact⟨hlt,by unfold pix; rw[e]; exact zfw.1 h1⟩
theorem z5v (t:TTr) (c:Y8) (y:Int):F_q3k t c y=some (if hasP t.E c y=true then (pix t.E c y:Int) else -1):=by
 simp only[F_q3k,S_q3k,F_q3c,S_q3c,Scr.den]
 rw[z7i t.E (isP c y) (fun i=>(i:Int))]
 ·unfold hasP
  by_cases h:t.E.any (isP c y)=true
  ·rw[y8 h,y8 h]; rfl
  ·rw[y7 h,y7 h]; rfl
 ·intro i hi
  simp only[S_q3c_b1,F_q7a,S_q7a,Scr.den,obind,zd]
  unfold isP
  split <;> rfl
theorem at_eq (t:TTr) (c:Y8) (y:Int):F_q2h t c y=some (if hasP t.E c y=true then (pix t.E c y:Int) else -1):=by
 simp only[F_q2h,S_q2h,Scr.den]
 rw[z7i t.E (isP c y) (fun i=>(i:Int))]
 ·unfold hasP
  by_cases h:t.E.any (isP c y)=true
  ·rw[y8 h,y8 h]; rfl
  ·rw[y7 h,y7 h]; rfl
 ·intro i hi
  simp only[S_q2h_b1,Scr.den,zd]
  unfold isP
  split <;> rfl
def outV (p:TPo):Int:=(p.A.take (min p.A.length p.H.length)).sum-(p.H.take (min p.A.length p.H.length)).sum
theorem Out_eq (p:TPo):F_q3d p=some (i64.wrap (outV p)):=by
 have e:(if (p.H.length:Int)<(p.A.length:Int) then (p.H.length:Int) else (p.A.length:Int))=((min p.A.length p.H.length:Nat):Int):=by split <;> omega
 simp only[F_q3d,S_q3d,Scr.den,e,yg,zjn,obind]
 rw[Ge,z38,z4z]
 rfl
theorem r13_Out_eq (hl:p.A.length<4611686018427387904):F_qv p=some (i64.wrap (outV p)):=by
 simp only[F_qv,S_qv,Scr.den]
 let m:=min p.A.length p.H.length
 let S:Nat->Int:=fun k=>(p.A.take k).sum-(p.H.take k).sum
 have hS:∀ k,k<m->S (k+1)=S k+(p.A.getD k dF-p.H.getD k dF):=fun k hk=>by
  have h1:k<p.A.length:=om
  have h2:k<p.H.length:=om
  simp only[S]
  rw[y41 h1,y41 h2,List.sum_append,List.sum_append,z2m h1,z2m h2]
  simp only[y3e,List.sum_nil]
  omega
 have stepT:∀ (i:Nat) (s:Int),i<m->(S_qv_b1 p (s,(i:Int))).den=some (.cont (i64.wrap (s+(p.A.getD i dF-p.H.getD i dF)),((i+1:Nat):Int))):=fun i s hi=>by
  simp only[S_qv_b1,Scr.den,zd]
  rw[y8 (by simp only[yj,y9]; omega),z7 (by simp only[AllP,yg,y1b]; omega)]
  simp only[yg]
  rw[zaw,wrapId (n:=(i:Int)+1) om om]
  rfl
 have stepF:∀ s:Int,(S_qv_b1 p (s,(m:Int))).den=some (.brk (s,(m:Int))):=fun s=>by
  simp only[S_qv_b1,Scr.den,zd]
  rw[y7 (by simp only[yj,y9]; omega)]
 have key:∀ (k i:Nat),i+k=m->iterM (fun s=>(S_qv_b1 p s).den) (i64.wrap (S i),(i:Int))=some (.next (i64.wrap (S m),(m:Int))):=by
  intro k
  induction k with
  | zero =>
   intro i hk
   obtain rfl:i=m:=om
   rw[z2q]
   simp only[stepF]
  | succ k ih =>
   intro i hk
   rw[z2q]
   simp only[stepT i _ (show i<m from om)]
   rw[z6f,<- hS i om]
   exact ih (i+1) om
 have h0:=key m 0 om
 rw[show S 0=0 by simp[S],z84] at h0
 rw[show ((0:Int),(0:Int))=(0,((0:Nat):Int)) from rfl,h0]
 rfl
theorem zug (p:TPo):F_q5f p=some (i64.wrap (p.T-outV p)):=by
 simp only[F_q5f,S_q5f,Scr.den,Out_eq,obind,z4z]
theorem zl2 (hl:p.A.length<4611686018427387904):F_q6o p=some (i64.wrap (p.T-outV p)):=by
 simp only[F_q6o,S_q6o,Scr.den,r13_Out_eq hl,obind,z4z]
theorem maxw (n:Int):(if 0>n then 0 else n)=max n 0:=by split <;> omega
theorem Shortfall_eq (p:TPo):F_q4d p=some (max (i64.wrap (outV p-p.T)) 0):=by
 simp only[F_q4d,S_q4d,Scr.den,Out_eq,obind,z38]
 congr 1
 exact maxw _
theorem clone_eq (h:l.length<=1000000):F_q1x l=some l:=by
 simp only[F_q1x,S_q1x,Scr.den]
 rw[Ge]
theorem z6s (h:l.length<=1000000):F_q3l l=some l:=by
 simp only[F_q3l,S_q3l,Scr.den]
 rw[Ge]
def PSmall (p:TPo):Prop:=p.A.length<=1000000/\p.H.length<=1000000/\p.G.length<=1000000/\p.P.length<=1000000
theorem PotOk.small (h:PotOk n p) (hn:n<=6):PSmall p:=by
 obtain⟨_,_,_,⟨⟨h1,_⟩,⟨h2,_⟩,⟨h3,_⟩,⟨h4,_⟩⟩,_⟩:=h
 exact⟨om,om,om,om⟩
theorem z2a (h:PSmall p):F_q3j p=some p:=by
 obtain⟨h1,h2,h3,h4⟩:=h
 simp only[F_q3j,S_q3j,Scr.den,clone_eq h1,clone_eq h2,clone_eq h3,clone_eq h4,obind]
theorem zl3 (h:PSmall p):F_q5e p=some (p.B,p.D,p.T,p.A,p.H,p.G,p.P):=by
 obtain⟨h1,h2,h3,h4⟩:=h
 simp only[F_q5e,S_q5e,Scr.den,z6s h1,z6s h2,z6s h3,z6s h4,obind]
def TSmall (t:TTr):Prop:=t.E.length<=1000000/\∀ i,i<t.E.length->PSmall (t.E.getD i dF)
theorem z6l {body:Nat->Int×List TPo->Option (Step (Int×List TPo) ρ)} (hs:∀ i (l:List TPo),i<t.E.length->l.length=i->body i (t.O,l)=some (.cont (t.O,l++[t.E.getD i dF]))) :
  rangeM body t.E.length 0 (t.O,[])=some (.next (t.O,t.E)):=by
 obtain⟨s,h1,h2⟩:=zq (ρ:=ρ) (body:=body) (n:=t.E.length) (fun i s=>s=(t.O,t.E.take i)) (s0:=(t.O,[])) sj (fun i s hi hI=>by
  subst hI
  refine⟨_,hs i _ hi sk,?_⟩
  rw[y41 hi]
  simp[List.getD_eq_getElem?_getD,List.getElem?_eq_getElem hi])
 rw[h1,h2,y4f]
theorem znj (h:TSmall t):F_q34 t=some (t.O,t.E):=by
 simp only[F_q34,S_q34,Scr.den]
 rw[z6l (fun i l hi hl=>by
  simp only[S_q34_b1,Scr.den,z2a (h.2 i hi),obind]
  rw[z7 (by have:=h.1; simp only[AllP,y1b,yq,y1m]; omega)])]
 rfl
variable {i0:Nat}
theorem z9x (h:TSmall t) (hi0:i0<t.E.length) (hpos:0<(t.E.getD i0 dF).A.length/\0<(t.E.getD i0 dF).H.length/\0<(t.E.getD i0 dF).G.length/\0<(t.E.getD i0 dF).P.length) :
  F_q1y t i0=some (t.O,t.E):=by
 simp only[F_q1y,S_q1y,Scr.den]
 rw[z6l (fun i l hi hl=>by
  obtain⟨q1,q2,q3,q4⟩:=h.2 i hi
  simp only[S_q1y_b1,Scr.den,zl3 (h.2 i hi),obind]
  rw[z7 (by have:=h.1; simp only[AllP,y1b]; omega),z7 (by
   simp only[AllP,y1b]
   exact⟨fun e=>by rw[hl] at e; subst e; exact hpos,om,om,om,om⟩)])]
 simp only[outM]
 rw[z7 (by simp only[AllP,y1b]; exact hi0)]
theorem zem (h:TSmall t):F_q2x t=some (t.O,t.E):=by
 simp only[F_q2x,S_q2x,Scr.den]
 rw[z6l (fun i l hi hl=>by
  obtain⟨q1,q2,q3,q4⟩:=h.2 i hi
  simp only[S_q2x_b1,Scr.den]
  iterate 4 rw[z7 (by have:=h.1; simp only[AllP,y1b]; omega)]
  rw[z7 (by have:=h.1; simp only[AllP,y1b,yq,y1m]; omega)])]
 rfl
theorem z5i (h:TSmall t) (hi0:i0<t.E.length) (hpos:0<(t.E.getD i0 dF).A.length/\0<(t.E.getD i0 dF).H.length/\0<(t.E.getD i0 dF).G.length/\0<(t.E.getD i0 dF).P.length) :
  F_q1r t i0=some (t.O,t.E):=by
 simp only[F_q1r,S_q1r,Scr.den]
 rw[z6l (fun i l hi hl=>by
  obtain⟨q1,q2,q3,q4⟩:=h.2 i hi
  simp only[S_q1r_b1,Scr.den]
  iterate 5 rw[z7 (by have:=h.1; simp only[AllP,y1b]; omega)]
  rw[z7 (by
   simp only[AllP,y1b]
   exact⟨fun e=>by rw[hl] at e; subst e; exact hpos,om,om,om,om⟩)])]
 simp only[outM]
 rw[z7 (by simp only[AllP,y1b]; exact hi0)]
def addN (G a:List Int) (i:Nat):List Int:=(List.range G.length).map fun j=>if j<i then G.getD j dF+a.getD j dF else G.getD j dF
variable {a G:List Int}
theorem addN_length:(addN G a i).length=G.length:=by simp[addN]
variable {j:Nat}
theorem addN_get (hj:j<G.length):(addN G a i).getD j dF=if j<i then G.getD j dF+a.getD j dF else G.getD j dF:=by
 simp only[addN]
 rw[ya (l:=List.map _ _),y28,y4i hj,y1t,y40]
theorem zdm {l':List Int} (h:l.length=l'.length) (he:∀ j,j<l.length->l.getD j dF=l'.getD j dF):l=l':=by
 apply y34 h
 intro j h1 h2
 have:=he j h1
 rw[z2m h1,z2m h2] at this
 exact this
theorem zq4:addN G a 0=G:=zdm addN_length fun j hj=>by
 rw[addN_get (by simpa [addN_length] using hj),y7 om]
variable {x:Int}
theorem zbe (hj:j<l.length):(l.set i x).getD j dF=if j=i then x else l.getD j dF:=by
 rw[ya,y4v]
 by_cases h:i=j
 ·subst h; simp[hj]
 ·rw[y7 h,y7 fun e=>h e.symm,ya]
theorem zq5 (hi:i<G.length):(addN G a i).set i ((addN G a i).getD i dF+a.getD i dF)=addN G a (i+1):=by
 refine zdm (by simp[addN_length]) fun j hj=>?_
 have hj':j<G.length:=by simpa [addN_length] using hj
 rw[zbe (by rw[addN_length]; exact hj'),addN_get hj',addN_get hi,addN_get hj',y7 (y5s i)]
 by_cases h:j=i
 ·subst h; rw[y8 rfl,y8 om]
 ·rw[y7 h]
  by_cases h2:j<i
  ·rw[y8 h2,y8 om]
  ·rw[y7 h2,y7 om]
theorem zjr {body:Nat->List Int->Option (Step (List Int) ρ)} (hl:a.length=G.length) (hs:∀ i (s:List Int),i<G.length->s.length=G.length->body i s=some (.cont (s.set (0+i) (i64.wrap (s.getD (0+i) dF+a.getD i dF))))) (hG:∀ x∈G,tot x) (ha:∀ x∈a,tot x):rangeM body a.length 0 G=some (.next (addN G a a.length)):=by
 obtain⟨s,h1,h2⟩:=zq (ρ:=ρ) (body:=body) (n:=a.length) (fun i s=>s=addN G a i) (s0:=G) zq4.symm (fun i s hi hI=>by
  subst hI
  have hi':i<G.length:=om
  refine⟨_,hs i _ hi' addN_length,?_⟩
  have t1:=hG _ (z8 hi')
  have t2:=ha _ (z8 hi)
  unfold tot at t1 t2
  rw[yo,wrapId (by rw[addN_get hi',y7 (y5s i)]; omega) (by rw[addN_get hi',y7 (y5s i)]; omega),zq5 hi'])
 rw[h1,h2]
def giveV (total:Int) (p:TPo) (a:List Int):Int×List Int :=
 if total-outV p<a.sum then (15,p.A) else if 1000000000000000<p.A.sum+a.sum then (3,p.A) else (0,addN p.A a a.length)
theorem zh4 (h:PotOk n p) (hn:n<=6):-6000000000000000<=outV p/\outV p<=6000000000000000:=by
 obtain⟨_,_,_,⟨h1,h2,_,_⟩,_⟩:=h
 have b1:=z54 (l:=p.A.take (min p.A.length p.H.length)) fun x hx=>h1.2 x (y35 hx)
 have b2:=z54 (l:=p.H.take (min p.A.length p.H.length)) fun x hx=>h2.2 x (y35 hx)
 have l1:=h1.1
 have l2:=h2.1
 simp only[y1k] at b1 b2
 unfold outV
 have e1:(min (min p.A.length p.H.length) p.A.length:Nat)<=6:=om
 have e2:(min (min p.A.length p.H.length) p.H.length:Nat)<=6:=om
 omega
theorem zfr (h:PotOk n p) (hn:n<=6) (ha:∀ x∈a,tot x) (hl:a.length=p.A.length) {l:List TPo} (hi:i<l.length) :
  F_q1o a i l p.B p.D p.T p.A p.H p.G p.P=some (giveV p.T p a):=by
 have ho:=zh4 h hn
 obtain⟨_,_,ht,⟨h1,h2,h3,h4⟩,_,hsum⟩:=h
 have l1:=h1.1; have l2:=h2.1; have l3:=h3.1; have l4:=h4.1
 have s1:=z54 ha
 have s2:=z54 h1.2
 simp only[F_q1o,S_q1o,Scr.den,zjn,obind,zug]
 rw[z7 ⟨om,om,om,om⟩]
 simp only[obind]
 rw[z7 (by simp only[AllP,y1b]; exact hi),wrapId (n:=a.sum) om om,wrapId (n:=p.T-_) (by show _<=p.T-outV p; omega) (by show p.T-outV p<_; omega)]
 unfold giveV
 by_cases c1:p.T-outV p<a.sum
 ·rw[y8 (yb c1),y8 c1]
 ·rw[y7 (by rw[yc c1]; simp),y7 c1,z7 om,wrapId (n:=p.A.sum) om om]
  simp only[obind]
  rw[wrapId (n:=p.A.sum+a.sum) om om]
  by_cases c2:1000000000000000<p.A.sum+a.sum
  ·rw[y8 (yb c2),y8 c2]
  ·rw[y7 (by rw[yc c2]; simp),y7 c2]
   rw[zjr (ρ:=R_q1o) (G:=p.A) (a:=a) (body:=fun i' s=>(S_q1o_b1 a i l p.A i' s).den) hl (fun j s hj hs=>by
    simp only[S_q1o_b1,Scr.den]
    rw[Ge]) h1.2 ha]
   rfl
abbrev zT:TTr:=⟨0,[]⟩
def withG (p:TPo) (g:List Int):TPo:=⟨p.B,p.D,p.T,g,p.H,p.G,p.P⟩
def oneHot (n k:Nat) (x:Int):List Int:=(List.replicate n (0:Int)).set k x
def potAt (t:TTr) (c:Y8) (y:Int):TPo:=t.E.getD (pix t.E c y) dF
def putP (t:TTr) (c:Y8) (y:Int) (p:TPo):TTr:=⟨t.O,t.E.set (pix t.E c y) p⟩
def grantM (t:TTr) (k:Int) (c:Y8) (y x:Int):TTr×Int :=
 if ¬ TOk t then (zT,1) else if ¬ hasP t.E c y=true then (zT,6) else if ¬ (1<=k/\k<=t.O) then (zT,6) else if ¬ (1<=x/\x<=1000000000000000) then (zT,2) else
  if (giveV (potAt t c y).T (potAt t c y) (oneHot (potAt t c y).A.length (k-1).toNat x)).1≠0 then (zT,(giveV (potAt t c y).T (potAt t c y) (oneHot (potAt t c y).A.length (k-1).toNat x)).1)
  else (putP t c y (withG (potAt t c y) (giveV (potAt t c y).T (potAt t c y) (oneHot (potAt t c y).A.length (k-1).toNat x)).2),0)
theorem oneHot_tot {n k:Nat} (hx:1<=x/\x<=1000000000000000):∀ y∈oneHot n k x,tot y:=fun y hy=>by
 rcases y1v hy with h | h
 ·rw[List.eq_of_mem_replicate h]; exact⟨om,om⟩
 ·subst h; exact⟨om,om⟩
theorem oneHot_length {n k:Nat}:(oneHot n k x).length=n:=by simp[oneHot]
theorem TOk.potAt {t:TTr} (h:TOk t) {c:Y8} {y:Int} (hp:hasP t.E c y=true):PotOk t.O (potAt t c y):=(h.2.2 _ (pix_lt hp).1).1
theorem TOk.small (h:TOk t):TSmall t:=⟨by have:=h.2.1; omega,fun i hi=>(h.2.2 i hi).1.small h.1.2⟩
theorem TOk.pos (h:TOk t) (hp:hasP t.E c y=true) :
  0<(t.E.getD (pix t.E c y) dF).A.length/\0<(t.E.getD (pix t.E c y) dF).H.length/\0<(t.E.getD (pix t.E c y) dF).G.length/\0<(t.E.getD (pix t.E c y) dF).P.length:=by
 obtain⟨_,_,_,⟨⟨h1,_⟩,⟨h2,_⟩,⟨h3,_⟩,⟨h4,_⟩⟩,_⟩:=h.potAt hp
 have:=h.1
 exact⟨by show 0<(Go.Proofs.YtkhgaalekilaeaaGreatDoor.J13.potAt t c y).A.length; omega,by show 0<(Go.Proofs.YtkhgaalekilaeaaGreatDoor.J13.potAt t c y).H.length; omega,by show 0<(Go.Proofs.YtkhgaalekilaeaaGreatDoor.J13.potAt t c y).G.length; omega,by show 0<(Go.Proofs.YtkhgaalekilaeaaGreatDoor.J13.potAt t c y).P.length; omega⟩
theorem zq6 {total:Int}:(giveV total p a).2.length=p.A.length:=by
 unfold giveV
 split
 ·rfl
 ·split
  ·rfl
  ·exact addN_length
theorem zq7 (h:PotOk n p) (hn:n<=6) {l:List TPo} (hi:i<l.length) (k x:Int) :
  F_q4m i l p.B p.D p.T k x p.A p.H p.G p.P =
   some (if ¬ (1<=k/\k<=n) then (6,p.A) else if ¬ (1<=x/\x<=1000000000000000) then (2,p.A) else giveV p.T p (oneHot p.A.length (k-1).toNat x)):=by
 have l1:=h.2.2.2.1.1.1
 simp only[F_q4m,S_q4m,Scr.den,z16,obind,l1]
 rw[z7 (by simp only[AllP,y1b]; exact hi)]
 by_cases c1:1<=k/\k<=n
 ·rw[y7 (show ¬ (!decide (1<=k/\k<=n))=true by rw[yb c1]; simp),y7 (show ¬ ¬ (1<=k/\k<=n) from fun h=>h c1)]
  by_cases c2:1<=x/\x<=1000000000000000
  ·have e1:i64.wrap (k-1)=(((k-1).toNat:Nat):Int):=by rw[wrapId om om]; omega
   have e2:n.toNat=p.A.length:=om
   rw[y7 (show ¬ (!decide (1<=x/\x<=1000000000000000))=true by rw[yb c2]; simp),y7 (show ¬ ¬ (1<=x/\x<=1000000000000000) from fun h=>h c2),e1,e2,yg,Ge,z7 (by simp only[AllP,y1b,y22]; omega),
    z7 (by simp only[AllP,y1b,yl,y22]; omega),yo]
   show (F_q1o (oneHot p.A.length (k-1).toNat x) i l p.B p.D p.T p.A p.H p.G p.P).bind _=_
   rw[zfr h hn (oneHot_tot c2) oneHot_length hi]
   rfl
  ·rw[y8 (show (!decide (1<=x/\x<=1000000000000000))=true by rw[yc c2]; simp),y8 c2]
 ·rw[y8 (show (!decide (1<=k/\k<=n))=true by rw[yc c1]; simp),y8 c1]
theorem Grant_eq (hs:Small t) (k:Int) (c:Y8) (y x:Int):F_q5g t k c y x=some (grantM t k c y x):=by
 simp only[F_q5g,S_q5g,Scr.den,F_q7b,S_q7b,Valid_eq hs,z5v,obind]
 unfold grantM
 by_cases h1:TOk t
 ·rw[y7 (show ¬ (!decide (TOk t))=true by rw[yb h1]; simp),y7 (show ¬ ¬ TOk t from fun h=>h h1)]
  by_cases h2:hasP t.E c y=true
  ·have hlt:=(pix_lt h2).1
   have hp:=h1.potAt h2
   have l0:=h1.2.1
   rw[y8 (show hasP t.E c y=true from h2),y7 (show ¬ ¬ hasP t.E c y=true from fun h=>h h2),y7 (show ¬ decide (((pix t.E c y:Nat):Int)<0)=true by rw[y9]; omega),yg,z9x h1.small hlt (h1.pos h2)]
   simp only[obind]
   show ((F_q4m (pix t.E c y) t.E (potAt t c y).B (potAt t c y).D (potAt t c y).T k x (potAt t c y).A (potAt t c y).H (potAt t c y).G (potAt t c y).P).bind _).bind _=_
   rw[zq7 hp h1.1.2 hlt]
   simp only[obind]
   rw[z7 (by simp only[AllP,y1b]; exact⟨om,hlt⟩)]
   by_cases h3:1<=k/\k<=t.O
   ·simp only[show ¬ ¬ (1<=k/\k<=t.O) from fun h=>h h3,y10]
    by_cases h4:1<=x/\x<=1000000000000000
    ·simp only[show ¬ ¬ (1<=x/\x<=1000000000000000) from fun h=>h h4,y10]
     have hlen:=zq6 (total:=(potAt t c y).T) (p:=potAt t c y) (a:=oneHot (potAt t c y).A.length (k-1).toNat x)
     generalize giveV (potAt t c y).T (potAt t c y) (oneHot (potAt t c y).A.length (k-1).toNat x)=gv at hlen
     by_cases h5:gv.1=0
     ·rw[y7 (show ¬ (gv.1 != 0)=true by simp[h5]),y7 (show ¬ gv.1≠0 from fun h=>h h5)]
      obtain⟨q1,q2,q3,q4⟩:=hp.small h1.1.2
      rw[z7 (by simp only[AllP,y1b]; exact hlen),z7 (by simp only[AllP,y1b]; exact⟨by rw[hlen]; omega,y2g q2 om,y2g q3 om,y2g q4 om⟩),Gf]
      rfl
     ·rw[y8 (show (gv.1 != 0)=true by simp[h5]),y8 (show gv.1≠0 from h5)]; rfl
    ·simp only[h4,ym,y17]; rfl
   ·simp only[h3,ym,y17]; rfl
  ·simp only[h2,y7,ym,y17,yu]; rfl
 ·rw[y8 (show (!decide (TOk t))=true by rw[yc h1]; simp),y8 (show ¬ TOk t from h1)]; rfl
def withA (p:TPo) (a:List Int):TPo:=⟨p.B,p.D,p.T,p.A,p.H,a,p.P⟩
def withH (p:TPo) (h u:List Int):TPo:=⟨p.B,p.D,p.T,p.A,h,p.G,u⟩
def nth (l:List Int) (k:Int):Int:=l.getD (k-1).toNat dF
def upd (l:List Int) (k x:Int):List Int:=l.set (k-1).toNat x
def askM (t:TTr) (k:Int) (c:Y8) (y x:Int):TTr×Int :=
 if ¬ TOk t then (zT,1) else if ¬ hasP t.E c y=true then (zT,6) else if ¬ (1<=k/\k<=t.O) then (zT,6) else if ¬ (1<=x/\x<=1000000000000000) then (zT,2) else
  if nth (potAt t c y).A k<nth (potAt t c y).G k+x then (zT,15)
  else (putP t c y (withA (potAt t c y) (upd (potAt t c y).G k (nth (potAt t c y).G k+x))),0)
def hearM (t:TTr) (m:TMe):TTr×Int :=
 if m.To≠0 then (zT,1) else if ¬ TOk t then (zT,1) else if ¬ hasP t.E m.B m.D=true then (zT,6) else if ¬ (1<=m.Aa/\m.Aa<=t.O) then (zT,6) else
  if ¬ ((0<=m.S/\m.S<=nth (potAt t m.B m.D).A m.Aa)/\tot m.P) then (zT,2)
  else (putP t m.B m.D (withH (potAt t m.B m.D) (upd (potAt t m.B m.D).H m.Aa (max (nth (potAt t m.B m.D).H m.Aa) m.S)) (upd (potAt t m.B m.D).P m.Aa m.P)),0)
variable {k:Int}
theorem nth_tot (h:rowOk n l) (hk:1<=k/\k<=n):tot (nth l k):=by
 have:=h.1
 exact h.2 _ (z8 om)
theorem wrapK (hk:1<=k/\k<=6):i64.wrap (k-1)=(((k-1).toNat:Nat):Int):=by rw[wrapId om om]; omega
theorem zuh (h:PotOk n p) (hn:n<=6) {l:List TPo} (hi:i<l.length) (k x:Int) :
  F_q4n i l p.B p.D p.T k x p.A p.H p.G p.P =
   some (if ¬ (1<=k/\k<=n) then (6,p.G) else if ¬ (1<=x/\x<=1000000000000000) then (2,p.G) else if nth p.A k<nth p.G k+x then (15,p.G) else (0,upd p.G k (nth p.G k+x))):=by
 have l1:=h.2.2.2.1.1.1
 have l3:=h.2.2.2.1.2.2.1.1
 simp only[F_q4n,S_q4n,Scr.den,z16,obind,l3]
 rw[z7 (by simp only[AllP,y1b]; exact hi)]
 by_cases c1:1<=k/\k<=n
 ·rw[y7 (show ¬ (!decide (1<=k/\k<=n))=true by rw[yb c1]; simp),y7 (show ¬ ¬ (1<=k/\k<=n) from fun h=>h c1)]
  by_cases c2:1<=x/\x<=1000000000000000
  ·have t1:=nth_tot h.2.2.2.1.2.2.1 c1
   unfold tot at t1
   rw[y7 (show ¬ (!decide (1<=x/\x<=1000000000000000))=true by rw[yb c2]; simp),y7 (show ¬ ¬ (1<=x/\x<=1000000000000000) from fun h=>h c2),wrapK (k:=k) om,yg,yo,
    Ge]
   rw[show p.G.getD (k-1).toNat dF=nth p.G k from rfl,show p.A.getD (k-1).toNat dF=nth p.A k from rfl,wrapId (n:=nth p.G k+x) om om]
   by_cases c3:nth p.A k<nth p.G k+x
   ·rw[y8 (show decide (nth p.G k+x>nth p.A k)=true from yb c3),y8 c3]
   ·rw[y7 (show ¬ decide (nth p.G k+x>nth p.A k)=true by rw[y9]; exact c3),y7 c3]
    rfl
  ·rw[y8 (show (!decide (1<=x/\x<=1000000000000000))=true by rw[yc c2]; simp),y8 c2]
 ·rw[y8 (show (!decide (1<=k/\k<=n))=true by rw[yc c1]; simp),y8 c1]
theorem upd_length:(upd l k x).length=l.length:=by simp[upd]
theorem Ask_eq (hs:Small t) (k:Int) (c:Y8) (y x:Int):F_q5h t k c y x=some (askM t k c y x):=by
 simp only[F_q5h,S_q5h,Scr.den,F_q7c,S_q7c,Valid_eq hs,z5v,obind]
 unfold askM
 by_cases h1:TOk t
 ·rw[y7 (show ¬ (!decide (TOk t))=true by rw[yb h1]; simp),y7 (show ¬ ¬ TOk t from fun h=>h h1)]
  by_cases h2:hasP t.E c y=true
  ·have hlt:=(pix_lt h2).1
   have hp:=h1.potAt h2
   have l0:=h1.2.1
   rw[y8 (show hasP t.E c y=true from h2),y7 (show ¬ ¬ hasP t.E c y=true from fun h=>h h2),y7 (show ¬ decide (((pix t.E c y:Nat):Int)<0)=true by rw[y9]; omega),yg,z9x h1.small hlt (h1.pos h2)]
   simp only[obind]
   show ((F_q4n (pix t.E c y) t.E (potAt t c y).B (potAt t c y).D (potAt t c y).T k x (potAt t c y).A (potAt t c y).H (potAt t c y).G (potAt t c y).P).bind _).bind _=_
   rw[zuh hp h1.1.2 hlt]
   simp only[obind]
   rw[z7 (by simp only[AllP,y1b]; exact⟨om,hlt⟩)]
   obtain⟨q1,q2,q3,q4⟩:=hp.small h1.1.2
   by_cases h3:1<=k/\k<=t.O
   ·simp only[show ¬ ¬ (1<=k/\k<=t.O) from fun h=>h h3,y10]
    by_cases h4:1<=x/\x<=1000000000000000
    ·simp only[show ¬ ¬ (1<=x/\x<=1000000000000000) from fun h=>h h4,y10]
     by_cases h5:nth (potAt t c y).A k<nth (potAt t c y).G k+x
     ·simp only[h5,y17]; rfl
     ·simp only[h5,y10]
      rw[y7 sj,z7 (by simp only[AllP,y1b]; exact upd_length),z7 (by simp only[AllP,y1b]; exact⟨y2g q1 om,y2g q2 om,by rw[upd_length]; exact y2g q3 om,y2g q4 om⟩),Gf]
      rfl
    ·simp only[h4,ym,y17]; rfl
   ·simp only[h3,ym,y17]; rfl
  ·simp only[h2,y7,ym,y17,yu]; rfl
 ·rw[y8 (show (!decide (TOk t))=true by rw[yc h1]; simp),y8 (show ¬ TOk t from h1)]; rfl
theorem maxE (a b:Int):(if a>b then a else b)=max b a:=by split <;> omega
theorem zsb (h:PotOk n p) (hn:n<=6) {l:List TPo} (hi:i<l.length) (m:TMe) :
  F_q50 i l p.B p.D p.T m p.A p.H p.G p.P =
   some (if ¬ (1<=m.Aa/\m.Aa<=n) then (6,p.H,p.P) else if ¬ ((0<=m.S/\m.S<=nth p.A m.Aa)/\tot m.P) then (2,p.H,p.P) else
    (0,upd p.H m.Aa (max (nth p.H m.Aa) m.S),upd p.P m.Aa m.P)):=by
 have l1:=h.2.2.2.1.1.1
 have l2:=h.2.2.2.1.2.1.1
 have l4:=h.2.2.2.1.2.2.2.1
 simp only[F_q50,S_q50,Scr.den,z16,zcs,obind,l2,z9]
 rw[z7 (by simp only[AllP,y1b]; exact hi)]
 by_cases c1:1<=m.Aa/\m.Aa<=n
 ·rw[y7 (show ¬ (!decide (1<=m.Aa/\m.Aa<=n))=true by rw[yb c1]; simp),y7 (show ¬ ¬ (1<=m.Aa/\m.Aa<=n) from fun h=>h c1),wrapK (k:=m.Aa) om,yg,yo]
  rw[show p.A.getD (m.Aa-1).toNat dF=nth p.A m.Aa from rfl,show p.H.getD (m.Aa-1).toNat dF=nth p.H m.Aa from rfl]
  by_cases c2:0<=m.S/\m.S<=nth p.A m.Aa
  ·rw[ze (by rw[yb c2]; exact⟨rfl,trivial⟩)]
   simp only[obind]
   rw[Ge]
   by_cases c3:tot m.P
   ·rw[y7 (by rw[yb c2,yb c3]; simp),y7 (show ¬ ¬ ((0<=m.S/\m.S<=nth p.A m.Aa)/\tot m.P) from fun h=>h ⟨c2,c3⟩),Ge,maxE]
    rfl
   ·rw[y8 (by rw[yc c3]; simp),y8 fun h=>c3 h.2]
  ·rw[zj (by rw[yc c2]; simp[AllP])]
   simp only[obind]
   rw[Ge,y8 (by rw[yc c2]; simp),y8 fun h=>c2 h.1]
 ·rw[y8 (show (!decide (1<=m.Aa/\m.Aa<=n))=true by rw[yc c1]; simp),y8 c1]
theorem Hear_eq (hs:Small t) (m:TMe):F_q66 t m=some (hearM t m):=by
 simp only[F_q66,S_q66,Scr.den,F_q7p,S_q7p,Valid_eq hs,z5v,obind]
 unfold hearM
 by_cases h0:m.To=0
 ·rw[y7 (show ¬ (m.To != 0)=true by simp[h0]),y7 (show ¬ m.To≠0 from fun h=>h h0)]
  by_cases h1:TOk t
  ·rw[y7 (show ¬ (!decide (TOk t))=true by rw[yb h1]; simp),y7 (show ¬ ¬ TOk t from fun h=>h h1)]
   by_cases h2:hasP t.E m.B m.D=true
   ·have hlt:=(pix_lt h2).1
    have hp:=h1.potAt h2
    have l0:=h1.2.1
    rw[y8 (show hasP t.E m.B m.D=true from h2),y7 (show ¬ ¬ hasP t.E m.B m.D=true from fun h=>h h2),y7 (show ¬ decide (((pix t.E m.B m.D:Nat):Int)<0)=true by rw[y9]; omega),yg,z9x h1.small hlt (h1.pos h2)]
    simp only[obind]
    show ((F_q50 (pix t.E m.B m.D) t.E (potAt t m.B m.D).B (potAt t m.B m.D).D (potAt t m.B m.D).T m (potAt t m.B m.D).A (potAt t m.B m.D).H (potAt t m.B m.D).G (potAt t m.B m.D).P).bind _).bind _=_
    rw[zsb hp h1.1.2 hlt]
    simp only[obind]
    rw[z7 (by simp only[AllP,y1b]; exact⟨om,hlt⟩)]
    obtain⟨q1,q2,q3,q4⟩:=hp.small h1.1.2
    by_cases h3:1<=m.Aa/\m.Aa<=t.O
    ·simp only[show ¬ ¬ (1<=m.Aa/\m.Aa<=t.O) from fun h=>h h3,y10]
     by_cases h4:(0<=m.S/\m.S<=nth (potAt t m.B m.D).A m.Aa)/\tot m.P
     ·simp only[show ¬ ¬ ((0<=m.S/\m.S<=nth (potAt t m.B m.D).A m.Aa)/\tot m.P) from fun h=>h h4,y10]
      rw[y7 sj,z7 (by simp only[AllP,y1b]; exact⟨upd_length,upd_length⟩),z7 (by simp only[AllP,y1b]; exact⟨y2g q1 om,by rw[upd_length]; exact y2g q2 om,y2g q3 om,by rw[upd_length]; exact y2g q4 om⟩),Gf]
      rfl
     ·simp only[h4,ym,y17]; rfl
    ·simp only[h3,ym,y17]; rfl
   ·simp only[h2,y7,ym,y17,yu]; rfl
  ·rw[y8 (show (!decide (TOk t))=true by rw[yc h1]; simp),y8 (show ¬ TOk t from h1)]; rfl
 ·rw[y8 (show (m.To != 0)=true by simp[h0]),y8 (show m.To≠0 from h0)]
def potM (t:TTr) (c:Y8) (y:Int):TPo×Bool:=if hasP t.E c y=true then (potAt t c y,true) else (⟨[],0,0,[],[],[],[]⟩,false)
theorem Pot_eq (hs:TSmall t) (c:Y8) (y:Int):F_q3m t c y=some (potM t c y):=by
 simp only[F_q3m,S_q3m,Scr.den,z5v,obind]
 unfold potM
 by_cases h2:hasP t.E c y=true
 ·have hlt:=(pix_lt h2).1
  have l0:=hs.1
  rw[y8 (show hasP t.E c y=true from h2),y8 (show hasP t.E c y=true from h2),y7 (show ¬ decide (((pix t.E c y:Nat):Int)<0)=true by rw[y9]; omega),yg,z2a (hs.2 _ hlt)]
  simp only[obind]
  rw[z7 (by simp only[AllP,y1b]; exact⟨om,hlt⟩)]
  rfl
 ·rw[y7 h2,y7 h2]; rfl
def tellM (t:TTr) (k:Int) (c:Y8) (y:Int):TMe×Int :=
 if ¬ TOk t then (⟨0,0,[],0,0,0,0,0⟩,1) else if ¬ (hasP t.E c y=true/\1<=k/\k<=t.O) then (⟨0,0,[],0,0,0,0,0⟩,6)
 else (⟨0,k,c,y,nth (potAt t c y).A k,nth (potAt t c y).G k,0,0⟩,0)
theorem Tell_eq (hs:Small t) (k:Int) (c:Y8) (y:Int):F_q5i t k c y=some (tellM t k c y):=by
 simp only[F_q5i,S_q5i,Scr.den,Valid_eq hs,obind,z9]
 unfold tellM
 by_cases h1:TOk t
 ·rw[y7 (show ¬ (!decide (TOk t))=true by rw[yb h1]; simp),y7 (show ¬ ¬ TOk t from fun h=>h h1),Pot_eq h1.small]
  simp only[obind,z16]
  unfold potM
  by_cases h2:hasP t.E c y=true
  ·rw[y8 h2]
   rw[ze (gs:=[(!true)=false]) ⟨rfl,trivial⟩]
   simp only[obind,y29,y3t]
   obtain⟨_,_,_,⟨g1,_,g3,_⟩,_⟩:=h1.potAt h2
   have e1:=g1.1
   have e3:=g3.1
   have e0:=h1.1
   by_cases h3:1<=k/\k<=t.O
   ·rw[y7 (by rw[yb h3]; simp),y7 (show ¬ ¬ (hasP t.E c y=true/\1<=k/\k<=t.O) from fun h=>h ⟨h2,h3⟩),wrapK (k:=k) om,yg,Ge]
    rfl
   ·rw[y8 (by rw[yc h3]; rfl),y8 fun h=>h3 h.2]
  ·rw[y7 h2,Gh]
   simp only[obind]
   rw[y8 (by rfl),y8 fun h=>h2 h.1]
 ·rw[y8 (show (!decide (TOk t))=true by rw[yc h1]; simp),y8 h1]
def findM (t:TTr) (k:Int) (c:Y8) (y:Int):Int×Int :=
 if ¬ TOk t then (0,1) else if ¬ (hasP t.E c y=true/\1<=k/\k<=t.O) then (0,6) else ((pix t.E c y:Int),0)
theorem r13_find_eq (hs:Small t) (k:Int) (c:Y8) (y:Int):F_q2y t k c y=some (findM t k c y):=by
 simp only[F_q2y,S_q2y,Scr.den,r13_Valid_eq hs,at_eq,obind,z9]
 unfold findM
 by_cases h1:TOk t
 ·rw[y7 (show ¬ (!decide (TOk t))=true by rw[yb h1]; simp),y7 (show ¬ ¬ TOk t from fun h=>h h1)]
  by_cases h2:hasP t.E c y=true
  ·rw[y8 (show hasP t.E c y=true from h2)]
   by_cases h3:1<=k/\k<=t.O
   ·have hb:(decide (((pix t.E c y:Nat):Int)<0)||decide (k<1)||decide (k>t.O))=false:=by
     simp only[y37,yh]; omega
    rw[y7 (by rw[hb]; simp),y7 (show ¬ ¬ (hasP t.E c y=true/\1<=k/\k<=t.O) from fun h=>h ⟨h2,h3⟩)]
   ·rw[y8 (by simp only[ye,y9]; omega),y8 fun h=>h3 h.2]
  ·rw[y7 (show ¬ hasP t.E c y=true from h2),y8 (by rfl),y8 fun h=>h2 h.1]
 ·rw[y8 (show (!decide (TOk t))=true by rw[yc h1]; simp),y8 h1]
theorem r13_Ask_eq (hs:Small t) (k:Int) (c:Y8) (y x:Int):F_q6q t k c y x=some (askM t k c y x):=by
 simp only[F_q6q,S_q6q,Scr.den,r13_find_eq hs,obind,z9]
 unfold askM findM
 by_cases h1:TOk t
 ·simp only[show ¬ ¬ TOk t from fun h=>h h1,y10]
  by_cases h2:hasP t.E c y=true
  ·have hlt:=(pix_lt h2).1
   have hp:=h1.potAt h2
   have l0:=h1.2.1
   obtain⟨q1,q2,q3,q4⟩:=hp.small h1.1.2
   have l1:=hp.2.2.2.1.1.1
   have l3:=hp.2.2.2.1.2.2.1.1
   have e0:=h1.1
   simp only[show ¬ ¬ hasP t.E c y=true from fun h=>h h2,y10]
   by_cases h3:1<=k/\k<=t.O
   ·simp only[show ¬ ¬ (1<=k/\k<=t.O) from fun h=>h h3,show ¬ ¬ (hasP t.E c y=true/\1<=k/\k<=t.O) from fun h=>h ⟨h2,h3⟩,y10]
    rw[y7 (show ¬ ((0:Int) != 0)=true from sj)]
    by_cases h4:1<=x/\x<=1000000000000000
    ·have t1:=nth_tot hp.2.2.2.1.2.2.1 h3
     unfold tot at t1
     rw[y7 (by simp only[ye,y9]; omega)]
     simp only[show ¬ ¬ (1<=x/\x<=1000000000000000) from fun h=>h h4,y10,wrapK (k:=k) om,yg]
     rw[z5i h1.small hlt (h1.pos h2)]
     simp only[obind,show t.E.getD (pix t.E c y) dF=potAt t c y from rfl,yo,show (potAt t c y).G.getD (k-1).toNat dF=nth (potAt t c y).G k from rfl,show (potAt t c y).A.getD (k-1).toNat dF=nth (potAt t c y).A k from rfl]
     rw[Ge,wrapId (n:=nth (potAt t c y).G k+x) om om]
     by_cases h5:nth (potAt t c y).A k<nth (potAt t c y).G k+x
     ·rw[y8 (show decide (nth (potAt t c y).G k+x>nth (potAt t c y).A k)=true from yb h5),y8 h5]
     ·rw[y7 (show ¬ decide (nth (potAt t c y).G k+x>nth (potAt t c y).A k)=true by rw[y9]; exact h5),y7 h5]
      rw[Ge,z7 (by simp only[AllP,y1b,yl]),Gf,Gf]
      rfl
    ·rw[y8 (by simp only[ye,y9]; omega)]
     simp only[h4,ym,y17]
   ·simp only[h3,and_false,ym,y17]; rfl
  ·simp only[h2,y57,ym,y17,yu]; rfl
 ·simp only[h1,ym,y17]; rfl
theorem r13_Hear_eq (hs:Small t) (m:TMe):F_q6x t m=some (hearM t m):=by
 simp only[F_q6x,S_q6x,Scr.den,r13_Valid_eq hs,r13_find_eq hs,obind,z9]
 unfold hearM findM
 by_cases h0:m.To=0
 ·rw[y7 (show ¬ m.To≠0 from fun h=>h h0)]
  by_cases h1:TOk t
  ·rw[y7 (by rw[yb h1]; simp[h0])]
   simp only[show ¬ ¬ TOk t from fun h=>h h1,y10]
   by_cases h2:hasP t.E m.B m.D=true
   ·have hlt:=(pix_lt h2).1
    have hp:=h1.potAt h2
    have l0:=h1.2.1
    obtain⟨q1,q2,q3,q4⟩:=hp.small h1.1.2
    have l1:=hp.2.2.2.1.1.1
    have l2:=hp.2.2.2.1.2.1.1
    have l4:=hp.2.2.2.1.2.2.2.1
    have e0:=h1.1
    simp only[show ¬ ¬ hasP t.E m.B m.D=true from fun h=>h h2,y10]
    by_cases h3:1<=m.Aa/\m.Aa<=t.O
    ·simp only[show ¬ ¬ (1<=m.Aa/\m.Aa<=t.O) from fun h=>h h3,show ¬ ¬ (hasP t.E m.B m.D=true/\1<=m.Aa/\m.Aa<=t.O) from fun h=>h ⟨h2,h3⟩,y10]
     rw[y7 (show ¬ ((0:Int) != 0)=true from sj)]
     simp only[wrapK (k:=m.Aa) om,yg,z3x,show t.E.getD (pix t.E m.B m.D) dF=potAt t m.B m.D from rfl,show (potAt t m.B m.D).A.getD (m.Aa-1).toNat dF=nth (potAt t m.B m.D).A m.Aa from rfl]
     have hgu:∀ a:Prop,AllP [a->(0:Int)<=((pix t.E m.B m.D:Nat):Int),a->pix t.E m.B m.D<t.E.length,a->(0:Int)<=(((m.Aa-1).toNat:Nat):Int),a->(m.Aa-1).toNat<(potAt t m.B m.D).A.length] :=
      fun a=>⟨fun _=>om,fun _=>hlt,fun _=>om,fun _=>om,trivial⟩
     by_cases h4:0<=m.S/\m.S<=nth (potAt t m.B m.D).A m.Aa
     ·rw[ze (by rw[yc (show ¬ m.S<0 from om),yc (show ¬ m.S>nth (potAt t m.B m.D).A m.Aa from om)]; exact⟨rfl,trivial⟩)]
      simp only[obind]
      rw[z7 (hgu _)]
      by_cases h5:tot m.P
      ·rw[y7 (by rw[yc (show ¬ m.S<0 from om),yc (show ¬ m.S>nth (potAt t m.B m.D).A m.Aa from om),yb h5]; simp),y7 (show ¬ ¬ ((0<=m.S/\m.S<=nth (potAt t m.B m.D).A m.Aa)/\tot m.P) from fun h=>h ⟨h4,h5⟩)]
       rw[z5i h1.small hlt (h1.pos h2)]
       simp only[obind,show t.E.getD (pix t.E m.B m.D) dF=potAt t m.B m.D from rfl,yo,show (potAt t m.B m.D).H.getD (m.Aa-1).toNat dF=nth (potAt t m.B m.D).H m.Aa from rfl,maxE]
       rw[Ge,Ge,z7 (by simp only[AllP,yl,and_self]),Gf,Gf]
       rfl
      ·rw[y8 (by rw[yc h5]; simp),y8 (show ¬ ((0<=m.S/\m.S<=nth (potAt t m.B m.D).A m.Aa)/\tot m.P) from fun h=>h5 h.2)]
     ·have hb:(decide (m.S<0)||decide (m.S>nth (potAt t m.B m.D).A m.Aa))=true:=by
       simp only[ye,y9]; omega
      rw[zj (by rw[hb]; simp[AllP])]
      simp only[obind]
      rw[z7 (hgu _),y8 (by rw[hb]; rfl),y8 (show ¬ ((0<=m.S/\m.S<=nth (potAt t m.B m.D).A m.Aa)/\tot m.P) from fun h=>h4 h.1)]
    ·simp only[h3,and_false,ym,y17]; rfl
   ·simp only[h2,y57,ym,y17,yu]; rfl
  ·rw[y8 (by rw[yc h1]; rfl)]
   simp only[h1,ym,y17]
 ·rw[y8 (by simp[h0]),y8 (show m.To≠0 from h0)]
def divideM (t:TTr) (c:Y8) (y:Int) (a:List Int):TTr×Int :=
 if ¬ TOk t then (zT,1) else if ¬ hasP t.E c y=true then (zT,6) else if ¬ (a.length:Int)=t.O then (zT,6) else if ¬ rowT a=true then (zT,2) else
  if (giveV (potAt t c y).T (potAt t c y) a).1≠0 then (zT,(giveV (potAt t c y).T (potAt t c y) a).1)
  else (putP t c y (withG (potAt t c y) (giveV (potAt t c y).T (potAt t c y) a).2),0)
theorem zjs:∀ (a b:List Int) (u v:Int),a.length=b.length ->
  (a.zip b).foldl (fun (s:Int×Int) x=>(i64.wrap (s.1+x.1),i64.wrap (s.2+x.2))) (i64.wrap u,i64.wrap v)=(i64.wrap (u+a.sum),i64.wrap (v+b.sum))
 | [],[],u,v,_=>sj
 | x :: a,y :: b,u,v,h=>by
  simp only[List.zip_cons_cons,y2z,z6f,y3e]
  rw[zjs a b (u+x) (v+y) (by simpa using h),y5r,y5r]
 | [],_ :: _,_,_,h=>by simp at h
 | _ :: _,[],_,_,h=>by simp at h
theorem zsc {b:List Int} (h:a.length=b.length) (hi:i<a.length):(a.zip b).getD i dF=(a.getD i dF,b.getD i dF):=by
 rw[ya,yd sk,List.getElem_zip,z2m hi,z2m om]
 rfl
theorem zhw (hs:Small t) (c:Y8) (y:Int) (a:List Int):F_qn t c y a=some (divideM t c y a):=by
 simp only[F_qn,S_qn,Scr.den,r13_find_eq hs,obind]
 unfold divideM
 by_cases h1:TOk t
 ·simp only[findM,show ¬ ¬ TOk t from fun h=>h h1,y10]
  by_cases h2:hasP t.E c y=true
  ·have hlt:=(pix_lt h2).1
   have hp:=h1.potAt h2
   have l0:=h1.2.1
   obtain⟨q1,q2,q3,q4⟩:=hp.small h1.1.2
   have l1:=hp.2.2.2.1.1.1
   have e0:=h1.1
   have ho:=zh4 hp h1.1.2
   have ht:=hp.2.2.1
   simp only[show ¬ ¬ hasP t.E c y=true from fun h=>h h2,show ¬ ¬ (hasP t.E c y=true/\(1:Int)<=1/\1<=t.O) from fun h=>h ⟨h2,om,om⟩,y10]
   rw[y7 (show ¬ ((0:Int) != 0)=true from sj)]
   by_cases h3:(a.length:Int)=t.O
   ·rw[y7 (show ¬ ((a.length:Int) != t.O)=true by simp[h3]),y7 (show ¬ ¬ (a.length:Int)=t.O from fun h=>h h3)]
    simp only[yg]
    have hl:a.length=(potAt t c y).A.length:=om
    have hz:(a.zip (potAt t c y).A).length=a.length:=sk
    have hch:=zek (ρ:=R_qn) (body:=fun i s=>(S_qn_b1 t a ((pix t.E c y:Int),0) i s).den) (a.zip (potAt t c y).A) (fun i=>tot (a.getD i dF))
     (fun (s:Int×Int) x=>(i64.wrap (s.1+x.1),i64.wrap (s.2+x.2))) (c:=(zT,2)) (s0:=(0,0)) (fun i s hi=>by
      rw[hz] at hi
      simp only[S_qn_b1,Scr.den,z3x,obind,yg,show t.E.getD (pix t.E c y) dF=potAt t c y from rfl,zsc hl hi]
      by_cases c1:tot (a.getD i dF)
      ·rw[y7 (by rw[yb c1]; simp),y8 c1,Ge]
      ·rw[y8 (by rw[yc c1]; rfl),y7 c1])
    rw[hz] at hch
    rw[hch]
    by_cases h4:rowT a=true
    ·have ha:=z7m.1 h4
     have s1:=z54 ha
     have s2:=z54 hp.2.2.2.1.1.2
     have hf:=zjs a (potAt t c y).A 0 0 hl
     rw[z84,Int.zero_add,Int.zero_add,wrapId (n:=a.sum) om om,wrapId (n:=(potAt t c y).A.sum) om om] at hf
     rw[y8 (z3n.2 ha),hf,y7 (show ¬ ¬ rowT a=true from fun h=>h h4)]
     simp only[outM,show t.E.getD (pix t.E c y) dF=potAt t c y from rfl]
     rw[zl2 om]
     simp only[obind]
     rw[Ge,wrapId (n:=(potAt t c y).T-outV (potAt t c y)) om om,wrapId (n:=a.sum+(potAt t c y).A.sum) om om]
     unfold giveV
     by_cases c1:(potAt t c y).T-outV (potAt t c y)<a.sum
     ·rw[y8 (show decide (a.sum>(potAt t c y).T-outV (potAt t c y))=true from yb c1),y8 c1]
      rfl
     ·rw[y7 (show ¬ decide (a.sum>(potAt t c y).T-outV (potAt t c y))=true by rw[y9]; exact c1),y7 c1]
      by_cases c2:1000000000000000<(potAt t c y).A.sum+a.sum
      ·rw[y8 (yb om),y8 c2]
       rfl
      ·rw[y7 (by rw[y9]; omega),y7 c2,z5i h1.small hlt (h1.pos h2)]
       simp only[obind,show t.E.getD (pix t.E c y) dF=potAt t c y from rfl]
       rw[zjr (ρ:=R_qn) (G:=(potAt t c y).A) (a:=a) (body:=fun i s=>(S_qn_b2 a ((pix t.E c y:Int),0) (t.O,t.E) i s).den) hl (fun j s hj hs'=>by
        simp only[S_qn_b2,Scr.den,yg,show t.E.getD (pix t.E c y) dF=potAt t c y from rfl]
        rw[Ge]) hp.2.2.2.1.1.2 ha]
       simp only
       rw[z7 (by simp only[AllP,y1b]; exact addN_length),z7 (by simp only[AllP,y1b]; exact⟨by rw[addN_length]; omega,om,om,om⟩),Gf]
       rfl
    ·rw[y7 fun h=>h4 (z7m.2 (z3n.1 h)),y8 (show ¬ rowT a=true from h4)]
     rfl
   ·rw[y8 (show ((a.length:Int) != t.O)=true by simp[h3]),y8 (show ¬ (a.length:Int)=t.O from h3)]
  ·simp only[h2,y57,ym,y17,yu]; rfl
 ·simp only[findM,h1,ym,y17]; rfl
theorem r13_Grant_eq (hs:Small t) (k:Int) (c:Y8) (y x:Int):F_q6p t k c y x=some (grantM t k c y x):=by
 simp only[F_q6p,S_q6p,Scr.den,r13_find_eq hs,obind,z9]
 unfold grantM
 by_cases h1:TOk t
 ·simp only[findM,show ¬ ¬ TOk t from fun h=>h h1,y10]
  by_cases h2:hasP t.E c y=true
  ·have hp:=h1.potAt h2
   have l1:=hp.2.2.2.1.1.1
   have e0:=h1.1
   simp only[show ¬ ¬ hasP t.E c y=true from fun h=>h h2,y10]
   by_cases h3:1<=k/\k<=t.O
   ·simp only[show ¬ ¬ (1<=k/\k<=t.O) from fun h=>h h3,show ¬ ¬ (hasP t.E c y=true/\1<=k/\k<=t.O) from fun h=>h ⟨h2,h3⟩,y10]
    rw[y7 (show ¬ ((0:Int) != 0)=true from sj)]
    by_cases h4:1<=x/\x<=1000000000000000
    ·rw[y7 (by simp only[ye,y9]; omega)]
     simp only[show ¬ ¬ (1<=x/\x<=1000000000000000) from fun h=>h h4,y10,wrapK (k:=k) om,yg,yo]
     have e2:t.O.toNat=(potAt t c y).A.length:=om
     rw[e2,Ge,z7 (by simp only[AllP,y1b,y22]; omega),z7 (by simp only[AllP,y1b,yl,y22]; omega)]
     show (F_qn t c y (oneHot (potAt t c y).A.length (k-1).toNat x)).bind _=_
     rw[zhw hs]
     unfold divideM
     simp only[show ¬ ¬ TOk t from fun h=>h h1,show ¬ ¬ hasP t.E c y=true from fun h=>h h2,show ¬ ¬ (((oneHot (potAt t c y).A.length (k-1).toNat x).length:Int)=t.O) from fun h=>h (by rw[oneHot_length]; exact l1),
      show ¬ ¬ rowT (oneHot (potAt t c y).A.length (k-1).toNat x)=true from fun h=>h (z7m.2 (oneHot_tot h4)),y10]
     rfl
    ·rw[y8 (by simp only[ye,y9]; omega)]
     simp only[h4,ym,y17]
   ·simp only[h3,and_false,ym,y17]; rfl
  ·simp only[h2,y57,ym,y17,yu]; rfl
 ·simp only[findM,h1,ym,y17]; rfl
end Go.Proofs.YtkhgaalekilaeaaGreatDoor.J13
