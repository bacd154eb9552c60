/- A part of the proof: plain laws of what the functions compute. No condition. -/
import Derived.Test.YtgfgnhpecnmlpaaGreatDoorP1
/- Laws that are made. No condition. -/
namespace Go.Proofs.YtgfgnhpecnmlpaaGreatDoor
open Go Go.TA
open Go.IntKind (i64)
attribute [-simp] List.getD_eq_getElem?_getD
def LiS (l:List TLi):Prop:=∀ x∈l,good x.B=true
def BoS (l:List TBo):Prop:=∀ x∈l,good x.B=true
def AmS (l:List TAm):Prop:=∀ x∈l,x.G.length<=3/\∀ c∈x.G,good c.B=true
structure ML (l:TLa):Prop where
 fi:0<=l.E/\l.E<=95
 ye:1<=l.F/\l.F<=3
 tr:MT l.I
 ok:errL l=0
 sm:SmL l
 ll:l.N.length<=33
 cl:l.K.length<=44
 fl:l.P.length<=44
 al:l.A.length<=3
 ac:∀ a∈l.A,a.G.length<=3
section
variable {f y:Int} (hf:0<=f/\f<=95) (hy:1<=y/\y<=3) {t:List THe} (ht:MT t)
include hf hy
theorem zm7 (rv:R_q3) (hrv:∀ c∈rv,good c=true) (hrl:rv.length<=11) {s:TTape} (hs:TapeOk s) :
  ∃ s' ls,rangeM (fun i s=>(S_q2_b2 rv i s).den) rv.length 0 (s,f,y,t,[])=some (.next (s',f,y,t,ls))/\TapeOk s'/\ls.length<=33/\LiS ls:=by
 obtain⟨r,e,h1,h2,h3,h4,h5,h6⟩:=zr (body:=fun i s=>(S_q2_b2 rv i s).den) (n:=rv.length) (fun i r=>TapeOk r.1/\r.2.1=f/\r.2.2.1=y/\r.2.2.2.1=t/\r.2.2.2.2.length<=3 * i/\LiS r.2.2.2.2) (s0:=(s,f,y,t,[])) ⟨hs,rfl,rfl,rfl,sj,fun x hx=>by cases hx⟩
  (fun i s hi ⟨o,q1,q2,q3,q4,q5⟩=>by
   obtain⟨s0,f0,y0,t0,ls⟩:=s
   simp only at o q1 q2 q3 q4 q5
   subst q1; subst q2; subst q3
   simp only[S_q2_b2,Scr.den]
   obtain⟨r,e,k1,k2,k3,k4,k5,k6⟩:=zt (step:=fun s=>(S_q2_b1 rv i s).den) (fun s=>(f0+y0-s.2.2.2.2.2).toNat)
    (fun r=>TapeOk r.1/\r.2.1=f0/\r.2.2.1=y0/\r.2.2.2.1=t0/\((r.2.2.2.2.1.length:Int)<=3 * (i:Int)+(r.2.2.2.2.2-f0)/\f0<=r.2.2.2.2.2/\r.2.2.2.2.2<=f0+y0)/\LiS r.2.2.2.2.1)
    (fun r=>TapeOk r.1/\r.2.1=f0/\r.2.2.1=y0/\r.2.2.2.1=t0/\r.2.2.2.2.1.length<=3 * (i+1)/\LiS r.2.2.2.2.1) (fun s ⟨o,q1,q2,q3,⟨q4,q6,q7⟩,q5⟩=>by
     obtain⟨s0,f1,y1,t1,ls,z⟩:=s
     simp only at o q1 q2 q3 q4 q5 q6 q7
     subst q1; subst q2; subst q3
     simp only[S_q2_b1,Scr.den]
     rw[wrapId (n:=f1+y1) om om]
     by_cases hz:z<f1+y1
     ·left
      rw[y6 (by simpa using hz)]
      have w1:i64.wrap (z+1)=z+1:=wrapId om om
      obtain⟨v,s1,e1,o1,_,_⟩:=zh (n:=4) o om om
      simp only[e1,obind,w1]
      by_cases hv:v>0
      ·rw[y6 (by simpa using hv)]
       obtain⟨a,s2,e2,o2,_,_⟩:=z2j o1
       rw[e2,obind,Ga]
       refine⟨_,rfl,⟨o2,rfl,rfl,rfl,⟨by rw[yd,yp]; simp only; omega,by simp only; omega,by simp only; omega⟩,fun x hx=>?_⟩,by simp only; omega⟩
       rcases yg.1 hx with hx | hx
       ·exact q5 x hx
       ·have:x=⟨rv.getD i dF,z,a⟩:=by simpa using hx
        rw[this]; exact hrv _ (z4 hi)
      ·rw[y5 (by simpa using hv)]
       exact⟨_,rfl,⟨o1,rfl,rfl,rfl,⟨by simp only; omega,by simp only; omega,by simp only; omega⟩,q5⟩,by simp only; omega⟩
     ·right
      rw[y5 (by simpa using hz)]
      exact⟨_,rfl,o,rfl,rfl,rfl,by simp only; omega,q5⟩) _ (s0,f0,y0,t0,ls,f0) (y1t _) ⟨o,rfl,rfl,rfl,⟨by simp only; omega,by simp only; omega,by simp only; omega⟩,q5⟩
   rw[e]
   exact⟨_,rfl,k1,k2,k3,k4,k5,k6⟩)
 obtain⟨s',f',y',t',ls⟩:=r
 simp only at h1 h2 h3 h4 h5 h6
 subst h2; subst h3; subst h4
 exact⟨s',ls,e,h1,om,h6⟩
include ht
theorem zm8 (s6:TTape) (ls:List TLi) {s:TTape} (hs:TapeOk s) :
  ∃ s' fl ce,rangeM (fun i s=>(S_q2_b4 (s6,f,y,t,ls) i s).den) t.length 0 (s,f,y,t,[],[])=some (.next (s',f,y,t,fl,ce))/\TapeOk s'/\fl.length<=44/\BoS fl/\ce.length<=44/\BoS ce:=by
 have hle:=ht.le
 obtain⟨r,e,h1,h2,h3,h4,h5,h6,h7,h8⟩:=zr (body:=fun i s=>(S_q2_b4 (s6,f,y,t,ls) i s).den) (n:=t.length)
  (fun i r=>TapeOk r.1/\r.2.1=f/\r.2.2.1=y/\r.2.2.2.1=t/\r.2.2.2.2.1.length<=4 * i/\BoS r.2.2.2.2.1/\r.2.2.2.2.2.length<=4 * i/\BoS r.2.2.2.2.2) (s0:=(s,f,y,t,[],[])) ⟨hs,rfl,rfl,rfl,sj,(fun x hx=>by cases hx),sj,fun x hx=>by cases hx⟩
  (fun i s hi ⟨o,q1,q2,q3,q4,q5,q6,q7⟩=>by
   obtain⟨s0,f0,y0,t0,fl,ce⟩:=s
   simp only at o q1 q2 q3 q4 q5 q6 q7
   subst q1; subst q2; subst q3
   have hg:=ht.good _ (z4 hi)
   simp only[S_q2_b4,Scr.den]
   obtain⟨yrs,ey,y1,y2,_⟩:=zgj hf hy t0 ls ce fl [] [] [] []
   rw[ey,obind]
   obtain⟨r,e,k1,k2,k3,k4,k5,k6,k7,k8⟩:=zr (body:=fun j s=>(S_q2_b3 (s6,f0,y0,t0,ls) i yrs j s).den) (n:=yrs.length)
    (fun j r=>TapeOk r.1/\r.2.1=f0/\r.2.2.1=y0/\r.2.2.2.1=t0/\r.2.2.2.2.1.length<=4 * i+j/\BoS r.2.2.2.2.1/\r.2.2.2.2.2.length<=4 * i+j/\BoS r.2.2.2.2.2) (s0:=(s0,f0,y0,t0,fl,ce)) ⟨o,rfl,rfl,rfl,q4,q5,q6,q7⟩
    (fun j s hj ⟨o,q1,q2,q3,q4,q5,q6,q7⟩=>by
     obtain⟨s0,f1,y1,t1,fl,ce⟩:=s
     simp only at o q1 q2 q3 q4 q5 q6 q7
     subst q1; subst q2; subst q3
     obtain⟨v,s1,e1,o1,_,_⟩:=zh (n:=6) o om om
     simp only[S_q2_b3,Scr.den,e1,obind]
     have fin:∀ (s2:TTape) (ce':List TBo),TapeOk s2->ce'.length<=4 * i+(j+1)->BoS ce'->∃ s',((F_q0 8 s2).bind fun r=>if (r.1==7)=true then (F_q0 300 r.2).bind fun r_1=>guardP (AllP [(fl.length+1) * (2 * 32)<=2 ^ 48])
       (some (Step.cont (r_1.2,f1,y1,t1,fl++[(⟨(t1.getD i dF).B,yrs.getD j dF,r_1.1⟩:TBo)],ce'))) else some (Step.cont (r.2,f1,y1,t1,fl,ce')):Option (Step (TTape×Int×Int×List THe×List TBo×List TBo) R_q2))=some (.cont s') /\
       (TapeOk s'.1/\s'.2.1=f1/\s'.2.2.1=y1/\s'.2.2.2.1=t1/\s'.2.2.2.2.1.length<=4 * i+(j+1)/\BoS s'.2.2.2.2.1/\s'.2.2.2.2.2.length<=4 * i+(j+1)/\BoS s'.2.2.2.2.2):=fun s2 ce' o2 hc1 hc2=>by
      obtain⟨w,s3,e3,o3,_,_⟩:=zh (n:=8) o2 om om
      rw[e3,obind]
      by_cases hw:w=7
      ·rw[y6 (by simpa using hw)]
       obtain⟨u,s4,e4,o4,_,_⟩:=zh (n:=300) o3 om om
       rw[e4,obind,Ga]
       refine⟨_,rfl,o4,rfl,rfl,rfl,by rw[yd,yp]; omega,fun x hx=>?_,hc1,hc2⟩
       rcases yg.1 hx with hx | hx
       ·exact q5 x hx
       ·have:x=⟨(t1.getD i dF).B,yrs.getD j dF,u⟩:=by simpa using hx
        rw[this]; exact hg
      ·rw[y5 (by simpa using hw)]
       exact⟨_,rfl,o3,rfl,rfl,rfl,by simp only; omega,q5,hc1,hc2⟩
     by_cases hv:v=5
     ·rw[y6 (by simpa using hv)]
      obtain⟨a,s2,e2,o2,_,_⟩:=z2j o1
      obtain⟨b,s3,e3,o3,_⟩:=z19 (l:=[a,5000,100000]) o2 sj sj
      simp only[e2,e3,obind]
      rw[Ga]
      simp only[outM]
      refine fin s3 (ce++[⟨(t1.getD i dF).B,yrs.getD j dF,b⟩]) o3 (by rw[yd,yp]; omega) (fun x hx=>?_)
      rcases yg.1 hx with hx | hx
      ·exact q7 x hx
      ·have:x=⟨(t1.getD i dF).B,yrs.getD j dF,b⟩:=by simpa using hx
       rw[this]; exact hg
     ·rw[y5 (by simpa using hv)]
      simp only[outM]
      exact fin s1 ce o1 om q7)
   rw[e]
   exact⟨_,rfl,k1,k2,k3,k4,by simp only; omega,k6,by simp only; omega,k8⟩)
 obtain⟨s',f',y',t',fl,ce⟩:=r
 simp only at h1 h2 h3 h4 h5 h6 h7 h8
 subst h2; subst h3; subst h4
 exact⟨s',fl,ce,e,h1,om,h6,om,h8⟩
theorem zmv (s6 s17:TTape) (ls:List TLi) (fl ce:List TBo) (ea:List TEa) (co:List TCo) (ru:List TRu) {i:Int} (hi:i<=3) {s:TTape} (hs:TapeOk s) (d:Int) :
  ∃ s' am n d' i',iterM (fun s=>(S_q2_b5 (s6,f,y,t,ls) (s17,f,y,t,fl,ce) s).den) (s,f,y,t,ea,co,ru,[],0,d,i)=some (.next (s',f,y,t,ea,co,ru,am,n,d',i'))/\TapeOk s'/\am.length<=3/\AmS am:=by
 obtain⟨r,e,k1,k2,k3,k4,k5,k6,k7,k8,k9⟩:=zt (step:=fun s=>(S_q2_b5 (s6,f,y,t,ls) (s17,f,y,t,fl,ce) s).den) (fun s=>s.2.2.2.2.2.2.2.2.2.2.toNat)
  (fun r=>TapeOk r.1/\r.2.1=f/\r.2.2.1=y/\r.2.2.2.1=t/\r.2.2.2.2.1=ea/\r.2.2.2.2.2.1=co/\r.2.2.2.2.2.2.1=ru/\((r.2.2.2.2.2.2.2.1.length:Int)+max r.2.2.2.2.2.2.2.2.2.2 0<=3/\r.2.2.2.2.2.2.2.2.2.2<=3)/\AmS r.2.2.2.2.2.2.2.1)
  (fun r=>TapeOk r.1/\r.2.1=f/\r.2.2.1=y/\r.2.2.2.1=t/\r.2.2.2.2.1=ea/\r.2.2.2.2.2.1=co/\r.2.2.2.2.2.2.1=ru/\r.2.2.2.2.2.2.2.1.length<=3/\AmS r.2.2.2.2.2.2.2.1) (fun s ⟨o,q1,q2,q3,q4,q5,q6,⟨q7,q8⟩,q9⟩=>by
   obtain⟨s0,f0,y0,t0,e0,c0,r0,am,n,dd,k⟩:=s
   simp only at o q1 q2 q3 q4 q5 q6 q7 q8 q9
   subst q1; subst q2; subst q3; subst q4; subst q5; subst q6
   simp only[S_q2_b5,Scr.den]
   by_cases hk:k>0
   ·left
    rw[y6 (by simpa using hk)]
    have w1:i64.wrap (k-1)=k-1:=wrapId om om
    obtain⟨v,s1,e1,o1,_⟩:=z19 (l:=[0,1,100,400]) o sj sj
    obtain⟨cs,s2,e2,o2,hc⟩:=z7r hf hy ht e0 c0 r0 ls ce fl am o1
    simp only[e1,e2,obind,w1]
    rw[Ga]
    refine⟨_,rfl,⟨o2,rfl,rfl,rfl,rfl,rfl,rfl,⟨by rw[yd,yp]; simp only; omega,by simp only; omega⟩,fun x hx=>?_⟩,by simp only; omega⟩
    rcases yg.1 hx with hx | hx
    ·exact q9 x hx
    ·have:x=⟨i64.wrap (dd+v),i64.wrap (n+1),cs⟩:=by simpa using hx
     rw[this]; exact⟨hc.le,fun c hcc=>(hc.ok c hcc).gd⟩
   ·right
    rw[y5 (by simpa using hk)]
    exact⟨_,rfl,o,rfl,rfl,rfl,rfl,rfl,rfl,by simp only; omega,q9⟩) _ (s,f,y,t,ea,co,ru,[],0,d,i) (y1t _) ⟨hs,rfl,rfl,rfl,rfl,rfl,rfl,⟨by simp only[y1c]; omega,hi⟩,fun x hx=>by cases hx⟩
 obtain⟨s',f',y',t',e',c',r',am,n,d',i'⟩:=r
 simp only at k1 k2 k3 k4 k5 k6 k7 k8 k9
 subst k2; subst k3; subst k4; subst k5; subst k6; subst k7
 exact⟨s',am,n,d',i',e,k1,k8,k9⟩
end
theorem zff {f y:Int} (hf:0<=f/\f<=95) (hy:1<=y/\y<=3) {t:List THe} (ht:MT t):ML ⟨f,y,t,[],[],[],[],[],[],[]⟩:=by
 have hle:=ht.le
 have hsm:SmL ⟨f,y,t,[],[],[],[],[],[],[]⟩:=by
  refine⟨ht.sm,by simp only; omega,?_,?_,?_,?_,?_,?_,?_,?_,?_,?_,?_,?_,?_⟩ <;> simp
 refine⟨hf,hy,ht,?_,hsm,sj,sj,sj,sj,sj⟩
 refine zw.2 ⟨⟨?_,ht.ok,sj,rfl,?_,rfl,rfl,rfl⟩,⟨⟨y3g,sj⟩,sj,⟨y3g,sj⟩,sj,⟨y3g,sj⟩,sj⟩,by simp[bigL]⟩
 ·unfold yrB; simp only; omega
 ·unfold shareE
  rw[y5]
  rw[y4c,y5n]
  intro c _
  simp[shSum]
end Go.Proofs.YtgfgnhpecnmlpaaGreatDoor
/- The law AmendmentLater. No condition. -/
namespace Go.Proofs.YtgfgnhpecnmlpaaGreatDoor
open Go Go.TA
open Go.IntKind (i64)
attribute [-simp] List.getD_eq_getElem?_getD
def lineA (l:List TLi) (c:Y8) (y:Int):Int:=match l.find? (fun x=>x.B==c&&x.H==y) with
 | some x=>x.D
 | none=>0
theorem zl3 (l:TLa) (c:Y8) (y:Int):F_q1z l c y=some (lineA l.N c y):=by
 simp only[F_q1z,S_q1z,Scr.den]
 rw[za2 l.N (fun x=>x.B==c&&x.H==y) (·.D) fun i hi=>by
  simp only[S_q1z_b1,Scr.den,z9]
  split <;> rfl]
 unfold lineA
 cases l.N.find? (fun x=>x.B==c&&x.H==y) <;> rfl
theorem zib (l:List Int):F_q2h l l=some true:=by
 simp only[F_q2h,S_q2h,Scr.den]
 rw[y5 sj,z13 fun i hi=>by
  simp only[S_q2h_b1,Scr.den]
  rw[z3 ⟨hi,trivial⟩,y5 sj]]
 rfl
def lw:TLa:=⟨12,1,[⟨[49],[97]⟩],[⟨[49],12,500⟩],[],[],[],[],[],[⟨4330,1,[⟨1,[49],12,600⟩]⟩,⟨4400,1,[⟨1,[49],12,0⟩]⟩]⟩
theorem zcj:SmL lw:=by
 refine⟨?_,?_,?_,?_,?_,?_,?_,?_,?_,?_,?_,?_,?_,?_,?_⟩ <;> simp[lw,SmT]
theorem lw1:inS lw 4329=(lw,0):=kj
theorem lw2:inS lw 4330=(⟨12,1,[⟨[49],[97]⟩],[⟨[49],12,600⟩],[],[],[],[],[],[⟨4400,1,[⟨1,[49],12,0⟩]⟩]⟩,0):=kj
theorem lw3:inS lw 4400=(⟨12,1,[⟨[49],[97]⟩],[],[],[],[],[],[],[]⟩,0):=kj
theorem lw4:errL lw=0:=kj
theorem lw5:daysL lw=[4330,4400]:=kj
theorem z6x:F_q2x=some true:=by
 simp only[F_q2x,S_q2x,Scr.den]
 rw[show (⟨12,1,([(⟨[49],[97]⟩:THe)]:List THe),([(⟨[49],12,500⟩:TLi)]:List TLi),[],[],[],[],[],([(⟨4330,1,([(⟨1,[49],12,600⟩:TCh)]:List TCh)⟩:TAm),(⟨4400,1,([(⟨1,[49],12,0⟩:TCh)]:List TCh)⟩:TAm)]:List TAm)⟩:TLa)=lw from rfl]
 rw[z3s zcj,z3s zcj,z3s zcj,zl1 zcj,lw1,lw2,lw3,y6 lw4,lw5]
 simp only[obind,zl3]
 rw[Gg,obind]
 rw[show lineA lw.N [49] 12=500 from rfl]
 rw[Gg,obind]
 rw[show lineA [⟨[49],12,600⟩] [49] 12=600 from rfl]
 rw[Gg,obind,Gg,zib,obind]
 rfl
theorem zgk {L:List TAm} (h1:L.length<=3) (h2:∀ a∈L,a.G.length<=3) (k:Nat):((L.take k).flatMap (·.G)).length<=9:=by
 have h3:=zb6 (L:=L.take k) (k:=3) fun a ha=>h2 a (y1k ha)
 have h4:(L.take k).length<=3:=by rw[y15]; omega
 have h5:(L.take k).length * 3<=3 * 3:=yh 3 h4
 omega
variable {l:TLa}
theorem ML.few (h:ML l) (d:Int):WL 53 (forceL l d):=by
 obtain⟨hr,hw,_⟩:=zw.1 h.ok
 have g1:=h.ll; have g2:=h.cl; have g3:=h.fl
 have hn:(nowC l d).length<=9:=zgk h.al h.ac _
 have h0:WL 44 { l with A:=l.A.drop (laterI l d) }:=⟨hw.lo,by simp only; omega,hw.co,by simp only; omega,hw.fo,by simp only; omega⟩
 have:=z5q (cs:=nowC l d) (fun x hx=>chgG hr.tr (zfe hr d x hx)) h0
 have k1:=this.ll; have k2:=this.cl; have k3:=this.fl
 exact⟨this.lo,by unfold forceL; omega,this.co,by unfold forceL; omega,this.fo,by unfold forceL; omega⟩
theorem ML.nbig (h:ML l) (d:Int):¬ bigL (forceL l d):=by
 have:=h.few d
 have k1:=this.ll; have k2:=this.cl; have k3:=this.fl
 unfold bigL; omega
theorem ML.inS {l:TLa} (h:ML l) {d:Int} (hd:0<=d/\d<=36000):inS l d=(forceL l d,0):=by
 unfold Go.Proofs.YtgfgnhpecnmlpaaGreatDoor.inS
 rw[y6 h.ok,y5 om,y5 (h.nbig d)]
theorem zae (he:errL l=0):SmL l:=by
 obtain⟨hr,hw,hb⟩:=zw.1 he
 obtain⟨f1,f2⟩:=z9c hr
 have hlim:=hr.li
 unfold bigL at hb
 have ht:=hr.tr
 have htl:l.I.length<=60:=by
  unfold treeE at ht
  split at ht
  ·cases ht
  ·omega
 have hE:∀ x∈l.O,z5o l.I x=0:=fun x hx=>by
  obtain⟨i,hi,rfl⟩:=z1y hx
  exact z31 (z1m.1 hr.ea i hi)
 have hC:∀ x∈l.M,z24 l.I l.E l.F x=0:=fun x hx=>by
  obtain⟨i,hi,rfl⟩:=z1y hx
  exact z1m.1 hr.co i hi
 refine⟨fun x hx=>⟨lenC (hasGood ht (y1r.2 ⟨x,hx,sj⟩)),by have:=nameL (treeName ht x hx); omega⟩,om,fun x hx=>lenC (hw.lo.good x hx),om,fun x hx=>lenC (hw.co.good x hx),om,
  fun x hx=>lenC (hw.fo.good x hx),om,fun x hx=>?_,om,fun x hx=>?_,om,om,fun x hx=>⟨by have:=f2 x hx; omega,fun c hc=>lenC (chgG ht (zdu hr x hx c hc))⟩,om⟩
 ·have:=earG ht (hE x hx)
  exact⟨lenC this.1,lenC this.2⟩
 ·have:=hC x hx
  unfold z24 at this
  split at this
  ·cases this
  ·rename_i hb
   split at this
   ·cases this
   ·rename_i hc
    simp only[not_or,y48,not_and] at hc
    refine⟨?_,lenC (leafGood hc.1)⟩
    by_cases k2:x.C=2
    ·exact lenC (hasGood ht (hc.2 k2))
    ·unfold condBad at hb
     have:x.Q=[]:=by
      by_cases h:x.Q=[]
      ·exact h
      ·exact absurd (.inr (.inl ⟨om,.inl h⟩)) hb
     rw[this]; simp
theorem zaf (h:SmL l):FewL l:=⟨h.tl,h.ll,h.cl,h.fll,h.el,h.col,h.rl,h.al,fun x hx=>(h.am x hx).1⟩
end Go.Proofs.YtgfgnhpecnmlpaaGreatDoor
/- A law's lines and bounds as changes that set them; what a change does to them. No condition. -/
namespace Go.Proofs.YtgfgnhpecnmlpaaGreatDoor
open Go Go.TA
open Go.IntKind (i64)
attribute [-simp] List.getD_eq_getElem?_getD
variable {i:Nat}
section
variable {α:Type} [Inhabited α] {pl:α->TPl}
omit [Inhabited α] in
theorem zic {l:List α} (h:OrdG pl l) {j:Nat} (hi:i<l.length) (hj:j<l.length) (e:pl l[i]=pl l[j]):i=j:=by
 have key:∀ {i j:Nat} (hi:i<l.length) (hj:j<l.length),i<j->pl l[i]≠pl l[j]:=fun {i j} hi hj hij e=>by
  have:=y1f.1 h.pw i j (by simpa using hi) (by simpa using hj) hij
  simp only[y4y] at this
  rw[e] at this
  have hg:=h.good _ (y3c hj)
  have:=(z4w hg hg).2 ⟨rfl,rfl⟩
  omega
 rcases y5p i j with c | c | c
 ·exact absurd e (key hi hj c)
 ·exact c
 ·exact absurd e.symm (key hj hi c)
omit [Inhabited α] in
theorem zb8 {l:List α} (h:OrdG pl l) {a b:α} (ha:a∈l) (hb:b∈l) (e:pl a=pl b):a=b:=by
 obtain⟨i,hi,rfl⟩:=y1e ha
 obtain⟨j,hj,rfl⟩:=y1e hb
 have:=zic h hi hj e
 subst this
 rfl
omit [Inhabited α] in
theorem z4x {l:List α} {x y:α}:y∈insL l i x↔y=x\/y∈l:=by
 unfold insL
 rw[yg,yi]
 constructor
 ·rintro (h | h | h)
  ·exact .inr (y1k h)
  ·exact .inl h
  ·exact .inr (y2x h)
 ·rintro (h | h)
  ·exact .inr (.inl h)
  ·rw[<- y1w i l] at h
   rcases yg.1 h with h | h
   ·exact .inl h
   ·exact .inr (.inr h)
theorem z9g {l:List α} (h:OrdG pl l) {x y:α} (hx:good (pl x).code=true) (rm:Bool):y∈putG pl l x rm↔(y=x/\rm=false)\/(y∈l/\pl y≠pl x):=by
 unfold putG
 by_cases hh:hasP (l.map pl) (pl x).code (pl x).year=true
 ·rw[y6 hh]
  obtain⟨hp,he⟩:=zab h hx hh
  rw[z5b hp,z7 hp] at he
  have hno:∀ i (hi:i<l.length),i≠posP (l.map pl) (pl x)↔pl l[i]≠pl x:=fun i hi=>by
   constructor
   ·intro k e
    exact k (zic h hi hp (e.trans he.symm))
   ·intro k e
    subst e
    exact k he
  cases rm
  ·rw[y5 dk]
   constructor
   ·intro hy
    obtain⟨i,hi,rfl⟩:=y1e hy
    rw[y2q] at hi
    by_cases e:i=posP (l.map pl) (pl x)
    ·subst e; rw[List.getElem_set_self]; exact .inl ⟨rfl,rfl⟩
    ·rw[List.getElem_set_ne (fun k=>e k.symm)]
     exact .inr ⟨y3c hi,(hno i hi).1 e⟩
   ·rintro (⟨rfl,_⟩ | ⟨hy,hk⟩)
    ·exact y4d.2 ⟨_,by rw[y2q]; exact hp,List.getElem_set_self _⟩
    ·obtain⟨i,hi,rfl⟩:=y1e hy
     exact y4d.2 ⟨i,by rw[y2q]; exact hi,List.getElem_set_ne (fun e=>(hno i hi).2 hk e.symm) _⟩
  ·rw[y6 rfl,List.mem_eraseIdx_iff_getElem]
   constructor
   ·rintro⟨i,hi,hne,rfl⟩
    exact .inr ⟨y3c hi,(hno i hi).1 hne⟩
   ·rintro (⟨_,e⟩ | ⟨hy,hk⟩)
    ·cases e
    ·obtain⟨i,hi,rfl⟩:=y1e hy
     exact⟨i,hi,(hno i hi).2 hk,rfl⟩
 ·rw[y5 hh]
  have hno:∀ y∈l,pl y≠pl x:=fun y hy e=>hh (by
   rw[zb2]
   exact⟨pl y,yw.2 ⟨y,hy,rfl⟩,by rw[e],by rw[e]⟩)
  cases rm
  ·rw[y5 dk,z4x]
   constructor
   ·rintro (e | e)
    ·exact .inl ⟨e,rfl⟩
    ·exact .inr ⟨e,hno y e⟩
   ·rintro (⟨e,_⟩ | ⟨e,_⟩)
    ·exact .inl e
    ·exact .inr e
  ·rw[y6 rfl]
   constructor
   ·exact fun e=>.inr ⟨e,hno y e⟩
   ·rintro (⟨_,e⟩ | ⟨e,_⟩)
    ·cases e
    ·exact e
end
abbrev KeyC:=Int×Y8×Int
def keyC (x:TCh):KeyC:=(x.C,x.B,x.H)
def nnC (k:Int):Int:=if k=2 then -1 else 0
def chL (x:TLi):TCh:=⟨1,x.B,x.H,x.D⟩
def chB (k:Int) (x:TBo):TCh:=⟨k,x.B,x.H,x.D⟩
def allC (l:TLa):List TCh:=l.N.map chL++l.K.map (chB 2)++l.P.map (chB 3)
def valC (l:TLa) (q:KeyC):Int:=match (allC l).find? (fun x=>decide (keyC x=q)) with
 | some x=>x.D
 | none=>nnC q.1
theorem z8c {l:TLa} {x:TCh}:x∈allC l↔(x.C=1/\⟨x.B,x.H,x.D⟩∈l.N)\/(x.C=2/\⟨x.B,x.H,x.D⟩∈l.K)\/(x.C=3/\⟨x.B,x.H,x.D⟩∈l.P):=by
 unfold allC
 rw[yg,yg,yw,yw,yw]
 obtain⟨k,c,y,m⟩:=x
 constructor
 ·rintro ((⟨z,hz,e⟩ | ⟨z,hz,e⟩) | ⟨z,hz,e⟩)
  ·cases e; exact .inl ⟨rfl,hz⟩
  ·cases e; exact .inr (.inl ⟨rfl,hz⟩)
  ·cases e; exact .inr (.inr ⟨rfl,hz⟩)
 ·rintro (⟨e,hz⟩ | ⟨e,hz⟩ | ⟨e,hz⟩)
  ·cases e; exact .inl (.inl ⟨_,hz,rfl⟩)
  ·cases e; exact .inl (.inr ⟨_,hz,rfl⟩)
  ·cases e; exact .inr ⟨_,hz,rfl⟩
variable {q:KeyC} {c:TCh}
section
variable {n:Nat} {l:TLa} (h:WL n l)
include h
theorem zl4 {a b:TCh} (ha:a∈allC l) (hb:b∈allC l) (e:keyC a=keyC b):a=b:=by
 obtain⟨k,c,y,m⟩:=a
 obtain⟨k',c',y',m'⟩:=b
 unfold keyC at e
 simp only[y1q] at e
 obtain⟨e1,e2,e3⟩:=e
 subst e1; subst e2; subst e3
 rw[z8c] at ha hb
 simp only at ha hb
 rcases ha with ⟨a1,a2⟩ | ⟨a1,a2⟩ | ⟨a1,a2⟩ <;> rcases hb with ⟨b1,b2⟩ | ⟨b1,b2⟩ | ⟨b1,b2⟩ <;> first | omega | skip
 ·have:=zb8 h.lo a2 b2 rfl; cases this; rfl
 ·have:=zb8 h.co a2 b2 rfl; cases this; rfl
 ·have:=zb8 h.fo a2 b2 rfl; cases this; rfl
theorem z68 {x:TCh} (hx:x∈allC l):valC l (keyC x)=x.D:=by
 unfold valC
 cases hf:(allC l).find? (fun y=>decide (keyC y=keyC x)) with
 | none =>
  have:=y5k.1 hf x hx
  simp at this
 | some y =>
  have h1:=y3x hf
  have h2:=y4l hf
  rw[zl4 h h1 hx (by simpa using h2)]
omit h in
theorem zid (hq:∀ x∈allC l,keyC x≠q):valC l q=nnC q.1:=by
 unfold valC
 cases hf:(allC l).find? (fun y=>decide (keyC y=q)) with
 | none=>rfl
 | some y=>exact absurd (by simpa using y4l hf) (hq y (y3x hf))
omit h in
theorem z5c (hq:valC l q≠nnC q.1):∃ x∈allC l,keyC x=q/\x.D=valC l q:=by
 unfold valC at hq |-
 cases hf:(allC l).find? (fun y=>decide (keyC y=q)) with
 | none=>rw[hf] at hq; exact absurd rfl hq
 | some y=>exact⟨y,y3x hf,by simpa using y4l hf,rfl⟩
theorem z69 (hc:good c.B=true) (hk:c.C=1\/c.C=2\/c.C=3) {y:TCh}:y∈allC (setS c l)↔(y=c/\c.D≠nnC c.C)\/(y∈allC l/\keyC y≠keyC c):=by
 have b0:∀ v:Int,((c.D==v)=false)↔c.D≠v:=fun v=>y2c
 obtain⟨ck,cc,cy,cm⟩:=c
 obtain⟨k,d,z,m⟩:=y
 simp only at hc hk b0
 rw[z8c,z8c]
 unfold keyC nnC setS
 simp only[TCh.mk.injEq,y1q,ne_eq,not_and]
 rcases hk with rfl | rfl | rfl
 ·rw[y6 rfl,y5 dk]
  simp only[z9g h.lo (x:=(⟨cc,cy,cm⟩:TLi)) hc,plL,TLi.mk.injEq,TPl.mk.injEq,ne_eq,b0]
  constructor
  ·rintro (⟨rfl,(⟨⟨rfl,rfl,rfl⟩,e⟩ | ⟨e1,e2⟩)⟩ | ⟨rfl,e⟩ | ⟨rfl,e⟩)
   ·exact .inl ⟨⟨rfl,rfl,rfl,rfl⟩,e⟩
   ·exact .inr ⟨.inl ⟨rfl,e1⟩,fun _ e3 e4=>e2 ⟨e3,e4⟩⟩
   ·exact .inr ⟨.inr (.inl ⟨rfl,e⟩),fun e=>absurd e dk⟩
   ·exact .inr ⟨.inr (.inr ⟨rfl,e⟩),fun e=>absurd e dk⟩
  ·rintro (⟨⟨rfl,rfl,rfl,rfl⟩,e⟩ | ⟨(⟨rfl,e⟩ | ⟨rfl,e⟩ | ⟨rfl,e⟩),e2⟩)
   ·exact .inl ⟨rfl,.inl ⟨⟨rfl,rfl,rfl⟩,e⟩⟩
   ·exact .inl ⟨rfl,.inr ⟨e,fun k=>e2 rfl k.1 k.2⟩⟩
   ·exact .inr (.inl ⟨rfl,e⟩)
   ·exact .inr (.inr ⟨rfl,e⟩)
 ·rw[y5 dk,y6 rfl,y6 rfl]
  simp only[z9g h.co (x:=(⟨cc,cy,cm⟩:TBo)) hc,plB,TBo.mk.injEq,TPl.mk.injEq,ne_eq,b0]
  constructor
  ·rintro (⟨rfl,e⟩ | ⟨rfl,(⟨⟨rfl,rfl,rfl⟩,e⟩ | ⟨e1,e2⟩)⟩ | ⟨rfl,e⟩)
   ·exact .inr ⟨.inl ⟨rfl,e⟩,fun e=>absurd e dk⟩
   ·exact .inl ⟨⟨rfl,rfl,rfl,rfl⟩,e⟩
   ·exact .inr ⟨.inr (.inl ⟨rfl,e1⟩),fun _ e3 e4=>e2 ⟨e3,e4⟩⟩
   ·exact .inr ⟨.inr (.inr ⟨rfl,e⟩),fun e=>absurd e dk⟩
  ·rintro (⟨⟨rfl,rfl,rfl,rfl⟩,e⟩ | ⟨(⟨rfl,e⟩ | ⟨rfl,e⟩ | ⟨rfl,e⟩),e2⟩)
   ·exact .inr (.inl ⟨rfl,.inl ⟨⟨rfl,rfl,rfl⟩,e⟩⟩)
   ·exact .inl ⟨rfl,e⟩
   ·exact .inr (.inl ⟨rfl,.inr ⟨e,fun k=>e2 rfl k.1 k.2⟩⟩)
   ·exact .inr (.inr ⟨rfl,e⟩)
 ·rw[y5 dk,y5 dk,y6 rfl,y5 dk]
  simp only[z9g h.fo (x:=(⟨cc,cy,cm⟩:TBo)) hc,plB,TBo.mk.injEq,TPl.mk.injEq,ne_eq,b0]
  constructor
  ·rintro (⟨rfl,e⟩ | ⟨rfl,e⟩ | ⟨rfl,(⟨⟨rfl,rfl,rfl⟩,e⟩ | ⟨e1,e2⟩)⟩)
   ·exact .inr ⟨.inl ⟨rfl,e⟩,fun e=>absurd e dk⟩
   ·exact .inr ⟨.inr (.inl ⟨rfl,e⟩),fun e=>absurd e dk⟩
   ·exact .inl ⟨⟨rfl,rfl,rfl,rfl⟩,e⟩
   ·exact .inr ⟨.inr (.inr ⟨rfl,e1⟩),fun _ e3 e4=>e2 ⟨e3,e4⟩⟩
  ·rintro (⟨⟨rfl,rfl,rfl,rfl⟩,e⟩ | ⟨(⟨rfl,e⟩ | ⟨rfl,e⟩ | ⟨rfl,e⟩),e2⟩)
   ·exact .inr (.inr ⟨rfl,.inl ⟨⟨rfl,rfl,rfl⟩,e⟩⟩)
   ·exact .inl ⟨rfl,e⟩
   ·exact .inr (.inl ⟨rfl,e⟩)
   ·exact .inr (.inr ⟨rfl,.inr ⟨e,fun k=>e2 rfl k.1 k.2⟩⟩)
theorem zl5 (hc:good c.B=true) (hk:c.C=1\/c.C=2\/c.C=3) (q:KeyC):valC (setS c l) q=if q=keyC c then c.D else valC l q:=by
 have hs:=zb5 h hc
 by_cases hq:q=keyC c
 ·subst hq
  rw[y6 rfl]
  by_cases ha:c.D=nnC c.C
  ·rw[zid fun x hx e=>?_]
   ·exact ha.symm
   ·rcases (z69 h hc hk).1 hx with ⟨_,k⟩ | ⟨_,k⟩
    ·exact k ha
    ·exact k e
  ·exact z68 hs ((z69 h hc hk).2 (.inl ⟨rfl,ha⟩))
 ·rw[y5 hq]
  by_cases hv:valC l q=nnC q.1
  ·rw[hv]
   by_cases hx:∃ x∈allC l,keyC x=q
   ·obtain⟨x,hx,e⟩:=hx
    have h1:=z68 h hx
    have h2:=z68 hs ((z69 h hc hk).2 (.inr ⟨hx,by rw[e]; exact hq⟩))
    rw[e] at h1 h2
    rw[h2,<- h1,hv]
   ·refine zid fun x hx' e=>?_
    rcases (z69 h hc hk).1 hx' with ⟨k,_⟩ | ⟨k,_⟩
    ·subst k; exact hq e.symm
    ·exact hx ⟨x,k,e⟩
  ·obtain⟨x,hx,e,k⟩:=z5c hv
   have h2:=z68 hs ((z69 h hc hk).2 (.inr ⟨hx,by rw[e]; exact hq⟩))
   rw[e] at h2
   rw[h2,k]
end
def lastV (cs:List TCh) (q:KeyC) (v:Int):Int:=cs.foldl (fun v c=>if q=keyC c then c.D else v) v
theorem zc6 (q:KeyC):∀ (cs:List TCh) {n:Nat} {l:TLa},WL n l->(∀ c∈cs,good c.B=true/\(c.C=1\/c.C=2\/c.C=3))->valC (applyS cs l) q=lastV cs q (valC l q)
 | [],_,_,_,_=>rfl
 | c :: cs,n,l,h,hc=>by
  have h1:=hc c y14
  have:=zc6 q cs (zb5 h h1.1) fun x hx=>hc x (ym _ hx)
  show valC (applyS cs (setS c l)) q=_
  rw[this,zl5 h h1.1 h1.2]
  rfl
theorem z4y {q:KeyC}:∀ {cs:List TCh} {v:Int},(∀ c∈cs,keyC c≠q)->lastV cs q v=v
 | [],_,_=>rfl
 | c :: cs,v,h=>by
  unfold lastV
  rw[y2p,y5 fun e=>h c y14 e.symm]
  exact z4y fun x hx=>h x (ym _ hx)
theorem z9h {q:KeyC} {m:Int}:∀ {cs:List TCh} {v:Int},(∃ c∈cs,keyC c=q)->(∀ c∈cs,keyC c=q->c.D=m)->lastV cs q v=m
 | [],_,h,_=>by obtain⟨c,h,_⟩:=h; cases h
 | c :: cs,v,h,hm=>by
  unfold lastV
  rw[y2p]
  by_cases hr:∃ x∈cs,keyC x=q
  ·exact z9h hr fun x hx=>hm x (ym _ hx)
  ·have hc:keyC c=q:=by
    obtain⟨x,hx,e⟩:=h
    rcases yi.1 hx with rfl | hx
    ·exact e
    ·exact absurd ⟨x,hx,e⟩ hr
   rw[y6 hc.symm,hm c y14 hc]
   exact z4y fun x hx e=>hr ⟨x,hx,e⟩
end Go.Proofs.YtgfgnhpecnmlpaaGreatDoor
/- Short rows of changes,sorted. No condition. -/
namespace Go.Proofs.YtgfgnhpecnmlpaaGreatDoor
open Go Go.TA
open Go.IntKind (i64)
attribute [-simp] List.getD_eq_getElem?_getD
def ordC (a b:TCh):Int:=orE [cmpI a.C b.C,lexC (parts a.B) (parts b.B),cmpI a.H b.H]
variable {a b:TCh}
theorem z9i (ha:good a.B=true) (hb:good b.B=true):F_q3a a b=some (ordC a b):=by
 simp only[F_q3a,S_q3a,Scr.den,z65 ha hb,z2z,z4c,obind,ordC]
theorem zfg (a b:TCh):decide (ordC a b<0)=ltX a b:=by
 have:=geChg a b
 unfold ordC
 rw[<- Bool.not_inj_iff,<- this,y1o]
 simp
theorem zie (ha:good a.B=true) (hb:good b.B=true):ordC a b=0↔keyC a=keyC b:=by
 unfold ordC keyC
 simp only[z1i,z25,cmpI,y1q]
 have hz:lexC (parts a.B) (parts b.B)=0↔a.B=b.B:=⟨fun h=>z4a ha hb (z22 h),fun h=>by rw[h]; exact z49 _⟩
 rw[<- hz]
 generalize lexC (parts a.B) (parts b.B)=u
 (repeat' split) <;> omega
theorem z6a:ltX a b=true↔a.C<b.C\/(a.C=b.C/\(lexC (parts a.B) (parts b.B)<0\/(lexC (parts a.B) (parts b.B)=0/\a.H<b.H))):=by
 unfold ltX ltC
 simp only[yl,y9,y7]
theorem z5r {c:TCh} (h1:ltX a b=true) (h2:ltX b c=true):ltX a c=true:=by
 rw[z6a] at *
 have t1:=@z4n (parts a.B) (parts b.B) (parts c.B)
 have t2:lexC (parts a.B) (parts b.B)=0->lexC (parts a.B) (parts c.B)=lexC (parts b.B) (parts c.B):=fun e=>by rw[z22 e]
 have t3:lexC (parts b.B) (parts c.B)=0->lexC (parts a.B) (parts c.B)=lexC (parts a.B) (parts b.B):=fun e=>by rw[z22 e]
 omega
theorem zb9 (h:ltX a b=true):keyC a≠keyC b:=fun e=>by
 unfold keyC at e
 simp only[y1q] at e
 rw[z6a,e.1,e.2.1,e.2.2,z49] at h
 omega
theorem zl6 (ha:good a.B=true) (hb:good b.B=true) (hn:keyC a≠keyC b):ltX a b=true\/ltX b a=true:=by
 rw[z6a,z6a,z5n (parts a.B) (parts b.B)]
 have hz:lexC (parts a.B) (parts b.B)=0->a.B=b.B:=fun h=>z4a ha hb (z22 h)
 unfold keyC at hn
 simp only[ne_eq,y1q,not_and] at hn
 by_cases h1:a.C=b.C
 ·by_cases h2:lexC (parts a.B) (parts b.B)=0
  ·have:=hn h1 (hz h2); omega
  ·omega
 ·omega
def posD (S:List TCh) (x:TCh):Nat->Nat
 | 0=>0
 | j+1=>if ltX x (S.getD j dF)=true then posD S x j else j+1
def insO (S:List TCh) (x:TCh):List TCh:=insL S (posD S x S.length) x
def isrt (l:List TCh):List TCh:=l.foldl insO []
theorem zfh (S:List TCh) (x:TCh):∀ j,posD S x j<=j
 | 0=>ya 0
 | j+1=>by unfold posD; split; exact y2i (zfh S x j); exact ya _
variable {S:List TCh} {x y:TCh}
theorem z9j:y∈insO S x↔y=x\/y∈S:=z4x
theorem zjt (l:List TCh) (x:TCh):isrt (l++[x])=insO (isrt l) x:=by unfold isrt; rw[List.foldl_append]; rfl
theorem zdy {y:TCh}:∀ (l S:List TCh),y∈l.foldl insO S↔y∈l\/y∈S
 | [],S=>sj
 | x :: l,S=>by rw[y2p,zdy l,z9j,yi,<- or_assoc,or_comm (a:=y∈l)]
variable {l:List TCh}
theorem zdz:y∈isrt l↔y∈l:=by unfold isrt; rw[zdy]; simp
theorem z5d:∀ l:List TCh,(isrt l).length=l.length:=by
 have key:∀ (l S:List TCh),(l.foldl insO S).length=S.length+l.length:=by
  intro l
  induction l with
  | nil=>intro S; simp
  | cons x l ih=>intro S; rw[y2p,ih]; unfold insO; rw[z12]; simp; omega
 intro l; have:=key l []; simpa [isrt] using this
abbrev PwX (l:List TCh):Prop:=l.Pairwise fun a b=>ltX a b=true
theorem zc7 {S:List TCh} (hS:PwX S) {x:TCh} (hg:∀ s∈S,good s.B=true) (hx:good x.B=true) (hn:∀ s∈S,keyC s≠keyC x):∀ j,j<=S.length->(∀ i,j<=i->i<S.length->ltX x (S.getD i dF)=true) ->
  (∀ i,i<posD S x j->ltX (S.getD i dF) x=true)/\∀ i,posD S x j<=i->i<S.length->ltX x (S.getD i dF)=true
 | 0,_,h=>⟨fun i hi=>by simp[posD] at hi,h⟩
 | j+1,hj,h=>by
  unfold posD
  by_cases c:ltX x (S.getD j dF)=true
  ·rw[y6 c]
   exact zc7 hS hg hx hn j om fun i h1 h2=>by
    by_cases e:i=j
    ·subst e; exact c
    ·exact h i om h2
  ·rw[y5 c]
   refine⟨fun i hi=>?_,h⟩
   have hm:=z4 (l:=S) (show j<S.length from om)
   have hlt:ltX (S.getD j dF) x=true:=(zl6 (hg _ hm) hx (hn _ hm)).resolve_right c
   by_cases e:i=j
   ·subst e; exact hlt
   ·have:=y1f.1 hS i j om om om
    rw[<- z7 om,<- z7 om] at this
    exact z5r this hlt
theorem zl7 (hS:PwX S) (hg:∀ s∈S,good s.B=true) (hx:good x.B=true) (hn:∀ s∈S,keyC s≠keyC x):PwX (insO S x):=by
 obtain⟨h1,h2⟩:=zc7 hS hg hx hn S.length (ya _) fun i a b=>om
 have hle:=zfh S x S.length
 unfold insO insL
 show List.Pairwise _ _
 rw[y29,y2k]
 refine⟨hS.sublist (y5q _ _),⟨fun b hb=>?_,hS.sublist (y5r _ _)⟩,fun a ha b hb=>?_⟩
 ·obtain⟨i,hi,rfl⟩:=y1e hb
  rw[y21] at hi
  rw[y3u,<- z7 om]
  exact h2 _ om om
 ·obtain⟨i,hi,rfl⟩:=y1e ha
  rw[y15] at hi
  rw[y3t,<- z7 om]
  have hax:=h1 i om
  rcases yi.1 hb with rfl | hb
  ·exact hax
  ·obtain⟨j,hj,rfl⟩:=y1e hb
   rw[y21] at hj
   rw[y3u,<- z7 om]
   exact z5r hax (h2 _ om om)
theorem zl8:∀ (l:List TCh),(∀ x∈l,good x.B=true)->(l.Pairwise fun a b=>keyC a≠keyC b)->PwX (isrt l):=by
 have key:∀ (l S:List TCh),PwX S->(∀ x∈S,good x.B=true)->(∀ x∈l,good x.B=true)->(∀ s∈S,∀ x∈l,keyC s≠keyC x)->(l.Pairwise fun a b=>keyC a≠keyC b)->PwX (l.foldl insO S):=by
  intro l
  induction l with
  | nil=>intro S h _ _ _ _; exact h
  | cons x l ih =>
   intro S h1 h2 h3 h4 h5
   rw[y2k] at h5
   have hx:=h3 x y14
   rw[y2p]
   refine ih _ (zl7 h1 h2 hx fun s hs=>h4 s hs x y14) (fun y hy=>?_) (fun y hy=>h3 y (ym _ hy)) (fun s hs y hy=>?_) h5.2
   ·rcases z9j.1 hy with rfl | hy
    ·exact hx
    ·exact h2 y hy
   ·rcases z9j.1 hs with rfl | hs
    ·exact h5.1 y hy
    ·exact h4 s hs y (ym _ hy)
 intro l hg hp
 exact key l [] y3g (fun x hx=>by cases hx) hg (fun s hs=>by cases hs) hp
theorem zl9 (h:PwX l):isrt l=l:=by
 have key:∀ (l S:List TCh),PwX (S++l)->l.foldl insO S=S++l:=by
  intro l
  induction l with
  | nil=>intro S _; simp
  | cons x l ih =>
   intro S h
   have e:insO S x=S++[x]:=by
    have hp:posD S x S.length=S.length:=by
     cases hl:S.length with
     | zero=>rfl
     | succ j =>
      unfold posD
      rw[y5]
      intro c
      have hj:j<S.length:=om
      have:=(y29.1 h).2.2 _ (z4 hj) x y14
      exact zb9 (z5r this c) rfl
    unfold insO insL
    rw[hp,y2e,List.drop_length]
   rw[y2p,e,ih _ (by rw[y22]; exact h),y22]
   rfl
 exact key l [] h
theorem zju {α:Type} (A:List α) (s x:α) (C:List α):((A++s :: x :: C).set (A.length+1) s).set A.length x=A++x :: s :: C:=by
 simp
theorem ze0 (sv1:List TCh×Int) {x:TCh} (hx:good x.B=true) (n:Int):∀ (j:Nat) (S R:List TCh),j<=S.length->(S.length+R.length)<1000000->(∀ s∈S,good s.B=true) ->
  iterM (fun s=>(S_q9_b1 0 n sv1 s).den) (insL S j x++R,(j:Int))=some (.next (insL S (posD S x j) x++R,(posD S x j:Int)))
 | 0,S,R,_,_,_=>by
  rw[zm]
  simp only[S_q9_b1,Scr.den,posD]
  simp[optD,AllP,guardP]
 | j+1,S,R,hj,hl,hg=>by
  have hjS:j<S.length:=om
  obtain⟨A,s,B,rfl,hA⟩:∃ A s B,S=A++s :: B/\A.length=j:=⟨S.take j,S[j],S.drop (j+1),by rw[<- y1a hjS,y1w],by rw[y15]; omega⟩
  have hs:=hg s sj
  have e0:insL (A++s :: B) (j+1) x++R=A++s :: x :: (B++R):=by
   unfold insL
   rw[show A++s :: B=(A++[s])++B from sj,List.take_left' (by simp[hA]),List.drop_left' (by simp[hA])]
   simp
  have e1:insL (A++s :: B) j x++R=A++x :: s :: (B++R):=by
   unfold insL
   rw[List.take_left' hA,List.drop_left' hA]
   simp
  have g0:(A++s :: x :: (B++R)).getD (j+1) dF=x:=by
   rw[<- hA,z7 sj,y4m om]
   simp
  have g1:(A++s :: x :: (B++R)).getD j dF=s:=by
   rw[<- hA,z7 sj,y4m om]
   simp
  have g2:(A++s :: B).getD j dF=s:=by
   rw[<- hA,z7 sj,y4m om]
   simp
  have hlen:(A++s :: x :: (B++R)).length=A.length+B.length+R.length+2:=sk
  have hl':A.length+B.length+R.length+1<1000000:=by simp at hl; omega
  have w:i64.wrap (((j+1:Nat):Int)-1)=(j:Int):=by rw[wrapId om om]; omega
  have hst:(S_q9_b1 0 n sv1 (A++s :: x :: (B++R),((j+1:Nat):Int))).den=some (if ltX x s=true then .cont (A++x :: s :: (B++R),(j:Int)) else .brk (A++s :: x :: (B++R),((j+1:Nat):Int))):=by
   simp only[S_q9_b1,Scr.den,y17,w,yf,g0,g1,z9i hx hs,z9]
   rw[zg (gs:=[decide (((j+1:Nat):Int)>0)=true]) ⟨yx om,trivial⟩,obind,z3 ⟨fun _=>om,fun _=>om,fun _=>om,fun _=>om,fun _=>om,fun _=>om,trivial⟩]
   have hd:decide (((j+1:Nat):Int)>0)=true:=yx om
   rw[hd,y28,zfg]
   by_cases c:ltX x s=true
   ·rw[y6 c,y6 c,z3 ⟨om,om,om,om,om,om,by rw[y2q]; omega,trivial⟩,<- hA,zju]
   ·rw[y5 c,y5 c]
  rw[zm,e0]
  simp only[hst]
  unfold posD
  rw[g2]
  by_cases c:ltX x s=true
  ·rw[y6 c,y6 c]
   simp only
   rw[<- e1]
   exact ze0 sv1 hx n j (A++s :: B) R om hl hg
  ·rw[y5 c,y5 c,e0]
theorem ze1 (hl:l.length<100000) (hg:∀ x∈l,good x.B=true):F_q9 0 (l.length:Int) l=some (isrt l):=by
 simp only[F_q9,S_q9,Scr.den]
 have w1:i64.wrap ((0:Int)+1)=1:=by rw[wrapId om om]; rfl
 rw[w1]
 obtain⟨s,e,hs⟩:=zt (step:=fun s=>(S_q9_b2 0 (l.length:Int) s).den) (fun s=>l.length-s.2.toNat)
  (fun s=>1<=s.2/\s.1=isrt (l.take s.2.toNat)++l.drop s.2.toNat) (fun s=>s.1=isrt l) (fun s ⟨h1,h2⟩=>by
   obtain⟨d,i⟩:=s
   simp only at h1 h2
   simp only[S_q9_b2,Scr.den]
   by_cases hi:i<(l.length:Int)
   ·left
    rw[y6 (by simpa using hi)]
    obtain⟨k,rfl⟩:∃ k:Nat,i=(k:Int):=⟨i.toNat,om⟩
    have hk:k<l.length:=om
    simp only[yf] at h2
    have hx:=hg _ (y3c hk)
    have hSl:(isrt (l.take k)).length=k:=by rw[z5d,y15]; omega
    have e0:d=insL (isrt (l.take k)) k l[k]++l.drop (k+1):=by
     rw[h2,y1a hk]
     unfold insL
     rw[show (isrt (l.take k)).take k=isrt (l.take k) from y1v om,show (isrt (l.take k)).drop k=[] from y1g om]
     simp
    rw[e0,ze0 _ hx (l.length:Int) k _ _ om (by rw[hSl,y21]; omega) fun s hs=>hg s (y1k (zdz.1 hs))]
    simp only[outM]
    rw[wrapId (n:=(k:Int)+1) om om]
    refine⟨_,rfl,⟨by simp only; omega,?_⟩,by simp only; omega⟩
    have et:l.take (k+1)=l.take k++[l[k]]:=y12 hk
    simp only[show ((k:Int)+1).toNat=k+1 from om]
    rw[et,zjt]
    unfold insO
    rw[hSl]
   ·right
    rw[y5 (by simpa using hi)]
    refine⟨_,rfl,?_⟩
    simp only
    rw[h2,y1v om,y1g om,y2r]) (l.length+1) (l,1) (by simp only; omega) ⟨sj,by
   cases l with
   | nil=>rfl
   | cons x l=>rfl⟩
 rw[e]
 simp only[outM]
 rw[hs]
set_option maxRecDepth 100000 in
theorem zla (hl:l.length<=12) (hg:∀ x∈l,good x.B=true):F_q4k l=some (isrt l):=by
 have hL:∃ r,F_q4j (IntKind.u64.wrap (l.length:Int))=some r:=by
  generalize l.length=n at hl
  have:n=0\/n=1\/n=2\/n=3\/n=4\/n=5\/n=6\/n=7\/n=8\/n=9\/n=10\/n=11\/n=12:=om
  rw[show IntKind.u64.wrap (n:Int)=(n:Int) by rcases this with rfl | rfl | rfl | rfl | rfl | rfl | rfl | rfl | rfl | rfl | rfl | rfl | rfl <;> rfl]
  simp only[F_q4j,S_q4j,F_q4t,S_q4t,Scr.den]
  rw[y5 sk]
  simp only[outM]
  rw[y5 sk]
  simp only
  rw[y5 sk]
  simp only
  have w:IntKind.u8.wrap (n:Int)=(n:Int):=by rcases this with rfl | rfl | rfl | rfl | rfl | rfl | rfl | rfl | rfl | rfl | rfl | rfl | rfl <;> rfl
  rw[w,z3 ⟨om,by simp only[y11,y1c]; omega,trivial⟩]
  exact⟨_,rfl⟩
 obtain⟨r,e⟩:=hL
 simp only[F_q4k,S_q4k,F_q2u,S_q2u,Scr.den,e,obind]
 rw[zm]
 simp only[S_q2u_b1,Scr.den,Int.sub_zero]
 rw[wrapId (n:=(l.length:Int)) om om,z3 ⟨sk,trivial⟩,ze1 om hg]
 rfl
theorem zif (hl:l.length<=19) (hg:∀ x∈l,good x.B=true):F_q3l l=some (isrt l):=by
 simp only[F_q3l,S_q3l,F_qp,S_qp,Scr.den]
 rw[zm]
 simp only[S_qp_b1,Scr.den]
 rw[z3 ⟨sk,trivial⟩]
 simp only[outM]
 rw[ze1 om hg]
 simp only[obind]
 rw[z3 ⟨z5d l,trivial⟩,zm]
 simp only[S_qp_b2,Scr.den]
 rw[z3 ⟨sk,trivial⟩]
 rfl
end Go.Proofs.YtgfgnhpecnmlpaaGreatDoor
/- What is kept of a law,Apply,Difference. No condition. -/
namespace Go.Proofs.YtgfgnhpecnmlpaaGreatDoor
open Go Go.TA
open Go.IntKind (i64)
attribute [-simp] List.getD_eq_getElem?_getD
variable {l:TLa}
theorem zig (hs:SmL l) (c:Y8):F_q4g l c=some (leafT l.I c):=by
 simp only[F_q4g,S_q4g,Scr.den,zbz hs.t hs.tl,z8t,obind]
 congr 1
 rw[y1o,<- z3r]
 simp
theorem ze2 (hs:SmL l) (hy:1<=l.F) (c:TCh):F_q3n l c=some (zk l.I l.E l.F c):=by
 simp only[F_q3n,S_q3n,Scr.den,zi,z9,z4v,zig hs,z7n hy,z5a,obind]
 unfold zk
 by_cases h1:c.C<1\/c.C>3
 ·rw[y6 h1,y6 (by simpa using h1)]
 ·rw[y5 h1,y5 (by simpa using h1)]
  by_cases hk:c.C=1 <;> cases ha:has l.I c.B <;> cases hl:leafT l.I c.B <;> cases hi:inY l.E l.F c.H <;> cases hm:amt c.D <;> by_cases k2:c.C=2 <;> by_cases k3:c.H=-1 <;> by_cases k4:c.D=-1 <;> simp[hk,k2,k3,k4,optD,AllP] <;> omega
variable {α:Type}
theorem z9k {β ρ:Type} [Inhabited α] (l:List α) (f:α->β) {body:Nat->List β->Option (Step (List β) ρ)} (s0:List β) (hs:∀ i s,i<l.length->s.length=s0.length+i->body i s=some (.cont (s++[f (l.getD i dF)]))):rangeM body l.length 0 s0=some (.next (s0++l.map f)):=by
 obtain⟨r,e,h⟩:=zr (body:=body) (n:=l.length) (fun i s=>s=s0++(l.take i).map f) (s0:=s0) sj (fun i s hi h=>by
  refine⟨_,hs i s hi (by rw[h]; simp; omega),?_⟩
  rw[h,y12 hi,z7 hi,y3f,y22]
  rfl)
 rw[e,h,y2e]
def keepB (x:TCh):Bool:=!(x.D==0&&x.C != 2)
def keptS (l:TLa):List TCh:=(allC l).filter keepB
theorem ze3 (x:TCh):F_q3o x=some (!keepB x):=by
 simp only[F_q3o,S_q3o,Scr.den,z9,keepB,Bool.not_not]
theorem zes (l:List α) (i n:Nat) (z:α):(clearL l (0+i) n z).take i=l.take i:=by
 apply y2f
 intro k
 simp only[List.getElem?_take,clearL,List.getElem?_mapIdx]
 split
 ·cases l[k]? with
  | none=>rfl
  | some x=>simp only[y1p]; rw[y5 om]
 ·rfl
theorem zgl {l:List TCh} (hl:l.length<4611686018427387904):F_q1c l=some (l.filter keepB):=by
 have hI:(F_q1b l=some (-1)/\∀ x∈l,keepB x=true)\/∃ i:Nat,i<l.length/\keepB (l.getD i dF)=false/\(∀ x∈l.take i,keepB x=true)/\F_q1b l=some (i:Int):=by
  simp only[F_q1b,S_q1b,Scr.den]
  rw[Ga]
  have:=z9a l (fun x=>!keepB x) (fun i=>(i:Int)) (body:=fun i s=>(S_q1b_b1 l i s).den) fun i hi=>by
   simp only[S_q1b_b1,Scr.den,ze3,obind,y17]
   rw[z3 ⟨hi,trivial⟩]
   split <;> rfl
  rcases this with ⟨h1,h2⟩ | ⟨i,h1,h2,h3,h4⟩
  ·left
   rw[h1]
   exact⟨rfl,fun x hx=>by simpa using h2 x hx⟩
  ·right
   refine⟨i,h1,by simpa using h2,fun x hx=>by simpa using h3 x hx,?_⟩
   rw[h4]
   rfl
 simp only[F_q1c,S_q1c,Scr.den]
 rcases hI with ⟨h1,h2⟩ | ⟨i0,h1,h2,h3,h4⟩
 ·rw[h1,obind,y6 (show ((-1:Int)==-1)=true from rfl),Ga,y3b.2 h2]
 ·rw[h4,obind,y5 sj]
  obtain⟨s,h5,h6⟩:=zt (step:=fun s=>(S_q1c_b1 s).den) (fun s=>l.length-s.2.2.toNat)
   (fun s=>s.1.length=l.length/\0<=s.2.1/\s.2.1<=s.2.2/\s.2.2<=l.length/\s.1.take s.2.1.toNat=(l.take s.2.2.toNat).filter keepB/\s.1.drop s.2.2.toNat=l.drop s.2.2.toNat)
   (fun s=>s.1.length=l.length/\0<=s.2.1/\s.2.1<=l.length/\s.1.take s.2.1.toNat=l.filter keepB) (fun s hs=>by
    obtain⟨sl,i,j⟩:=s
    obtain⟨a1,a2,a3,a4,a5,a6⟩:=hs
    simp only at a1 a2 a3 a4 a5 a6
    by_cases hj:j<(l.length:Int)
    ·left
     have hjn:j.toNat<sl.length:=om
     have hjl:j.toNat<l.length:=om
     have ex:sl.getD j.toNat dF=l.getD j.toNat dF:=by
      have:=y4v (fun t=>t[0]?) a6
      simp only[y3d,y3l] at this
      rw[List.getD_eq_getElem?_getD,List.getD_eq_getElem?_getD,this]
     have et:(l.take (j.toNat+1)).filter keepB=(l.take j.toNat).filter keepB++if keepB (l.getD j.toNat dF)=true then [l.getD j.toNat dF] else []:=by
      rw[y12 hjl,y3n,z7 hjl,y4z,List.filter_nil]
     have w1:i64.wrap (i+1)=i+1:=wrapId om om
     have w2:i64.wrap (j+1)=j+1:=wrapId om om
     have en:(j+1).toNat=j.toNat+1:=om
     have em:(i+1).toNat=i.toNat+1:=om
     have dj:sl.drop (j.toNat+1)=l.drop (j.toNat+1):=by
      have:=y4v (List.drop 1) a6
      simpa [List.drop_drop] using this
     simp only[S_q1c_b1,ze3,Scr.den,obind,y17,ex,w1,w2]
     rw[y6 sk,Gc]
     by_cases hv:keepB (l.getD j.toNat dF)=true
     ·rw[y6 (by rw[hv]; rfl),Gc]
      refine⟨_,rfl,⟨by simpa using a1,by simp only; omega,by simp only; omega,by simp only; omega,?_,?_⟩,by simp only; omega⟩
      ·simp only[en,em]
       rw[et,y6 hv,<- a5,List.take_add_one,List.take_set_of_le om,yq om]
       rfl
      ·simp only[en]
       rw[List.drop_set_of_lt om,dj]
     ·rw[y5 (by rw[y13.2 hv]; simp)]
      refine⟨_,rfl,⟨a1,a2,by simp only; omega,by simp only; omega,?_,?_⟩,by simp only; omega⟩
      ·simp only[en]
       rw[et,y5 hv,y2r,a5]
      ·simp only[en]
       exact dj
    ·right
     simp only[S_q1c_b1,Scr.den]
     rw[y5 sk]
     refine⟨_,rfl,a1,a2,by simp only; omega,?_⟩
     simp only
     rw[a5,y1v om]) _ (l,(i0:Int),i64.wrap ((i0:Int)+1)) (y1t _) (by
    have w2:i64.wrap ((i0:Int)+1)=i0+1:=wrapId om om
    have en:((i0:Int)+1).toNat=i0+1:=om
    simp only[w2,en,yf]
    refine⟨trivial,om,om,om,?_,trivial⟩
    rw[y12 h1,y3n,y3b.2 h3,<- z7 h1]
    simp[h2])
  obtain⟨b1,b2,b3,b4⟩:=h6
  rw[h5]
  simp only[outM]
  rw[z3 ⟨b2,om,trivial⟩,z3 ⟨by rw[z11]; omega,trivial⟩,z3 ⟨by rw[z11]; omega,trivial⟩,zes,b4]
variable {n:Nat}
theorem zfi (hn:n<=1000000) (h:WL n l):F_q4 l=some (keptS l):=by
 have h1:=h.ll; have h2:=h.cl; have h3:=h.fl
 simp only[F_q4,S_q4,Scr.den]
 rw[z9k l.N chL [] fun i s hi hs=>by
  simp only[y1c] at hs
  simp only[S_q4_b1,Scr.den]
  rw[Ga]
  rfl]
 simp only[outM,y20]
 rw[z9k l.K (chB 2) (l.N.map chL) fun i s hi hs=>by
  rw[y1i] at hs
  simp only[S_q4_b2,Scr.den]
  rw[Ga]
  rfl]
 simp only
 rw[z9k l.P (chB 3) (l.N.map chL++l.K.map (chB 2)) fun i s hi hs=>by
  rw[yd,y1i,y1i] at hs
  simp only[S_q4_b3,Scr.den]
  rw[Ga]
  rfl]
 simp only
 rw[zgl (by rw[yd,yd,y1i,y1i,y1i]; omega)]
 rfl
variable {cs:List TCh}
theorem zet (hf:FewL l) (h:WL n l) (hc:∀ x∈cs,good x.B=true) (hn:n+cs.length<=100000) :
  F_q25 l cs=some (if bigL (applyS cs l) then (zL,3) else (applyS cs l,0)):=by
 simp only[F_q25,S_q25,Scr.den,zad hf,obind]
 obtain⟨s,e,hs⟩:=zr (body:=fun i s=>(S_q25_b1 cs i s).den) (n:=cs.length) (fun i s=>s=applyS (cs.take i) l) (s0:=l) rfl (fun i s hi h1=>by
  refine⟨_,?_,rfl⟩
  have hw:WL (n+i) s:=by
   rw[h1]
   have:=z5q (cs:=cs.take i) (fun x hx=>hc x (y1k hx)) h
   rwa [y15,Nat.min_eq_left om] at this
  simp only[S_q25_b1,Scr.den]
  rw[zi6 om hw (hc _ (z4 hi)),obind,h1,y12 hi,zac,z7 hi]
  rfl)
 rw[e,hs]
 simp only[outM,y2e,zi]
 by_cases hb:bigL (applyS cs l)
 ·rw[y6 hb,y6 (by unfold bigL at hb; simp only[yl,y7]; omega)]
  rfl
 ·rw[y5 hb,y5 (by unfold bigL at hb; simp only[yl,y7]; omega)]
theorem zag (hs:SmL l) (he:errL l=0) (hc:∀ x∈cs,zk l.I l.E l.F x=0) (hn:cs.length<=1000):F_qx l cs=some (if bigL (applyS cs l) then (zL,3) else (applyS cs l,0)):=by
 obtain⟨hr,hw,hb⟩:=zw.1 he
 have hy:1<=l.F:=by have:=hr.yr; unfold yrB at this; omega
 simp only[F_qx,S_qx,Scr.den,z26 hs,he,obind]
 rw[y5 sj]
 rw[z13 fun i hi=>by
  simp only[S_qx_b1,Scr.den]
  rw[ze2 hs hy,hc _ (z4 hi),obind,y5 sj]]
 simp only[outM]
 rw[zet (zaf hs) (z4r hw hb) (fun x hx=>chgG hr.tr (hc x hx)) om,obind]
theorem zjv (hs:SmL l) (he:errL l=0) (hc:∀ x∈cs,zk l.I l.E l.F x=0) (hn:cs.length<=1000):F_q24 l cs=some (if bigL (applyS cs l) then (zL,3) else (applyS cs l,0)):=by
 obtain⟨hr,hw,hb⟩:=zw.1 he
 have hy:1<=l.F:=by have:=hr.yr; unfold yrB at this; omega
 simp only[F_q24,S_q24,Scr.den,z26 hs,he,obind]
 rw[y5 sj]
 rw[Ga]
 rw[z13 fun i hi=>by
  simp only[S_q24_b1,Scr.den,y17]
  rw[z3 ⟨hi,trivial⟩,ze2 hs hy,hc _ (z4 hi),obind,y5 sj]]
 simp only[outM]
 rw[zdt (zaf hs) (z4r hw hb) (fun x hx=>chgG hr.tr (hc x hx)) om,obind]
end Go.Proofs.YtgfgnhpecnmlpaaGreatDoor
/- Changes of a law that is made: the other printed forms; they are right. No condition. -/
namespace Go.Proofs.YtgfgnhpecnmlpaaGreatDoor
open Go Go.TA
open Go.IntKind (i64)
attribute [-simp] List.getD_eq_getElem?_getD
variable {l:TLa}
theorem z7s (hf:0<=l.E/\l.E<=95) (hy:1<=l.F/\l.F<=3):∃ r,F_q19 l=some r/\YrsOk l.E l.F r:=by
 simp only[F_q19,S_q19,Scr.den]
 obtain⟨r,e,h⟩:=z6w hf hy (F:=fun s=>(S_q19_b1 l s).den) (fun s h1 h2 h3=>by
  simp only[S_q19_b1,Scr.den]
  rw[wrapId (n:=l.E+l.F) om om,wrapId (n:=s.2+1) om om]
  by_cases h:s.2<l.E+l.F
  ·rw[y6 (by simpa using h),y6 h,Ga]
  ·rw[y5 (by simpa using h),y5 h])
 rw[e]
 have:=h.2.1
 simp only[outM]
 rw[Ga]
 exact⟨_,rfl,h⟩
variable {s:TTape}
theorem z6b (hf:0<=l.E/\l.E<=95) (hy:1<=l.F/\l.F<=3) (ht:MT l.I) (hs:TapeOk s):∃ cs s',F_qw l s=some (cs,s')/\TapeOk s'/\ChsOk l.E l.F l.I cs:=by
 have hge:=ht.ge; have hle:=ht.le
 simp only[F_qw,S_qw,Scr.den]
 obtain⟨st,e,o,h1,h2,h3,h4⟩:=zt (step:=fun s=>(S_qw_b1 l s).den) (fun s=>(4-s.2.2).toNat)
  (fun s=>TapeOk s.1/\(∀ c∈s.2.1,ChOk l.E l.F l.I c)/\(s.2.1.length:Int)<=s.2.2-1/\(2<=s.2.2->1<=s.2.1.length)/\(1<=s.2.2/\s.2.2<=4)/\s.2.1.Pairwise (fun a b=>a.C<b.C)/\∀ c∈s.2.1,c.C<s.2.2)
  (fun s=>TapeOk s.1/\(∀ c∈s.2.1,ChOk l.E l.F l.I c)/\s.2.1.length<=3/\1<=s.2.1.length/\s.2.1.Pairwise (fun a b=>a.C<b.C)) (fun s ⟨o,c,lq,g,k,p,q⟩=>by
   simp only[S_qw_b1,Scr.den]
   by_cases hk:¬ s.2.2<=3
   ·right
    rw[y5 (by simpa using hk)]
    exact⟨_,rfl,o,c,by simp only; omega,g om,p⟩
   ·left
    have hk:s.2.2<=3:=y3s.1 hk
    have w1:i64.wrap (s.2.2+1)=s.2.2+1:=wrapId om om
    obtain⟨v,s1,e1,o1,l1,u1⟩:=zh (n:=2) o om om
    rw[y6 (by simpa using hk),e1,obind,w1]
    simp only[z9]
    by_cases hv:v=0/\0<s.2.1.length
    ·rw[y6 (by simp only[y9,yy,y7]; omega)]
     exact⟨_,rfl,⟨o1,c,by simp only; omega,fun _=>hv.2,by simp only; omega,p,fun x hx=>by have:=q x hx; simp only; omega⟩,by simp only; omega⟩
    rw[y5 (by simp only[y9,yy,y7]; omega)]
    obtain⟨w,s2,e2,o2,l2,u2⟩:=zh (n:=(l.I.length:Int)) o1 om om
    obtain⟨r,e3,r1,r2,r3⟩:=z7s hf hy
    obtain⟨yv,s3,e4,o3,my⟩:=z19 (l:=r) o2 r1 om
    obtain⟨a,s4,e5,o4,a0,a1⟩:=z2j o3
    simp only[e2,e3,e4,e5,obind]
    rw[z3 ⟨l2,om,trivial⟩]
    have hw:w.toNat<l.I.length:=om
    have hgw:=ht.good _ (z4 hw)
    have hhw:has l.I (l.I.getD w.toNat dF).B=true:=y1r.2 ⟨_,z4 hw,sj⟩
    have hyv:=r3 yv my
    have fin:∀ (s5:TTape) (x:TCh),TapeOk s5->ChOk l.E l.F l.I x->x.C=s.2.2 ->
      ∃ s',guardP (AllP [(s.2.1.length+1) * (2 * 40)<=2 ^ 48]) (some (Step.cont (s5,s.2.1++[x],s.2.2+1)):Option (Step (TTape×List TCh×Int) R_qw))=some (.cont s') /\
       (TapeOk s'.1/\(∀ c∈s'.2.1,ChOk l.E l.F l.I c)/\(s'.2.1.length:Int)<=s'.2.2-1/\(2<=s'.2.2->1<=s'.2.1.length)/\(1<=s'.2.2/\s'.2.2<=4)/\s'.2.1.Pairwise (fun a b=>a.C<b.C)/\∀ c∈s'.2.1,c.C<s'.2.2)/\(4-s'.2.2).toNat<(4-s.2.2).toNat:=fun s5 x o5 hx hxk=>by
     rw[Ga]
     refine⟨_,rfl,⟨o5,fun z hz=>?_,by rw[yd,yp]; simp only; omega,fun _=>by rw[yd,yp]; omega,by simp only; omega,?_,fun z hz=>?_⟩,by simp only; omega⟩
     ·rcases yg.1 hz with hz | hz
      ·exact c z hz
      ·have:z=x:=by simpa using hz
       rw[this]; exact hx
     ·refine y29.2 ⟨p,y43 _ _,fun a ha b hb=>?_⟩
      have:b=x:=by simpa using hb
      rw[this,hxk]; exact q a ha
     ·rcases yg.1 hz with hz | hz
      ·have:=q z hz; simp only; omega
      ·have:z=x:=by simpa using hz
       rw[this,hxk]; simp only; omega
    by_cases k1:s.2.2=1
    ·rw[y6 (by simpa using k1)]
     obtain⟨lc,s5,e6,o5,gl,ml⟩:=z3j ht o4
     obtain⟨z,s6,e7,o6,l6,u6⟩:=zh (n:=l.F) o5 om om
     have w2:i64.wrap (l.E+z)=l.E+z:=wrapId om om
     simp only[e6,e7,obind,outM,w2]
     exact fin s6 _ o6 ⟨gl,.inl k1,fun _=>⟨ml,⟨by simp only; omega,by simp only; omega⟩,a0,a1⟩,fun h=>absurd k1 h⟩ rfl
    ·rw[y5 (by simpa using k1)]
     by_cases k2:s.2.2=2
     ·obtain⟨z,s5,e6,o5,l6,u6⟩:=zh (n:=3) o4 om om
      rw[zg (by simp[AllP,k2]),e6,obind]
      by_cases hz:z=0
      ·rw[y6 (by simp[k2,hz])]
       simp only[outM]
       exact fin s5 _ o5 ⟨hgw,.inr (.inl k2),fun h=>absurd h k1,fun _=>⟨hhw,hyv,.inr ⟨k2,rfl⟩⟩⟩ rfl
      ·rw[y5 (by simp[k2,hz]),y5 (by simp[k2])]
       simp only[outM]
       exact fin s5 _ o5 ⟨hgw,.inr (.inl k2),fun h=>absurd h k1,fun _=>⟨hhw,hyv,.inl ⟨a0,a1⟩⟩⟩ rfl
     ·have k3:s.2.2=3:=om
      rw[zo (by simp[AllP,k2]),obind]
      obtain⟨z,s5,e6,o5,l6,u6⟩:=zh (n:=200) o4 om om
      rw[y5 (by simp[k2]),y6 (by simp[k3])]
      simp only[e6,obind,outM]
      exact fin s5 _ o5 ⟨hgw,.inr (.inr k3),fun h=>absurd h k1,fun _=>⟨hhw,hyv,.inl ⟨l6,by simp only; omega⟩⟩⟩ rfl) _ (s,[],1) (y1t _)
  ⟨hs,sj,sj,sj,sj,y3g,sj⟩
 rw[e]
 simp only[outM]
 rw[Ga]
 exact⟨_,_,rfl,o,h1,h2,h3,h4⟩
theorem zah (hf:0<=l.E/\l.E<=95) (hy:1<=l.F/\l.F<=3) (ht:MT l.I) (hs:TapeOk s):∃ cs s',F_q1a l s=some (s',cs)/\TapeOk s'/\ChsOk l.E l.F l.I cs:=by
 have hge:=ht.ge; have hle:=ht.le
 simp only[F_q1a,S_q1a,Scr.den]
 obtain⟨st,e,o,h1,h2,h3,h4⟩:=zt (step:=fun s=>(S_q1a_b1 l s).den) (fun s=>(4-s.2.2).toNat)
  (fun s=>TapeOk s.1/\(∀ c∈s.2.1,ChOk l.E l.F l.I c)/\(s.2.1.length:Int)<=s.2.2-1/\(2<=s.2.2->1<=s.2.1.length)/\(1<=s.2.2/\s.2.2<=4)/\s.2.1.Pairwise (fun a b=>a.C<b.C)/\∀ c∈s.2.1,c.C<s.2.2)
  (fun s=>TapeOk s.1/\(∀ c∈s.2.1,ChOk l.E l.F l.I c)/\s.2.1.length<=3/\1<=s.2.1.length/\s.2.1.Pairwise (fun a b=>a.C<b.C)) (fun s ⟨o,c,lq,g,k,p,q⟩=>by
   simp only[S_q1a_b1,Scr.den]
   by_cases hk:¬ s.2.2<=3
   ·right
    rw[y5 (by simpa using hk)]
    exact⟨_,rfl,o,c,by simp only; omega,g om,p⟩
   ·left
    have hk:s.2.2<=3:=y3s.1 hk
    have w1:i64.wrap (s.2.2+1)=s.2.2+1:=wrapId om om
    obtain⟨v,s1,e1,o1,l1,u1⟩:=zh (n:=2) o om om
    rw[y6 (by simpa using hk),e1,obind,w1]
    simp only[z9]
    by_cases hv:v=0/\0<s.2.1.length
    ·rw[y6 (by simp only[y9,yy,y7]; omega)]
     exact⟨_,rfl,⟨o1,c,by simp only; omega,fun _=>hv.2,by simp only; omega,p,fun x hx=>by have:=q x hx; simp only; omega⟩,by simp only; omega⟩
    rw[y5 (by simp only[y9,yy,y7]; omega)]
    obtain⟨w,s2,e2,o2,l2,u2⟩:=zh (n:=(l.I.length:Int)) o1 om om
    obtain⟨r,e3,r1,r2,r3⟩:=z7s hf hy
    obtain⟨yv,s3,e4,o3,my⟩:=z19 (l:=r) o2 r1 om
    obtain⟨a,s4,e5,o4,a0,a1⟩:=z2j o3
    simp only[e2,e3,e4,e5,obind]
    rw[z3 ⟨l2,om,trivial⟩]
    have hw:w.toNat<l.I.length:=om
    have hgw:=ht.good _ (z4 hw)
    have hhw:has l.I (l.I.getD w.toNat dF).B=true:=y1r.2 ⟨_,z4 hw,sj⟩
    have hyv:=r3 yv my
    have fin:∀ (s5:TTape) (x:TCh),TapeOk s5->ChOk l.E l.F l.I x->x.C=s.2.2 ->
      ∃ s',guardP (AllP [(s.2.1.length+1) * (2 * 40)<=2 ^ 48]) (some (Step.cont (s5,s.2.1++[x],s.2.2+1)):Option (Step (TTape×List TCh×Int) R_q1a))=some (.cont s') /\
       (TapeOk s'.1/\(∀ c∈s'.2.1,ChOk l.E l.F l.I c)/\(s'.2.1.length:Int)<=s'.2.2-1/\(2<=s'.2.2->1<=s'.2.1.length)/\(1<=s'.2.2/\s'.2.2<=4)/\s'.2.1.Pairwise (fun a b=>a.C<b.C)/\∀ c∈s'.2.1,c.C<s'.2.2)/\(4-s'.2.2).toNat<(4-s.2.2).toNat:=fun s5 x o5 hx hxk=>by
     rw[Ga]
     refine⟨_,rfl,⟨o5,fun z hz=>?_,by rw[yd,yp]; simp only; omega,fun _=>by rw[yd,yp]; omega,by simp only; omega,?_,fun z hz=>?_⟩,by simp only; omega⟩
     ·rcases yg.1 hz with hz | hz
      ·exact c z hz
      ·have:z=x:=by simpa using hz
       rw[this]; exact hx
     ·refine y29.2 ⟨p,y43 _ _,fun a ha b hb=>?_⟩
      have:b=x:=by simpa using hb
      rw[this,hxk]; exact q a ha
     ·rcases yg.1 hz with hz | hz
      ·have:=q z hz; simp only; omega
      ·have:z=x:=by simpa using hz
       rw[this,hxk]; simp only; omega
    by_cases k1:s.2.2=1
    ·rw[y6 (by simpa using k1)]
     obtain⟨lc,s5,e6,o5,gl,ml⟩:=z3j ht o4
     obtain⟨z,s6,e7,o6,l6,u6⟩:=zh (n:=l.F) o5 om om
     have w2:i64.wrap (l.E+z)=l.E+z:=wrapId om om
     simp only[e6,e7,obind,outM,w2]
     exact fin s6 _ o6 ⟨gl,.inl k1,fun _=>⟨ml,⟨by simp only; omega,by simp only; omega⟩,a0,a1⟩,fun h=>absurd k1 h⟩ rfl
    ·rw[y5 (by simpa using k1)]
     by_cases k2:s.2.2=2
     ·obtain⟨z,s5,e6,o5,l6,u6⟩:=zh (n:=3) o4 om om
      rw[zg (by simp[AllP,k2]),e6,obind]
      by_cases hz:z=0
      ·rw[y6 (by simp[k2,hz])]
       simp only[outM]
       exact fin s5 _ o5 ⟨hgw,.inr (.inl k2),fun h=>absurd h k1,fun _=>⟨hhw,hyv,.inr ⟨k2,rfl⟩⟩⟩ rfl
      ·rw[y5 (by simp[k2,hz]),y5 (by simp[k2])]
       simp only[outM]
       exact fin s5 _ o5 ⟨hgw,.inr (.inl k2),fun h=>absurd h k1,fun _=>⟨hhw,hyv,.inl ⟨a0,a1⟩⟩⟩ rfl
     ·have k3:s.2.2=3:=om
      rw[zo (by simp[AllP,k2]),obind]
      obtain⟨z,s5,e6,o5,l6,u6⟩:=zh (n:=200) o4 om om
      rw[y5 (by simp[k2]),y6 (by simp[k3])]
      simp only[e6,obind,outM]
      exact fin s5 _ o5 ⟨hgw,.inr (.inr k3),fun h=>absurd h k1,fun _=>⟨hhw,hyv,.inl ⟨l6,by simp only; omega⟩⟩⟩ rfl) _ (s,[],1) (y1t _)
  ⟨hs,sj,sj,sj,sj,y3g,sj⟩
 rw[e]
 simp only[outM]
 exact⟨_,_,rfl,o,h1,h2,h3,h4⟩
end Go.Proofs.YtgfgnhpecnmlpaaGreatDoor
/- Trees that are made of few codes: their leaves. No condition. -/
namespace Go.Proofs.YtgfgnhpecnmlpaaGreatDoor
open Go Go.TA
open Go.IntKind (i64)
attribute [-simp] List.getD_eq_getElem?_getD
structure T6 (t:List THe):Prop where
 mt:MT t
 cl:CL (t.map (·.B))
 le:t.length<=11
 h1:([49]:Y8)∈t.map (·.B)
 h9:([57]:Y8)∈t.map (·.B)
variable {s:TTape}
theorem zai (hs:TapeOk s):∃ t s',F_q5 6 s=some (t,s')/\TapeOk s'/\T6 t:=by
 have w7:i64.wrap (6+1)=7:=by rw[wrapId om om]; rfl
 obtain⟨v0,s1,e1,o1,l1,u1⟩:=zh (n:=7) hs om om
 simp only[F_q5,S_q5,Scr.den,w7,e1,obind]
 -- the first loop
 obtain⟨st,e2,⟨o2,c2,g2,h2,q49⟩⟩:=zt (step:=fun s=>(S_q5_b1 s).den) (fun s=>s.2.2.toNat)
  (fun s=>TapeOk s.1/\CL s.2.1/\1<=s.2.1.length/\(s.2.1.length:Int)+max s.2.2 0<=8/\s.2.2<=6/\([49]:Y8)∈s.2.1) (fun s=>TapeOk s.1/\CL s.2.1/\1<=s.2.1.length/\s.2.1.length<=8/\([49]:Y8)∈s.2.1) (fun s ⟨o,c,g,h,h6,k49⟩=>by
   simp only[S_q5_b1,Scr.den]
   by_cases hp:s.2.2>0
   ·left
    obtain⟨v,s',e,o',a1,a2⟩:=zh (n:=(s.2.1.length:Int)) o om om
    have hv:v.toNat<s.2.1.length:=om
    have hg:=c.gd _ (z4 hv)
    have hm:=z4 hv
    have w1:i64.wrap (s.2.2-1)=s.2.2-1:=wrapId om om
    rw[y6 (by simpa using hp)]
    simp only[e,obind,z58 hg,w1]
    rw[z3 ⟨a1,hv,trivial⟩]
    by_cases h3:(parts (s.2.1.getD v.toNat dF)).length>=3
    ·rw[y6 (by simp only[y7]; omega)]
     exact⟨_,rfl,⟨o',c,g,by simp only; omega,by simp only; omega,k49⟩,by simp only; omega⟩
    ·rw[y5 (by simp only[y7]; omega)]
     obtain⟨n,s'',e',o'',hn⟩:=z19 (l:=[1,2,3,10]) o' sj sj
     obtain⟨k1,k2,k3⟩:=zjs hg om hn
     simp only[e',obind,k1]
     rw[Gb,zb7 c om k2,obind]
     have hl:=z7q s.2.1 (s.2.1.getD v.toNat dF++46 :: Lib.decDigits n.toNat)
     exact⟨_,rfl,⟨o'',z9f c k2 (by rw[k3]; exact .inr hm),by simp only; omega,by simp only; omega,by simp only; omega,z4e.2 (.inr k49)⟩,by simp only; omega⟩
   ·right
    rw[y5 (by simpa using hp)]
    exact⟨_,rfl,o,c,g,by simp only; omega,k49⟩) _ (s1,[[49],[50]],v0) (y1t _)
  ⟨o1,CL0,sj,by simp only[y11,y1c]; omega,by simp only; omega,sj⟩
 rw[e2]
 simp only[outM]
 obtain⟨v3,s3,e3,o3,l3,u3⟩:=zh (n:=3) o2 om om
 have hg9:good [57]=true:=dk
 rw[zb7 c2 om hg9,obind,e3,obind]
 have c3:CL (withS st.2.1 [57]):=z9f c2 hg9 (by left; decide)
 have hl9:=z7q st.2.1 [57]
 have m9:([57]:Y8)∈withS st.2.1 [57]:=z4e.2 (.inl rfl)
 obtain⟨sv,e4,⟨o4,c4,g4,h4,f9,f1⟩⟩:=zt (step:=fun s=>(S_q5_b2 s).den) (fun s=>s.2.2.toNat)
  (fun s=>TapeOk s.1/\CL s.2.1/\1<=s.2.1.length/\(s.2.1.length:Int)+max s.2.2 0<=11/\s.2.2<=3/\([57]:Y8)∈s.2.1/\([49]:Y8)∈s.2.1) (fun s=>TapeOk s.1/\CL s.2.1/\1<=s.2.1.length/\s.2.1.length<=11/\([57]:Y8)∈s.2.1/\([49]:Y8)∈s.2.1) (fun s ⟨o,c,g,h,h6,h9,k49⟩=>by
   simp only[S_q5_b2,Scr.den]
   by_cases hp:s.2.2>0
   ·left
    obtain⟨v,s',e,o',a1,a2⟩:=zh (n:=2) o om om
    have w1:i64.wrap (s.2.2-1)=s.2.2-1:=wrapId om om
    rw[y6 (by simpa using hp)]
    simp only[e,obind,w1]
    have hv:v.toNat<([[57,46,49],[57,46,50]]:List Y8).length:=by simp only[y11,y1c]; omega
    have hx:∀ x∈([[57,46,49],[57,46,50]]:List Y8),good x=true/\par x=[57]:=dk
    obtain⟨k1,k2⟩:=hx _ (z4 hv)
    rw[zb7 c om k1,obind,z3 ⟨a1,om,trivial⟩]
    have hl:=z7q s.2.1 (([[57,46,49],[57,46,50]]:List Y8).getD v.toNat dF)
    exact⟨_,rfl,⟨o',z9f c k1 (by rw[k2]; exact .inr h9),by simp only; omega,by simp only; omega,by simp only; omega,z4e.2 (.inr h9),z4e.2 (.inr k49)⟩,by simp only; omega⟩
   ·right
    rw[y5 (by simpa using hp)]
    exact⟨_,rfl,o,c,g,by simp only; omega,h9,k49⟩) _ (s3,withS st.2.1 [57],v3) (y1t _)
  ⟨o3,c3,by simp only; omega,by simp only; omega,by simp only; omega,m9,z4e.2 (.inr q49)⟩
 rw[e4]
 simp only
 obtain⟨sw,e5,⟨o5,h5,h6⟩⟩:=zr (body:=fun i s=>(S_q5_b3 sv i s).den) (n:=sv.2.1.length) (fun i s=>TapeOk s.1/\s.2.map (·.B)=sv.2.1.take i/\∀ h∈s.2,nameOk h.V=true) (s0:=(sv.1,[])) ⟨o4,rfl,sj⟩ (fun i s hi ⟨o,h,hn⟩=>by
  obtain⟨v,s',e,o',a1,a2⟩:=zh (n:=5) o om om
  have hlen:s.2.length<=11:=by
   have:=y4v List.length h
   rw[y1i,y15] at this
   omega
  simp only[S_q5_b3,Scr.den,e,obind]
  rw[z3 ⟨a1,om,om,trivial⟩]
  refine⟨_,rfl,o',?_,fun x hx=>?_⟩
  ·rw[y3f,h,y12 hi,z7 hi]; rfl
  ·rcases yg.1 hx with hx | hx
   ·exact hn x hx
   ·have hx':x=⟨sv.2.1.getD i dF,([[115,99,104,111,111,108,115],[114,111,97,100,115],[99,111,117,114,116,32,111,102,32,97,117,100,105,116],[97],[116,97,120]]:List Y8).getD v.toNat dF⟩:=by simpa using hx
    rw[hx']
    have hall:∀ x∈([[115,99,104,111,111,108,115],[114,111,97,100,115],[99,111,117,114,116,32,111,102,32,97,117,100,105,116],[97],[116,97,120]]:List Y8),nameOk x=true:=dk
    exact hall _ (z4 (by simp only[y11,y1c]; omega)))
 rw[e5]
 simp only
 have h5':sw.2.map (·.B)=sv.2.1:=by rw[h5,y2e]
 have hlen:sw.2.length=sv.2.1.length:=by have:=y4v List.length h5'; rwa [y1i] at this
 rw[Ga]
 refine⟨_,_,rfl,o5,⟨⟨?_,om,om⟩,by rw[h5']; exact c4,om,by rw[h5']; exact f1,by rw[h5']; exact f9⟩⟩
 unfold treeE
 rw[y5 om,z1m]
 intro i hi
 have hcode:∀ j,j<sw.2.length->(sw.2.getD j dF).B=sv.2.1.getD j dF:=fun j hj=>by
  rw[<- h5',z7 hj,z7 (by rw[y1i]; exact hj),y4y]
 have hg:good (sw.2.getD i dF).B=true:=by rw[hcode i hi]; exact c4.gd _ (z4 om)
 unfold headE
 rw[y5 (by simp[hg]),y5 (by simp[h6 _ (z4 hi)]),y5,y5]
 ·rintro⟨q1,q2⟩
  rw[hcode i hi] at q1 q2
  rcases c4.pa _ (z4 (show i<sv.2.1.length from om)) with h | h
  ·exact q1 h
  ·rw[<- h5'] at h
   obtain⟨y,hy,e⟩:=yw.1 h
   have:has sw.2 (par (sv.2.1.getD i dF))=true:=by
    unfold has
    rw[<- h5']
    exact y1r.2 ⟨y,hy,by simpa using e⟩
   rw[this] at q2; cases q2
 ·rintro⟨q1,q2⟩
  rw[hcode i hi,hcode (i-1) om] at q2
  have:=y1f.1 c4.pw (i-1) i om om om
  rw[z7 (show i<sv.2.1.length from om),z7 (show i-1<sv.2.1.length from om)] at q2
  exact q2 (y2t this)
theorem zfj (c:Y8):∀ k,0<ldot c k->ldot c k<k/\(c.getD (ldot c k) 0).toNat=46
 | 0,h=>by simp[ldot] at h
 | k+1,h=>by
  unfold ldot at h |-
  split
  ·rename_i e; exact⟨y1t _,e⟩
  ·rename_i e
   rw[y5 e] at h
   obtain⟨a,b⟩:=zfj c k h
   exact⟨om,b⟩
variable {top:Y8}
theorem zfk {x:Y8} (hx:good x=true) (hp:par x≠[]) (h:und (par x) top=true):und x top=true/\(par x).length<x.length:=by
 unfold par at hp h |-
 rw[y6 hx] at hp h |-
 obtain⟨k,hk⟩:∃ k,k=ldot x x.length:=⟨_,rfl⟩
 rw[<- hk] at hp h |-
 have hk0:0<k:=by
  rcases y3k k with e | e
  ·rw[e] at hp; simp at hp
  ·exact e
 obtain⟨h1,h2⟩:=zfj x x.length om
 rw[<- hk] at h1 h2
 have hl:(x.take k).length=k:=by rw[y15]; omega
 refine⟨?_,by rw[hl]; exact h1⟩
 unfold und at h |-
 simp only[y9,yl,y7,yy] at h |-
 obtain⟨⟨⟨⟨g1,g2⟩,g3⟩,g4⟩,g5⟩:=h
 rw[hl] at g3 g5
 rw[List.take_take,Nat.min_eq_left om] at g4
 refine⟨⟨⟨⟨hx,g2⟩,om⟩,g4⟩,?_⟩
 rcases g5 with g5 | g5
 ·right; rw[<- g5]; exact h2
 ·by_cases e:top.length=k
  ·right; rw[e]; exact h2
  ·right
   have:(x.take k).getD top.length 0=x.getD top.length 0:=by
    simp only[List.getD_eq_getElem?_getD]
    rw[y1h om]
   rw[this] at g5; exact g5
variable {t:List THe}
theorem zlb (ht:∀ x∈t,good x.B=true) (top:Y8):∀ (n:Nat) (c:Y8),c∈t.map (·.B)->und c top=true->60-c.length<=n->leavesU t top≠[]:=by
 intro n
 induction n with
 | zero =>
  intro c hc hu hn
  obtain⟨x,hx,e⟩:=yw.1 hc
  have hg:=ht x hx
  have h60:=z2o hg
  by_cases hl:t.all (fun y=>!(par y.B==c))=true
  ·exact fun h0=>by
    have:c∈leavesU t top:=by
     unfold leavesU
     rw[yw]
     exact⟨x,y19.2 ⟨hx,by rw[e] at hg |-; simp only[hg,hu,hl,Bool.or_true,y4g]⟩,e⟩
    rw[h0] at this; cases this
  ·rw[y4c,List.all_eq_false] at hl
   obtain⟨y,hy,hl⟩:=hl
   have hpy:par y.B=c:=by simpa using hl
   have hgy:=ht y hy
   have hne:par y.B≠[]:=by rw[hpy]; intro h0; rw[h0] at hu; simp[und,good,goodR] at hu
   have:=(zfk hgy hne (by rw[hpy]; exact hu)).2
   rw[hpy] at this
   have:=z2o hgy
   omega
 | succ n ih =>
  intro c hc hu hn
  obtain⟨x,hx,e⟩:=yw.1 hc
  have hg:=ht x hx
  by_cases hl:t.all (fun y=>!(par y.B==c))=true
  ·exact fun h0=>by
    have:c∈leavesU t top:=by
     unfold leavesU
     rw[yw]
     exact⟨x,y19.2 ⟨hx,by rw[e] at hg |-; simp only[hg,hu,hl,Bool.or_true,y4g]⟩,e⟩
    rw[h0] at this; cases this
  ·rw[y4c,List.all_eq_false] at hl
   obtain⟨y,hy,hl⟩:=hl
   have hpy:par y.B=c:=by simpa using hl
   have hgy:=ht y hy
   have hne:par y.B≠[]:=by rw[hpy]; intro h0; rw[h0] at hu; simp[und,good,goodR] at hu
   obtain⟨k1,k2⟩:=zfk hgy hne (by rw[hpy]; exact hu)
   rw[hpy] at k2
   exact ih y.B (yw.2 ⟨y,hy,rfl⟩) k1 om
variable {c:Y8}
theorem zjw (h:c∈leavesU t top):c∈leavesU t []:=by
 unfold leavesU at h |-
 obtain⟨x,hx,e⟩:=yw.1 h
 obtain⟨hx,hp⟩:=y19.1 hx
 simp only[y9] at hp
 exact yw.2 ⟨x,y19.2 ⟨hx,by simp only[hp.1.1,hp.2]; rfl⟩,e⟩
theorem T6.leafs {t:List THe} (h:T6 t):leafs t≠[]:=by
 unfold Go.Proofs.YtgfgnhpecnmlpaaGreatDoor.leafs
 have:=zlb h.mt.good [49] 60 [49] h.h1 dk om
 intro h0
 exact this (List.append_eq_nil_iff.1 h0).1
theorem T6.leaf1 (h:c∈Go.Proofs.YtgfgnhpecnmlpaaGreatDoor.leafs t):leafT t c=true:=by
 unfold Go.Proofs.YtgfgnhpecnmlpaaGreatDoor.leafs at h
 rcases yg.1 h with h | h <;> exact z3r.1 (zjw h)
theorem zih (hs:TapeOk s):∃ l s',F_q2 s=some (l,s')/\TapeOk s'/\ML l/\T6 l.I:=by
 obtain⟨f,s1,e1,o1,hf⟩:=z19 (l:=[0,3,12,95]) hs sj sj
 obtain⟨y,s2,e2,o2,y1,y2⟩:=za4 (lo:=1) (hi:=3) o1 om om om
 obtain⟨t,s3,e3,o3,h6⟩:=zai o2
 have ht:=h6.mt
 have hf':0<=f/\f<=95:=by simp at hf; omega
 have hy:1<=y/\y<=3:=⟨y1,y2⟩
 have hle:=ht.le
 have hll:=z20 t []
 simp only[F_q2,S_q2,Scr.den,e1,e2,e3,obind,z1u ht.sm (show t.length<=1000000 from om) (show ([]:Y8).length<=1000000 from sj)]
 obtain⟨s4,ls,e4,o4,l1,l2⟩:=zm7 hf' hy (t:=t) (leavesU t []) z2r om o3
 rw[e4]
 simp only[outM]
 obtain⟨s5,fl,ce,e5,o5,g1,g2,g3,g4⟩:=zm8 hf' hy ht s4 ls o4
 rw[e5]
 try simp only
 obtain⟨s6,ea,co,ru,e6,o6,a1,a2,a3,a4,a5,a6⟩:=zc5 hy ht ls ce fl om om om o5
 rw[e6,obind]
 obtain⟨v,s7,e7,o7,_,u7⟩:=zh (n:=4) o6 om om
 simp only[e7,obind]
 obtain⟨s8,am,n8,d8,i8,e8,o8,b1,b2⟩:=zmv hf' hy ht s4 s5 ls fl ce ea co ru (i:=v) om o7 (i64.wrap (360 * f))
 rw[e8]
 try simp only
 have hsm:SmL ⟨f,y,t,ls,ce,fl,ea,co,ru,am⟩:=by
  refine⟨ht.sm,by simp only; omega,fun x hx=>lenC (l2 x hx),by simp only; omega,fun x hx=>lenC (g4 x hx),by simp only; omega,fun x hx=>lenC (g2 x hx),by simp only; omega,fun x hx=>?_,by simp only; omega,fun x hx=>?_,by simp only; omega,by simp only; omega,fun x hx=>⟨?_,fun c hc=>lenC ((b2 x hx).2 c hc)⟩,by simp only; omega⟩
  ·have:=a2 x hx; omega
  ·have:=a4 x hx; omega
  ·have:=(b2 x hx).1; omega
 rw[za7 hsm,obind]
 by_cases he:errL ⟨f,y,t,ls,ce,fl,ea,co,ru,am⟩=0
 ·rw[y5 (by simpa using he),Ga,Ga,Ga,Ga]
  exact⟨_,_,rfl,o8,⟨hf',hy,ht,he,hsm,l1,g3,g1,b1,fun x hx=>(b2 x hx).1⟩,h6⟩
 ·rw[y6 (by simpa using he)]
  exact⟨_,_,rfl,o8,zff hf' hy ht,h6⟩
end Go.Proofs.YtgfgnhpecnmlpaaGreatDoor
/- What Difference returns. No condition. -/
namespace Go.Proofs.YtgfgnhpecnmlpaaGreatDoor
open Go Go.TA
open Go.IntKind (i64)
attribute [-simp] List.getD_eq_getElem?_getD
instance:DecidableEq TCh:=fun a b=>decidable_of_iff (a.C=b.C/\a.B=b.B/\a.H=b.H/\a.D=b.D) (by
 obtain⟨a1,a2,a3,a4⟩:=a
 obtain⟨b1,b2,b3,b4⟩:=b
 rw[TCh.mk.injEq])
variable {n:Int}
theorem zaj (h:0<=n) (h':n<18446744073709551616):IntKind.u64.wrap n=n:=by
 show (n % 18446744073709551616:Int)=n
 exact Int.emod_eq_of_lt h h'
variable {f y:Int}
theorem zii {x:Int} (hf:0<=f/\f<=95) (hy:1<=y/\y<=3) (h:f<=x/\x<f+y):inY f y x=true:=by
 unfold inY
 rw[zaj (n:=x) om om,zaj (n:=f) om om,zaj (n:=x-f) om om,zaj (n:=y) om om,yx (show x>=f from om),yx (show x-f<y from om)]
 rfl
theorem zij (h:0<=n/\n<=1000000000000):amt n=true:=by unfold amt; rw[yx h.1,yx h.2]; rfl
variable {l:TLa} {c:TCh}
theorem ChOk.chg (h:ML l) (h6:T6 l.I) (hc:ChOk l.E l.F l.I c):zk l.I l.E l.F c=0:=by
 have hk:=hc.k
 unfold zk
 rw[y5 om]
 by_cases k1:c.C=1
 ·obtain⟨m,y,a0,a1⟩:=hc.k1 k1
  have hl:=T6.leaf1 (m h6.leafs)
  have hh:has l.I c.B=true:=by
   unfold leafT at hl
   simp only[y9] at hl
   exact hl.1.2
  rw[y5 (by rw[hl,hh]; simp),zii h.fi h.ye y,y5 sj,zij ⟨a0,a1⟩,y5 sj]
 ·obtain⟨hh,y,a⟩:=hc.k2 k1
  rw[y5 (by rw[hh]; simp[k1])]
  rw[y5 (by
   rcases y with y | y
   ·simp[k1,y]
   ·rw[zii h.fi h.ye y]; simp)]
  rw[y5 (by
   rcases a with a | a
   ·rw[zij a]; simp
   ·simp[a.1,a.2])]
variable {x:TCh}
theorem zfl {t:List THe} (hx:zk t f y x=0) (e:keyC c=keyC x) (ha:amt c.D=true\/c.D=nnC c.C):zk t f y c=0:=by
 unfold keyC at e
 simp only[y1q] at e
 obtain⟨e1,e2,e3⟩:=e
 unfold zk at hx |-
 rw[e1,e2,e3]
 rw[e1] at ha
 by_cases h1:x.C<1\/x.C>3
 ·rw[y6 h1] at hx; cases hx
 ·rw[y5 h1] at hx |-
  by_cases h2:has t x.B=false\/(x.C=1/\leafT t x.B=false)
  ·rw[y6 h2] at hx; cases hx
  ·rw[y5 h2] at hx |-
   by_cases h3:inY f y x.H=false/\(x.C=1\/x.H≠-1)
   ·rw[y6 h3] at hx; cases hx
   ·rw[y5 h3]
    refine y5 ?_
    rintro⟨h4,h5⟩
    rcases ha with ha | ha
    ·rw[ha] at h4; cases h4
    ·unfold nnC at ha
     by_cases k:x.C=2
     ·rw[y6 k] at ha; exact (h5.resolve_left fun h=>h k) ha
     ·rw[y5 k] at ha
      rw[ha] at h4
      exact absurd h4 dk
theorem z4f (he:errL l=0) (hx:x∈allC l):zk l.I l.E l.F x=0/\amt x.D=true/\good x.B=true:=by
 obtain⟨hr,hw,_⟩:=zw.1 he
 have key:zk l.I l.E l.F x=0/\amt x.D=true:=by
  rcases z8c.1 hx with ⟨k,m⟩ | ⟨k,m⟩ | ⟨k,m⟩
  ·have h:=hw.l1 _ m
   unfold z2e at h
   unfold zk
   simp only at h
   split at h
   ·cases h
   split at h
   ·cases h
   split at h
   ·cases h
   rename_i h1 h2 h3
   have h1':leafT l.I x.B=true:=by simpa using h1
   have hh:has l.I x.B=true:=by
    have:=h1'
    unfold leafT at this
    simp only[y9] at this
    exact this.1.2
   have h2':inY l.E l.F x.H=true:=by simpa using h2
   have h3':amt x.D=true:=by simpa using h3
   rw[h1',hh,h2',h3']
   simp[k]
  ·have h:=hw.c1 _ m
   unfold z1a at h
   unfold zk
   simp only at h
   split at h
   ·cases h
   split at h
   ·cases h
   split at h
   ·cases h
   rename_i h1 h2 h3
   have hh:has l.I x.B=true:=by simpa using h1
   have h3':amt x.D=true:=by simpa using h3
   rw[hh,h3']
   rw[not_and] at h2
   by_cases e:x.H=-1
   ·simp[k,e]
   ·have:=h2 e
    have h2':inY l.E l.F x.H=true:=by simpa using this
    rw[h2']
    simp[k]
  ·have h:=hw.f1 _ m
   unfold z1a at h
   unfold zk
   simp only at h
   split at h
   ·cases h
   split at h
   ·cases h
   split at h
   ·cases h
   rename_i h1 h2 h3
   have hh:has l.I x.B=true:=by simpa using h1
   have h3':amt x.D=true:=by simpa using h3
   rw[hh,h3']
   rw[not_and] at h2
   by_cases e:x.H=-1
   ·simp[k,e]
   ·have:=h2 e
    have h2':inY l.E l.F x.H=true:=by simpa using this
    rw[h2']
    simp[k]
 exact⟨key.1,key.2,chgG hr.tr key.1⟩
theorem zm9 {k:Int} (h:amt n=true) (hk:k=2):n≠nnC k:=fun e=>by
 rw[e,hk] at h
 exact absurd h dk
theorem zjx (he:errL l=0):x∈keptS l↔x∈allC l/\x.D≠nnC x.C:=by
 unfold keptS
 rw[y19]
 refine⟨fun⟨h,k⟩=>⟨h,fun e=>?_⟩,fun⟨h,k⟩=>⟨h,?_⟩⟩
 ·by_cases k2:x.C=2
  ·exact zm9 (z4f he h).2.1 k2 e
  ·unfold nnC at e
   rw[y5 k2] at e
   unfold keepB at k
   simp[e,k2] at k
 ·unfold keepB
  unfold nnC at k
  by_cases k2:x.C=2
  ·simp[k2]
  ·rw[y5 k2] at k
   simp[k]
theorem z2s (he:errL l=0):x∈keptS l↔valC l (keyC x)=x.D/\x.D≠nnC x.C:=by
 obtain⟨hr,hw,hb⟩:=zw.1 he
 rw[zjx he]
 refine⟨fun⟨h,k⟩=>⟨z68 (z4r hw hb) h,k⟩,fun⟨h,k⟩=>⟨?_,k⟩⟩
 obtain⟨y,hy,e,e2⟩:=z5c (l:=l) (q:=keyC x) (by rw[h]; exact k)
 rw[h] at e2
 have:y=x:=by
  obtain⟨a,b,c,d⟩:=y
  obtain⟨a',b',c',d'⟩:=x
  unfold keyC at e
  simp only[y1q] at e e2
  obtain⟨rfl,rfl,rfl⟩:=e
  subst e2
  rfl
 rw[<- this]; exact hy
variable {α:Type}
theorem z9l [Inhabited α] {pl:α->TPl} {l:List α} (h:OrdG pl l) (f:α->TCh) (hf:∀ a b,keyC (f a)=keyC (f b)->pl a=pl b):(l.map f).Pairwise fun a b=>keyC a≠keyC b:=by
 rw[y5s]
 have:=h.pw
 unfold PW at this
 rw[y5s] at this
 refine List.Pairwise.imp_of_mem (fun {a b} ha hb hab e=>?_) this
 have hg:=h.good _ ha
 have:=(z4w hg (h.good _ hb)).2 (by rw[hf a b e]; exact⟨rfl,rfl⟩)
 omega
theorem zik {n:Nat} (h:WL n l):(allC l).Pairwise fun a b=>keyC a≠keyC b:=by
 unfold allC
 rw[y29,y29]
 have e1:∀ x∈l.N.map chL,x.C=1:=fun x hx=>by obtain⟨_,_,rfl⟩:=yw.1 hx; rfl
 have e2:∀ x∈l.K.map (chB 2),x.C=2:=fun x hx=>by obtain⟨_,_,rfl⟩:=yw.1 hx; rfl
 have e3:∀ x∈l.P.map (chB 3),x.C=3:=fun x hx=>by obtain⟨_,_,rfl⟩:=yw.1 hx; rfl
 have ne:∀ {a b:TCh},a.C≠b.C->keyC a≠keyC b:=fun k e=>k (by unfold keyC at e; simp only[y1q] at e; exact e.1)
 refine⟨⟨z9l h.lo _ fun a b e=>?_,z9l h.co _ fun a b e=>?_,fun a ha b hb=>ne (by rw[e1 a ha,e2 b hb]; decide)⟩,z9l h.fo _ fun a b e=>?_,fun a ha b hb=>?_⟩
 ·unfold keyC chL at e; simp only[y1q] at e; unfold plL; rw[e.2.1,e.2.2]
 ·unfold keyC chB at e; simp only[y1q] at e; unfold plB; rw[e.2.1,e.2.2]
 ·unfold keyC chB at e; simp only[y1q] at e; unfold plB; rw[e.2.1,e.2.2]
 ·rcases yg.1 ha with ha | ha
  ·exact ne (by rw[e1 a ha,e3 b hb]; decide)
  ·exact ne (by rw[e2 a ha,e3 b hb]; decide)
theorem z7t {α β:Type} [DecidableEq β] (f:α->β):∀ (l:List α) (M:List β),(l.Pairwise fun a b=>f a≠f b)->(∀ x∈l,f x∈M)->l.length<=M.length
 | [],_,_,_=>y3j _
 | x :: l,M,hp,hm=>by
  rw[y2k] at hp
  have hx:=hm x y14
  have:=z7t f l (M.erase (f x)) hp.2 fun y hy=>(List.mem_erase_of_ne (fun e=>hp.1 y hy e.symm)).2 (hm y (ym _ hy))
  rw[List.length_erase_of_mem hx] at this
  have:0<M.length:=List.length_pos_of_mem hx
  rw[y11]
  omega
def zeroC (x:TCh):TCh:=⟨x.C,x.B,x.H,nnC x.C⟩
def outC (a b:TLa):List TCh :=
 (keptS b).filter (fun x=>decide (x ∉ keptS a))++((keptS a).filter fun x=>decide (∀ y∈keptS b,keyC y≠keyC x)).map zeroC
section
variable {a b:TLa} (ha:errL a=0) (hb:errL b=0)
include ha hb
omit hb in
theorem zma {q:KeyC} (h:valC a q=nnC q.1):(∀ y∈keptS a,keyC y≠q):=fun y hy e=>by
 obtain⟨h1,h2⟩:=(z2s ha).1 hy
 rw[e,h] at h1
 have:q.1=y.C:=by rw[<- e]; rfl
 rw[this] at h1
 exact h2 h1.symm
theorem zfm:x∈outC a b↔valC a (keyC x)≠valC b (keyC x)/\x.D=valC b (keyC x):=by
 unfold outC
 rw[yg,y19,yw]
 simp only[y7]
 constructor
 ·rintro (⟨h1,h2⟩ | ⟨z,hz,rfl⟩)
  ·obtain⟨k1,k2⟩:=(z2s hb).1 h1
   refine⟨fun e=>h2 ((z2s ha).2 ⟨e.trans k1,k2⟩),k1.symm⟩
  ·rw[y19,y7] at hz
   obtain⟨h1,h2⟩:=hz
   obtain⟨k1,k2⟩:=(z2s ha).1 h1
   have hk:keyC (zeroC z)=keyC z:=rfl
   have hv:valC b (keyC z)=nnC z.C:=by
    by_cases e:valC b (keyC z)=nnC z.C
    ·exact e
    ·exact absurd rfl (h2 ⟨z.C,z.B,z.H,valC b (keyC z)⟩ ((z2s hb).2 ⟨rfl,e⟩))
   rw[hk,hv,k1]
   exact⟨k2,rfl⟩
 ·rintro⟨h1,h2⟩
  by_cases e:valC b (keyC x)=nnC x.C
  ·right
   refine⟨⟨x.C,x.B,x.H,valC a (keyC x)⟩,?_,?_⟩
   ·rw[y19,y7]
    refine⟨(z2s ha).2 ⟨rfl,fun k=>h1 (by rw[e]; exact k)⟩,fun y hy=>?_⟩
    exact zma hb (q:=keyC x) e y hy
   ·obtain⟨k,c,y,m⟩:=x
    unfold zeroC
    simp only at e h2 |-
    rw[h2,e]
  ·left
   refine⟨(z2s hb).2 ⟨h2.symm,by rw[h2]; exact e⟩,fun k=>h1 ?_⟩
   rw[((z2s ha).1 k).1,h2]
theorem zil:(outC a b).Pairwise fun x y=>keyC x≠keyC y:=by
 obtain⟨_,wa,ba⟩:=zw.1 ha
 obtain⟨_,wb,bb⟩:=zw.1 hb
 unfold outC
 rw[y29]
 refine⟨(zik (z4r wb bb)).sublist ((y41).trans y41),?_,fun x hx y hy=>?_⟩
 ·rw[y5s]
  exact (zik (z4r wa ba)).sublist ((y41).trans y41)
 ·obtain⟨z,hz,rfl⟩:=yw.1 hy
  rw[y19,y7] at hz
  exact hz.2 x (y19.1 hx).1
theorem ze4 (hx:x∈outC a b):good x.B=true:=by
 unfold outC at hx
 rcases yg.1 hx with h | h
 ·exact (z4f hb (y19.1 (y19.1 h).1).1).2.2
 ·obtain⟨z,hz,rfl⟩:=yw.1 h
  exact (z4f ha (y19.1 (y19.1 hz).1).1).2.2
end
theorem zjy (l:List TCh) (x:TCh):F_q4h l x=some (decide (x∈l)):=by
 have he:∀ y:TCh,((x.C==y.C)&&((x.B==y.B)&&((x.H==y.H)&&((x.D==y.D)&&true))))=decide (y=x):=fun y=>by
  obtain⟨a,b,c,d⟩:=x
  obtain⟨a',b',c',d'⟩:=y
  rw[y1o]
  simp only[y9,yy,y7,TCh.mk.injEq,y30]
  constructor
  ·rintro⟨rfl,rfl,rfl,rfl⟩; exact⟨rfl,rfl,rfl,rfl⟩
  ·rintro⟨rfl,rfl,rfl,rfl⟩; exact⟨rfl,rfl,rfl,rfl⟩
 have:=z9a l (fun y=>decide (y=x)) (fun i=>(i:Int)) (body:=fun i s=>(S_q2k_b1 l x i s).den) fun i hi=>by
  simp only[S_q2k_b1,Scr.den,he]
  split <;> rfl
 simp only[F_q4h,S_q4h,F_q2k,S_q2k,Scr.den]
 rcases this with ⟨h1,h2⟩ | ⟨i,h1,h2,_,h4⟩
 ·rw[h1]
  simp only[outM,obind]
  congr 1
  rw[y27 (show ¬ ((-1:Int)>=0) from dk),y27 fun k=>by simpa using h2 x k]
 ·rw[h4]
  simp only[outM,obind,id]
  congr 1
  rw[yx (show ((i:Int)>=0) from om)]
  have hm:=z4 h1
  have e:l.getD i dF=x:=by simpa using h2
  rw[e] at hm
  exact (yx hm).symm
theorem zjz {l:List TCh} (hl:∀ y∈l,good y.B=true) (hx:good x.B=true):F_q4i l x=some (decide (∃ y∈l,keyC y=keyC x)):=by
 have:=z9a l (fun y=>decide (keyC y=keyC x)) (fun i=>(i:Int)) (body:=fun i s=>(S_q2l_b1 l x i s).den) fun i hi=>by
  have hg:=hl _ (z4 hi)
  simp only[S_q2l_b1,F_q4s,S_q4s,Scr.den,z9i hx hg,obind]
  have e:(ordC x (l.getD i dF)==0)=decide (keyC (l.getD i dF)=keyC x):=by
   rw[y1o,yy,y7,zie hx hg]
   exact eq_comm
  rw[e]
  split <;> rfl
 simp only[F_q4i,S_q4i,F_q2l,S_q2l,Scr.den]
 rcases this with ⟨h1,h2⟩ | ⟨i,h1,h2,_,h4⟩
 ·rw[h1]
  simp only[outM,obind]
  congr 1
  rw[y27 (show ¬ ((-1:Int)>=0) from dk),y27]
  rintro⟨y,hy,e⟩
  have:=h2 y hy
  rw[y1j] at this
  exact this e
 ·rw[h4]
  simp only[outM,obind,id]
  congr 1
  rw[yx (show ((i:Int)>=0) from om)]
  exact (yx ⟨_,z4 h1,by simpa using h2⟩).symm
theorem zim (t:List THe):F_q2j t t=some true:=by
 simp only[F_q2j,S_q2j,Scr.den]
 rw[y5 sj,z13 fun i hi=>by
  simp only[S_q2j_b1,Scr.den]
  rw[z3 ⟨hi,trivial⟩,y5 sj]]
 rfl
theorem zc8 {β ρ:Type} [Inhabited α] (l:List α) (p:α->Bool) (f:α->β) {body:Nat->List β->Option (Step (List β) ρ)} (s0:List β) (hs:∀ i s,i<l.length->s.length<=s0.length+i->body i s=some (.cont (if p (l.getD i dF)=true then s++[f (l.getD i dF)] else s))):rangeM body l.length 0 s0=some (.next (s0++(l.filter p).map f)):=by
 obtain⟨r,e,h⟩:=zr (body:=body) (n:=l.length) (fun i s=>s=s0++((l.take i).filter p).map f) (s0:=s0) sj (fun i s hi h=>by
  have hle:=y3p p (l.take i)
  rw[y15] at hle
  refine⟨_,hs i s hi (by rw[h,yd,y1i]; omega),?_⟩
  rw[h,y12 hi,z7 hi,y3n,y3f,y4z,List.filter_nil]
  by_cases c:p l[i]=true
  ·rw[y6 c,y6 c,y22]; rfl
  ·rw[y5 c,y5 c,y55,y2r])
 rw[e,h,y2e]
theorem z8d {a b:TLa} (sa:SmL a) (sb:SmL b) (ha:errL a=0) (hb:errL b=0) (e1:a.E=b.E) (e2:a.F=b.F) (e3:a.I=b.I) {M:List KeyC} (hM:M.length<=12) (hm:∀ q,valC a q≠valC b q->q∈M) :
  ∃ D,F_qd a b=some (D,0)/\PwX D/\(∀ x,x∈D↔valC a (keyC x)≠valC b (keyC x)/\x.D=valC b (keyC x))/\D.length<=M.length:=by
 have hlen:(outC a b).length<=M.length:=z7t keyC _ _ (zil ha hb) fun x hx=>hm _ ((zfm ha hb).1 hx).1
 obtain⟨ra,wa,ba⟩:=zw.1 ha
 obtain⟨rb,wb,bb⟩:=zw.1 hb
 have ga:∀ x∈keptS a,good x.B=true:=fun x hx=>(z4f ha (y19.1 hx).1).2.2
 have gb:∀ x∈keptS b,good x.B=true:=fun x hx=>(z4f hb (y19.1 hx).1).2.2
 have lk:∀ {l:TLa},¬ bigL l->(keptS l).length<=240:=fun {l} h=>by
  have:=y3p keepB (allC l)
  unfold keptS
  unfold allC at *
  rw[yd,yd,y1i,y1i,y1i] at this
  unfold bigL at h
  omega
 have la:=lk ba; have lb:=lk bb
 refine⟨isrt (outC a b),?_,zl8 _ (fun x hx=>ze4 ha hb hx) (zil ha hb),fun x=>by rw[zdz,zfm ha hb],by rw[z5d]; exact hlen⟩
 simp only[F_qd,S_qd,Scr.den,z26 sa,z26 sb,ha,hb,obind,zi1,zi]
 rw[y5 dk]
 rw[e1,e2,e3,zim,Gg,obind,y5 sj]
 simp only[zfi om (z4r wa ba),zfi om (z4r wb bb),obind]
 rw[zc8 (keptS b) (fun x=>decide (x ∉ keptS a)) id [] fun i s hi hs=>by
  simp only[y1c] at hs
  simp only[S_qd_b1,Scr.den,zjy,obind]
  by_cases c:(keptS b).getD i dF∈keptS a
  ·rw[y5 (by simp[c]),y5 (by simp[c])]
  ·rw[y6 (by simp[c]),y6 (by simp[c]),Ga]; rfl]
 simp only[outM,y20,List.map_id]
 rw[zc8 (keptS a) (fun x=>decide (∀ y∈keptS b,keyC y≠keyC x)) zeroC _ fun i s hi hs=>by
  have h1:=y3p (fun x=>decide (x ∉ keptS a)) (keptS b)
  have hg:=ga _ (z4 hi)
  simp only[S_qd_b2,Scr.den,zjz gb hg,obind]
  generalize (keptS a).getD i dF=x at hg |-
  by_cases c:∃ y∈keptS b,keyC y=keyC x
  ·rw[y5 (by rw[yx c]; simp),y5 (by rw[y7]; obtain⟨y,hy,e⟩:=c; exact fun k=>k y hy e)]
  ·have c':∀ y∈keptS b,keyC y≠keyC x:=fun y hy e=>c ⟨y,hy,e⟩
   rw[y6 (by rw[y27 c]; rfl),y6 (yx c')]
   unfold zeroC nnC
   by_cases k:x.C=2
   ·rw[y6 (by simpa using k),y6 k]
    simp only[outM]
    rw[Ga]
   ·rw[y5 (by simpa using k),y5 k]
    simp only[outM]
    rw[Ga]]
 simp only
 rw[show (keptS b).filter (fun x=>decide (x ∉ keptS a))++((keptS a).filter fun x=>decide (∀ y∈keptS b,keyC y≠keyC x)).map zeroC=outC a b from rfl,zla om fun x hx=>ze4 ha hb hx,obind]
 rw[z3 ⟨z5d _,trivial⟩,z3 ⟨by rw[z5d]; omega,trivial⟩]
end Go.Proofs.YtgfgnhpecnmlpaaGreatDoor
/- The law AmendmentDifference. No condition. -/
namespace Go.Proofs.YtgfgnhpecnmlpaaGreatDoor
open Go Go.TA
open Go.IntKind (i64)
attribute [-simp] List.getD_eq_getElem?_getD
variable {l:TLa} {cs:List TCh}
theorem z9m (he:errL l=0) (hc:∀ x∈cs,zk l.I l.E l.F x=0) (hb:¬ bigL (applyS cs l)):errL (applyS cs l)=0:=by
 obtain⟨hr,hw,_⟩:=zw.1 he
 obtain⟨r1,r2,r3,r4,r5,r6,r7⟩:=z44 cs l
 refine zw.2 ⟨?_,zem hw hr.tr hc,hb⟩
 refine⟨?_,?_,?_,?_,?_,?_,?_,?_⟩
 ·have:=hr.yr; unfold yrB at this |-; rwa [r1,r2]
 ·rw[r3]; exact hr.tr
 ·rw[r4,r5,r6,r7]; exact hr.li
 ·rw[r3,r4]; exact hr.ea
 ·rw[r3,r4]; exact hr.sh
 ·rw[r3,r1,r2,r5]; exact hr.co
 ·rw[r3,r6]; exact hr.ru
 ·rw[r3,r1,r2,r7]; exact hr.am
theorem z5y (h:ML l) (hc:∀ x∈cs,zk l.I l.E l.F x=0) (hn:cs.length<=6):¬ bigL (applyS cs l):=by
 obtain⟨hr,hw,_⟩:=zw.1 h.ok
 have g1:=h.ll; have g2:=h.cl; have g3:=h.fl
 have h0:WL 44 l:=⟨hw.lo,om,hw.co,g2,hw.fo,g3⟩
 have:=z5q (cs:=cs) (fun x hx=>chgG hr.tr (hc x hx)) h0
 have k1:=this.ll; have k2:=this.cl; have k3:=this.fl
 unfold bigL; omega
theorem z8e (he:errL l=0) (hc:∀ x∈cs,zk l.I l.E l.F x=0) (q:KeyC):valC (applyS cs l) q=lastV cs q (valC l q):=by
 obtain⟨hr,hw,hb⟩:=zw.1 he
 exact zc6 q cs (z4r hw hb) fun c hx=>⟨chgG hr.tr (hc c hx),by
  have:=hc c hx
  unfold zk at this
  by_cases k:c.C<1\/c.C>3
  ·rw[y6 k] at this; cases this
  ·omega⟩
theorem zmb {a b:TLa} (ha:errL a=0) (hb:errL b=0) (e1:b.E=a.E) (e2:b.F=a.F) (e3:b.I=a.I) {x:TCh} (h:valC a (keyC x)≠valC b (keyC x)) (hx:x.D=valC b (keyC x)):zk a.I a.E a.F x=0:=by
 have hamt:amt x.D=true\/x.D=nnC x.C:=by
  by_cases e:valC b (keyC x)=nnC x.C
  ·exact .inr (hx.trans e)
  ·obtain⟨y,hy,k1,k2⟩:=z5c (l:=b) (q:=keyC x) e
   left
   rw[hx,<- k2]
   exact (z4f hb hy).2.1
 by_cases e:valC b (keyC x)=nnC x.C
 ·obtain⟨y,hy,k1,_⟩:=z5c (l:=a) (q:=keyC x) fun k=>h (k.trans e.symm)
  exact zfl (z4f ha hy).1 k1.symm hamt
 ·obtain⟨y,hy,k1,_⟩:=z5c (l:=b) (q:=keyC x) e
  have:=(z4f hb hy).1
  rw[e1,e2,e3] at this
  exact zfl this k1.symm hamt
theorem ze5 (a:List Int):F_q4u a=some true:=by
 obtain⟨s0,e0,o0⟩:=zdk a
 obtain⟨l,s1,e1,o1,hl,h6⟩:=zih o0
 obtain⟨c1,s2,e2,o2,k1⟩:=zah hl.fi hl.ye hl.tr o1
 obtain⟨c2,s3,e3,o3,k2⟩:=z6b hl.fi hl.ye hl.tr o2
 have he:=hl.ok
 have l1:=k1.le; have l2:=k2.le
 have hc:∀ x∈c1++c2,zk l.I l.E l.F x=0:=fun x hx=>by
  rcases yg.1 hx with h | h
  ·exact (k1.ok x h).chg hl h6
  ·exact (k2.ok x h).chg hl h6
 have hcl:(c1++c2).length<=6:=by rw[yd]; omega
 have hbm:=z5y hl hc hcl
 have e4:F_q24 l (c1++c2)=some (applyS (c1++c2) l,0):=by rw[zjv hl.sm he hc om,y5 hbm]
 obtain⟨m,hm⟩:∃ m,m=applyS (c1++c2) l:=⟨_,rfl⟩
 have hem:errL m=0:=by rw[hm]; exact z9m he hc hbm
 obtain⟨r1,r2,r3,_⟩:=z44 (c1++c2) l
 rw[<- hm] at e4 r1 r2 r3
 have hsm:=zae hem
 have hvm:∀ q,valC l q≠valC m q->q∈(c1++c2).map keyC:=fun q h=>by
  by_cases hq:q∈(c1++c2).map keyC
  ·exact hq
  ·refine absurd ?_ h
   rw[hm,z8e he hc,z4y fun c hx e=>hq (yw.2 ⟨c,hx,e⟩)]
 obtain⟨D,e5,pD,mD,lD⟩:=z8d hl.sm hsm he hem r1.symm r2.symm r3.symm (M:=(c1++c2).map keyC) (by rw[y1i]; omega) hvm
 rw[y1i] at lD
 have hcD:∀ x∈D,zk l.I l.E l.F x=0:=fun x hx=>zmb he hem r1 r2 r3 ((mD x).1 hx).1 ((mD x).1 hx).2
 have hbx:=z5y hl hcD om
 have e6:F_qx l D=some (applyS D l,0):=by rw[zag hl.sm he hcD om,y5 hbx]
 have hex:=z9m he hcD hbx
 obtain⟨t1,t2,t3,_⟩:=z44 D l
 have hvx:∀ q,valC (applyS D l) q=valC m q:=fun q=>by
  rw[z8e he hcD]
  by_cases h:∃ c∈D,keyC c=q
  ·exact z9h h fun c hx e=>by rw[((mD c).1 hx).2,e]
  ·rw[z4y fun c hx e=>h ⟨c,hx,e⟩]
   by_cases k:valC l q=valC m q
   ·exact k
   ·exact absurd ⟨⟨q.1,q.2.1,q.2.2,valC m q⟩,(mD _).2 ⟨k,rfl⟩,rfl⟩ h
 obtain⟨D0,e7,_,_,lD0⟩:=z8d hl.sm hl.sm he he rfl rfl rfl (M:=[]) sj fun q h=>absurd rfl h
 obtain⟨D1,e8,_,_,lD1⟩:=z8d (zae hex) hsm hex hem (t1.trans r1.symm) (t2.trans r2.symm) (t3.trans r3.symm) (M:=[]) sj fun q h=>absurd (hvx q) h
 have z0:D0=[]:=y25.1 (Nat.le_zero.1 lD0)
 have z1:D1=[]:=y25.1 (Nat.le_zero.1 lD1)
 rw[z0] at e7
 rw[z1] at e8
 simp only[F_q4u,S_q4u,Scr.den,e0,e1,e2,e3,e4,obind]
 rw[Ga]
 simp only[e5,e6,e7,e8,obind,zi]
 rw[y5 sj]
 by_cases hD:D.length=0
 ·rw[y5 (by rw[y7]; omega),z6x,obind]
 ·obtain⟨k,s4,e9,o4,k0,kD⟩:=zh (n:=(D.length:Int)) o3 om om
  rw[y6 (by rw[y7]; omega),e9,obind]
  have hk:k.toNat<D.length:=om
  have w:(i64.wrap (k+1)).toNat=k.toNat+1:=by rw[wrapId om om]; omega
  have w0:(0:Int)<=i64.wrap (k+1):=by rw[wrapId om om]; omega
  simp only[w]
  have lt:=List.length_take_le k.toNat D
  have ld:(D.drop (k.toNat+1)).length<=6:=by rw[y21]; omega
  rw[z3 ⟨k0,om,om,w0,om,om,trivial⟩,z3 ⟨by rw[yd]; omega,trivial⟩]
  have hsub:∀ x∈D.take k.toNat++D.drop (k.toNat+1),x∈D:=fun x hx=>by
   rcases yg.1 hx with h | h
   ·exact y1k h
   ·exact y2x h
  have hne:∀ x∈D.take k.toNat++D.drop (k.toNat+1),keyC x≠keyC (D.getD k.toNat dF):=fun x hx=>by
   rw[z7 hk]
   rcases yg.1 hx with h | h
   ·obtain⟨i,hi,rfl⟩:=y1e h
    rw[y15] at hi
    rw[y3t]
    exact zb9 (y1f.1 pD i k.toNat om hk om)
   ·obtain⟨i,hi,rfl⟩:=y1e h
    rw[y21] at hi
    rw[y3u]
    exact fun e=>zb9 (y1f.1 pD k.toNat (k.toNat+1+i) hk om om) e.symm
  have hcov:∀ x∈D,x=D.getD k.toNat dF\/x∈D.take k.toNat++D.drop (k.toNat+1):=fun x hx=>by
   have hs:D=D.take k.toNat++D.getD k.toNat dF :: D.drop (k.toNat+1):=by
    conv=>lhs; rw[<- y1w k.toNat D,y1a hk]
    rw[<- z7 hk]
   rw[hs] at hx
   rcases yg.1 hx with h | h
   ·exact .inr (yg.2 (.inl h))
   ·rcases yi.1 h with h | h
    ·exact .inl h
    ·exact .inr (yg.2 (.inr h))
  obtain⟨L,hL⟩:∃ L,L=D.take k.toNat++D.drop (k.toNat+1):=⟨_,rfl⟩
  obtain⟨d,hd⟩:∃ d,d=D.getD k.toNat dF:=⟨_,rfl⟩
  have hdD:d∈D:=by rw[hd]; exact z4 hk
  have hLl:L.length<=6:=by rw[hL,yd,y15,y21]; omega
  rw[<- hL] at hsub hne hcov |-
  rw[<- hd] at hne hcov |-
  have hcL:∀ x∈L,zk l.I l.E l.F x=0:=fun x hx=>hcD x (hsub x hx)
  have hby:=z5y hl hcL hLl
  have e10:F_qx l L=some (applyS L l,0):=by rw[zag hl.sm he hcL om,y5 hby]
  have hey:=z9m he hcL hby
  obtain⟨u1,u2,u3,_⟩:=z44 L l
  have hvy:∀ q,valC (applyS L l) q≠valC m q->q∈[keyC d]:=fun q h=>by
   rw[y3m]
   by_cases e:q=keyC d
   ·exact e
   ·refine absurd ?_ h
    rw[z8e he hcL]
    by_cases hx:∃ c∈L,keyC c=q
    ·exact z9h hx fun c hc' e'=>by rw[((mD c).1 (hsub c hc')).2,e']
    ·rw[z4y fun c hc' e'=>hx ⟨c,hc',e'⟩]
     by_cases k':valC l q=valC m q
     ·exact k'
     ·have hz:=(mD ⟨q.1,q.2.1,q.2.2,valC m q⟩).2 ⟨k',rfl⟩
      rcases hcov _ hz with h1 | h1
      ·exact absurd (by rw[<- h1]; rfl) e
      ·exact absurd ⟨_,h1,rfl⟩ hx
  obtain⟨R,e11,_,mR,lR⟩:=z8d (zae hey) hsm hey hem (u1.trans r1.symm) (u2.trans r2.symm) (u3.trans r3.symm) (M:=[keyC d]) sj hvy
  have hdR:d∈R:=(mR d).2 ⟨by
   rw[z8e he hcL,z4y fun c hc' e'=>hne c hc' e']
   exact ((mD d).1 hdD).1,((mD d).1 hdD).2⟩
  have hR:R=[d]:=by
   cases R with
   | nil=>cases hdR
   | cons r R =>
    cases R with
    | nil=>rw[y3m] at hdR; rw[hdR]
    | cons _ _=>simp at lR
  rw[hR] at e11
  have g0:([d]:List TCh).getD 0 dF=d:=rfl
  simp only[e10,e11,obind,z9,z6x,g0]
  simp[optD,AllP,guardP,hk,k0]
end Go.Proofs.YtgfgnhpecnmlpaaGreatDoor
/- Orders that are drawn; the numbers of amendments that were made. No condition. -/
namespace Go.Proofs.YtgfgnhpecnmlpaaGreatDoor
open Go Go.TA
open Go.IntKind (i64)
attribute [-simp] List.getD_eq_getElem?_getD
variable {l:List Int} {i j:Nat} {x:Int}
theorem z7u (hj:j<l.length):(l.set i x).getD j dF=if j=i then x else l.getD j dF:=by
 rw[List.getD_eq_getElem?_getD,List.getElem?_set]
 by_cases h:i=j
 ·subst h; simp[hj]
 ·rw[y5 h,y5 fun e=>h e.symm,List.getD_eq_getElem?_getD]
def upTo (n:Nat):List Int:=(List.range n).map fun (i:Nat)=>(i:Int)
variable {n:Nat}
theorem z8u:(upTo n).length=n:=by simp[upTo]
theorem zk0:x∈upTo n↔0<=x/\x<n:=by
 simp only[upTo,yw,y2a]
 constructor
 ·rintro⟨i,h,rfl⟩; omega
 ·intro h; exact⟨x.toNat,om,om⟩
theorem zin:upTo (n+1)=upTo n++[(n:Int)]:=by simp[upTo,List.range_succ]
theorem zeu (hn:n<=1000):iterM (fun s=>(S_qc_b1 (n:Int) s).den) (([]:List Int),(0:Int))=some (.next (upTo n,(n:Int))):=by
 obtain⟨r,e,hJ⟩:=zt (step:=fun s=>(S_qc_b1 (n:Int) s).den) (fun s:List Int×Int=>((n:Int)-s.2).toNat)
  (fun s=>∃ i:Nat,i<=n/\s=(upTo i,(i:Int))) (fun s=>s=(upTo n,(n:Int))) (fun st hI=>by
  obtain⟨i,hi,rfl⟩:=hI
  simp only[S_qc_b1,Scr.den]
  by_cases hc:i<n
  ·left
   rw[y6 (show decide ((i:Int)<n)=true from yx om),z3 (by simp only[AllP,y30,z8u]; omega),wrapId (n:=(i:Int)+1) om om]
   exact⟨_,rfl,⟨i+1,hc,by rw[zin]; rfl⟩,by show ((n:Int)-((i:Int)+1)).toNat<((n:Int)-i).toNat; omega⟩
  ·right
   obtain rfl:i=n:=om
   rw[y5 (show ¬ decide ((i:Int)<i)=true from sj)]
   exact⟨_,rfl,rfl⟩) _ (([]:List Int),(0:Int)) (y1t _) ⟨0,y3j _,rfl⟩
 rw[e,hJ]
def swp (l:List Int) (i k:Nat):List Int:=(l.set i (l.getD k dF)).set k (l.getD i dF)
variable {k:Nat}
theorem z3t:(swp l i k).length=l.length:=by simp[swp]
theorem z8f (hj:j<l.length):(swp l i k).getD j dF=if j=k then l.getD i dF else if j=i then l.getD k dF else l.getD j dF:=by
 unfold swp
 rw[z7u (by simpa using hj),z7u hj]
theorem zlc (hi:i<l.length) (hk:k<l.length):x∈swp l i k↔x∈l:=by
 constructor
 ·intro h
  obtain⟨j,hj,rfl⟩:=z1y h
  rw[z3t] at hj
  rw[z8f hj]
  split
  ·exact z4 hi
  ·split
   ·exact z4 hk
   ·exact z4 hj
 ·intro h
  obtain⟨j,hj,rfl⟩:=z1y h
  by_cases h1:j=i
  ·subst h1
   have:=z8f (l:=l) (i:=j) (k:=k) hk
   rw[y6 rfl] at this
   rw[<- this]
   exact z4 (by rw[z3t]; exact hk)
  ·by_cases h2:j=k
   ·subst h2
    have:=z8f (l:=l) (i:=i) (k:=j) hi
    rw[y5 (fun e=>h1 e.symm),y6 rfl] at this
    rw[<- this]
    exact z4 (by rw[z3t]; exact hi)
   ·have:=z8f (l:=l) (i:=i) (k:=k) hj
    rw[y5 h2,y5 h1] at this
    rw[<- this]
    exact z4 (by rw[z3t]; exact hj)
variable {s:TTape}
theorem zgm (hs:TapeOk s) (hn:n<=1000):∃ l s',F_qc (n:Int) s=some (l,s')/\TapeOk s'/\l.length=n/\∀ x,x∈l↔0<=x/\x<n:=by
 simp only[F_qc,S_qc,Scr.den,zeu hn,outM]
 obtain⟨r,e,hJ⟩:=zt (step:=fun s=>(S_qc_b2 s).den) (fun s:TTape×List Int×Int=>s.2.2.toNat)
  (fun s=>TapeOk s.1/\s.2.1.length=n/\(∀ x,x∈s.2.1↔0<=x/\x<n)/\-1<=s.2.2/\s.2.2<n)
  (fun s=>TapeOk s.1/\s.2.1.length=n/\∀ x,x∈s.2.1↔0<=x/\x<n) (fun st hI=>by
  obtain⟨t,l,i⟩:=st
  obtain⟨i1,i2,i3,i4,i5⟩:=hI
  simp only at i1 i2 i3 i4 i5
  simp only[S_qc_b2,Scr.den]
  by_cases hi:0<i
  ·left
   rw[y6 (show decide (i>0)=true from yx hi),wrapId (n:=i+1) om om]
   obtain⟨v,t1,q1,q2,q3,q4⟩:=zh (n:=i+1) i1 om om
   rw[q1]
   simp only[obind,y17,y2q]
   rw[Ge,wrapId (n:=i-1) om om]
   refine⟨_,rfl,⟨q2,?_,?_,?_,?_⟩,?_⟩
   ·show (swp l i.toNat v.toNat).length=n
    rw[z3t,i2]
   ·intro x
    show x∈swp l i.toNat v.toNat↔_
    rw[zlc om om,i3]
   ·show -1<=i-1; omega
   ·show i-1<n; omega
   ·show (i-1).toNat<i.toNat; omega
  ·right
   rw[y5 (show ¬ decide (i>0)=true by rw[y7]; exact hi)]
   exact⟨_,rfl,i1,i2,i3⟩) _ (s,upTo n,(n:Int)-1) (y1t _)
  ⟨hs,z8u,fun x=>zk0,by show -1<=(n:Int)-1; omega,by show (n:Int)-1<n; omega⟩
 rw[wrapId (n:=(n:Int)-1) om om,e]
 simp only
 obtain⟨h1,h2,h3⟩:=hJ
 rw[Ge]
 exact⟨_,_,rfl,h1,h2,h3⟩
section
variable {f y:Int} (hf:0<=f/\f<=95) (hy:1<=y/\y<=3) {t:List THe} (ht:MT t)
include hf hy ht
theorem zmq (s6 s17:TTape) (ls:List TLi) (fl ce:List TBo) (ea:List TEa) (co:List TCo) (ru:List TRu) {i:Int} (hi:i<=3) (hs:TapeOk s) (d:Int) :
  ∃ s' am n d' i',iterM (fun s=>(S_q2_b5 (s6,f,y,t,ls) (s17,f,y,t,fl,ce) s).den) (s,f,y,t,ea,co,ru,[],0,d,i)=some (.next (s',f,y,t,ea,co,ru,am,n,d',i'))/\TapeOk s'/\am.length<=3/\AmS am/\∀ x∈am,x.J<=3:=by
 obtain⟨r,e,k1,k2,k3,k4,k5,k6,k7,k8,k9,k10⟩:=zt (step:=fun s=>(S_q2_b5 (s6,f,y,t,ls) (s17,f,y,t,fl,ce) s).den) (fun s=>s.2.2.2.2.2.2.2.2.2.2.toNat)
  (fun r=>TapeOk r.1/\r.2.1=f/\r.2.2.1=y/\r.2.2.2.1=t/\r.2.2.2.2.1=ea/\r.2.2.2.2.2.1=co/\r.2.2.2.2.2.2.1=ru/\((r.2.2.2.2.2.2.2.1.length:Int)+max r.2.2.2.2.2.2.2.2.2.2 0<=3/\r.2.2.2.2.2.2.2.2.2.2<=3)/\AmS r.2.2.2.2.2.2.2.1/\r.2.2.2.2.2.2.2.2.1=(r.2.2.2.2.2.2.2.1.length:Int)/\∀ x∈r.2.2.2.2.2.2.2.1,x.J<=3)
  (fun r=>TapeOk r.1/\r.2.1=f/\r.2.2.1=y/\r.2.2.2.1=t/\r.2.2.2.2.1=ea/\r.2.2.2.2.2.1=co/\r.2.2.2.2.2.2.1=ru/\r.2.2.2.2.2.2.2.1.length<=3/\AmS r.2.2.2.2.2.2.2.1/\∀ x∈r.2.2.2.2.2.2.2.1,x.J<=3) (fun s ⟨o,q1,q2,q3,q4,q5,q6,⟨q7,q8⟩,q9,q10,q11⟩=>by
   obtain⟨s0,f0,y0,t0,e0,c0,r0,am,n,dd,k⟩:=s
   simp only at o q1 q2 q3 q4 q5 q6 q7 q8 q9 q10 q11
   subst q1; subst q2; subst q3; subst q4; subst q5; subst q6
   simp only[S_q2_b5,Scr.den]
   by_cases hk:k>0
   ·left
    rw[y6 (by simpa using hk)]
    have w1:i64.wrap (k-1)=k-1:=wrapId om om
    obtain⟨v,s1,e1,o1,_⟩:=z19 (l:=[0,1,100,400]) o sj sj
    obtain⟨cs,s2,e2,o2,hc⟩:=z7r hf hy ht e0 c0 r0 ls ce fl am o1
    simp only[e1,e2,obind,w1]
    rw[Ga]
    refine⟨_,rfl,⟨o2,rfl,rfl,rfl,rfl,rfl,rfl,⟨by rw[yd,yp]; simp only; omega,by simp only; omega⟩,fun x hx=>?_,by rw[yd,yp,wrapId (n:=n+1) om om,q10]; simp,fun x hx=>?_⟩,by simp only; omega⟩
    rotate_left
    ·rcases yg.1 hx with hx | hx
     ·exact q11 x hx
     ·have:x=⟨i64.wrap (dd+v),i64.wrap (n+1),cs⟩:=by simpa using hx
      rw[this]; simp only; rw[wrapId (n:=n+1) om om]; omega
    rcases yg.1 hx with hx | hx
    ·exact q9 x hx
    ·have:x=⟨i64.wrap (dd+v),i64.wrap (n+1),cs⟩:=by simpa using hx
     rw[this]; exact⟨hc.le,fun c hcc=>(hc.ok c hcc).gd⟩
   ·right
    rw[y5 (by simpa using hk)]
    exact⟨_,rfl,o,rfl,rfl,rfl,rfl,rfl,rfl,by simp only; omega,q9,q11⟩) _ (s,f,y,t,ea,co,ru,[],0,d,i) (y1t _) ⟨hs,rfl,rfl,rfl,rfl,rfl,rfl,⟨by simp only[y1c]; omega,hi⟩,(fun x hx=>by cases hx),sj,fun x hx=>by cases hx⟩
 obtain⟨s',f',y',t',e',c',r',am,n,d',i'⟩:=r
 simp only at k1 k2 k3 k4 k5 k6 k7 k8 k9
 subst k2; subst k3; subst k4; subst k5; subst k6; subst k7
 exact⟨s',am,n,d',i',e,k1,k8,k9,k10⟩
end
theorem zio (hs:TapeOk s):∃ l s',F_q2 s=some (l,s')/\TapeOk s'/\ML l/\T6 l.I/\∀ x∈l.A,x.J<=3:=by
 obtain⟨f,s1,e1,o1,hf⟩:=z19 (l:=[0,3,12,95]) hs sj sj
 obtain⟨y,s2,e2,o2,y1,y2⟩:=za4 (lo:=1) (hi:=3) o1 om om om
 obtain⟨t,s3,e3,o3,h6⟩:=zai o2
 have ht:=h6.mt
 have hf':0<=f/\f<=95:=by simp at hf; omega
 have hy:1<=y/\y<=3:=⟨y1,y2⟩
 have hle:=ht.le
 have hll:=z20 t []
 simp only[F_q2,S_q2,Scr.den,e1,e2,e3,obind,z1u ht.sm (show t.length<=1000000 from om) (show ([]:Y8).length<=1000000 from sj)]
 obtain⟨s4,ls,e4,o4,l1,l2⟩:=zm7 hf' hy (t:=t) (leavesU t []) z2r om o3
 rw[e4]
 simp only[outM]
 obtain⟨s5,fl,ce,e5,o5,g1,g2,g3,g4⟩:=zm8 hf' hy ht s4 ls o4
 rw[e5]
 try simp only
 obtain⟨s6,ea,co,ru,e6,o6,a1,a2,a3,a4,a5,a6⟩:=zc5 hy ht ls ce fl om om om o5
 rw[e6,obind]
 obtain⟨v,s7,e7,o7,_,u7⟩:=zh (n:=4) o6 om om
 simp only[e7,obind]
 obtain⟨s8,am,n8,d8,i8,e8,o8,b1,b2,b3⟩:=zmq hf' hy ht s4 s5 ls fl ce ea co ru (i:=v) om o7 (i64.wrap (360 * f))
 rw[e8]
 try simp only
 have hsm:SmL ⟨f,y,t,ls,ce,fl,ea,co,ru,am⟩:=by
  refine⟨ht.sm,by simp only; omega,fun x hx=>lenC (l2 x hx),by simp only; omega,fun x hx=>lenC (g4 x hx),by simp only; omega,fun x hx=>lenC (g2 x hx),by simp only; omega,fun x hx=>?_,by simp only; omega,fun x hx=>?_,by simp only; omega,by simp only; omega,fun x hx=>⟨?_,fun c hc=>lenC ((b2 x hx).2 c hc)⟩,by simp only; omega⟩
  ·have:=a2 x hx; omega
  ·have:=a4 x hx; omega
  ·have:=(b2 x hx).1; omega
 rw[za7 hsm,obind]
 by_cases he:errL ⟨f,y,t,ls,ce,fl,ea,co,ru,am⟩=0
 ·rw[y5 (by simpa using he),Ga,Ga,Ga,Ga]
  exact⟨_,_,rfl,o8,⟨hf',hy,ht,he,hsm,l1,g3,g1,b1,fun x hx=>(b2 x hx).1⟩,h6,b3⟩
 ·rw[y6 (by simpa using he)]
  exact⟨_,_,rfl,o8,zff hf' hy ht,h6,fun x hx=>by cases hx⟩
end Go.Proofs.YtgfgnhpecnmlpaaGreatDoor
/- Amend. No condition. -/
namespace Go.Proofs.YtgfgnhpecnmlpaaGreatDoor
open Go Go.TA
open Go.IntKind (i64)
attribute [-simp] List.getD_eq_getElem?_getD
def cmpA (a b:TAm):Int:=orE [cmpI a.L b.L,cmpI a.J b.J]
theorem zc9 (a b:TAm):F_q3k a b=some (cmpA a b):=by
 simp only[F_q3k,S_q3k,Scr.den,z2z,z4c,obind,cmpA]
variable {a b:TAm}
theorem z8g:cmpA a b<0↔ltA a b=true:=by
 unfold cmpA ltA
 simp only[z1i,z25,cmpI,yl,y9,y7]
 (repeat' split) <;> omega
theorem z3k:ltA a b=true↔a.L<b.L\/(a.L=b.L/\a.J<b.J):=by
 unfold ltA
 simp only[yl,y9,y7]
theorem z7v:cmpA a b=0↔a.L=b.L/\a.J=b.J:=by
 unfold cmpA
 simp only[z1i,z25,cmpI]
 (repeat' split) <;> omega
abbrev PwA (l:List TAm):Prop:=l.Pairwise fun a b=>ltA a b=true
def posA (l:List TAm) (r:TAm):Nat:=l.findIdx fun x=>!ltA x r
theorem z8h (l:List TAm) (r:TAm):posA l r<=l.length:=y4s
variable {l:List TAm} {r:TAm} {i:Nat}
theorem zfn (hi:i<posA l r):cmpA (l.getD i dF) r<0:=by
 have hl:=z8h l r
 have:=List.not_of_lt_findIdx hi
 rw[z7 om,z8g]
 simpa using this
theorem zld (hi:posA l r<l.length):ltA (l.getD (posA l r) dF) r=false:=by
 have:=y5a (xs:=l) (p:=fun x=>!ltA x r) (w:=hi)
 rw[z7 hi]
 unfold posA
 simpa using this
theorem zfo (hS:PwA l) (hi:i<l.length) (hp:posA l r<=i):0<=cmpA (l.getD i dF) r:=by
 have h1:=zld (show posA l r<l.length from om)
 rcases Int.lt_or_le (cmpA (l.getD i dF) r) 0 with c | c
 ·rw[z8g] at c
  by_cases e:posA l r=i
  ·rw[e,c] at h1; cases h1
  ·have:=y1f.1 hS (posA l r) i om hi om
   rw[<- z7 om,<- z7 hi] at this
   rw[z3k] at c this
   have h2:ltA (l.getD (posA l r) dF) r=true:=by rw[z3k]; omega
   rw[h2] at h1; cases h1
 ·exact c
theorem zev (hl:l.length<=1000000) (hS:PwA l) :
  F_q20 l r=some ((posA l r:Int),decide (posA l r<l.length)&&(cmpA (l.getD (posA l r) dF) r==0)):=by
 have hp:=z8h l r
 simp only[F_q20,S_q20,Scr.den]
 obtain⟨s,e,hJ⟩:=zt (step:=fun s=>(S_q20_b1 l r s).den) (fun s=>(s.2-s.1).toNat) (fun s=>∃ i j:Nat,s=((i:Int),(j:Int))/\i<=posA l r/\posA l r<=j/\j<=l.length) (fun s=>s.1=(posA l r:Int)) (fun s hI=>by
  obtain⟨i,j,rfl,h1,h2,h3⟩:=hI
  simp only[S_q20_b1,Scr.den,zfb (show i+j<4611686018427387904 from om),zc9,obind,yf]
  by_cases hij:i<j
  ·left
   rw[y6 (by simpa using hij),Gb]
   by_cases hlt:cmpA (l.getD ((i+j) / 2) dF) r<0
   ·rw[y6 (by simpa using hlt),wrapId om om]
    have:(i+j) / 2<posA l r:=by
     by_cases h:(i+j) / 2<posA l r
     ·exact h
     ·have:=zfo (r:=r) hS (show (i+j) / 2<l.length from om) om
      omega
    exact⟨_,rfl,⟨(i+j) / 2+1,j,sj,om,h2,h3⟩,by simp only; omega⟩
   ·rw[y5 (by simpa using hlt)]
    have:posA l r<=(i+j) / 2:=by
     by_cases h:posA l r<=(i+j) / 2
     ·exact h
     ·have:=zfn (show (i+j) / 2<posA l r from om)
      omega
    exact⟨_,rfl,⟨i,(i+j) / 2,rfl,h1,this,om⟩,by simp only; omega⟩
  ·right
   rw[y5 (by simpa using hij)]
   exact⟨_,rfl,by simp only; omega⟩) _ (0,(l.length:Int)) (y1t _) ⟨0,l.length,rfl,om,hp,om⟩
 rw[e]
 simp only[outM,hJ,yf,zc9,z9]
 by_cases h:posA l r<l.length
 ·rw[zg (by exact⟨sk,trivial⟩),obind,z3 ⟨fun _=>om,fun _=>h,trivial⟩]
  simp[h]
 ·rw[zo (by simp[AllP]; omega),obind,z3 ⟨fun _=>om,fun h'=>absurd h (by simp[AllP] at h'; omega),trivial⟩]
  simp[h]
theorem zgn {l:TLa} (h:FewL l):F_q21 l=some (l.E,l.F,l.I,l.N,l.K,l.P,l.O,l.M,l.S,l.A):=by
 have g1:=h.t; have g2:=h.li; have g3:=h.c; have g4:=h.f; have g5:=h.e; have g6:=h.o; have g7:=h.r; have g8:=h.a
 simp only[F_q21,S_q21,Scr.den,F_q31,S_q31,F_q32,S_q32,F_q2t,S_q2t,
  F_q33,S_q33,F_q34,S_q34,F_q35,S_q35]
 rw[Ga,obind,Ga,obind,Ga,obind,Ga,obind,Ga,obind,Ga,obind,Ga,obind]
 obtain⟨s,e,hs⟩:=zr (body:=fun i s=>(S_q21_b1 l i s).den) (n:=l.A.length) (fun i s=>s=(l.E,l.F,l.I,l.N,l.K,l.P,l.O,l.M,l.S,l.A.take i))
  (s0:=(l.E,l.F,l.I,l.N,l.K,l.P,l.O,l.M,l.S,[])) rfl (fun i s hi h1=>by
   subst h1
   have hx:=h.x _ (z4 hi)
   refine⟨_,?_,rfl⟩
   simp only[S_q21_b1,Scr.den,F_q36,S_q36]
   rw[Ga,obind,z3 ⟨by rw[y15]; simp only[y11,y1c]; omega,trivial⟩]
   rw[y12 hi,z7 hi])
 rw[e,hs]
 simp only[outM,y2e]
theorem zle {l:List TCh} (hl:l.length<=19) (hg:∀ x∈l,good x.B=true) (hp:PwX l):F_q22 l=some l:=by
 simp only[F_q22,S_q22,F_q4r,S_q4r,Scr.den]
 rw[Ga,obind,zif hl hg,zl9 hp,obind,z3 ⟨rfl,trivial⟩,Ga]
 obtain⟨r,e,h⟩:=zr (body:=fun i s=>(S_q22_b1 l i s).den) (n:=l.length) (fun i s=>s=l.take i) (s0:=[]) rfl (fun i s hi h=>by
  refine⟨_,?_,rfl⟩
  have hs:s.length=i:=by rw[h,y15]; omega
  simp only[S_q22_b1,Scr.den,y17]
  rw[z3 ⟨hi,trivial⟩]
  have et:l.take (i+1)=s++[l.getD i dF]:=by rw[h,y12 hi,z7 hi]
  by_cases h0:i=0
  ·have hd:decide ((s.length:Int)>0)=false:=y27 om
   have hA:¬ AllP [decide ((s.length:Int)>0)=true]:=fun k=>by
    have:=(show _/\_ from k).1
    rw[hd] at this
    cases this
   rw[zo hA,obind,z3 ⟨fun k=>absurd k hA,fun k=>absurd k hA,fun k=>absurd k hA,trivial⟩,y5 (by rw[hd]; simp),Ga,et]
  ·have w:(i64.wrap ((s.length:Int)-1)).toNat=i-1:=by rw[wrapId om om]; omega
   have w0:(0:Int)<=i64.wrap ((s.length:Int)-1):=by rw[wrapId om om]; omega
   have ep:s.getD (i-1) dF=l.getD (i-1) dF:=by
    rw[z7 om,z7 om]
    subst h
    rw[y3t]
   have hlt:=y1f.1 hp (i-1) i om hi om
   rw[<- z7 om,<- z7 hi] at hlt
   have hne:ordC (l.getD (i-1) dF) (l.getD i dF)≠0:=by
    have:=zfg (l.getD (i-1) dF) (l.getD i dF)
    rw[hlt,y7] at this
    omega
   simp only[w,ep]
   rw[z9i (hg _ (z4 om)) (hg _ (z4 hi)),zg (gs:=[decide ((s.length:Int)>0)=true]) ⟨yx om,trivial⟩,obind,z3 ⟨fun _=>w0,fun _=>om,fun _=>om,trivial⟩,y5 (by simp[hne]),Ga,et])
 rw[e,h]
 simp only[outM,y2e]
 rw[Ga]
def insA (l:TLa) (a:TAm):TLa:={ l with A:=insL l.A (posA l.A a) a }
theorem ze6 {l:TLa} (hs:SmL l) (he:errL l=0) (hS:PwA l.A) (hl:a.G.length<=19) (hg:∀ x∈a.G,good x.B=true) (hp:PwX a.G) (hn:∀ x∈l.A,¬ (x.L=a.L/\x.J=a.J)) :
  F_q3m l a=some (if errL (insA l a)=0 then (insA l a,0) else (zL,errL (insA l a))):=by
 have hal:=hs.al
 have hple:=z8h l.A a
 have hlen:l.A.length<=20:=by have:=(zw.1 he).1.li; omega
 have hs':SmL (insA l a):=by
  refine⟨hs.t,hs.tl,hs.li,hs.ll,hs.ce,hs.cl,hs.fl,hs.fll,hs.ea,hs.el,hs.co,hs.col,hs.rl,fun x hx=>?_,by unfold insA; rw[z12]; omega⟩
  rcases z4x.1 hx with rfl | hx
  ·exact⟨om,fun c hc=>lenC (hg c hc)⟩
  ·exact hs.am x hx
 have hnf:(decide (posA l.A a<l.A.length)&&(cmpA (l.A.getD (posA l.A a) dF) a==0))=false:=by
  rw[y13]
  intro h
  simp only[y9,y7,yy] at h
  exact hn _ (z4 h.1) (z7v.1 h.2)
 simp only[F_q3m,S_q3m,Scr.den,z26 hs,he,zev hal hS,hnf,zgn (zaf hs),zle hl hg hp,obind]
 rw[y5 sj,y5 sj]
 simp only[F_q50,yf]
 rw[z3 ⟨om,om,om⟩,obind,z3 ⟨by rw[z12]; omega,trivial⟩]
 rw[show (⟨l.E,l.F,l.I,l.N,l.K,l.P,l.O,l.M,l.S,insL l.A (posA l.A a) a⟩:TLa)=insA l a from rfl,z26 hs',obind]
 by_cases h:errL (insA l a)=0
 ·rw[y6 h,y5 (by simpa using h)]
 ·rw[y5 h,y6 (by simpa using h)]
  rfl
end Go.Proofs.YtgfgnhpecnmlpaaGreatDoor
/- The law AmendmentOrder. No condition. -/
namespace Go.Proofs.YtgfgnhpecnmlpaaGreatDoor
open Go Go.TA
open Go.IntKind (i64)
attribute [-simp] List.getD_eq_getElem?_getD
variable {a b:TAm}
theorem z7w {c:TAm} (h1:ltA a b=true) (h2:ltA b c=true):ltA a c=true:=by
 rw[z3k] at *; omega
theorem ze7 (h:ltA a b=true):a≠b:=fun e=>by
 subst e; rw[z3k] at h; omega
theorem zfp:∀ {a b:List TAm},PwA a->PwA b->(∀ x,x∈a↔x∈b)->a=b
 | [],[],_,_,_=>rfl
 | [],y :: b,_,_,h=>absurd ((h y).2 y14) sj
 | x :: a,[],_,_,h=>absurd ((h x).1 y14) sj
 | x :: a,y :: b,ha,hb,h=>by
  have pa:=y2k.1 ha
  have pb:=y2k.1 hb
  have e:x=y:=by
   rcases yi.1 ((h x).1 y14) with e | e
   ·exact e
   ·rcases yi.1 ((h y).2 y14) with e' | e'
    ·exact e'.symm
    ·exact absurd (z7w (pb.1 x e) (pa.1 y e')) fun k=>ze7 k rfl
  subst e
  rw[zfp pa.2 pb.2 fun z=>?_]
  constructor
  ·intro hz
   rcases yi.1 ((h z).1 (ym _ hz)) with e | e
   ·subst e; exact absurd (pa.1 z hz) fun k=>ze7 k rfl
   ·exact e
  ·intro hz
   rcases yi.1 ((h z).2 (ym _ hz)) with e | e
   ·subst e; exact absurd (pb.1 z hz) fun k=>ze7 k rfl
   ·exact e
variable {L:List TAm}
theorem zfq (hS:PwA L) (hn:∀ x∈L,¬ (x.L=a.L/\x.J=a.J)):PwA (insL L (posA L a) a):=by
 have hle:=z8h L a
 have h1:∀ i,i<posA L a->ltA (L.getD i dF) a=true:=fun i hi=>z8g.1 (zfn hi)
 have h2:∀ i,posA L a<=i->i<L.length->ltA a (L.getD i dF)=true:=fun i hi hl=>by
  have:=zfo hS hl hi
  have hm:=hn _ (z4 hl)
  rw[<- z7v] at hm
  have hk:¬ cmpA (L.getD i dF) a<0:=om
  rw[z8g] at hk
  rw[z7v] at hm
  rw[z3k] at hk |-
  omega
 unfold insL
 show List.Pairwise _ _
 rw[y29,y2k]
 refine⟨hS.sublist (y5q _ _),⟨fun b hb=>?_,hS.sublist (y5r _ _)⟩,fun x hx b hb=>?_⟩
 ·obtain⟨i,hi,rfl⟩:=y1e hb
  rw[y21] at hi
  rw[y3u,<- z7 om]
  exact h2 _ om om
 ·obtain⟨i,hi,rfl⟩:=y1e hx
  rw[y15] at hi
  rw[y3t,<- z7 om]
  have hax:=h1 i om
  rcases yi.1 hb with rfl | hb
  ·exact hax
  ·obtain⟨j,hj,rfl⟩:=y1e hb
   rw[y21] at hj
   rw[y3u,<- z7 om]
   exact z7w hax (h2 _ om om)
def z7x (t:List THe) (f y:Int) (x:TAm):Int :=
 if x.L<0\/x.L>35990\/x.J<1\/x.J>1000000 then 2 else if x.G=[] then 1 else fstE x.G.length (chgE t f y x.G)
variable {t:List THe} {f y:Int}
theorem zfr:fstE L.length (amdE t f y L)=0↔(∀ x∈L,z7x t f y x=0)/\PwA L:=by
 rw[z1m]
 have one:∀ i,amdE t f y L i=0↔z7x t f y (L.getD i dF)=0/\(0<i->ltA (L.getD (i-1) dF) (L.getD i dF)=true):=fun i=>by
  unfold amdE z7x
  by_cases c1:(L.getD i dF).L<0\/(L.getD i dF).L>35990\/(L.getD i dF).J<1\/(L.getD i dF).J>1000000
  ·rw[y6 c1,y6 c1]; simp
  ·rw[y5 c1,y5 c1]
   by_cases c2:0<i/\ltA (L.getD (i-1) dF) (L.getD i dF)=false
   ·rw[y6 c2]
    refine⟨fun h=>absurd h dk,fun h=>?_⟩
    have:=h.2 c2.1
    rw[c2.2] at this; cases this
   ·rw[y5 c2]
    refine⟨fun h=>⟨h,fun h0=>?_⟩,fun h=>h.1⟩
    cases hk:ltA (L.getD (i-1) dF) (L.getD i dF)
    ·exact absurd ⟨h0,hk⟩ c2
    ·rfl
 constructor
 ·intro h
  refine⟨fun x hx=>?_,?_⟩
  ·obtain⟨i,hi,rfl⟩:=y1e hx
   have:=((one i).1 (h i hi)).1
   rwa [z7 hi] at this
  ·rw[show PwA L↔_ from y1f]
   intro i j hi hj hij
   induction j with
   | zero=>omega
   | succ j ih =>
    have hs:=((one (j+1)).1 (h (j+1) hj)).2 om
    rw[Nat.add_sub_cancel,z7 om,z7 hj] at hs
    by_cases e:i=j
    ·subst e; exact hs
    ·exact z7w (ih om om) hs
 ·rintro⟨h1,h2⟩ i hi
  refine (one i).2 ⟨h1 _ (z4 hi),fun h0=>?_⟩
  have:=y1f.1 h2 (i-1) i om hi om
  rwa [<- z7 om,<- z7 hi] at this
def withA (l:TLa) (T:List TAm):TLa:={ l with A:=T }
theorem zmc {x:TAm} (h:z7x t f y x=0):PwX x.G/\∀ c∈x.G,zk t f y c=0:=by
 unfold z7x at h
 split at h
 ·cases h
 split at h
 ·cases h
 rw[z1m] at h
 have one:∀ i,i<x.G.length->zk t f y (x.G.getD i dF)=0/\(0<i->ltX (x.G.getD (i-1) dF) (x.G.getD i dF)=true):=fun i hi=>by
  have:=h i hi
  unfold chgE at this
  exact z6v.1 this
 refine⟨?_,fun c hc=>?_⟩
 ·rw[show PwX x.G↔_ from y1f]
  intro i j hi hj hij
  induction j with
  | zero=>omega
  | succ j ih =>
   have hs:=(one (j+1) hj).2 om
   rw[Nat.add_sub_cancel,z7 om,z7 hj] at hs
   by_cases e:i=j
   ·subst e; exact hs
   ·exact z5r (ih om om) hs
 ·obtain⟨i,hi,rfl⟩:=y1e hc
  have:=(one i hi).1
  rwa [z7 hi] at this
theorem zfs {l:TLa} (he:errL l=0) {T:List TAm} (h1:∀ x∈T,z7x l.I l.E l.F x=0) (h2:PwA T) (h3:T.length<=20) (h4:∀ x∈T,x.G.length<=20):errL (withA l T)=0:=by
 obtain⟨hr,hw,hb⟩:=zw.1 he
 refine zw.2 ⟨⟨hr.yr,hr.tr,?_,hr.ea,hr.sh,hr.co,hr.ru,zfr.2 ⟨h1,h2⟩⟩,⟨hw.lo,hw.l1,hw.co,hw.c1,hw.fo,hw.f1⟩,hb⟩
 have:=hr.li
 intro h
 rcases h with h | h | h | h | h
 ·exact this (.inl h)
 ·exact this (.inr (.inl h))
 ·exact this (.inr (.inr (.inl h)))
 ·exact absurd h (by unfold withA; simp only; omega)
 ·obtain⟨x,hx,e⟩:=y1r.1 h
  have:=h4 x hx
  rw[y7] at e
  omega
theorem z6y {d:Int}:∀ {L:List TAm},PwA L->L.take (L.findIdx fun a=>decide (a.L>d))=L.filter fun a=>decide (a.L<=d)
 | [],_=>rfl
 | a :: L,h=>by
  have hp:=y2k.1 h
  rw[y2s,y4z]
  by_cases c:a.L>d
  ·rw[yx c,y5 (by rw[y7]; omega)]
   simp only[cond_true,List.take_zero]
   refine (List.filter_eq_nil_iff.2 fun x hx=>?_).symm
   have:=hp.1 x hx
   rw[z3k] at this
   rw[y7]; omega
  ·rw[y27 c,y6 (by rw[y7]; omega)]
   simp only[y5u,y40]
   rw[z6y hp.2]
theorem zgo (t:List TLi):F_q2i t t=some true:=by
 simp only[F_q2i,S_q2i,Scr.den]
 rw[y5 sj,z13 fun i hi=>by
  simp only[S_q2i_b1,Scr.den]
  rw[z3 ⟨hi,trivial⟩,y5 sj]]
 rfl
theorem zmd {n:Nat} {L:List Int} (hl:L.length=n) (hm:∀ x,x∈L↔0<=x/\x<n) {i:Nat} (hi:i<L.length):L.getD i dF ∉ L.take i:=fun h=>by
 have:=z7t (fun (k:Nat)=>(k:Int)) (List.range n) (L.take i++L.drop (i+1)) (List.Pairwise.imp (R:=fun (a b:Nat)=>a≠b) (fun {a b:Nat} (k:a≠b) (e:(a:Int)=(b:Int))=>k om) (show (List.range n).Pairwise (fun a b=>a≠b) from List.nodup_range)) fun k hk=>by
  have hk:=y2a.1 hk
  have hx:=(hm (k:Int)).2 om
  have hs:L=L.take i++L.getD i dF :: L.drop (i+1):=by
   conv=>lhs; rw[<- y1w i L,y1a hi]
   rw[<- z7 hi]
  rw[hs] at hx
  rcases yg.1 hx with h1 | h1
  ·exact yg.2 (.inl h1)
  ·rcases yi.1 h1 with h1 | h1
   ·rw[h1]; exact yg.2 (.inl h)
   ·exact yg.2 (.inr h1)
 rw[List.length_range,yd,y15,y21] at this
 omega
instance:DecidableEq TAm:=fun a b=>decidable_of_iff (a.L=b.L/\a.J=b.J/\a.G=b.G) (by
 obtain⟨a1,a2,a3⟩:=a
 obtain⟨b1,b2,b3⟩:=b
 rw[TAm.mk.injEq])
def selA (L:List TAm) (ks:List Int):List TAm:=L.filter fun z=>decide (∃ k∈ks,z=L.getD k.toNat dF)
theorem z6c (L:List TAm) (ks:List Int):(selA L ks).Sublist L:=y41
theorem z8i {ks:List Int} {z:TAm}:z∈selA L ks↔z∈L/\∃ k∈ks,z=L.getD k.toNat dF:=by
 unfold selA
 rw[y19,y7]
theorem z75 (a:List Int):F_q23 a=some true:=by
 obtain⟨s0,e0,o0⟩:=zdk a
 obtain⟨l,s1,e1,o1,hl,h6,hnum⟩:=zio o0
 have he:=hl.ok
 have hal:=hl.al
 obtain⟨ord,s2,e2,o2,olen,omem⟩:=zgm (n:=l.A.length) o1 om
 obtain⟨hr,hw,hb⟩:=zw.1 he
 obtain⟨ham,hpw⟩:=zfr.1 hr.am
 have hfi:=hl.fi; have hye:=hl.ye
 simp only[F_q23,S_q23,Scr.den,e0,e1,e2,obind]
 obtain⟨x,e3,hx⟩:=zr (body:=fun i s=>(S_q23_b1 (l,s1) (ord,s2) i s).den) (n:=ord.length)
  (fun i s=>s=withA l (selA l.A (ord.take i))) (s0:=(⟨l.E,l.F,l.I,l.N,l.K,l.P,l.O,l.M,l.S,[]⟩:TLa)) (by simp[withA,selA]) (fun i s hi h=>by
   have hk:=(omem _).1 (z4 hi)
   have hnd:=zmd olen omem hi
   obtain⟨k,hkd⟩:∃ k,k=ord.getD i dF:=⟨_,rfl⟩
   rw[<- hkd] at hk hnd
   have hkl:k.toNat<l.A.length:=om
   obtain⟨z,hz⟩:∃ z,z=l.A.getD k.toNat dF:=⟨_,rfl⟩
   have hzm:z∈l.A:=by rw[hz]; exact z4 hkl
   have hsub:∀ j,∀ w∈selA l.A (ord.take j),w∈l.A:=fun j w hw=>(z8i.1 hw).1
   have hok:∀ j,errL (withA l (selA l.A (ord.take j)))=0:=fun j =>
    zfs he (fun w hw=>ham w (hsub j w hw)) (hpw.sublist (z6c _ _)) (by have:=(z6c l.A (ord.take j)).length_le; omega) fun w hw=>by have:=hl.ac w (hsub j w hw); omega
   have hc:=zmc (ham z hzm)
   have hzc:=hl.ac z hzm
   have hno:∀ w∈selA l.A (ord.take i),¬ (w.L=z.L/\w.J=z.J):=fun w hw e=>by
    obtain⟨hw1,k',hk',rfl⟩:=z8i.1 hw
    have hk1:=(omem k').1 (y1k hk')
    have hkl':k'.toNat<l.A.length:=om
    have hkk:k'.toNat=k.toNat:=by
     rw[hz,z7 hkl,z7 hkl'] at e
     rcases y5p k'.toNat k.toNat with c | c | c
     ·have:=z3k.1 (y1f.1 hpw _ _ hkl' hkl c); omega
     ·exact c
     ·have:=z3k.1 (y1f.1 hpw _ _ hkl hkl' c); omega
    have:k'=k:=om
    rw[this] at hk'
    exact hnd hk'
   have hins:insL (selA l.A (ord.take i)) (posA (selA l.A (ord.take i)) z) z=selA l.A (ord.take (i+1)):=by
    refine zfp (zfq (hpw.sublist (z6c _ _)) hno) (hpw.sublist (z6c _ _)) fun w=>?_
    rw[z4x,z8i,z8i,y12 hi,<- z7 hi,<- hkd]
    constructor
    ·rintro (rfl | ⟨h1,k',h2,h3⟩)
     ·exact⟨hzm,k,sj,hz⟩
     ·exact⟨h1,k',yg.2 (.inl h2),h3⟩
    ·rintro⟨h1,k',h2,h3⟩
     rcases yg.1 h2 with h2 | h2
     ·exact .inr ⟨h1,k',h2,h3⟩
     ·rw[y3m] at h2
      subst h2
      exact .inl (h3.trans hz.symm)
   have hA:=ze6 (zae (hok i)) (hok i) (hpw.sublist (z6c _ _)) (a:=z) om (fun c hc'=>chgG hr.tr (hc.2 c hc')) hc.1 hno
   have hI:insA (withA l (selA l.A (ord.take i))) z=withA l (selA l.A (ord.take (i+1))):=by
    rw[<- hins]; rfl
   rw[hI,y6 (hok (i+1))] at hA
   refine⟨_,?_,rfl⟩
   simp only[S_q23_b1,Scr.den]
   rw[<- hkd,<- hz,h,hA,obind,z3 ⟨hk.1,hkl,trivial⟩,y5 sj])
 have hx':x=l:=by
  rw[hx,y2e]
  have:selA l.A (ord)=l.A:=by
   unfold selA
   refine y3b.2 fun z hz=>?_
   obtain⟨j,hj,rfl⟩:=y1e hz
   exact yx ⟨(j:Int),(omem _).2 om,by rw[yf,z7 hj]⟩
  rw[this]
  rfl
 rw[e3]
 simp only[outM]
 obtain⟨n,s3,e4,o3,n0,n1⟩:=zh (n:=500) o2 om om
 obtain⟨cs,s4,e5,o4,hcs⟩:=z6b hl.fi hl.ye hl.tr o3
 rw[hx',zi9 (zaf hl.sm),obind,y5 sj]
 have w1:i64.wrap (i64.wrap (360 * l.E)+n)=360 * l.E+n:=by rw[wrapId (n:=360 * l.E) om om,wrapId om om]
 simp only[e4,e5,obind,w1]
 obtain⟨d,hd⟩:∃ d,d=360 * l.E+n:=⟨_,rfl⟩
 rw[<- hd]
 have hcc:∀ c∈cs,zk l.I l.E l.F c=0:=fun c hc=>(hcs.ok c hc).chg hl h6
 have hcp:PwX cs:=List.Pairwise.imp (fun {a b} h=>z6a.2 (.inl h)) hcs.kd
 have hcl:=hcs.le; have hcg:=hcs.ge
 have hno:∀ x∈l.A,¬ (x.L=(⟨d,50,cs⟩:TAm).L/\x.J=(⟨d,50,cs⟩:TAm).J):=fun x hx e=>by
  have:=hnum x hx
  have:=e.2
  simp only at this
  omega
 have hA:=ze6 hl.sm he hpw (a:=⟨d,50,cs⟩) (by simp only; omega) (fun c hc=>chgG hr.tr (hcc c hc)) hcp hno
 rw[hA,obind]
 by_cases hdd:d=0\/d>35990
 ·rw[y6 (by simpa using hdd),z6x,obind]
 ·rw[y5 (by simpa using hdd)]
  have hd0:0<=d:=om
  have hins:insA l ⟨d,50,cs⟩=withA l (insL l.A (posA l.A ⟨d,50,cs⟩) ⟨d,50,cs⟩):=rfl
  have hpw':=zfq hpw hno
  have ha1:z7x l.I l.E l.F ⟨d,50,cs⟩=0:=by
   unfold z7x
   rw[y5 (by simp only; omega),y5 (by simp only; intro e; rw[e] at hcg; simp at hcg),z1m]
   intro i hi
   simp only at hi |-
   unfold chgE
   refine z6v.2 ⟨hcc _ (z4 hi),fun h0=>?_⟩
   have:=y1f.1 hcp (i-1) i om hi om
   rwa [<- z7 om,<- z7 hi] at this
  have hey:errL (insA l ⟨d,50,cs⟩)=0:=by
   rw[hins]
   refine zfs he (fun x hx=>?_) hpw' (by rw[z12]; omega) fun x hx=>?_
   ·rcases z4x.1 hx with rfl | hx
    ·exact ha1
    ·exact ham x hx
   ·rcases z4x.1 hx with rfl | hx
    ·simp only; omega
    ·have:=hl.ac x hx; omega
  rw[y6 hey]
  have w2:i64.wrap (d-1)=d-1:=wrapId om om
  rw[w2]
  have hnow:nowC (insA l ⟨d,50,cs⟩) (d-1)=nowC l (d-1):=by
   unfold nowC laterI
   rw[z6y (L:=(insA l ⟨d,50,cs⟩).A) hpw',z6y hpw]
   congr 1
   show (insL l.A (posA l.A ⟨d,50,cs⟩) ⟨d,50,cs⟩).filter _=_
   unfold insL
   rw[y3n,y4z,y5 (by rw[y7]; simp only; omega),<- y3n,y1w]
  have hforce:∀ (T:List TAm),(applyS (nowC l (d-1)) (withA l T)).N=(applyS (nowC l (d-1)) l).N/\(applyS (nowC l (d-1)) (withA l T)).K=(applyS (nowC l (d-1)) l).K/\(applyS (nowC l (d-1)) (withA l T)).P=(applyS (nowC l (d-1)) l).P:=fun T=>by
   unfold withA
   rw[zi8]
   exact⟨rfl,rfl,rfl⟩
  have f1:forceL (insA l ⟨d,50,cs⟩) (d-1)=applyS (nowC l (d-1)) (withA l ((insA l ⟨d,50,cs⟩).A.drop (laterI (insA l ⟨d,50,cs⟩) (d-1)))):=by
   unfold forceL
   rw[hnow]
   rfl
  have f2:forceL l (d-1)=applyS (nowC l (d-1)) (withA l (l.A.drop (laterI l (d-1)))):=rfl
  have hnb:=hl.nbig (d-1)
  have hnb':¬ bigL (forceL (insA l ⟨d,50,cs⟩) (d-1)):=by
   unfold bigL at hnb |-
   rw[f2,(hforce _).1,(hforce _).2.1,(hforce _).2.2] at hnb
   rw[f1,(hforce _).1,(hforce _).2.1,(hforce _).2.2]
   exact hnb
  have hin:inS (insA l ⟨d,50,cs⟩) (d-1)=(forceL (insA l ⟨d,50,cs⟩) (d-1),0):=by
   unfold inS
   rw[y6 hey,y5 om,y5 hnb']
  simp only[z3s (zae hey),z3s hl.sm,hin,hl.inS (d:=d-1) om,obind,zi,z9]
  rw[y5 sj]
  have hlines:(forceL (insA l ⟨d,50,cs⟩) (d-1)).N=(forceL l (d-1)).N:=by rw[f1,f2,(hforce _).1,(hforce _).1]
  have hlen:(((insA l ⟨d,50,cs⟩).A.length:Int)==i64.wrap ((l.A.length:Int)+1))=true:=by
   rw[wrapId om om]
   show (((insL l.A _ _).length:Int)==_)=true
   rw[z12]
   simp
  rw[hlines,hlen,zgo]
  simp[optD,AllP,z6x]
end Go.Proofs.YtgfgnhpecnmlpaaGreatDoor
