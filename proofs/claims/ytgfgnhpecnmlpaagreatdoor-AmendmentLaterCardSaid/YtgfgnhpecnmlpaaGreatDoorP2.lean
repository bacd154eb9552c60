/- A part of the proof: plain laws of what the functions compute. No condition. -/
import Derived.Test.YtgfgnhpecnmlpaaGreatDoorP1
/- What is drawn: amounts, years, leaves, codes, changes. No condition. -/
namespace Go.Proofs.YtgfgnhpecnmlpaaGreatDoor
open Go Go.TA
open Go.IntKind (i64)
attribute [-simp] List.getD_eq_getElem?_getD
theorem MT.good {t:List THe} (h:MT t):∀ x∈t,good x.B=true:=fun x hx=>hasGood h.ok (y1i.2 ⟨x,hx,sj⟩)
theorem nameL {s:Y8} (h:nameOk s=true):s.length<=40:=by
 unfold nameOk at h
 simp only[y9,y7] at h
 exact h.1.1.1.2
variable {t:List THe}
theorem treeName (h:treeE t=0):∀ x∈t,nameOk x.W=true:=fun x hx=>by
 obtain⟨i,hi,rfl⟩:=z2k hx
 unfold treeE at h
 split at h
 ·cases h
 ·have:=z23.1 h i hi
  unfold headE at this
  split at this
  ·cases this
  ·split at this
   ·cases this
   ·rename_i h; simpa using h
theorem MT.sm (h:MT t):SmT t:=fun x hx=>⟨lenC (h.good x hx),by have:=nameL (treeName h.ok x hx); omega⟩
variable {s:TTape}
theorem z3y (hs:TapeOk s):∃ v s',F_q2b s=some (v,s')/\TapeOk s'/\0<=v/\v<=1000000000000:=by
 obtain⟨a,s1,e1,o1,l1,u1⟩:=zg (n:=1000) hs om om
 obtain⟨b,s2,e2,o2,l2,u2⟩:=zg (n:=1000) o1 om om
 obtain⟨c,s3,e3,o3,l3,u3⟩:=zg (n:=100000) o2 om om
 obtain⟨v,s4,e4,o4,h4⟩:=z22 (l:=[0,100,a,b,c,1000000000000]) o3 sj sj
 refine⟨v,s4,?_,o4,?_⟩
 ·simp only[F_q2b,S_q2b,Scr.den,e1,e2,e3,e4,obind]
 ·simp only[yl,y2m,y3v] at h4
  omega
def YrsOk (f y:Int) (r:List Int):Prop:=1<=r.length/\r.length<=4/\∀ x∈r,x=-1\/(f<=x/\x<f+y)
variable {f y:Int}
theorem z92 (_hf:0<=f/\f<=95) (hy:1<=y/\y<=3) {ρ:Type} {F:List Int×Int->Option (Step (List Int×Int) ρ)} (hF:∀ s:List Int×Int,s.1.length<=100->f<=s.2->s.2<=f+y->F s=some (if s.2<f+y then .cont (s.1++[s.2],s.2+1) else .brk s)) :
  ∃ r,iterM F ([-1],f)=some (.next r)/\YrsOk f y r.1:=by
 refine z1c (step:=F) (fun s:List Int×Int=>(f+y-s.2).toNat) (fun s=>(s.1.length:Int)=1+(s.2-f)/\f<=s.2/\s.2<=f+y/\∀ x∈s.1,x=-1\/(f<=x/\x<f+y)) (fun s=>YrsOk f y s.1) (fun s ⟨h1,h2,h3,h4⟩=>?_) _ _ (y31 _) ⟨sj,sj,by simp only; omega,sj⟩
 rw[hF s om h2 h3]
 by_cases h:s.2<f+y
 ·rw[y6 h]
  refine .inl ⟨_,rfl,⟨by rw[ym,y10]; simp only; omega,by simp only; omega,by simp only; omega,fun x hx=>?_⟩,by simp only; omega⟩
  rcases y15.1 hx with hx | hx
  ·exact h4 x hx
  ·have:x=s.2:=by simpa using hx
   exact .inr om
 ·rw[y5 h]
  exact .inr ⟨_,rfl,om,om,h4⟩
theorem zef (hf:0<=f/\f<=95) (hy:1<=y/\y<=3) (t:List THe) (ls:List TLi) (ce fl:List TBo) (ea:List TEa) (co:List TCo) (ru:List TRu) (am:List TAm) :
  ∃ r,F_qv f y t ls ce fl ea co ru am=some r/\YrsOk f y r:=by
 simp only[F_qv,S_qv,Scr.den]
 obtain⟨r,e,h⟩:=z92 hf hy (F:=fun s=>(S_qv_b1 f y s).den) (fun s h1 h2 h3=>by
  simp only[S_qv_b1,Scr.den]
  rw[wrapId (n:=f+y) om om,wrapId (n:=s.2+1) om om]
  by_cases h:s.2<f+y
  ·rw[y6 (by simpa using h),y6 h,Ga]
  ·rw[y5 (by simpa using h),y5 h])
 rw[e]
 have:=h.2.1
 simp only[outM]
 rw[Ga]
 exact⟨_,rfl,h⟩
theorem zc8 (hf:0<=f/\f<=95) (hy:1<=y/\y<=3) (t:List THe) (ls:List TLi) (ce fl:List TBo) (ea:List TEa) (co:List TCo) (ru:List TRu) (am:List TAm) :
  ∃ r,F_q15 f y t ea co ru ls ce fl am=some r/\YrsOk f y r:=by
 simp only[F_q15,S_q15,Scr.den]
 obtain⟨r,e,h⟩:=z92 hf hy (F:=fun s=>(S_q15_b1 f y s).den) (fun s h1 h2 h3=>by
  simp only[S_q15_b1,Scr.den]
  rw[wrapId (n:=f+y) om om,wrapId (n:=s.2+1) om om]
  by_cases h:s.2<f+y
  ·rw[y6 (by simpa using h),y6 h,Ga]
  ·rw[y5 (by simpa using h),y5 h])
 rw[e]
 have:=h.2.1
 simp only[outM]
 rw[Ga]
 exact⟨_,rfl,h⟩
variable {top:Y8}
theorem zcz (hs:SmT t) (hl:t.length<=1000000) (ht:top.length<=1000000):F_qg t top=some (leavesU t top):=by
 simp only[F_qg,S_qg,Scr.den]
 rw[z1z t (fun h=>good h.B&&(top==[]||und h.B top)&&t.all fun x=>!(par x.B==h.B)) (·.B) 1000000 hl fun i s hi hsl=>by
  obtain⟨hc,_⟩:=hs _ (z4 hi)
  have hin:rangeM (fun i1 s1=>(S_qg_b1 t i i1 s1).den) t.length 0 true=some (.next (t.all fun x=>!(par x.B==(t.getD i dF).B))):=by
   rw[z1q t (fun s x=>s&&!(par x.B==(t.getD i dF).B)) fun j b hj=>by
    obtain⟨hcj,_⟩:=hs _ (z4 hj)
    simp only[S_qg_b1,Scr.den,z2c hcj,z8]
    cases b <;> simp[oT,oF,oN]]
   rw[za9,y1x]
  simp only[S_qg_b2,Scr.den,z1r (l:=(t.getD i dF).B) om,z3i hc ht,obind,hin,outM,z8,zd]
  by_cases hg:good (t.getD i dF).B=true <;> by_cases h0:top=[] <;> by_cases hu:und (t.getD i dF).B top=true <;> simp[hg,h0,hu,oT,oF,oN] <;> (split <;> first | rfl | (rw[z3 ⟨by first | omega | (simp only[yy,y1e]; omega),trivial⟩]))]
 simp only[outM]
 rfl
def leafs (t:List THe):List Y8:=leavesU t [49]++leavesU t [50]
theorem z3k:∀ c∈leavesU t top,good c=true:=fun c hc=>by
 unfold leavesU at hc
 obtain⟨x,hx,rfl⟩:=y19.1 hc
 have:=(y1v.1 hx).2
 simp only[y9] at this
 exact this.1.1
theorem z52 (h:MT t) (hs:TapeOk s):∃ c s',F_q1w t s=some (c,s')/\TapeOk s'/\good c=true/\(leafs t≠[]->c∈leafs t):=by
 have hle:=h.le
 have g1:=z2f t [49]
 have g2:=z2f t [50]
 simp only[F_q1w,S_q1w,Scr.den,zcz h.sm (show t.length<=1000000 from om) (show ([49]:Y8).length<=1000000 from sj),z1n h.sm (show t.length<=1000000 from om) (show ([50]:Y8).length<=1000000 from sj),obind]
 rw[Ga,z3 ⟨by rw[ym]; omega,trivial⟩]
 rw[show leavesU t [49]++leavesU t [50]=leafs t from rfl]
 have gl:(leafs t).length<=22:=by unfold leafs; rw[ym]; omega
 by_cases h0:(leafs t).length=0
 ·rw[y6 (by simp only[yx]; omega)]
  exact⟨_,_,rfl,hs,dk,fun hne=>absurd (y23.1 h0) hne⟩
 ·rw[y5 (by simp only[yx]; omega)]
  obtain⟨v,s',e,o,l,u⟩:=zg (n:=((leafs t).length:Int)) hs om om
  rw[e,obind,z3 ⟨l,om,trivial⟩]
  have hm:=z4 (l:=leafs t) (i:=v.toNat) om
  refine⟨_,_,rfl,o,?_,fun _=>hm⟩
  unfold leafs at hm |-
  rcases y15.1 hm with hm | hm
  ·exact z3k _ hm
  ·exact z3k _ hm
theorem zc9 (hs:TapeOk s):∃ c s',F_q30 s=some (c,s')/\TapeOk s'/\c.length<=60:=by
 simp only[F_q30,S_q30,Scr.den]
 obtain⟨v,s',h3,h4,h5,h6⟩:=zg (n:=12) hs om om
 have h:∀ c∈([[],[48],[48,49],[49,46],[46,49],[49,46,46,50],[49,48,48],[49,46,50,46,51,46,52,46,53],[120],[49,32],[57,57,46,57,57,46,57,57,46,57,57],[52]]:List Y8),c.length<=60:=dk
 refine⟨_,s',?_,h4,h _ (z4 (show v.toNat<12 from om))⟩
 rw[h3,obind,z3 ⟨by simpa using h5,by simp only; omega,trivial⟩]
theorem zan (h:MT t) (hs:TapeOk s):∃ c s',F_qw t s=some (c,s')/\TapeOk s'/\c.length<=60:=by
 have hge:=h.ge
 have hle:=h.le
 simp only[F_qw,S_qw,Scr.den,zd]
 obtain⟨v,s1,e1,o1,l1,u1⟩:=zg (n:=12) hs om om
 have h0:((t.length:Int)==0)=false:=by simp only[y29,ne_eq]; omega
 rw[ze (by simp only[AllP,y34]; exact h0),e1,obind,h0,y4e]
 by_cases hv:v=11
 ·rw[y6 (by simpa using hv)]
  obtain⟨c,s',h1,h2,h3⟩:=zc9 o1
  exact⟨_,_,by rw[h1,obind],h2,h3⟩
 ·rw[y5 (by simpa using hv)]
  obtain⟨w,s',h1,h2,h3,h4⟩:=zg (n:=(t.length:Int)) o1 om om
  rw[h1,obind,z3 ⟨h3,om,trivial⟩]
  refine⟨_,_,rfl,h2,?_⟩
  have:=z34 (h.good _ (z4 (show w.toNat<t.length from om)))
  show (t.getD w.toNat dF).B.length<=60
  omega
end Go.Proofs.YtgfgnhpecnmlpaaGreatDoor
/- Changes that are made. No condition. -/
namespace Go.Proofs.YtgfgnhpecnmlpaaGreatDoor
open Go Go.TA
open Go.IntKind (i64)
attribute [-simp] List.getD_eq_getElem?_getD
structure ChOk (f y:Int) (t:List THe) (c:TCh):Prop where
 gd:good c.B=true
 k:c.C=1\/c.C=2\/c.C=3
 k1:c.C=1->(leafs t≠[]->c.B∈leafs t)/\(f<=c.J/\c.J<f+y)/\0<=c.M/\c.M<=1000000000000
 k2:c.C≠1->has t c.B=true/\(c.J=-1\/(f<=c.J/\c.J<f+y))/\(0<=c.M/\c.M<=1000000000000\/(c.C=2/\c.M=-1))
structure ChsOk (f y:Int) (t:List THe) (l:List TCh):Prop where
 ok:∀ c∈l,ChOk f y t c
 le:l.length<=3
 ge:1<=l.length
 kd:l.Pairwise fun a b=>a.C<b.C
theorem zca {f y:Int} (hf:0<=f/\f<=95) (hy:1<=y/\y<=3) {t:List THe} (ht:MT t) (ea:List TEa) (co:List TCo) (ru:List TRu) (ls:List TLi) (ce fl:List TBo) (am:List TAm)
  {s:TTape} (hs:TapeOk s):∃ cs s',F_qx f y t ea co ru s ls ce fl am=some (cs,s')/\TapeOk s'/\ChsOk f y t cs:=by
 have hge:=ht.ge; have hle:=ht.le
 simp only[F_qx,S_qx,Scr.den]
 obtain⟨st,e,o,h1,h2,h3,h4⟩:=z1c (step:=fun s=>(S_qx_b1 f y t ea co ru ls ce fl am s).den) (fun s=>(4-s.2.2).toNat)
  (fun s=>TapeOk s.1/\(∀ c∈s.2.1,ChOk f y t c)/\(s.2.1.length:Int)<=s.2.2-1/\(2<=s.2.2->1<=s.2.1.length)/\(1<=s.2.2/\s.2.2<=4)/\s.2.1.Pairwise (fun a b=>a.C<b.C)/\∀ c∈s.2.1,c.C<s.2.2)
  (fun s=>TapeOk s.1/\(∀ c∈s.2.1,ChOk f y t c)/\s.2.1.length<=3/\1<=s.2.1.length/\s.2.1.Pairwise (fun a b=>a.C<b.C)) (fun s ⟨o,c,l,g,k,p,q⟩=>by
   simp only[S_qx_b1,Scr.den]
   by_cases hk:¬ s.2.2<=3
   ·right
    rw[y5 (by simpa using hk)]
    exact⟨_,rfl,o,c,by simp only; omega,g om,p⟩
   ·left
    have hk:s.2.2<=3:=y49.1 hk
    have w1:i64.wrap (s.2.2+1)=s.2.2+1:=wrapId om om
    obtain⟨v,s1,e1,o1,l1,u1⟩:=zg (n:=2) o om om
    rw[y6 (by simpa using hk),e1,obind,w1]
    simp only[z8]
    by_cases hv:v=0/\0<s.2.1.length
    ·rw[y6 (by simp only[y9,yx,y7]; omega)]
     exact⟨_,rfl,⟨o1,c,by simp only; omega,fun _=>hv.2,by simp only; omega,p,fun x hx=>by have:=q x hx; simp only; omega⟩,by simp only; omega⟩
    rw[y5 (by simp only[y9,yx,y7]; omega)]
    obtain⟨w,s2,e2,o2,l2,u2⟩:=zg (n:=(t.length:Int)) o1 om om
    obtain⟨r,e3,r1,r2,r3⟩:=zc8 hf hy t ls ce fl ea co ru am
    obtain⟨yv,s3,e4,o3,my⟩:=z22 (l:=r) o2 r1 om
    obtain⟨a,s4,e5,o4,a0,a1⟩:=z3y o3
    simp only[e2,e3,e4,e5,obind]
    rw[z3 ⟨l2,om,trivial⟩]
    have hw:w.toNat<t.length:=om
    have hgw:=ht.good _ (z4 hw)
    have hhw:has t (t.getD w.toNat dF).B=true:=y1i.2 ⟨_,z4 hw,sj⟩
    have hyv:=r3 yv my
    have fin:∀ (s5:TTape) (x:TCh),TapeOk s5->ChOk f y t x->x.C=s.2.2 ->
      ∃ s',guardP (AllP [(s.2.1.length+1) * (2 * 40)<=2 ^ 48]) (some (Step.cont (s5,s.2.1++[x],s.2.2+1)):Option (Step (TTape×List TCh×Int) R_qx))=some (.cont s') /\
       (TapeOk s'.1/\(∀ c∈s'.2.1,ChOk f y t c)/\(s'.2.1.length:Int)<=s'.2.2-1/\(2<=s'.2.2->1<=s'.2.1.length)/\(1<=s'.2.2/\s'.2.2<=4)/\s'.2.1.Pairwise (fun a b=>a.C<b.C)/\∀ c∈s'.2.1,c.C<s'.2.2)/\(4-s'.2.2).toNat<(4-s.2.2).toNat:=fun s5 x o5 hx hxk=>by
     rw[Ga]
     refine⟨_,rfl,⟨o5,fun z hz=>?_,by rw[ym,y10]; simp only; omega,fun _=>by rw[ym,y10]; omega,by simp only; omega,?_,fun z hz=>?_⟩,by simp only; omega⟩
     ·rcases y15.1 hz with hz | hz
      ·exact c z hz
      ·have:z=x:=by simpa using hz
       rw[this]; exact hx
     ·refine y4v.2 ⟨p,List.pairwise_singleton _ _,fun a ha b hb=>?_⟩
      have:b=x:=by simpa using hb
      rw[this,hxk]; exact q a ha
     ·rcases y15.1 hz with hz | hz
      ·have:=q z hz; simp only; omega
      ·have:z=x:=by simpa using hz
       rw[this,hxk]; simp only; omega
    by_cases k1:s.2.2=1
    ·rw[y6 (by simpa using k1)]
     obtain⟨lc,s5,e6,o5,gl,ml⟩:=z52 ht o4
     obtain⟨z,s6,e7,o6,l6,u6⟩:=zg (n:=y) o5 om om
     have w2:i64.wrap (f+z)=f+z:=wrapId om om
     simp only[e6,e7,obind,outM,w2]
     exact fin s6 _ o6 ⟨gl,.inl k1,fun _=>⟨ml,⟨by simp only; omega,by simp only; omega⟩,a0,a1⟩,fun h=>absurd k1 h⟩ rfl
    ·rw[y5 (by simpa using k1)]
     by_cases k2:s.2.2=2
     ·obtain⟨z,s5,e6,o5,l6,u6⟩:=zg (n:=3) o4 om om
      rw[ze (by simp[AllP,k2]),e6,obind]
      by_cases hz:z=0
      ·rw[y6 (by simp[k2,hz])]
       simp only[outM]
       exact fin s5 _ o5 ⟨hgw,.inr (.inl k2),fun h=>absurd h k1,fun _=>⟨hhw,hyv,.inr ⟨k2,rfl⟩⟩⟩ rfl
      ·rw[y5 (by simp[k2,hz]),y5 (by simp[k2])]
       simp only[outM]
       exact fin s5 _ o5 ⟨hgw,.inr (.inl k2),fun h=>absurd h k1,fun _=>⟨hhw,hyv,.inl ⟨a0,a1⟩⟩⟩ rfl
     ·have k3:s.2.2=3:=om
      rw[zr (by simp[AllP,k2]),obind]
      obtain⟨z,s5,e6,o5,l6,u6⟩:=zg (n:=200) o4 om om
      rw[y5 (by simp[k2]),y6 (by simp[k3])]
      simp only[e6,obind,outM]
      exact fin s5 _ o5 ⟨hgw,.inr (.inr k3),fun h=>absurd h k1,fun _=>⟨hhw,hyv,.inl ⟨l6,by simp only; omega⟩⟩⟩ rfl) _ (s,[],1) (y31 _)
  ⟨hs,sj,sj,sj,sj,y4b,sj⟩
 rw[e]
 simp only[outM]
 rw[Ga]
 exact⟨_,_,rfl,o,h1,h2,h3,h4⟩
end Go.Proofs.YtgfgnhpecnmlpaaGreatDoor
/- What else is made: earmarks,conditions,rules. No condition. -/
namespace Go.Proofs.YtgfgnhpecnmlpaaGreatDoor
open Go Go.TA
open Go.IntKind (i64)
attribute [-simp] List.getD_eq_getElem?_getD
def EaS (l:List TEa):Prop:=∀ x∈l,x.N.length<=60/\x.B.length<=60
def CoS (l:List TCo):Prop:=∀ x∈l,x.N.length<=60/\x.B.length<=60
def RuS (l:List TRu):Prop:=∀ x∈l,x.U.length<=60/\x.V.length<=60
theorem z5i {c:Y8} (h:good c=true):c.length<=60:=by have:=z34 h; omega
section
variable {f y:Int} (hy:1<=y/\y<=3) {t:List THe} (ht:MT t)
include ht
theorem zjn (rv:R_q3) (hrv:∀ c∈rv,good c=true) (hrl:rv.length<=11) {s:TTape} (hs:TapeOk s) :
  ∃ r,rangeM (fun i s=>(S_q1_b1 rv i s).den) rv.length 0 (s,f,y,t,[])=some (.next r)/\TapeOk r.1/\r.2.1=f/\r.2.2.1=y/\r.2.2.2.1=t/\r.2.2.2.2.length<=11/\EaS r.2.2.2.2:=by
 obtain⟨r,e,h1,h2,h3,h4,h5,h6⟩:=z13 (body:=fun i s=>(S_q1_b1 rv i s).den) (n:=rv.length) (fun i r=>TapeOk r.1/\r.2.1=f/\r.2.2.1=y/\r.2.2.2.1=t/\r.2.2.2.2.length<=i/\EaS r.2.2.2.2) (s0:=(s,f,y,t,[])) ⟨hs,rfl,rfl,rfl,sj,fun x hx=>by cases hx⟩
  (fun i s hi ⟨o,q1,q2,q3,q4,q5⟩=>by
   obtain⟨s0,f0,y0,t0,ea⟩:=s
   simp only at o q1 q2 q3 q4 q5
   subst q1; subst q2; subst q3
   obtain⟨v,s1,e1,o1,l1,u1⟩:=zg (n:=2) o om om
   simp only[S_q1_b1,Scr.den,e1,obind]
   by_cases hv:v=0
   ·rw[y6 (by simpa using hv)]
    obtain⟨c,s2,e2,o2,gc,_⟩:=z52 ht o1
    obtain⟨p,s3,e3,o3,_⟩:=z22 (l:=[0,10,33,50]) o2 sj sj
    simp only[e2,e3,obind]
    rw[Ga]
    refine⟨_,rfl,o3,rfl,rfl,rfl,by rw[ym,y10]; omega,fun x hx=>?_⟩
    rcases y15.1 hx with hx | hx
    ·exact q5 x hx
    ·have:x=⟨rv.getD i dF,c,p⟩:=by simpa using hx
     rw[this]
     exact⟨z5i (hrv _ (z4 hi)),z5i gc⟩
   ·rw[y5 (by simpa using hv)]
    exact⟨_,rfl,o1,rfl,rfl,rfl,by simp only; omega,q5⟩)
 exact⟨r,e,h1,h2,h3,h4,om,h6⟩
include hy
theorem zjo (p2:List TLi) (p3 p4:List TBo) (p7:List TRu) (p8:List TAm) (ea:List TEa) {i:Int} (hi:i<=3) {s:TTape} (hs:TapeOk s) :
  ∃ r,iterM (fun s=>(S_q1_b2 p2 p3 p4 p7 p8 s).den) (s,f,y,t,ea,[],i)=some (.next r)/\TapeOk r.1/\r.2.1=f/\r.2.2.1=y/\r.2.2.2.1=t/\r.2.2.2.2.1=ea/\r.2.2.2.2.2.1.length<=3/\CoS r.2.2.2.2.2.1:=by
 refine z1c (step:=fun s=>(S_q1_b2 p2 p3 p4 p7 p8 s).den) (fun s=>s.2.2.2.2.2.2.toNat)
  (fun r=>TapeOk r.1/\r.2.1=f/\r.2.2.1=y/\r.2.2.2.1=t/\r.2.2.2.2.1=ea/\(r.2.2.2.2.2.1.length:Int)+max r.2.2.2.2.2.2 0<=3/\r.2.2.2.2.2.2<=3/\CoS r.2.2.2.2.2.1)
  (fun r=>TapeOk r.1/\r.2.1=f/\r.2.2.1=y/\r.2.2.2.1=t/\r.2.2.2.2.1=ea/\r.2.2.2.2.2.1.length<=3/\CoS r.2.2.2.2.2.1) (fun s ⟨o,q1,q2,q3,q4,q5,q6,q7⟩=>?_) _ _ (y31 _) ⟨hs,rfl,rfl,rfl,rfl,by simp only[y1e]; omega,hi,fun x hx=>by cases hx⟩
 obtain⟨s0,f0,y0,t0,e0,co,k⟩:=s
 simp only at o q1 q2 q3 q4 q5 q6 q7
 subst q1; subst q2; subst q3; subst q4
 simp only[S_q1_b2,Scr.den]
 by_cases hk:k>0
 ·left
  rw[y6 (by simpa using hk)]
  have w1:i64.wrap (k-1)=k-1:=wrapId om om
  obtain⟨c,s1,e1,o1,gc,_⟩:=z52 ht o
  obtain⟨v2,s2,e2,o2,l2,u2⟩:=zg (n:=y0) o1 om om
  obtain⟨v3,s3,e3,o3,_,_⟩:=z3y o2
  obtain⟨v4,s4,e4,o4,_⟩:=z22 (l:=[50,200,v3]) o3 sj sj
  obtain⟨v5,s5,e5,o5,_,_⟩:=zg (n:=360) o4 om om
  obtain⟨v6,s6,e6,o6,_,_⟩:=zg (n:=2) o5 om om
  simp only[e1,e2,e3,e4,e5,e6,obind,w1]
  have fin:∀ (s7:TTape) (x:TCo),TapeOk s7->x.N.length<=60/\x.B.length<=60 ->
    ∃ r,guardP (AllP [(co.length+1) * (2 * 72)<=2 ^ 48]) (some (Step.cont (s7,f0,y0,t0,e0,co++[x],k-1)):Option (Step (TTape×Int×Int×List THe×List TEa×List TCo×Int) R_q1))=some (.cont r) /\
     (TapeOk r.1/\r.2.1=f0/\r.2.2.1=y0/\r.2.2.2.1=t0/\r.2.2.2.2.1=e0/\(r.2.2.2.2.2.1.length:Int)+max r.2.2.2.2.2.2 0<=3/\r.2.2.2.2.2.2<=3/\CoS r.2.2.2.2.2.1)/\r.2.2.2.2.2.2.toNat<k.toNat:=fun s7 x o7 hx=>by
   rw[Ga]
   refine⟨_,rfl,⟨o7,rfl,rfl,rfl,rfl,by rw[ym,y10]; simp only; omega,by simp only; omega,fun z hz=>?_⟩,by simp only; omega⟩
   rcases y15.1 hz with hz | hz
   ·exact q7 z hz
   ·have:z=x:=by simpa using hz
    rw[this]; exact hx
  by_cases hv:v6=0
  ·rw[y6 (by simpa using hv)]
   obtain⟨v7,s7,e7,o7,_,_⟩:=zg (n:=2000) o6 om om
   simp only[e7,obind,outM]
   exact fin s7 _ o7 ⟨sj,z5i gc⟩
  ·rw[y5 (by simpa using hv)]
   simp only[outM]
   exact fin s6 _ o6 ⟨sj,z5i gc⟩
 ·right
  rw[y5 (by simpa using hk)]
  exact⟨_,rfl,o,rfl,rfl,rfl,rfl,by simp only; omega,q7⟩
omit hy in
theorem zjp (p2:List TLi) (p3 p4:List TBo) (p8:List TAm) (h2:p2.length<=1000000) (h3:p3.length<=1000000) (h4:p4.length<=1000000) (h8:p8.length<=1000000) (ea:List TEa) (co:List TCo) {s:TTape} (hs:TapeOk s) :
  ∃ r,iterM (fun s=>(S_q1_b3 p2 p3 p4 p8 s).den) (s,f,y,t,ea,co,0,[],1)=some (.next r)/\TapeOk r.1/\r.2.1=f/\r.2.2.1=y/\r.2.2.2.1=t/\r.2.2.2.2.1=ea/\r.2.2.2.2.2.1=co /\
   r.2.2.2.2.2.2.1<=r.2.2.2.2.2.2.2.1.length/\r.2.2.2.2.2.2.2.1.length<=3/\RuS r.2.2.2.2.2.2.2.1:=by
 refine z1c (step:=fun s=>(S_q1_b3 p2 p3 p4 p8 s).den) (fun s=>(4-s.2.2.2.2.2.2.2.2).toNat)
  (fun r=>TapeOk r.1/\r.2.1=f/\r.2.2.1=y/\r.2.2.2.1=t/\r.2.2.2.2.1=ea/\r.2.2.2.2.2.1=co/\r.2.2.2.2.2.2.1<=r.2.2.2.2.2.2.2.1.length/\(r.2.2.2.2.2.2.2.1.length:Int)<=r.2.2.2.2.2.2.2.2-1/\(1<=r.2.2.2.2.2.2.2.2/\r.2.2.2.2.2.2.2.2<=4)/\RuS r.2.2.2.2.2.2.2.1)
  (fun r=>TapeOk r.1/\r.2.1=f/\r.2.2.1=y/\r.2.2.2.1=t/\r.2.2.2.2.1=ea/\r.2.2.2.2.2.1=co/\r.2.2.2.2.2.2.1<=r.2.2.2.2.2.2.2.1.length/\r.2.2.2.2.2.2.2.1.length<=3/\RuS r.2.2.2.2.2.2.2.1) (fun s ⟨o,q1,q2,q3,q4,q5,q6,q7,q8,q9⟩=>?_) _ _ (y31 _)
  ⟨hs,rfl,rfl,rfl,rfl,rfl,ya _,sj,sj,fun x hx=>by cases hx⟩
 obtain⟨s0,f0,y0,t0,e0,co0,n,row,i⟩:=s
 simp only at o q1 q2 q3 q4 q5 q6 q7 q8 q9
 subst q1; subst q2; subst q3; subst q4; subst q5
 obtain⟨v,s1,e1,o1,l1,u1⟩:=zg (n:=4) o om om
 simp only[S_q1_b3,Scr.den,e1,obind]
 by_cases hi:i<=v
 ·left
  rw[y6 (by simpa using hi)]
  have w1:i64.wrap (i+1)=i+1:=wrapId om om
  obtain⟨c1,s2,e2,o2,g2⟩:=zan ht o1
  obtain⟨c2,s3,e3,o3,g3⟩:=zan ht o2
  obtain⟨pc,s4,e4,o4,_⟩:=z22 (l:=[0,10,50,100]) o3 sj sj
  simp only[e2,e3,e4,obind,w1]
  by_cases hn:n=row.length
  ·rw[y6 (y17 hn)]
   have hl:(row++[(⟨i,c1,c2,pc⟩:TRu)]).length=row.length+1:=sj
   have hw:i64.wrap (((row++[(⟨i,c1,c2,pc⟩:TRu)]).length:Int)-1)=((row.length:Nat):Int):=by rw[hl,wrapId om om]; omega
   rw[Ga]
   simp only[F_q2m,S_q2m,Scr.den,z3j,obind,hw,yd,y13]
   have hru:RuS (row++[(⟨i,c1,c2,pc⟩:TRu)]):=fun x hx=>by
    rcases y15.1 hx with hx | hx
    ·exact q9 x hx
    ·have:x=⟨i,c1,c2,pc⟩:=by simpa using hx
     rw[this]; exact⟨g2,g3⟩
   generalize hB:has t0 ((row++[(⟨i,c1,c2,pc⟩:TRu)]).getD row.length dF).U=b1
   generalize hB2:has t0 ((row++[(⟨i,c1,c2,pc⟩:TRu)]).getD row.length dF).V=b2
   have key:∀ b:Bool,∃ r,guardP (AllP [(0:Int)<=(row.length:Int),row.length<(row++[(⟨i,c1,c2,pc⟩:TRu)]).length,row.length<(row++[(⟨i,c1,c2,pc⟩:TRu)]).length]) (some b)=some r:=fun b=>⟨b,by rw[Gc]⟩
   cases b1 <;> cases b2 <;> simp only[y3x,y52,y30,zd,oT,oF,oN] <;> rw[obind,z3 (by simp[AllP])] <;>
    (first
     | (rw[y6 dk,z3 (by simp[AllP])]; exact⟨_,rfl,⟨o4,rfl,rfl,rfl,rfl,rfl,by simp only; omega,by simp only; omega,by simp only; omega,hru⟩,by simp only; omega⟩)
     | (rw[y5 dk]; exact⟨_,rfl,⟨o4,rfl,rfl,rfl,rfl,rfl,by simp only; omega,by simp only; omega,by simp only; omega,hru⟩,by simp only; omega⟩))
  ·rw[y5 (by simpa using hn)]
   have hl:(copyL row n 1 (fun i_1=>([(⟨i,c1,c2,pc⟩:TRu)]:List TRu).getD i_1 dF)).length=row.length:=zl
   have hw:i64.wrap (((n:Int)+1)-1)=((n:Nat):Int)/\i64.wrap (((n+1:Nat):Int)-1)=((n:Nat):Int):=⟨by rw[wrapId om om]; omega,by rw[wrapId om om]; omega⟩
   rw[Ga]
   simp only[F_qe,S_qe,Scr.den,z3j,obind,hw,yd,y13]
   have hru:RuS (copyL row n 1 (fun i_1=>([(⟨i,c1,c2,pc⟩:TRu)]:List TRu).getD i_1 dF)):=fun x hx=>by
    unfold copyL at hx
    obtain⟨j,hj,rfl⟩:=y19.1 hx
    have hj:=y1z.1 hj
    split
    ·have:j-n=0:=om
     rw[this]
     exact⟨g2,g3⟩
    ·exact q9 _ (z4 hj)
   rw[z3 ⟨om,om,om,⟨om,om⟩,om⟩,obind]
   generalize has t0 ((copyL row n 1 (fun i_1=>([(⟨i,c1,c2,pc⟩:TRu)]:List TRu).getD i_1 dF)).getD n dF).U=b1
   generalize has t0 ((copyL row n 1 (fun i_1=>([(⟨i,c1,c2,pc⟩:TRu)]:List TRu).getD i_1 dF)).getD n dF).V=b2
   rw[z3 ⟨om,om,om,⟨om,om⟩,om⟩]
   have hnn:n+1<=row.length:=om
   cases b1 <;> cases b2 <;> simp only[y3x,y52,y30,zd,oT,oF,oN] <;> rw[obind,z3 (by simp[AllP,hl]; try omega)] <;>
    (first
     | (rw[y6 dk,z3 (by simp[AllP,hl]; try omega)]; exact⟨_,rfl,⟨o4,rfl,rfl,rfl,rfl,rfl,by simp only; omega,by simp only; omega,by simp only; omega,hru⟩,by simp only; omega⟩)
     | (rw[y5 dk]; exact⟨_,rfl,⟨o4,rfl,rfl,rfl,rfl,rfl,by simp only; omega,by simp only; omega,by simp only; omega,hru⟩,by simp only; omega⟩))
 ·right
  rw[y5 (by simpa using hi)]
  exact⟨_,rfl,o1,rfl,rfl,rfl,rfl,rfl,q6,by simp only; omega,q9⟩
end
end Go.Proofs.YtgfgnhpecnmlpaaGreatDoor
/- Laws that are made. No condition. -/
namespace Go.Proofs.YtgfgnhpecnmlpaaGreatDoor
open Go Go.TA
open Go.IntKind (i64)
attribute [-simp] List.getD_eq_getElem?_getD
theorem zjb (p2:List TLi) (p3 p4:List TBo) (p7:List TRu) (p8:List TAm) (s:TTape×Int×Int×List THe×List TEa×List TCo×Int):(S_q1_b4 p2 p3 p4 p7 p8 s).den=(S_q1_b2 p2 p3 p4 p7 p8 s).den:=by
 simp only[S_q1_b4,S_q1_b2,Scr.den]
theorem zjc (p2:List TLi) (p3 p4:List TBo) (p8:List TAm) (s:TTape×Int×Int×List THe×List TEa×List TCo×Nat×List TRu×Int):(S_q1_b5 p2 p3 p4 p8 s).den=(S_q1_b3 p2 p3 p4 p8 s).den:=by
 simp only[S_q1_b5,S_q1_b3,Scr.den]
theorem zg1 {f y:Int} (hy:1<=y/\y<=3) {t:List THe} (ht:MT t) (p2:List TLi) (p3 p4:List TBo) (h2:p2.length<=1000000) (h3:p3.length<=1000000) (h4:p4.length<=1000000) {s:TTape} (hs:TapeOk s) :
  ∃ s' ea co ru,F_q1 s f y t p2 p3 p4 [] [] [] []=some (s',f,y,t,ea,co,ru)/\TapeOk s'/\ea.length<=12/\EaS ea/\co.length<=3/\CoS co/\ru.length<=3/\RuS ru:=by
 have hge:=ht.ge; have hle:=ht.le
 simp only[F_q1,S_q1,Scr.den,z1n ht.sm (show t.length<=1000000 from om) (show ([57]:Y8).length<=1000000 from sj),obind]
 have hll:=z2f t [57]
 obtain⟨r,e,o,q1,q2,q3,q4,q5⟩:=zjn (f:=f) (y:=y) ht (leavesU t [57]) z3k om hs
 obtain⟨s0,f0,y0,t0,ea⟩:=r
 simp only at o q1 q2 q3 q4 q5
 subst q1; subst q2; subst q3
 rw[e]
 simp only[outM]
 rw[Ga]
 have hrest:∀ (s1:TTape) (ea:List TEa),TapeOk s1->ea.length<=12->EaS ea->∃ s' co ru,
   (F_q0 4 s1).bind (fun r=>outM (iterM (fun s=>(S_q1_b2 p2 p3 p4 [] [] s).den) (r.2,f0,y0,t0,ea,[],r.1)) (fun s=>guardP (AllP [s.2.2.2.2.2.1.length<2 ^ 63])
    (outM (iterM (fun s_1=>(S_q1_b3 p2 p3 p4 [] s_1).den) (s.1,s.2.1,s.2.2.1,s.2.2.2.1,s.2.2.2.2.1,s.2.2.2.2.2.1,0,[],1)) (fun s=>guardP (AllP [s.2.2.2.2.2.2.2.1.length<2 ^ 63/\s.2.2.2.2.2.2.1<=s.2.2.2.2.2.2.2.1.length])
     (some (s.1,s.2.1,s.2.2.1,s.2.2.2.1,s.2.2.2.2.1,s.2.2.2.2.2.1,s.2.2.2.2.2.2.2.1.take s.2.2.2.2.2.2.1))) fun x=>some (id x))) fun x=>some (id x))=some (s',f0,y0,t0,ea,co,ru)/\TapeOk s'/\co.length<=3/\CoS co/\ru.length<=3/\RuS ru:=fun s1 ea o1 h1 h1'=>by
  obtain⟨v,s2,e2,o2,l2,u2⟩:=zg (n:=4) o1 om om
  rw[e2,obind]
  obtain⟨r,e3,k1,k2,k3,k4,k5,k6,k7⟩:=zjo (f:=f0) hy ht p2 p3 p4 [] [] ea (i:=v) om o2
  obtain⟨s3,f3,y3,t3,ea3,co3,i3⟩:=r
  simp only at k1 k2 k3 k4 k5 k6 k7
  subst k2; subst k3; subst k4; subst k5
  simp only[e3,outM]
  rw[Ga]
  obtain⟨r,e4,j1,j2,j3,j4,j5,j6,j7,j8,j9⟩:=zjp (f:=f3) (y:=y3) ht p2 p3 p4 [] h2 h3 h4 sj ea3 co3 k1
  obtain⟨s4,f4,y4,t4,ea4,co4,n4,row,i4⟩:=r
  simp only at j1 j2 j3 j4 j5 j6 j7 j8 j9
  subst j2; subst j3; subst j4; subst j5; subst j6
  simp only[e4]
  rw[z3 ⟨⟨om,j7⟩,trivial⟩]
  exact⟨s4,_,_,rfl,j1,k6,k7,by rw[y1l]; omega,fun x hx=>j9 x (y1p hx)⟩
 have hpos:AllP [decide ((ea.length:Int)>0)=true]->0<ea.length:=fun h=>by have h:=h.1; simp only[y7] at h; omega
 have go:∀ (b:Bool) (s1:TTape) (v1:Int),TapeOk s1->b=(decide ((ea.length:Int)>0)&&!((ea.getD 0 dF).N==[57]))->∃ s' ea' co ru,(guardP (AllP [AllP [decide ((ea.length:Int)>0)=true]->0<ea.length]) (if (b&&v1==0)=true then
   (F_q1w t0 s1).bind fun r=>(F_q0 51 r.2).bind fun r_1=>guardP (AllP [([(⟨[57],r.1,r_1.1⟩:TEa)].length+ea.length) * (2 * 40)<=2 ^ 48]) (guardP (AllP [([(⟨[57],r.1,r_1.1⟩:TEa)]++ea).length<2 ^ 63])
    ((F_q0 4 r_1.2).bind (fun r_2=>outM (iterM (fun s=>(S_q1_b2 p2 p3 p4 [] [] s).den) (r_2.2,f0,y0,t0,[(⟨[57],r.1,r_1.1⟩:TEa)]++ea,[],r_2.1)) (fun s=>guardP (AllP [s.2.2.2.2.2.1.length<2 ^ 63])
    (outM (iterM (fun s_1=>(S_q1_b3 p2 p3 p4 [] s_1).den) (s.1,s.2.1,s.2.2.1,s.2.2.2.1,s.2.2.2.2.1,s.2.2.2.2.2.1,0,[],1)) (fun s=>guardP (AllP [s.2.2.2.2.2.2.2.1.length<2 ^ 63/\s.2.2.2.2.2.2.1<=s.2.2.2.2.2.2.2.1.length])
     (some (s.1,s.2.1,s.2.2.1,s.2.2.2.1,s.2.2.2.2.1,s.2.2.2.2.2.1,s.2.2.2.2.2.2.2.1.take s.2.2.2.2.2.2.1))) fun x=>some (id x))) fun x=>some (id x))))
   else (F_q0 4 s1).bind (fun r=>outM (iterM (fun s=>(S_q1_b2 p2 p3 p4 [] [] s).den) (r.2,f0,y0,t0,ea,[],r.1)) (fun s=>guardP (AllP [s.2.2.2.2.2.1.length<2 ^ 63])
    (outM (iterM (fun s_1=>(S_q1_b3 p2 p3 p4 [] s_1).den) (s.1,s.2.1,s.2.2.1,s.2.2.2.1,s.2.2.2.2.1,s.2.2.2.2.2.1,0,[],1)) (fun s=>guardP (AllP [s.2.2.2.2.2.2.2.1.length<2 ^ 63/\s.2.2.2.2.2.2.1<=s.2.2.2.2.2.2.2.1.length])
     (some (s.1,s.2.1,s.2.2.1,s.2.2.2.1,s.2.2.2.2.1,s.2.2.2.2.2.1,s.2.2.2.2.2.2.2.1.take s.2.2.2.2.2.2.1))) fun x=>some (id x))) fun x=>some (id x))))=some (s',f0,y0,t0,ea',co,ru)/\TapeOk s'/\ea'.length<=12/\EaS ea'/\co.length<=3/\CoS co/\ru.length<=3/\RuS ru:=fun b s1 v1 o1 _=>by
  rw[z3 ⟨hpos,trivial⟩]
  by_cases hb:(b&&v1==0)=true
  ·rw[y6 hb]
   obtain⟨c,s2,e2,o2,gc,_⟩:=z52 ht o1
   obtain⟨v3,s3,e3,o3,_,_⟩:=zg (n:=51) o2 om om
   rw[e2,obind,e3,obind,z3 ⟨by simp only[y10]; omega,trivial⟩,z3 ⟨by simp only[ym,y10]; omega,trivial⟩]
   obtain⟨s',co,ru,k1,k2,k3,k4,k5,k6⟩:=hrest s3 ([⟨[57],c,v3⟩]++ea) o3 (by simp only[ym,y10]; omega) (fun x hx=>by
    rcases y15.1 hx with hx | hx
    ·have:x=⟨[57],c,v3⟩:=by simpa using hx
     rw[this]; exact⟨sj,z5i gc⟩
    ·exact q5 x hx)
   exact⟨s',_,co,ru,k1,k2,by simp only[ym,y10]; omega,fun x hx=>by
    rcases y15.1 hx with hx | hx
    ·have:x=⟨[57],c,v3⟩:=by simpa using hx
     rw[this]; exact⟨sj,z5i gc⟩
    ·exact q5 x hx,k3,k4,k5,k6⟩
  ·rw[y5 hb]
   obtain⟨s',co,ru,k1,k2,k3,k4,k5,k6⟩:=hrest s1 ea o1 om q5
   exact⟨s',ea,co,ru,k1,k2,om,q5,k3,k4,k5,k6⟩
 simp only[z8,zjb,zjc,y1e]
 by_cases hb:(decide ((ea.length:Int)>0)&&!((ea.getD 0 dF).N==[57]))=true
 ·obtain⟨v1,s1,e1,o1,_,_⟩:=zg (n:=2) o om om
  rw[ze (by simp only[AllP,y34]; exact hb),e1,obind]
  exact go _ s1 v1 o1 rfl
 ·rw[zr (by simp only[AllP,y34]; exact hb),obind]
  exact go _ s0 dF o rfl
end Go.Proofs.YtgfgnhpecnmlpaaGreatDoor
/- Laws that are made. No condition. -/
namespace Go.Proofs.YtgfgnhpecnmlpaaGreatDoor
open Go Go.TA
open Go.IntKind (i64)
attribute [-simp] List.getD_eq_getElem?_getD
def LiS (l:List TLi):Prop:=∀ x∈l,good x.B=true
def BoS (l:List TBo):Prop:=∀ x∈l,good x.B=true
def AmS (l:List TAm):Prop:=∀ x∈l,x.D.length<=3/\∀ c∈x.D,good c.B=true
structure ML (l:TLa):Prop where
 fi:0<=l.E/\l.E<=95
 ye:1<=l.G/\l.G<=3
 tr:MT l.H
 ok:errL l=0
 sm:SmL l
 ll:l.P.length<=33
 cl:l.R.length<=44
 fl:l.S.length<=44
 al:l.A.length<=3
 ac:∀ a∈l.A,a.D.length<=3
variable {s:TTape}
section
variable {f y:Int} (hf:0<=f/\f<=95) (hy:1<=y/\y<=3) {t:List THe} (ht:MT t)
include hf hy
theorem zjt (rv:R_q3) (hrv:∀ c∈rv,good c=true) (hrl:rv.length<=11) (hs:TapeOk s) :
  ∃ s' ls,rangeM (fun i s=>(S_q2_b2 rv i s).den) rv.length 0 (s,f,y,t,[])=some (.next (s',f,y,t,ls))/\TapeOk s'/\ls.length<=33/\LiS ls:=by
 obtain⟨r,e,h1,h2,h3,h4,h5,h6⟩:=z13 (body:=fun i s=>(S_q2_b2 rv i s).den) (n:=rv.length) (fun i r=>TapeOk r.1/\r.2.1=f/\r.2.2.1=y/\r.2.2.2.1=t/\r.2.2.2.2.length<=3 * i/\LiS r.2.2.2.2) (s0:=(s,f,y,t,[])) ⟨hs,rfl,rfl,rfl,sj,fun x hx=>by cases hx⟩
  (fun i s hi ⟨o,q1,q2,q3,q4,q5⟩=>by
   obtain⟨s0,f0,y0,t0,ls⟩:=s
   simp only at o q1 q2 q3 q4 q5
   subst q1; subst q2; subst q3
   simp only[S_q2_b2,Scr.den]
   obtain⟨r,e,k1,k2,k3,k4,k5,k6⟩:=z1c (step:=fun s=>(S_q2_b1 rv i s).den) (fun s=>(f0+y0-s.2.2.2.2.2).toNat)
    (fun r=>TapeOk r.1/\r.2.1=f0/\r.2.2.1=y0/\r.2.2.2.1=t0/\((r.2.2.2.2.1.length:Int)<=3 * (i:Int)+(r.2.2.2.2.2-f0)/\f0<=r.2.2.2.2.2/\r.2.2.2.2.2<=f0+y0)/\LiS r.2.2.2.2.1)
    (fun r=>TapeOk r.1/\r.2.1=f0/\r.2.2.1=y0/\r.2.2.2.1=t0/\r.2.2.2.2.1.length<=3 * (i+1)/\LiS r.2.2.2.2.1) (fun s ⟨o,q1,q2,q3,⟨q4,q6,q7⟩,q5⟩=>by
     obtain⟨s0,f1,y1,t1,ls,z⟩:=s
     simp only at o q1 q2 q3 q4 q5 q6 q7
     subst q1; subst q2; subst q3
     simp only[S_q2_b1,Scr.den]
     rw[wrapId (n:=f1+y1) om om]
     by_cases hz:z<f1+y1
     ·left
      rw[y6 (by simpa using hz)]
      have w1:i64.wrap (z+1)=z+1:=wrapId om om
      obtain⟨v,s1,e1,o1,_,_⟩:=zg (n:=4) o om om
      simp only[e1,obind,w1]
      by_cases hv:v>0
      ·rw[y6 (by simpa using hv)]
       obtain⟨a,s2,e2,o2,_,_⟩:=z3y o1
       rw[e2,obind,Ga]
       refine⟨_,rfl,⟨o2,rfl,rfl,rfl,⟨by rw[ym,y10]; simp only; omega,by simp only; omega,by simp only; omega⟩,fun x hx=>?_⟩,by simp only; omega⟩
       rcases y15.1 hx with hx | hx
       ·exact q5 x hx
       ·have:x=⟨rv.getD i dF,z,a⟩:=by simpa using hx
        rw[this]; exact hrv _ (z4 hi)
      ·rw[y5 (by simpa using hv)]
       exact⟨_,rfl,⟨o1,rfl,rfl,rfl,⟨by simp only; omega,by simp only; omega,by simp only; omega⟩,q5⟩,by simp only; omega⟩
     ·right
      rw[y5 (by simpa using hz)]
      exact⟨_,rfl,o,rfl,rfl,rfl,by simp only; omega,q5⟩) _ (s0,f0,y0,t0,ls,f0) (y31 _) ⟨o,rfl,rfl,rfl,⟨by simp only; omega,by simp only; omega,by simp only; omega⟩,q5⟩
   rw[e]
   exact⟨_,rfl,k1,k2,k3,k4,k5,k6⟩)
 obtain⟨s',f',y',t',ls⟩:=r
 simp only at h1 h2 h3 h4 h5 h6
 subst h2; subst h3; subst h4
 exact⟨s',ls,e,h1,om,h6⟩
include ht
theorem zju (s6:TTape) (ls:List TLi) (hs:TapeOk s) :
  ∃ s' fl ce,rangeM (fun i s=>(S_q2_b4 (s6,f,y,t,ls) i s).den) t.length 0 (s,f,y,t,[],[])=some (.next (s',f,y,t,fl,ce))/\TapeOk s'/\fl.length<=44/\BoS fl/\ce.length<=44/\BoS ce:=by
 have hle:=ht.le
 obtain⟨r,e,h1,h2,h3,h4,h5,h6,h7,h8⟩:=z13 (body:=fun i s=>(S_q2_b4 (s6,f,y,t,ls) i s).den) (n:=t.length)
  (fun i r=>TapeOk r.1/\r.2.1=f/\r.2.2.1=y/\r.2.2.2.1=t/\r.2.2.2.2.1.length<=4 * i/\BoS r.2.2.2.2.1/\r.2.2.2.2.2.length<=4 * i/\BoS r.2.2.2.2.2) (s0:=(s,f,y,t,[],[])) ⟨hs,rfl,rfl,rfl,sj,(fun x hx=>by cases hx),sj,fun x hx=>by cases hx⟩
  (fun i s hi ⟨o,q1,q2,q3,q4,q5,q6,q7⟩=>by
   obtain⟨s0,f0,y0,t0,fl,ce⟩:=s
   simp only at o q1 q2 q3 q4 q5 q6 q7
   subst q1; subst q2; subst q3
   have hg:=ht.good _ (z4 hi)
   simp only[S_q2_b4,Scr.den]
   obtain⟨yrs,ey,y1,y2,_⟩:=zef hf hy t0 ls ce fl [] [] [] []
   rw[ey,obind]
   obtain⟨r,e,k1,k2,k3,k4,k5,k6,k7,k8⟩:=z13 (body:=fun j s=>(S_q2_b3 (s6,f0,y0,t0,ls) i yrs j s).den) (n:=yrs.length)
    (fun j r=>TapeOk r.1/\r.2.1=f0/\r.2.2.1=y0/\r.2.2.2.1=t0/\r.2.2.2.2.1.length<=4 * i+j/\BoS r.2.2.2.2.1/\r.2.2.2.2.2.length<=4 * i+j/\BoS r.2.2.2.2.2) (s0:=(s0,f0,y0,t0,fl,ce)) ⟨o,rfl,rfl,rfl,q4,q5,q6,q7⟩
    (fun j s hj ⟨o,q1,q2,q3,q4,q5,q6,q7⟩=>by
     obtain⟨s0,f1,y1,t1,fl,ce⟩:=s
     simp only at o q1 q2 q3 q4 q5 q6 q7
     subst q1; subst q2; subst q3
     obtain⟨v,s1,e1,o1,_,_⟩:=zg (n:=6) o om om
     simp only[S_q2_b3,Scr.den,e1,obind]
     have fin:∀ (s2:TTape) (ce':List TBo),TapeOk s2->ce'.length<=4 * i+(j+1)->BoS ce'->∃ s',((F_q0 8 s2).bind fun r=>if (r.1==7)=true then (F_q0 300 r.2).bind fun r_1=>guardP (AllP [(fl.length+1) * (2 * 32)<=2 ^ 48])
       (some (Step.cont (r_1.2,f1,y1,t1,fl++[(⟨(t1.getD i dF).B,yrs.getD j dF,r_1.1⟩:TBo)],ce'))) else some (Step.cont (r.2,f1,y1,t1,fl,ce')):Option (Step (TTape×Int×Int×List THe×List TBo×List TBo) R_q2))=some (.cont s') /\
       (TapeOk s'.1/\s'.2.1=f1/\s'.2.2.1=y1/\s'.2.2.2.1=t1/\s'.2.2.2.2.1.length<=4 * i+(j+1)/\BoS s'.2.2.2.2.1/\s'.2.2.2.2.2.length<=4 * i+(j+1)/\BoS s'.2.2.2.2.2):=fun s2 ce' o2 hc1 hc2=>by
      obtain⟨w,s3,e3,o3,_,_⟩:=zg (n:=8) o2 om om
      rw[e3,obind]
      by_cases hw:w=7
      ·rw[y6 (by simpa using hw)]
       obtain⟨u,s4,e4,o4,_,_⟩:=zg (n:=300) o3 om om
       rw[e4,obind,Ga]
       refine⟨_,rfl,o4,rfl,rfl,rfl,by rw[ym,y10]; omega,fun x hx=>?_,hc1,hc2⟩
       rcases y15.1 hx with hx | hx
       ·exact q5 x hx
       ·have:x=⟨(t1.getD i dF).B,yrs.getD j dF,u⟩:=by simpa using hx
        rw[this]; exact hg
      ·rw[y5 (by simpa using hw)]
       exact⟨_,rfl,o3,rfl,rfl,rfl,by simp only; omega,q5,hc1,hc2⟩
     by_cases hv:v=5
     ·rw[y6 (by simpa using hv)]
      obtain⟨a,s2,e2,o2,_,_⟩:=z3y o1
      obtain⟨b,s3,e3,o3,_⟩:=z22 (l:=[a,5000,100000]) o2 sj sj
      simp only[e2,e3,obind]
      rw[Ga]
      simp only[outM]
      refine fin s3 (ce++[⟨(t1.getD i dF).B,yrs.getD j dF,b⟩]) o3 (by rw[ym,y10]; omega) (fun x hx=>?_)
      rcases y15.1 hx with hx | hx
      ·exact q7 x hx
      ·have:x=⟨(t1.getD i dF).B,yrs.getD j dF,b⟩:=by simpa using hx
       rw[this]; exact hg
     ·rw[y5 (by simpa using hv)]
      simp only[outM]
      exact fin s1 ce o1 om q7)
   rw[e]
   exact⟨_,rfl,k1,k2,k3,k4,by simp only; omega,k6,by simp only; omega,k8⟩)
 obtain⟨s',f',y',t',fl,ce⟩:=r
 simp only at h1 h2 h3 h4 h5 h6 h7 h8
 subst h2; subst h3; subst h4
 exact⟨s',fl,ce,e,h1,om,h6,om,h8⟩
theorem zjv (s6 s17:TTape) (ls:List TLi) (fl ce:List TBo) (ea:List TEa) (co:List TCo) (ru:List TRu) {i:Int} (hi:i<=3) (hs:TapeOk s) (d:Int) :
  ∃ s' am n d' i',iterM (fun s=>(S_q2_b5 (s6,f,y,t,ls) (s17,f,y,t,fl,ce) s).den) (s,f,y,t,ea,co,ru,[],0,d,i)=some (.next (s',f,y,t,ea,co,ru,am,n,d',i'))/\TapeOk s'/\am.length<=3/\AmS am:=by
 obtain⟨r,e,k1,k2,k3,k4,k5,k6,k7,k8,k9⟩:=z1c (step:=fun s=>(S_q2_b5 (s6,f,y,t,ls) (s17,f,y,t,fl,ce) s).den) (fun s=>s.2.2.2.2.2.2.2.2.2.2.toNat)
  (fun r=>TapeOk r.1/\r.2.1=f/\r.2.2.1=y/\r.2.2.2.1=t/\r.2.2.2.2.1=ea/\r.2.2.2.2.2.1=co/\r.2.2.2.2.2.2.1=ru/\((r.2.2.2.2.2.2.2.1.length:Int)+max r.2.2.2.2.2.2.2.2.2.2 0<=3/\r.2.2.2.2.2.2.2.2.2.2<=3)/\AmS r.2.2.2.2.2.2.2.1)
  (fun r=>TapeOk r.1/\r.2.1=f/\r.2.2.1=y/\r.2.2.2.1=t/\r.2.2.2.2.1=ea/\r.2.2.2.2.2.1=co/\r.2.2.2.2.2.2.1=ru/\r.2.2.2.2.2.2.2.1.length<=3/\AmS r.2.2.2.2.2.2.2.1) (fun s ⟨o,q1,q2,q3,q4,q5,q6,⟨q7,q8⟩,q9⟩=>by
   obtain⟨s0,f0,y0,t0,e0,c0,r0,am,n,dd,k⟩:=s
   simp only at o q1 q2 q3 q4 q5 q6 q7 q8 q9
   subst q1; subst q2; subst q3; subst q4; subst q5; subst q6
   simp only[S_q2_b5,Scr.den]
   by_cases hk:k>0
   ·left
    rw[y6 (by simpa using hk)]
    have w1:i64.wrap (k-1)=k-1:=wrapId om om
    obtain⟨v,s1,e1,o1,_⟩:=z22 (l:=[0,1,100,400]) o sj sj
    obtain⟨cs,s2,e2,o2,hc⟩:=zca hf hy ht e0 c0 r0 ls ce fl am o1
    simp only[e1,e2,obind,w1]
    rw[Ga]
    refine⟨_,rfl,⟨o2,rfl,rfl,rfl,rfl,rfl,rfl,⟨by rw[ym,y10]; simp only; omega,by simp only; omega⟩,fun x hx=>?_⟩,by simp only; omega⟩
    rcases y15.1 hx with hx | hx
    ·exact q9 x hx
    ·have:x=⟨i64.wrap (dd+v),i64.wrap (n+1),cs⟩:=by simpa using hx
     rw[this]; exact⟨hc.le,fun c hcc=>(hc.ok c hcc).gd⟩
   ·right
    rw[y5 (by simpa using hk)]
    exact⟨_,rfl,o,rfl,rfl,rfl,rfl,rfl,rfl,by simp only; omega,q9⟩) _ (s,f,y,t,ea,co,ru,[],0,d,i) (y31 _) ⟨hs,rfl,rfl,rfl,rfl,rfl,rfl,⟨by simp only[y1e]; omega,hi⟩,fun x hx=>by cases hx⟩
 obtain⟨s',f',y',t',e',c',r',am,n,d',i'⟩:=r
 simp only at k1 k2 k3 k4 k5 k6 k7 k8 k9
 subst k2; subst k3; subst k4; subst k5; subst k6; subst k7
 exact⟨s',am,n,d',i',e,k1,k8,k9⟩
end
theorem zig {f y:Int} (hf:0<=f/\f<=95) (hy:1<=y/\y<=3) {t:List THe} (ht:MT t):ML ⟨f,y,t,[],[],[],[],[],[],[]⟩:=by
 have hle:=ht.le
 have hsm:SmL ⟨f,y,t,[],[],[],[],[],[],[]⟩:=by
  refine⟨ht.sm,by simp only; omega,?_,?_,?_,?_,?_,?_,?_,?_,?_,?_,?_,?_,?_⟩ <;> simp
 refine⟨hf,hy,ht,?_,hsm,sj,sj,sj,sj,sj⟩
 refine z3t.2 ⟨⟨?_,ht.ok,sj,rfl,?_,rfl,rfl,rfl⟩,⟨⟨y4b,sj⟩,sj,⟨y4b,sj⟩,sj,⟨y4b,sj⟩,sj⟩,by simp[bigL]⟩
 ·unfold yrB; simp only; omega
 ·unfold shareE
  rw[y5]
  rw[y4k,y58]
  intro c _
  simp[shSum]
theorem zhb (hs:TapeOk s):∃ l s',F_q2 s=some (l,s')/\TapeOk s'/\ML l:=by
 obtain⟨f,s1,e1,o1,hf⟩:=z22 (l:=[0,3,12,95]) hs sj sj
 obtain⟨y,s2,e2,o2,y1,y2⟩:=ze5 (lo:=1) (hi:=3) o1 om om om
 obtain⟨t,s3,e3,o3,ht⟩:=zg0 o2
 have hf':0<=f/\f<=95:=by simp at hf; omega
 have hy:1<=y/\y<=3:=⟨y1,y2⟩
 have hle:=ht.le
 have hll:=z2f t []
 simp only[F_q2,S_q2,Scr.den,e1,e2,e3,obind,z1n ht.sm (show t.length<=1000000 from om) (show ([]:Y8).length<=1000000 from sj)]
 obtain⟨s4,ls,e4,o4,l1,l2⟩:=zjt hf' hy (t:=t) (leavesU t []) z3k om o3
 rw[e4]
 simp only[outM]
 obtain⟨s5,fl,ce,e5,o5,g1,g2,g3,g4⟩:=zju hf' hy ht s4 ls o4
 rw[e5]
 try simp only
 obtain⟨s6,ea,co,ru,e6,o6,a1,a2,a3,a4,a5,a6⟩:=zg1 hy ht ls ce fl om om om o5
 rw[e6,obind]
 obtain⟨v,s7,e7,o7,_,u7⟩:=zg (n:=4) o6 om om
 simp only[e7,obind]
 obtain⟨s8,am,n8,d8,i8,e8,o8,b1,b2⟩:=zjv hf' hy ht s4 s5 ls fl ce ea co ru (i:=v) om o7 (i64.wrap (360 * f))
 rw[e8]
 try simp only
 have hsm:SmL ⟨f,y,t,ls,ce,fl,ea,co,ru,am⟩:=by
  refine⟨ht.sm,by simp only; omega,fun x hx=>lenC (l2 x hx),by simp only; omega,fun x hx=>lenC (g4 x hx),by simp only; omega,fun x hx=>lenC (g2 x hx),by simp only; omega,fun x hx=>?_,by simp only; omega,fun x hx=>?_,by simp only; omega,by simp only; omega,fun x hx=>⟨?_,fun c hc=>lenC ((b2 x hx).2 c hc)⟩,by simp only; omega⟩
  ·have:=a2 x hx; omega
  ·have:=a4 x hx; omega
  ·have:=(b2 x hx).1; omega
 rw[ze9 hsm,obind]
 by_cases he:errL ⟨f,y,t,ls,ce,fl,ea,co,ru,am⟩=0
 ·rw[y5 (by simpa using he),Ga,Ga,Ga,Ga]
  exact⟨_,_,rfl,o8,⟨hf',hy,ht,he,hsm,l1,g3,g1,b1,fun x hx=>(b2 x hx).1⟩⟩
 ·rw[y6 (by simpa using he)]
  exact⟨_,_,rfl,o8,zig hf' hy ht⟩
end Go.Proofs.YtgfgnhpecnmlpaaGreatDoor
/- The law AmendmentLater. No condition. -/
namespace Go.Proofs.YtgfgnhpecnmlpaaGreatDoor
open Go Go.TA
open Go.IntKind (i64)
attribute [-simp] List.getD_eq_getElem?_getD
def lineA (l:List TLi) (c:Y8) (y:Int):Int:=match l.find? (fun x=>x.B==c&&x.J==y) with
 | some x=>x.M
 | none=>0
theorem zih (l:TLa) (c:Y8) (y:Int):F_q1u l c y=some (lineA l.P c y):=by
 simp only[F_q1u,S_q1u,Scr.den]
 rw[z8t l.P (fun x=>x.B==c&&x.J==y) (·.M) fun i hi=>by
  simp only[S_q1u_b1,Scr.den,z8]
  split <;> rfl]
 unfold lineA
 cases l.P.find? (fun x=>x.B==c&&x.J==y) <;> rfl
theorem zg2 (l:List Int):F_q2a l l=some true:=by
 simp only[F_q2a,S_q2a,Scr.den]
 rw[y5 sj,z1i fun i hi=>by
  simp only[S_q2a_b1,Scr.den]
  rw[z3 ⟨hi,trivial⟩,y5 sj]]
 rfl
def lw:TLa:=⟨12,1,[⟨[49],[97]⟩],[⟨[49],12,500⟩],[],[],[],[],[],[⟨4330,1,[⟨1,[49],12,600⟩]⟩,⟨4400,1,[⟨1,[49],12,0⟩]⟩]⟩
theorem zax:SmL lw:=by
 refine⟨?_,?_,?_,?_,?_,?_,?_,?_,?_,?_,?_,?_,?_,?_,?_⟩ <;> simp[lw,SmT]
theorem lw1:inS lw 4329=(lw,0):=kj
theorem lw2:inS lw 4330=(⟨12,1,[⟨[49],[97]⟩],[⟨[49],12,600⟩],[],[],[],[],[],[⟨4400,1,[⟨1,[49],12,0⟩]⟩]⟩,0):=kj
theorem lw3:inS lw 4400=(⟨12,1,[⟨[49],[97]⟩],[],[],[],[],[],[],[]⟩,0):=kj
theorem lw4:errL lw=0:=kj
theorem lw5:daysL lw=[4330,4400]:=kj
theorem zcb:F_q3s=some true:=by
 simp only[F_q3s,S_q3s,Scr.den]
 rw[show (⟨12,1,([(⟨[49],[97]⟩:THe)]:List THe),([(⟨[49],12,500⟩:TLi)]:List TLi),[],[],[],[],[],([(⟨4330,1,([(⟨1,[49],12,600⟩:TCh)]:List TCh)⟩:TAm),(⟨4400,1,([(⟨1,[49],12,0⟩:TCh)]:List TCh)⟩:TAm)]:List TAm)⟩:TLa)=lw from rfl]
 rw[z2u zax,z2u zax,z2u zax,zdj zax,lw1,lw2,lw3,y6 lw4,lw5]
 simp only[obind,zih]
 rw[Gg,obind]
 rw[show lineA lw.P [49] 12=500 from rfl]
 rw[Gg,obind]
 rw[show lineA [⟨[49],12,600⟩] [49] 12=600 from rfl]
 rw[Gg,obind,Gg,zg2,obind]
 rfl
theorem zeg {L:List TAm} (h1:L.length<=3) (h2:∀ a∈L,a.D.length<=3) (k:Nat):((L.take k).flatMap (·.D)).length<=9:=by
 have h3:=z9l (L:=L.take k) (k:=3) fun a ha=>h2 a (y1p ha)
 have h4:(L.take k).length<=3:=by rw[y1l]; omega
 have h5:(L.take k).length * 3<=3 * 3:=yf 3 h4
 omega
variable {l:TLa}
theorem ML.few (h:ML l) (d:Int):WL 53 (forceL l d):=by
 obtain⟨hr,hw,_⟩:=z3t.1 h.ok
 have g1:=h.ll; have g2:=h.cl; have g3:=h.fl
 have hn:(nowC l d).length<=9:=zeg h.al h.ac _
 have h0:WL 44 { l with A:=l.A.drop (laterI l d) }:=⟨hw.lo,by simp only; omega,hw.co,by simp only; omega,hw.fo,by simp only; omega⟩
 have:=zaj (cs:=nowC l d) (fun x hx=>chgG hr.tr (z9m hr d x hx)) h0
 have k1:=this.ll; have k2:=this.cl; have k3:=this.fl
 exact⟨this.lo,by unfold forceL; omega,this.co,by unfold forceL; omega,this.fo,by unfold forceL; omega⟩
theorem ML.nbig (h:ML l) (d:Int):¬ bigL (forceL l d):=by
 have:=h.few d
 have k1:=this.ll; have k2:=this.cl; have k3:=this.fl
 unfold bigL; omega
theorem ML.inS {l:TLa} (h:ML l) {d:Int} (hd:0<=d/\d<=36000):inS l d=(forceL l d,0):=by
 unfold Go.Proofs.YtgfgnhpecnmlpaaGreatDoor.inS
 rw[y6 h.ok,y5 om,y5 (h.nbig d)]
theorem zhg (he:errL l=0):SmL l:=by
 obtain⟨hr,hw,hb⟩:=z3t.1 he
 obtain⟨f1,f2⟩:=z89 hr
 have hlim:=hr.li
 unfold bigL at hb
 have ht:=hr.tr
 have htl:l.H.length<=60:=by
  unfold treeE at ht
  split at ht
  ·cases ht
  ·omega
 have hE:∀ x∈l.F,z3x l.H x=0:=fun x hx=>by
  obtain⟨i,hi,rfl⟩:=z2k hx
  exact z1u (z23.1 hr.ea i hi)
 have hC:∀ x∈l.I,z1j l.H l.E l.G x=0:=fun x hx=>by
  obtain⟨i,hi,rfl⟩:=z2k hx
  exact z23.1 hr.co i hi
 refine⟨fun x hx=>⟨lenC (hasGood ht (y1i.2 ⟨x,hx,sj⟩)),by have:=nameL (treeName ht x hx); omega⟩,om,fun x hx=>lenC (hw.lo.good x hx),om,fun x hx=>lenC (hw.co.good x hx),om,
  fun x hx=>lenC (hw.fo.good x hx),om,fun x hx=>?_,om,fun x hx=>?_,om,om,fun x hx=>⟨by have:=f2 x hx; omega,fun c hc=>lenC (chgG ht (zc5 hr x hx c hc))⟩,om⟩
 ·have:=earG ht (hE x hx)
  exact⟨lenC this.1,lenC this.2⟩
 ·have:=hC x hx
  unfold z1j at this
  split at this
  ·cases this
  ·rename_i hb
   split at this
   ·cases this
   ·rename_i hc
    simp only[not_or,y38,not_and] at hc
    refine⟨?_,lenC (leafGood hc.1)⟩
    by_cases k2:x.C=2
    ·exact lenC (hasGood ht (hc.2 k2))
    ·unfold condBad at hb
     have:x.N=[]:=by
      by_cases h:x.N=[]
      ·exact h
      ·exact absurd (.inr (.inl ⟨om,.inl h⟩)) hb
     rw[this]; simp
theorem zg3 (h:SmL l):FewL l:=⟨h.tl,h.ll,h.cl,h.fll,h.el,h.col,h.rl,h.al,fun x hx=>(h.am x hx).1⟩
theorem z69 (a:List Int):F_q1v a=some true:=by
 obtain⟨s0,e0,o0⟩:=zgx a
 obtain⟨l,s1,e1,o1,hl⟩:=zhb o0
 obtain⟨n1,s2,e2,o2,n1l,n1u⟩:=zg (n:=700) o1 om om
 obtain⟨n2,s3,e3,o3,n2l,n2u⟩:=zg (n:=700) o2 om om
 have hf:=hl.fi
 simp only[F_q1v,S_q1v,Scr.den,e0,e1,e2,e3,obind]
 rw[wrapId (n:=360 * l.E) om om,wrapId (n:=360 * l.E+n1) om om]
 obtain⟨A,hA⟩:∃ A,A=(if 360 * l.E+n1<36000 then 360 * l.E+n1 else 36000):=⟨_,rfl⟩
 rw[<- hA]
 have hA1:0<=A/\A<=36000:=by rw[hA]; split <;> omega
 rw[wrapId (n:=A+n2) om om]
 obtain⟨B,hB⟩:∃ B,B=(if A+n2<36000 then A+n2 else 36000):=⟨_,rfl⟩
 rw[<- hB]
 have hB1:A<=B/\B<=36000:=by rw[hB]; split <;> omega
 have hxe:errL (forceL l A)=0:=zc6 hl.ok A (hl.nbig A)
 have hze:errL (forceL l B)=0:=zc6 hl.ok B (hl.nbig B)
 have hxs:=zhg hxe
 have hzs:=zhg hze
 rw[z2u hl.sm,hl.inS hA1,obind,z2u hxs]
 have hy:inS (forceL l A) B=(forceL l B,0):=by
  unfold inS
  rw[y6 hxe,y5 om,zcx hB1.1,y5 (hl.nbig B)]
 rw[hy,obind,z2u hl.sm,hl.inS (d:=B) om,obind]
 rw[Gg,zal (zg3 hzs),obind]
 rw[Gg,zea hxs,hxe,obind,y5 sj,zdj hl.sm,y6 hl.ok,obind]
 have hany:rangeM (fun i s=>(S_q1v_b1 (l,s1) (n1,s2) (n2,s3) (daysL l) i s).den) (daysL l).length 0 false=some (.next ((daysL l).any fun d=>decide (d>A)&&decide (d<=B))):=by
  rw[z1q (daysL l) (fun s d=>s||(decide (d>A)&&decide (d<=B))) fun i s hi=>by
   simp only[S_q1v_b1,Scr.den,z8,zd]
   rw[wrapId (n:=360 * l.E) om om,wrapId (n:=360 * l.E+n1) om om,<- hA,wrapId (n:=A+n2) om om,<- hB]]
  congr 2
  generalize daysL l=D
  have:∀ (b:Bool),D.foldl (fun s d=>s||(decide (d>A)&&decide (d<=B))) b=(b||D.any fun d=>decide (d>A)&&decide (d<=B)):=by
   induction D with
   | nil=>intro b; simp
   | cons x D ih=>intro b; rw[y3b,ih,y3d,Bool.or_assoc]
  rw[this]; rfl
 rw[hany]
 simp only[outM,zd]
 by_cases hd:((daysL l).any fun d=>decide (d>A)&&decide (d<=B))=true
 ·rw[hd,Gh,obind,Gg,zcb,obind]
  rfl
 ·have hsame:forceL l A=forceL l B:=zee hB1.1 fun x hx hh=>hd (y1i.2 ⟨x.K,zcv (y19.2 ⟨x,hx,rfl⟩),by simp[hh.1,hh.2]⟩)
  rw[yo.2 hd,Gg,hsame,zal (zg3 hzs),obind,Gg,zcb,obind]
  rfl
end Go.Proofs.YtgfgnhpecnmlpaaGreatDoor
