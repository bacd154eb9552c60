/- A part of the proof: plain laws of what the functions compute. No condition. -/
import Derived.Test.YtpbnkbjhlhlaiaaGreatDoorP5
namespace Go.Proofs.YtpbnkbjhlhlaiaaGreatDoor
open Go Go.TA
def SR (l:List TOp):Prop:=l.length<=100/\∀ p∈l,p.E.length<=60
variable {l:List TOp}
theorem SR.shr (h:SR l):ShR l:=⟨by have:=h.1; omega,fun p hp=>by have:=h.2 p hp; omega⟩
variable {j:TJo}
theorem VJ.sr (h:VJ j) (hl:j.D.length<=100):SR j.D:=⟨hl,fun p hp=>(z8z h.2.2.2 p hp).len⟩
variable {i:Nat}
theorem zi4 (h:SR l) {p:TOp} (hp:p.E.length<=60):SR (l.set i p):=⟨by rw[yl]; exact h.1,fun q hq=>by
 rcases y3b hq with hq | rfl
 ·exact h.2 q hq
 ·exact hp⟩
theorem zdj (j:TJo):F_ql j=some true->SR j.D:=by
 intro h
 simp only[F_ql,S_ql,Scr.den] at h
 obtain⟨g1,g2⟩:=zy (ρ:=Bool) (n:=j.D.length) (c:=false) (body:=fun i s=>(S_ql_b1 j i s).den) (fun i=>(j.D.getD i dF).E.length<=60) (fun i hi h=>by
  simp only[S_ql_b1,Scr.den]
  rw[y6 (by simp only[y8]; omega)]) (fun i hi h=>by
  simp only[S_ql_b1,Scr.den]
  rw[y7 (by simp only[y8]; omega)])
 by_cases hk:∀ i,i<j.D.length->(j.D.getD i dF).E.length<=60
 ·rw[g1 hk] at h
  simp only[zh,yq,y8] at h
  refine⟨om,fun p hp=>?_⟩
  obtain⟨i,hi,rfl⟩:=z1s hp
  exact hk i hi
 ·rw[g2 hk] at h
  simp[outM] at h
theorem zcl (j:TJo):∃ b,F_ql j=some b:=by
 simp only[F_ql,S_ql,Scr.den]
 obtain⟨g1,g2⟩:=zy (ρ:=Bool) (n:=j.D.length) (c:=false) (body:=fun i s=>(S_ql_b1 j i s).den) (fun i=>(j.D.getD i dF).E.length<=60) (fun i hi h=>by
  simp only[S_ql_b1,Scr.den]
  rw[y6 (by simp only[y8]; omega)]) (fun i hi h=>by
  simp only[S_ql_b1,Scr.den]
  rw[y7 (by simp only[y8]; omega)])
 by_cases hk:∀ i,i<j.D.length->(j.D.getD i dF).E.length<=60
 ·rw[g1 hk]; exact⟨_,rfl⟩
 ·rw[g2 hk]; exact⟨_,rfl⟩
variable {s:TTape}
theorem zcm (hj:SR j.D) (hl:j.D.length<=50) (hs:TapeOk s):∃ j' s',F_q2n j s=some (j',s')/\TapeOk s'/\SR j'.D:=by
 obtain⟨n,l,f⟩:=j
 simp only at hj hl
 simp only[F_q2n,S_q2n,Scr.den]
 rw[z6 ⟨om,trivial⟩]
 obtain⟨k,s1,e1,q1,k0,k1⟩:=z1k (n:=6) hs om om
 simp only[e1,obind]
 by_cases h:(k==0)=true
 ·rw[y7 h]
  obtain⟨v,s2,e2,q2,_⟩:=z2i (l:=[0,1,6,7]) q1 dk dk
  simp only[e2,obind]
  rw[z6 ⟨om,trivial⟩]
  exact⟨_,_,rfl,q2,hj⟩
 rw[y6 h]
 by_cases h:(k==1)=true
 ·rw[y7 h]
  obtain⟨v,s2,e2,q2,_⟩:=z2i (l:=[(-1),0,(l.length:Int),(IntKind.i64.wrap ((l.length:Int)+1))]) q1 sj sj
  simp only[e2,obind]
  rw[z6 ⟨om,trivial⟩]
  exact⟨_,_,rfl,q2,hj⟩
 rw[y6 h]
 by_cases h:(k==2)=true
 ·rw[y7 h]
  by_cases hc:0<l.length
  ·rw[y7 sk]
   obtain⟨i,s2,e2,q2,i0,i1⟩:=z1k (n:=(l.length:Int)) q1 om om
   obtain⟨v,s3,e3,q3,_⟩:=z2i (l:=[(-1),0,5,100000]) q2 dk dk
   simp only[e2,e3,obind]
   rw[z6 ⟨i0,om,om,trivial⟩]
   simp only[zh]
   rw[z6 ⟨by rw[yl]; omega,trivial⟩]
   exact⟨_,_,rfl,q3,zi4 hj (hj.2 (l.getD (0+i.toNat) dF) (zd om))⟩
  ·rw[y6 (by simp only[y8]; omega)]
   simp only[zh]
   rw[z6 ⟨om,trivial⟩]
   exact⟨_,_,rfl,q1,hj⟩
 rw[y6 h]
 by_cases h:(k==3)=true
 ·rw[y7 h]
  by_cases hc:0<l.length
  ·rw[y7 sk,z6 ⟨om,trivial⟩,z6 ⟨om,trivial⟩]
   exact⟨_,_,rfl,q1,by show (l.drop 1).length<=100; rw[y1h]; omega,fun p hp=>hj.2 p (y1y hp)⟩
  ·rw[y6 (by simp only[y8]; omega),z6 ⟨om,trivial⟩]
   exact⟨_,_,rfl,q1,hj⟩
 rw[y6 h]
 by_cases h:(k==4)=true
 ·rw[y7 h]
  obtain⟨u,s2,e2,q2,u0,u1⟩:=z1l (lo:=0) (hi:=10) q1 om om om
  obtain⟨v,s3,e3,q3,v0,v1⟩:=z1k (n:=4) q2 om om
  simp only[e2,e3,obind]
  rw[z6 ⟨om,trivial⟩]
  simp only[zh]
  rw[z6 ⟨by rw[yn]; simp; omega,trivial⟩]
  refine⟨_,_,rfl,q3,by show (l++_).length<=100; rw[yn]; simp; omega,fun p hp=>?_⟩
  rcases y1i.1 hp with hp | hp
  ·exact hj.2 p hp
  ·rw[y22.1 hp]; exact y38 _
 ·rw[y6 h]
  by_cases hc:1<l.length
  ·rw[y7 sk,z6 ⟨om,om,om,om,by rw[yl]; omega,trivial⟩]
   simp only[zh]
   rw[z6 ⟨by rw[yl,yl]; omega,trivial⟩]
   exact⟨_,_,rfl,q1,zi4 (zi4 hj (hj.2 _ (zd om))) (hj.2 _ (zd om))⟩
  ·rw[y6 (by simp only[y8]; omega)]
   simp only[zh]
   rw[z6 ⟨om,trivial⟩]
   exact⟨_,_,rfl,q1,hj⟩
theorem zlc (j:TJo):ze3 (stateS j).1:=by
 by_cases h:VJ j
 ·rw[z14 h]; exact h.now.few
 ·rw[z2y h]; exact zjp
theorem zj3 (j:TJo):ze3 (stableS j).1:=by
 by_cases h:VJ j
 ·rw[z3a h]; exact h.stb.few
 ·rw[z7v h]; exact zjp
theorem zi5 {o:TOf} (h:ze3 o):F_qn o o=some true:=by
 rw[zbt h,@decide_eq_true _ (_) rfl]
theorem znx (h:SR j.D):SR (flushS j).D:=by
 by_cases hv:VJ j
 ·rw[z30 hv]; exact h
 ·rw[z92 hv]; exact h
theorem zny (h:SR j.D):SR (crashS j).D:=by
 by_cases hv:VJ j
 ·rw[z3z hv]
  exact⟨by show (j.D.take j.R.toNat).length<=100; have:=h.1; rw[y16]; omega,fun p hp=>h.2 p (y2q hp)⟩
 ·rw[z93 hv]; exact h
theorem zj4 (h:SR j.D) (p:TOp):(appendS j p).1.D.length<=1000000:=by
 have:=h.1
 by_cases h1:VJ j/\POp p
 ·by_cases h2:(doS (nowJ j) p).2=0
  ·by_cases h3:j.D.length=400
   ·rw[z5c h1 h2 h3]; simp[zJ]
   ·rw[z5d h1 h2 h3]
    show (j.D++[p]).length<=1000000
    rw[yn]
    simp
    omega
  ·rw[z4c h1 h2]; simp[zJ]
 ·rw[z3b h1]; simp[zJ]
variable {a1:TJo} {a2:TOp} {rv1:R_qg} {rv2:R_q1e} {rv3:R_q2n}
theorem zld {rv5:R_q1d} {k:Nat} (h1:SR (([rv1.1,rv3.1,a1]:List TJo).getD i dF).D) (h2:(([rv2.1,rv5.1,a2]:List TOp).getD k dF).E.length<=60) :
  (S_qo_b1 a1 a2 rv1 rv2 rv3 i rv5 k ()).den=some (.cont ()):=by
 simp only[S_qo_b1,Scr.den]
 generalize ([rv1.1,rv3.1,a1]:List TJo).getD i dF=x at h1 |-
 generalize ([rv2.1,rv5.1,a2]:List TOp).getD k dF=y at h2 |-
 rw[zf6 h1.shr om,zfu h1.shr om]
 simp only[obind]
 rw[zg (by simp[AllP]),z88 (zj4 h1 y)]
 simp only[obind]
 rw[y6 sj]
theorem zle {rv10:(TOf×Int)} (hs:TapeOk s) (h1:SR rv1.1.D) (h3:SR rv3.1.D) (ha:SR a1.D) (hp:rv2.1.E.length<=60) (h2:a2.E.length<=60) (hv:VO rv10.1) (hi:i<3) :
  ∃ s',(S_qo_b2 a1 a2 rv1 rv10 rv2 rv3 i s).den=some (.cont s')/\TapeOk s':=by
 have hx:=three (q:=fun x:TJo=>SR x.D) (d:=dF) h1 h3 ha hi
 obtain⟨q,s4,e4,q4,hq⟩:=ze9 hv.smO.1.1 hs (day:=4700) om
 have hin:rangeM (fun k s=>(S_qo_b1 a1 a2 rv1 rv2 rv3 i (q,s4) k s).den) 3 0 ()=some (.next ()):=z6o fun k hk=>zld hx (three (q:=fun x:TOp=>x.E.length<=60) hp hq.len h2 hk)
 simp only[S_qo_b2,Scr.den,e4,obind,hin,zh]
 generalize ([rv1.1,rv3.1,a1]:List TJo).getD i dF=x at hx |-
 have hx':=hx.shr
 have hfl:=(znx hx).shr
 have hcr:=(zny hx).shr
 rw[z2z hx',z5e hx',z7n hx',zft hx',z69 hx',z3m hx']
 simp only[obind]
 rw[zg (by simp[AllP]),zi5 (zlc x)]
 simp only[obind]
 rw[zg (by simp[AllP]),zi5 (zj3 x)]
 simp only[obind]
 rw[zg (by simp[AllP]),zi1]
 simp only[obind]
 rw[zg (by simp[AllP]),z7w hx'.1]
 simp only[obind]
 rw[zg (by simp[AllP]),zi1]
 simp only[obind]
 rw[zg (by simp[AllP]),z7w h1.shr.1]
 simp only[obind]
 rw[y6 sj,z94 hx',zah hx']
 simp only[obind]
 rw[z88 hfl.1]
 simp only[obind]
 rw[zg (by simp[AllP]),z95 hx',zg (by simp[AllP]),zi0 hx']
 simp only[obind]
 rw[zg (by simp[AllP]),z88 hcr.1]
 simp only[obind]
 rw[zg (by simp[AllP]),z98 hx',zg (by simp[AllP]),zai hx']
 simp only[obind]
 rw[y6 sj]
 exact⟨_,rfl,q4⟩
theorem zli (t:List Int) (raw:TJo) (op:TOp) (number:Int):F_qo t raw op number=some true:=by
 obtain⟨b,hb⟩:=zcl raw
 simp only[F_qo,S_qo,Scr.den,zb,hb,obind]
 by_cases hg:b=false\/60<op.E.length
 ·rw[y7 (by
   simp only[ye,yc,y8]
   exact hg.imp id fun h=>om),z32]
  rfl
 have hb1:b=true:=by
  cases b
  ·exact absurd (.inl rfl) hg
  ·rfl
 have hsr:=zdj raw (by rw[hb,hb1])
 have hop:op.E.length<=60:=Nat.not_lt.1 fun k=>hg (.inr k)
 rw[y6 (by
  simp only[ye,yc,y8]
  exact fun k=>hg (k.imp id fun h=>om))]
 obtain⟨s0,e0,q0⟩:=z73 t
 obtain⟨n,s1,e1,q1,n1,n2⟩:=z1l (lo:=1) (hi:=3) q0 om om om
 obtain⟨j,s2,e2,q2,hV,hn,hl⟩:=z3n (n:=n) (m:=12) ⟨n1,om⟩ om q1
 simp only[e0,e1,e2,obind,z5e hV.shr,z14 hV]
 obtain⟨d,s3,e3,q3,d0,d1⟩:=z1k (n:=100) q2 om om
 simp only[e3,obind]
 rw[wrapId (n:=4600+d) om om]
 obtain⟨p,s4,e4,q4,hp⟩:=z5f hV.now q3 (day:=4600+d) om
 simp only[e4,obind]
 have hjs:=hV.sr om
 obtain⟨j',s5,e5,q5,hj'⟩:=zcm hjs om q4
 simp only[e5,obind]
 obtain⟨s6,e6,_⟩:=z25 (body:=fun i s=>(S_qo_b2 raw op (j,s2) (nowJ j,0) (p,s4) (j',s5) i s).den) (n:=3) (fun _ s=>TapeOk s) (s0:=s5) q5 (fun i s hi h=>zle h hjs hj' hsr hp.len hop hV.now hi)
 rw[e6]
 simp only[zh]
 obtain⟨x,e7,e8,e9⟩:=zpl number
 rw[e7,e8]
 simp only[obind]
 rw[zg (by simp[AllP]),z88 (by rw[e9]; simp)]
 simp only[obind]
 rw[zg (by simp[AllP]),z32]
 simp
end Go.Proofs.YtpbnkbjhlhlaiaaGreatDoor
