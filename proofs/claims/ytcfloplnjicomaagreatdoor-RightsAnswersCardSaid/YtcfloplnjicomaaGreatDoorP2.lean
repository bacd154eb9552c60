/- A part of the proof: plain laws of what the functions compute. No condition. -/
import Derived.Test.YtcfloplnjicomaaGreatDoorP1
namespace Go.Proofs.YtcfloplnjicomaaGreatDoor
open Go Go.TA
open Go.IntKind (i64)
def BSm (y:TTr):Prop:=y.B.length<=100/\∀ p∈y.B,p.F.length<=1000/\PSmall p
variable {y:TTr}
theorem BSm.small (h:BSm y):Small y:=fun p hp=>by have:=(h.2 p hp).1; omega
theorem BSm.tsmall (h:BSm y):TSmall y:=⟨by have:=h.1; omega,fun i hi=>(h.2 _ (zk hi)).2⟩
variable {t:TTr}
theorem TOk.bsm (h:TOk t):BSm t:=⟨by have:=h.2.1; omega,fun p hp=>by
 obtain⟨i,hi,rfl⟩:=z58 hp
 have hp':=(h.2.2 i hi).1
 exact⟨by have:=z6o hp'.1; omega,hp'.small h.1.2⟩⟩
variable {i:Nat} {p:TPo}
theorem z3x {l:List TPo} (h:l.length<=100/\∀ p∈l,p.F.length<=1000/\PSmall p) (h1:p.F.length<=1000) (h2:PSmall p):(l.set i p).length<=100/\∀ q∈l.set i p,q.F.length<=1000/\PSmall q :=
 ⟨by rw[yi]; exact h.1,fun q hq=>by
  rcases y3n hq with hq | rfl
  ·exact h.2 q hq
  ·exact⟨h1,h2⟩⟩
variable {s:TTape}
theorem zd1 (hs:TapeOk s):∃ c s',F_q2c s=some (c,s')/\TapeOk s'/\c.length<=1000:=by
 simp only[F_q2c,S_q2c,Scr.den]
 obtain⟨v,s',h3,h4,h5,h6⟩:=zo (n:=12) hs om om
 have h:∀ c∈([[],[48],[48,49],[49,46],[46,49],[49,46,46,50],[49,48,48],[49,46,50,46,51,46,52,46,53],[120],[49,32],[57,57,46,57,57,46,57,57,46,57,57],[52]]:List Y8),c.length<=1000:=dk
 refine⟨_,s',?_,h4,h _ (zk (show v.toNat<12 from om))⟩
 rw[h3,obind,za ⟨by simpa using h5,by simp only; omega,trivial⟩]
theorem zge {x:TTr} (hx:TOk x) (hs:TapeOk s):∃ y s',F_q2w x s=some (y,s')/\TapeOk s'/\BSm y:=by
 have hb:=hx.bsm
 have h60:=hx.2.1
 have hrow:∀ i,i<x.B.length->((x.B.getD i dF).A.length:Int)=x.I/\((x.B.getD i dF).D.length:Int)=x.I/\((x.B.getD i dF).C.length:Int)=x.I/\((x.B.getD i dF).E.length:Int)=x.I:=fun i hi=>by
  have hp:=(hx.2.2 i hi).1
  exact⟨hp.2.2.2.1.1.1,hp.2.2.2.1.2.1.1,hp.2.2.2.1.2.2.1.1,hp.2.2.2.1.2.2.2.1⟩
 have h6:=hx.1
 have hloop:∀ i0,rangeM (fun i s'=>(S_q5_b1 i0 x s i s').den) x.B.length 0 (x.I,([]:List TPo))=some (.next (x.I,x.B)):=fun i0=>z4b (fun i l hi hl=>by
  obtain⟨q1,q2,q3,q4⟩:=hrow i hi
  simp only[S_q5_b1,Scr.den]
  iterate 5 rw[za (by simp only[AllP,yh]; omega)]
  rw[za (by
   simp only[AllP,yh]
   exact⟨fun _=>⟨om,om,om,om⟩,om,om,om,om⟩)])
 simp only[F_q2w,F_q5,S_q5,Scr.den,hloop,outM,zj]
 by_cases h0:x.B.length=0
 ·have hg:ghostB x s=0:=yb h0
  rw[hg,z1e (by simp[AllP,h0])]
  simp only[obind]
  rw[yb (by simp[h0]),za (by simp only[AllP,yh]; omega)]
  obtain⟨v,s1,e1,q1,_⟩:=z1m (l:=[0,1,6,7]) hs dk dk
  simp only[e1,obind]
  rw[za (by simp only[AllP,yh]; omega)]
  exact⟨_,_,rfl,q1,hb⟩
 obtain⟨v,s1,e1,q1,v0,v1⟩:=zo (n:=6) hs om om
 rw[zh (by simp only[AllP,yh]; rw[beq_eq_false_iff_ne]; omega),e1]
 simp only[obind]
 by_cases h5:v=5
 ·have hg:ghostB x s=x.B.length:=by
   unfold ghostB
   rw[ya h0,e1]
   exact yb h5
  rw[hg,yb (by simp[h5]),za (by simp only[AllP,yh]; omega)]
  obtain⟨v,s2,e2,q2,_⟩:=z1m (l:=[0,1,6,7]) q1 dk dk
  simp only[e2,obind]
  rw[za (by simp only[AllP,yh]; omega)]
  exact⟨_,_,rfl,q2,hb⟩
 obtain⟨k,s2,e2,q2,k0,k1⟩:=zo (n:=(x.B.length:Int)) q1 om om
 have hg:ghostB x s=k.toNat:=by
  unfold ghostB
  rw[ya h0,e1]
  simp only[ya h5,e2]
 obtain⟨i,hi⟩:∃ i,i=k.toNat:=⟨_,rfl⟩
 have hil:i<x.B.length:=om
 rw[hg,<- hi,ya (by
  rw[yv,y1j,y1j]
  exact fun z=>z.elim (fun z=>om) h5),za (by simp only[AllP,yh]; omega),e2]
 simp only[obind]
 rw[<- hi,za (by simp only[AllP,yh]; omega),za (by simp only[AllP,yh])]
 obtain⟨r1,r2,r3,r4⟩:=hrow i hil
 have hbp:=hb.2 _ (zk hil)
 have hbl:x.B.length<=100/\∀ p∈x.B,p.F.length<=1000/\PSmall p:=hb
 generalize x.B.getD i dF=p at r1 r2 r3 r4 hbp |-
 obtain⟨hc,hs1,hs2,hs3,hs4⟩:=hbp
 obtain⟨j,s3,e3,q3,j0,j1⟩:=zo (n:=(p.A.length:Int)) q2 om om
 obtain⟨m,s4,e4,q4,m0,m1⟩:=zo (n:=7) q3 om om
 simp only[e3,e4,obind]
 have G1:∀ {α:Type} (K:Option α),guardP (AllP [p.A.length<2 ^ 63/\p.D.length<2 ^ 63/\p.C.length<2 ^ 63/\p.E.length<2 ^ 63]) K=K:=fun K=>za (by simp only[AllP,yh]; omega)
 have G2:∀ {α:Type} (q:TPo) (K:Option α),guardP (AllP [(x.B.set i q).length<2 ^ 63]) K=K:=fun q K=>za (by simp only[AllP,yh,yi]; omega)
 by_cases c0:(m==0)=true
 ·rw[yb c0]
  obtain⟨c,s5,e5,q5,hcl⟩:=zd1 q4
  simp only[e5,obind,G1,G2]
  exact⟨_,_,rfl,q5,z3x hbl hcl ⟨hs1,hs2,hs3,hs4⟩⟩
 rw[ya c0]
 by_cases c0:(m==1)=true
 ·rw[yb c0]
  obtain⟨c,s5,e5,q5,_⟩:=z1m (l:=[(-1),99,100]) q4 dk dk
  simp only[e5,obind,G1,G2]
  exact⟨_,_,rfl,q5,z3x hbl hc ⟨hs1,hs2,hs3,hs4⟩⟩
 rw[ya c0]
 by_cases c0:(m==2)=true
 ·rw[yb c0]
  obtain⟨c,s5,e5,q5,_⟩:=z1m (l:=[(-1000000000000001),1000000000000000,1000000000000001]) q4 dk dk
  simp only[e5,obind,G1,G2]
  exact⟨_,_,rfl,q5,z3x hbl hc ⟨hs1,hs2,hs3,hs4⟩⟩
 rw[ya c0]
 by_cases c0:(m==3)=true
 ·rw[yb c0]
  obtain⟨c,s5,e5,q5,_⟩:=z1m (l:=[(-1),0,1000000000000000,1000000000000001]) q4 dk dk
  simp only[e5,obind,G2]
  rw[za (by simp only[AllP,yh]; omega),za (by simp only[AllP,yh,yi]),za (by simp only[AllP,yh,yi]; omega)]
  exact⟨_,_,rfl,q5,z3x hbl hc ⟨by rw[yi]; exact hs1,hs2,hs3,hs4⟩⟩
 rw[ya c0]
 by_cases c0:(m==4)=true
 ·rw[yb c0]
  obtain⟨c,s5,e5,q5,_⟩:=zo (n:=2) q4 om om
  simp only[e5,obind,G2]
  rw[za (by simp only[AllP,yh]; omega),za (by simp only[AllP,yh,yi]),za (by simp only[AllP,yh,yi]; omega)]
  exact⟨_,_,rfl,q5,z3x hbl hc ⟨hs1,by rw[yi]; exact hs2,hs3,hs4⟩⟩
 rw[ya c0]
 by_cases c0:(m==5)=true
 ·rw[yb c0]
  have ew:i64.wrap ((p.E.length:Int)-1)=(p.E.length:Int)-1:=wrapId om om
  simp only[G1,G2]
  rw[za (by simp only[AllP,yh,ew]; omega)]
  exact⟨_,_,rfl,q4,z3x hbl hc ⟨hs1,hs2,hs3,by rw[y2w]; omega⟩⟩
 rw[ya c0]
 simp only[G1]
 rw[za (by simp only[AllP,yh,yi]; omega),za (by simp only[AllP,yh,y1p,yi,y19,y1t]; omega)]
 have hbs:=z3x (i:=i) hbl hc ⟨hs1,hs2,hs3,hs4⟩
 refine⟨_,_,rfl,q4,?_,fun q hq=>?_⟩
 ·simp only[y1p,yi,y19,y1t]; omega
 ·rcases y2b.1 hq with hq | hq
  ·exact hbs.2 q hq
  ·rw[y3a.1 hq]
   exact hbs.2 _ (zk (by rw[yi]; omega))
def LeP (t:TTr) (r:TTr×Int):Prop:=r.1.B.length<=t.B.length+1
theorem za2 (t:TTr) (e:Int):LeP t (zT,e):=by show zT.B.length<=_; simp
theorem z65 (t:TTr) (c:Y8) (y:Int) (p:TPo) (e:Int):LeP t (putP t c y p,e):=by
 show (t.B.set _ _).length<=_
 rw[yi]
 omega
theorem zdz (t:TTr) (c:Y8) (y x:Int):LeP t (setM t c y x):=by
 unfold setM
 repeat' split
 all_goals first | exact za2 _ _ | exact z65 _ _ _ _ _ | skip
 show (insL _ _ _).length<=_
 rw[zt]
 exact ye _
theorem zgf (t:TTr) (k:Int) (c:Y8) (y x:Int):LeP t (grantM t k c y x):=by
 unfold grantM
 repeat' split
 all_goals first | exact za2 _ _ | exact z65 _ _ _ _ _
theorem zit (t:TTr) (k:Int) (c:Y8) (y x:Int):LeP t (askM t k c y x):=by
 unfold askM
 repeat' split
 all_goals first | exact za2 _ _ | exact z65 _ _ _ _ _
theorem zhl (t:TTr) (m:TMe):LeP t (hearM t m):=by
 unfold hearM
 repeat' split
 all_goals first | exact za2 _ _ | exact z65 _ _ _ _ _
theorem za3 (t:TTr) (c:Y8) (y:Int) (a:List Int):LeP t (divideM t c y a):=by
 unfold divideM
 repeat' split
 all_goals first | exact za2 _ _ | exact z65 _ _ _ _ _
theorem z3y (h:BSm t) {r:TTr×Int} (hr:LeP t r):F_qa r.1 r.1=some true:=zgc (by have:=h.1; unfold LeP at hr; omega)
theorem zhm (a:Int):∃ m:Int,F_q25 a 8=some m/\0<=m/\m<=7:=by
 simp only[F_q25,S_q25,Scr.den]
 rw[ya dk,za ⟨dk,trivial⟩]
 have h1:a.tmod 8<8/\-8<a.tmod 8:=⟨Int.tmod_lt_of_pos a dk,Int.lt_tmod_of_pos a dk⟩
 by_cases h:a.tmod 8<0
 ·rw[yb (by simpa using h),wrapId om om]
  refine⟨a.tmod 8+8,rfl,?_,?_⟩
  ·omega
  ·omega
 ·rw[ya (by simpa using h)]
  exact⟨a.tmod 8,rfl,om,om⟩
theorem z4c (t:TTr):∃ b,F_qm t=some b/\(b=true->BSm t):=by
 simp only[F_qm,S_qm,Scr.den]
 obtain⟨g1,g2⟩:=z3d (ρ:=Bool) (n:=t.B.length) (c:=false) (body:=fun i s=>(S_qm_b1 t i s).den)
  (fun i=>((((t.B.getD i dF).F.length<=60/\(t.B.getD i dF).A.length<=12)/\(t.B.getD i dF).D.length<=12)/\(t.B.getD i dF).C.length<=12)/\(t.B.getD i dF).E.length<=12) (fun i hi h=>by
  simp only[S_qm_b1,Scr.den,zj]
  rw[ya (by simp only[yv,yf]; omega)]) (fun i hi h=>by
  simp only[S_qm_b1,Scr.den,zj]
  rw[yb (by simp only[yv,yf]; omega)])
 by_cases hk:∀ i,i<t.B.length->((((t.B.getD i dF).F.length<=60/\(t.B.getD i dF).A.length<=12)/\(t.B.getD i dF).D.length<=12)/\(t.B.getD i dF).C.length<=12)/\(t.B.getD i dF).E.length<=12
 ·rw[g1 hk]
  refine⟨_,rfl,fun h=>?_⟩
  have h:=y28 h
  refine⟨om,fun p hp=>?_⟩
  obtain⟨i,hi,rfl⟩:=z58 hp
  have:=hk i hi
  exact⟨om,om,om,om,om⟩
 ·rw[g2 hk]
  exact⟨_,rfl,fun h=>by cases h⟩
theorem zet (hs:TapeOk s):∃ r s',F_q19 s=some (r,s')/\TapeOk s'/\r.F.length<=60:=by
 simp only[F_q19,S_q19,Scr.den]
 obtain⟨n,s1,a1,a2,a3,a4⟩:=zo (n:=500) hs om om
 obtain⟨c,s2,b1,b2,b3,b4⟩:=z5f a2
 obtain⟨y,s3,c1,c2,c3,c4⟩:=zo (n:=2) b2 om om
 obtain⟨k,s4,d1,d2,d3,d4⟩:=zo (n:=400) c2 om om
 obtain⟨g,s5,e1,e2,e3,e4⟩:=zo (n:=n+1) d2 om om
 rw[a1]
 simp only[obind]
 rw[b1]
 simp only[obind]
 rw[c1]
 simp only[obind]
 rw[d1]
 simp only[obind]
 rw[wrapId (n:=n+1) om om,e1]
 simp only[obind]
 exact⟨_,_,rfl,e2,b3⟩
variable {α:Type} {q:α->Prop} {a b d:α}
theorem three {c:α} (h0:q a) (h1:q b) (h2:q c) (hi:i<3):q (([a,b,c]:List α).getD i d):=by
 have:i=0\/i=1\/i=2:=om
 rcases this with rfl | rfl | rfl
 ·exact h0
 ·exact h1
 ·exact h2
theorem two' (h0:q a) (h1:q b) (hi:i<2):q (([a,b]:List α).getD i d):=by
 have:i=0\/i=1:=om
 rcases this with rfl | rfl
 ·exact h0
 ·exact h1
variable {ρ:Type} {n:Nat}
theorem z4q {body:Nat->Unit->Option (Step Unit ρ)} (h:∀ i,i<n->body i ()=some (.cont ())):rangeM body n 0 ()=some (.next ()):=by
 obtain⟨u,e,_⟩:=z3c (body:=body) (n:=n) (fun _ _=>True) (s0:=()) trivial (fun i u hi _=>⟨(),h i hi,trivial⟩)
 exact e
theorem z4r {body:Nat->TTape->Option (Step TTape ρ)} (h:∀ i s,i<n->TapeOk s->∃ s',body i s=some (.cont s')/\TapeOk s') {s0:TTape} (h0:TapeOk s0):∃ s,rangeM body n 0 s0=some (.next s)/\TapeOk s :=
 z3c (body:=body) (n:=n) (fun _ s=>TapeOk s) h0 (fun i s hi hs=>h i s hi hs)
variable {a1:TTr} {rv1:R_q3} {rv2:R_q5} {j:Nat}
theorem zji (hz:BSm (([rv1.1,rv2.1,a1]:List TTr).getD i dF)) (hp:p.A.length<=1000000) (hj:j<(([p]:List TPo)++(([rv1.1,rv2.1,a1]:List TTr).getD i dF).B).length) :
  (S_q1_b1 a1 p rv1 rv2 i j ()).den=some (.cont ()):=by
 simp only[S_q1_b1,Scr.den]
 generalize ([rv1.1,rv2.1,a1]:List TTr).getD i dF=z at hz hj |-
 have hg:((([p]:List TPo)++z.B).getD j dF).A.length<4611686018427387904:=by
  have hm:(([p]:List TPo)++z.B).getD j dF∈([p]:List TPo)++z.B:=zk hj
  rcases y2b.1 hm with h | h
  ·rw[y3a.1 h]; omega
  ·have:=(hz.2 _ h).2.1; omega
 generalize (([p]:List TPo)++z.B).getD j dF=q at hg |-
 rw[z9s,z6q hg]
 simp only[obind]
 rw[zh (by simp[AllP]),zdr,zh (by simp[AllP]),z8n hg]
 simp only[obind]
 rw[zh (by simp[AllP]),z5c,zh (by simp[AllP]),zde hg]
 simp only[obind]
 rw[ya sj]
variable {a4:TMe} {rv11:R_qf} {rv12:R_q0} {a3:TRi} {a7 a8 a6:Int} {a2:TPo} {a5:Y8} {a9:List Int}
theorem zjj {rv13:R_qe} {rv14:R_q0} {rv15:R_q4} {k:Nat} (hs:TapeOk s) (hz:BSm (([rv1.1,rv2.1,a1]:List TTr).getD i dF)) (hw:(([a5,rv11.1]:List Y8).getD k dF).length<=1000000) :
  ∃ s',(S_q1_b3 a1 a2 a3 a4 a5 a6 a7 a8 a9 rv1 rv11 rv12 rv2 i rv13 rv14 rv15 j k s).den=some (.cont s')/\TapeOk s':=by
 simp only[S_q1_b3,Scr.den]
 have hin:∀ (u0:R_q12) (u1:R_q1p) (u2:(TTr×Int)) (u3:(TTr×Int)) (u4:(TMe×Int)) (u5:(TMe×Int)) (m:Int),0<=m->m<=7->∃ s' l,rangeM (fun q s=>(S_q1_b2 a1 a2 a3 a4 a5 a6 a7 a8 a9 rv1 rv11 rv12 rv2 i rv13 rv14 rv15 j k u0 u1 u2 u3 u4 u5 m q s).den) (List.replicate m.toNat (0:Int)).length 0 (s,List.replicate m.toNat (0:Int))=some (.next (s',l))/\TapeOk s'/\l.length<=7:=fun u0 u1 u2 u3 u4 u5 m m0 m7=>by
  obtain⟨⟨s',l⟩,e,h1,h2⟩:=z3c (body:=fun q s=>(S_q1_b2 a1 a2 a3 a4 a5 a6 a7 a8 a9 rv1 rv11 rv12 rv2 i rv13 rv14 rv15 j k u0 u1 u2 u3 u4 u5 m q s).den) (n:=(List.replicate m.toNat (0:Int)).length) (fun _ x=>TapeOk x.1/\x.2.length=m.toNat) (s0:=(s,List.replicate m.toNat (0:Int))) ⟨hs,sj⟩ (fun q x hq hI=>by
   obtain⟨h1,h2⟩:=hI
   rw[y2a] at hq
   obtain⟨v,s',e,h3,_,_⟩:=zo (n:=80) h1 om om
   simp only[S_q1_b2,Scr.den,e,obind]
   rw[za ⟨om,om,trivial⟩]
   exact⟨_,rfl,h3,by show (x.2.set _ _).length=_; rw[yi]; exact h2⟩)
  exact⟨s',l,e,h1,by rw[h2]; omega⟩
 generalize ([a5,rv11.1]:List Y8).getD k dF=w at hw hin |-
 generalize (([(fun j=>([a7,a8]:List Int).getD j dF),(fun j=>([rv13.1,rv14.1]:List Int).getD j dF),(fun j=>([1,rv15.1]:List Int).getD j dF)]:List (Nat->Int)).getD j dF)=f
 generalize ([rv1.1,rv2.1,a1]:List TTr).getD i dF=z at hz |-
 generalize i64.wrap (12+rv12.1)=y
 have h1:=hz.small
 rw[z9u hz.tsmall,zes,z9x h1 hw,z4p h1 hw]
 simp only[obind]
 rw[zh (by simp[AllP]),z7q]
 simp only[obind]
 rw[zh (by simp[AllP]),z3y hz (zdz ..)]
 simp only[obind]
 rw[ya sj,zha h1,z7n h1]
 simp only[obind]
 rw[zh (by simp[AllP]),z3y hz (zgf ..)]
 simp only[obind]
 rw[ya sj,zg5 h1,z9v h1]
 simp only[obind]
 rw[zh (by simp[AllP]),z3y hz (zit ..)]
 simp only[obind]
 rw[ya sj,zdu h1,zdd h1]
 simp only[obind]
 rw[ya sj]
 obtain⟨m,e1,m0,m7⟩:=zhm z.I
 rw[e1]
 simp only[obind]
 rw[za ⟨m0,by show (m:Int) * 8<=2 ^ 47; omega,trivial⟩,za ⟨by rw[y2a]; omega,trivial⟩]
 obtain⟨s',l,e2,q1,q2⟩:=hin (potM z w y) (potM z w y) (askM z (f 0) w y (f 1)) (askM z (f 0) w y (f 1)) (tellM z (f 0) w y) (tellM z (f 0) w y) m m0 m7
 rw[e2]
 simp only[outM]
 rw[zdf om,za1 om,z7p h1,z4e h1]
 simp only[obind]
 rw[zh (by simp[AllP]),z3y hz (za3 ..)]
 simp only[obind]
 rw[ya sj,z7p h1,z4e h1]
 simp only[obind]
 rw[zh (by simp[AllP]),z3y hz (za3 ..)]
 simp only[obind]
 rw[ya sj]
 exact⟨_,rfl,q1⟩
theorem zjk {rv44:R_qe} {rv45 rv46:R_q4} (hz:BSm (([rv1.1,rv2.1,a1]:List TTr).getD i dF)) :
  (S_q1_b5 a1 a4 rv1 rv11 rv12 rv2 i rv44 rv45 rv46 j ()).den=some (.cont ()):=by
 simp only[S_q1_b5,Scr.den]
 generalize ([rv1.1,rv2.1,a1]:List TTr).getD i dF=z at hz |-
 generalize ([a4,(⟨rv44.1,0,rv11.1,(i64.wrap (12+rv12.1)),0,0,rv45.1,rv46.1⟩:TMe)]:List TMe).getD j dF=m
 rw[zdt hz.small,z8o hz.small]
 simp only[obind]
 rw[zh (by simp[AllP]),z3y hz (zhl ..)]
 simp only[obind]
 rw[ya sj]
theorem zjl (hs:TapeOk s) (hz:BSm (([rv1.1,rv2.1,a1]:List TTr).getD i dF)) (h2:a2.A.length<=1000000) (h5:a5.length<=1000000) (h11:rv11.1.length<=1000000) :
  ∃ s',(S_q1_b6 a1 a2 a3 a4 a5 a6 a7 a8 a9 rv1 rv11 rv12 rv2 i s).den=some (.cont s')/\TapeOk s':=by
 have h1:=hz.small
 have hl:=hz.1
 simp only[S_q1_b6,Scr.den]
 rw[z33 h1,z3f h1]
 simp only[obind]
 rw[ya sj,za ⟨by simp only[y19,y1t]; omega,trivial⟩,za ⟨by simp only[y1p,y19,y1t]; omega,trivial⟩,z4q (fun j hj=>zji hz h2 hj)]
 simp only[outM]
 obtain⟨x1,s1,e1,q1,_⟩:=z2v (lo:=0) (hi:=5) hs om om om
 obtain⟨x2,s2,e2,q2,_⟩:=zo (n:=200) q1 om om
 obtain⟨x3,s3,e3,q3,_⟩:=z1m (l:=[0,1,1000000000000000,1000000000000001]) q2 dk dk
 simp only[e1,e2,e3,obind]
 obtain⟨s4,e4,q4⟩:=z4r (body:=fun j s=>(S_q1_b4 a1 a2 a3 a4 a5 a6 a7 a8 a9 rv1 rv11 rv12 rv2 i (x1,s1) (x2,s2) (x3,s3) j s).den) (n:=3) (fun j s hj hs=>by
  simp only[S_q1_b4,Scr.den]
  obtain⟨s',e,q⟩:=z4r (body:=fun k s=>(S_q1_b3 a1 a2 a3 a4 a5 a6 a7 a8 a9 rv1 rv11 rv12 rv2 i (x1,s1) (x2,s2) (x3,s3) j k s).den) (n:=2) (fun k s hk hs=>zjj hs hz (two' (q:=fun x:Y8=>x.length<=1000000) h5 h11 hk)) hs
  rw[e]
  exact⟨_,rfl,q⟩) q3
 rw[e4]
 simp only
 obtain⟨x5,s5,e5,q5,_⟩:=z2v (lo:=0) (hi:=4) q4 om om om
 obtain⟨x6,s6,e6,q6,_⟩:=zo (n:=300) q5 om om
 obtain⟨x7,s7,e7,q7,_⟩:=z1m (l:=[0,x6,(-1)]) q6 sj sj
 obtain⟨x8,s8,e8,q8,_⟩:=zo (n:=100) q7 om om
 obtain⟨x9,s9,e9,q9,_⟩:=z1m (l:=[x8,(-1)]) q8 sj sj
 simp only[e5,e6,e7,e8,e9,obind]
 rw[z4q (fun j hj=>zjk hz)]
 simp only
 rw[z9x h1 h5,z4p h1 h5]
 simp only[obind]
 rw[zh (by simp[AllP]),z3y hz (zdz ..)]
 simp only[obind]
 rw[ya sj]
 exact⟨_,rfl,q9⟩
theorem zbf (a:TRi):((a.F==a.F)&&((a.G==a.G)&&((a.A==a.A)&&((a.C==a.C)&&((a.J==a.J)&&true)))))=true:=sj
theorem zjm {rv59:R_q19} {rv60 rv61:R_q0} (hs:TapeOk s) (hz:(([rv59.1,a3,(⟨rv11.1,(i64.wrap (12+rv12.1)),rv60.1,0,rv61.1⟩:TRi)]:List TRi).getD i dF).F.length<=1000000) :
  ∃ s',(S_q1_b9 a3 a4 a7 a8 rv11 rv12 rv59 rv60 rv61 i s).den=some (.cont s')/\TapeOk s':=by
 simp only[S_q1_b9,Scr.den]
 obtain⟨x1,s1,e1,q1,_⟩:=zo (n:=900) hs om om
 obtain⟨x2,s2,e2,q2,_⟩:=zo (n:=900) q1 om om
 obtain⟨x3,s3,e3,q3,_⟩:=z1m (l:=[(-1),1000000000000001]) q2 dk dk
 simp only[e1,e2,e3,obind]
 rw[z4q (fun j hj=>by
  simp only[S_q1_b7,Scr.den]
  generalize ([rv59.1,a3,(⟨rv11.1,(i64.wrap (12+rv12.1)),rv60.1,0,rv61.1⟩:TRi)]:List TRi).getD i dF=r at hz |-
  generalize ([a4,(⟨0,0,r.F,r.G,x1,x2,0,0⟩:TMe),(⟨0,0,r.F,r.G,x3,0,0,0⟩:TMe)]:List TMe).getD j dF=m
  rw[z5s hz,zcz hz]
  simp only[obind,zbf]
  rw[ya sj])]
 simp only[outM]
 obtain⟨x4,s4,e4,q4,_⟩:=zo (n:=300) q3 om om
 obtain⟨x5,s5,e5,q5,_⟩:=zo (n:=300) q4 om om
 obtain⟨x6,s6,e6,q6,_⟩:=zo (n:=500) q5 om om
 simp only[e4,e5,e6,obind]
 rw[z4q (fun j hj=>by
  simp only[S_q1_b8,Scr.den]
  generalize ([rv59.1,a3,(⟨rv11.1,(i64.wrap (12+rv12.1)),rv60.1,0,rv61.1⟩:TRi)]:List TRi).getD i dF=r at hz |-
  generalize (([(fun j=>([a8,a7]:List Int).getD j dF),(fun j=>([x4,x5]:List Int).getD j dF),(fun j=>([0,x6]:List Int).getD j dF)]:List (Nat->Int)).getD j dF)=f
  rw[z5d hz,zbm hz]
  simp only[obind,zbf]
  rw[zh (by simp[AllP]),z5e hz,zh (by simp[AllP]),zbn hz]
  simp only[obind]
  rw[ya sj])]
 simp only
 rw[z2i hz,z3h hz]
 simp only[obind]
 rw[ya sj]
 exact⟨_,rfl,q6⟩
theorem z7r (t:List Int) (raw:TTr) (p:TPo) (r:TRi) (m:TMe) (code:Y8) (year office amount:Int) (amounts:List Int) (hr:r.F.length<=reachBytes) (hm:m.F.length<=reachBytes) (hc:code.length<=reachBytes) :
  F_q1 t raw p r m code year office amount amounts=some true:=by
 have hrb:reachBytes=140737488351232:=rfl
 obtain⟨b1,eb1,hb1⟩:=z4c raw
 obtain⟨b2,eb2,hb2⟩:=z4c ⟨0,[p]⟩
 have ew:i64.wrap (i64.wrap ((r.F.length:Int)+(m.F.length:Int))+(code.length:Int))=(r.F.length:Int)+(m.F.length:Int)+(code.length:Int):=by
  rw[wrapId (n:=(r.F.length:Int)+(m.F.length:Int)) om om,wrapId om om]
 simp only[F_q1,S_q1,Scr.den,eb1,obind,zj,ew]
 by_cases hg:b1=false\/b2=false\/150<r.F.length+m.F.length+code.length\/20<amounts.length
 ·by_cases h1:b1=false
  ·rw[z1e (by simp[AllP,h1])]
   simp only[obind]
   rw[yb (by simp[h1]),z96]
   rfl
  ·have h1:b1=true:=by simpa using h1
   rw[zh (by simp[AllP,h1]),eb2]
   simp only[obind]
   rw[yb (by
    simp only[yv,y20,yf]
    rcases hg with h | h | h | h
    ·rw[h1] at h; cases h
    ·exact .inl (.inl (.inr h))
    ·exact .inl (.inr om)
    ·exact .inr om),z96]
   rfl
 have h1:b1=true:=by
  cases b1
  ·exact absurd (.inl rfl) hg
  ·rfl
 have h2:b2=true:=by
  cases b2
  ·exact absurd (.inr (.inl rfl)) hg
  ·rfl
 have h3:r.F.length+m.F.length+code.length<=150:=Nat.not_lt.1 fun k=>hg (.inr (.inr (.inl k)))
 have h4:amounts.length<=20:=Nat.not_lt.1 fun k=>hg (.inr (.inr (.inr k)))
 have hraw:=hb1 h1
 have hpp:=hb2 h2
 have hpg:p.A.length<=1000000:=(hpp.2 p (y3a.2 rfl)).2.1
 rw[zh (by simp[AllP,h1]),eb2]
 simp only[obind]
 rw[ya (by
  simp only[yv,y20,yf]
  rintro (((h | h) | h) | h)
  ·rw[h1] at h; cases h
  ·rw[h2] at h; cases h
  ·omega
  ·omega)]
 obtain⟨s0,e0,q0⟩:=zhi t
 obtain⟨n,s1,e1,q1,n1,n2⟩:=z2v (lo:=1) (hi:=4) q0 om om om
 obtain⟨x,s2,e2,q2,hx,_,_⟩:=z97 (k:=n) q1 ⟨n1,n2⟩
 obtain⟨c,s3,e3,q3,hcl,_⟩:=z5f q2
 obtain⟨y,s4,e4,q4,y0,y1⟩:=zo (n:=2) q3 om om
 obtain⟨z,s5,e5,q5,hz⟩:=zge hx q4
 simp only[e0,e1,e2,e3,e4,e5,obind]
 obtain⟨s6,e6,q6⟩:=z4r (body:=fun i s=>(S_q1_b6 raw p r m code year office amount amounts (x,s2) (c,s3) (y,s4) (z,s5) i s).den) (n:=3) (fun i s hi hs=>zjl hs (three (q:=fun t=>BSm t) hx.bsm hz hraw hi) hpg om (by show c.length<=1000000; omega)) q5
 rw[e6]
 simp only[outM]
 obtain⟨rt,s7,e7,q7,hrt⟩:=zet q6
 obtain⟨g1,s8,e8,q8,_⟩:=zo (n:=9) q7 om om
 obtain⟨g2,s9,e9,q9,_⟩:=zo (n:=12) q8 om om
 simp only[e7,e8,e9,obind]
 obtain⟨s10,e10,_⟩:=z4r (body:=fun i s=>(S_q1_b9 r m office amount (c,s3) (y,s4) (rt,s7) (g1,s8) (g2,s9) i s).den) (n:=3) (fun i s hi hs=>zjm hs (three (q:=fun x:TRi=>x.F.length<=1000000) (by show rt.F.length<=1000000; omega) (by show r.F.length<=1000000; omega) (by show c.length<=1000000; omega) hi)) q9
 rw[e10]
 simp only[z96,obind]
end Go.Proofs.YtcfloplnjicomaaGreatDoor
