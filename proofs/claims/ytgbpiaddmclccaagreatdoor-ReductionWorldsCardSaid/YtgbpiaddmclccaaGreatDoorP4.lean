/- A part of the proof: plain laws of what the functions compute. No condition. -/
import Derived.Test.YtgbpiaddmclccaaGreatDoorP3
namespace Go.Proofs.YtgbpiaddmclccaaGreatDoor
open Go Go.TA
open Go.IntKind (i64)
variable {i:Nat} {α:Type}
theorem zh3 [Inhabited α] {l:List α} (hi:i<l.length):l.take (i+1)=l.take i++[l.getD i dF]:=by
 rw[y39,yd hi,z16 hi]
 rfl
def zjy (w:TWo):Prop:=J13.TSmall w.I/\w.K.length<=1000000/\(∀ j∈w.K,j.N.length<=1000000)/\w.O.length<=1000000
variable {w:TWo}
theorem VW.fr (h:VW w):zjy w:=⟨h.1.small,by have:=h.len; omega,fun j hj=>by
 obtain⟨i,hi,rfl⟩:=z11 hj
 have:(jAt w i).N.length<=400:=(h.2.2.2.1 i hi).1.2.1
 show (jAt w i).N.length<=_
 omega,by have:=h.2.2.1; omega⟩
theorem zwu:zjy zWd:=⟨⟨dk,fun i hi=>absurd hi (by show ¬ i<0; omega)⟩,dk,fun j hj=>(by cases hj),dk⟩
theorem zse (h:zjy w):F_q10 w=some w:=by
 obtain⟨h1,h2,h3,h4⟩:=h
 simp only[F_q10,S_q10,Scr.den]
 have l0:=h1.1
 obtain⟨s,e,hs⟩:=zr (body:=fun i s=>(S_q10_b1 w i s).den) (n:=w.I.E.length) (fun i s=>s=(w.I.P,w.K,w.O,w.I.E.take i)) (s0:=(w.I.P,w.K,w.O,([]:List TPo))) rfl (fun i s hi hI=>by
  subst hI
  obtain⟨q1,q2,q3,q4⟩:=h1.2 i hi
  simp only[S_q10_b1,Scr.den,J13.clone_eq q1,J13.clone_eq q2,J13.clone_eq q3,J13.clone_eq q4,obind]
  rw[z6 ⟨by rw[y1h]; omega,trivial⟩]
  exact⟨_,rfl,by rw[zh3 hi]⟩)
 rw[e,hs]
 simp only[zd]
 obtain⟨s,e,hs⟩:=zr (body:=fun i s=>(S_q10_b2 (w.I.P,w.K,w.O,w.I.E.take w.I.E.length) i s).den) (n:=w.K.length) (fun i s=>s=(w.I.P,w.O,w.K.take i)) (s0:=(w.I.P,w.O,([]:List TJo))) rfl (fun i s hi hI=>by
  subst hI
  simp only[S_q10_b2,Scr.den,cloneOp (h3 _ (z7 hi)),obind]
  rw[z6 ⟨by rw[y1h]; omega,trivial⟩]
  exact⟨_,rfl,by rw[zh3 hi]⟩)
 rw[e,hs]
 simp only[zd,cloneM h4,obind]
 rw[y46,y46,Ga,Ga]
theorem z6k.fr {r:TWo×Int} (h:z6k r):zjy r.1:=by
 rcases h with ⟨_,h⟩ | ⟨_,h⟩
 ·exact h.fr
 ·rw[h]; exact zwu
def SOk (s:TSt):Prop:=s.B.length<=1000000/\s.Op.B.length<=1000000
def newW (n:Int):TWo:=⟨⟨n,[]⟩,ups n.toNat (fun i=>⟨(i:Int)+1,[],0⟩),[]⟩
variable {n:Int}
theorem zqe (h:1<=n/\n<=6):VW (newW n):=by
 refine⟨⟨h,y1e _,fun i hi=>absurd hi (by show ¬ i<0; omega)⟩,by show ((ups _ _).length:Int)=n; rw[zx]; omega,y1e _,fun k hk=>?_,fun m hm=>(by cases hm)⟩
 have hk:k<(ups n.toNat (fun i=>(⟨(i:Int)+1,[],0⟩:TJo))).length:=hk
 rw[zx] at hk
 have e:jAt (newW n) k=⟨(k:Int)+1,[],0⟩:=z2h hk
 unfold noW stW
 rw[e]
 refine⟨⟨by show 1<=(k:Int)+1/\(k:Int)+1<=6; omega,y1e _,⟨y18 _,y18 _⟩,trivial⟩,rfl,fun r hr=>(by cases hr),fun p hp=>(by cases hp)⟩
theorem zep (h:1<=n/\n<=6):F_q1q n=some (newW n,0):=by
 simp only[F_q1q,S_q1q,Scr.den,z8]
 rw[y5 sk]
 obtain⟨s,e,hs⟩:=z1n (step:=fun s=>(S_q1q_b1 n s).den) (fun s=>(n+1-s.2.2.2).toNat) (fun s=>1<=s.2.2.2/\s.2.2.2<=n+1/\s=((⟨n,[]⟩:TTr),([]:List TMe),ups (s.2.2.2-1).toNat (fun i=>(⟨(i:Int)+1,[],0⟩:TJo)),s.2.2.2)) (fun s=>s.1=(⟨n,[]⟩:TTr)/\s.2.1=([]:List TMe)/\s.2.2.1=ups n.toNat (fun i=>(⟨(i:Int)+1,[],0⟩:TJo))) (fun s hI=>by
  obtain⟨h1,h2,h3⟩:=hI
  obtain⟨t,m,j,i⟩:=s
  simp only[y2n,y16] at h3
  obtain⟨rfl,rfl,rfl⟩:=h3
  simp only[S_q1q_b1,Scr.den] at h1 h2 |-
  by_cases c:i<=n
  ·rw[y6 (by simpa using c),z6 ⟨by rw[zx]; omega,trivial⟩]
   have e1:i64.wrap (i+1)=i+1:=wrapId om om
   refine .inl ⟨_,rfl,⟨?_,?_,?_⟩,?_⟩
   ·simp only[e1]; omega
   ·simp only[e1]; omega
   ·simp only[e1]
    have e2:(i+1-1).toNat=(i-1).toNat+1:=om
    have e3:(((i-1).toNat:Nat):Int)+1=i:=om
    rw[e2,z4k,e3]
   ·simp only[e1]; omega
  ·rw[y5 (by simpa using c)]
   refine .inr ⟨_,rfl,rfl,rfl,?_⟩
   have:i=n+1:=om
   subst this
   rw[show (n+1-1).toNat=n.toNat from om]) 10 ((⟨n,[]⟩:TTr),([]:List TMe),([]:List TJo),1) (by simp only; omega) ⟨by simp only; omega,by simp only; omega,rfl⟩
 obtain⟨h1,h2,h3⟩:=hs
 rw[e]
 simp only[zd,h1,h2,h3]
 rw[z6 ⟨by rw[zx]; omega,trivial⟩]
 rfl
def sumTo (f:Nat->Int) (n:Nat):Int:=((List.range n).map f).sum
theorem z1f (f:Nat->Int) (n:Nat):sumTo f (n+1)=sumTo f n+f n:=by simp[sumTo,List.range_succ,List.sum_append]
theorem znj (f:Nat->Int):sumTo f 0=0:=rfl
variable {f:Nat->Int}
theorem zdl {g:Nat->Int} {n:Nat} (h:∀ k,k<n->f k<=g k):sumTo f n<=sumTo g n:=by
 induction n with
 | zero=>exact y18 _
 | succ n ih =>
  rw[z1f,z1f]
  have:=ih fun k hk=>h k om
  have:=h n om
  omega
theorem za7 {n:Nat} {B:Int} (h:∀ k,k<n->0<=f k/\f k<=B):0<=sumTo f n/\sumTo f n<=n * B:=by
 induction n with
 | zero=>simp[znj]
 | succ n ih =>
  rw[z1f]
  have:=ih fun k hk=>h k om
  have:=h n om
  have e:((n+1:Nat):Int) * B=(n:Int) * B+B:=by rw[Int.natCast_add,Int.add_mul]; simp
  omega
theorem zh4 (l:List Int):l.sum=sumTo (fun k=>l.getD k dF) l.length:=by
 unfold sumTo
 congr 1
 refine y33 sj fun i h1 h2=>?_
 rw[y3s,y3g,z16 h1]
noncomputable def heldK (w:TWo) (c:Y8) (y:Int) (k:Nat):Int:=(rightV (noW w k).L c y).A-(rightV (noW w k).L c y).Q
noncomputable def usedK (w:TWo) (c:Y8) (y:Int) (k:Nat):Int:=usedE (noW w k).Ag c y
noncomputable def heldW (w:TWo) (c:Y8) (y:Int):Int:=sumTo (heldK w c y) w.K.length
noncomputable def usedW (w:TWo) (c:Y8) (y:Int):Int:=sumTo (usedK w c y) w.K.length
variable {k:Nat}
theorem z76 (h:VW w) (c:Y8) (y:Int) (hk:k<w.K.length):0<=heldK w c y k/\heldK w c y k<=1000000000000000/\0<=usedK w c y k/\usedK w c y k<=heldK w c y k:=by
 obtain⟨q1,q2,q3⟩:=h.2.2.2.1 k hk
 have hv:VO (noW w k):=q1.now
 have h1:=z4t hv.ok c y
 have h2:=z2p hv.val c y
 have h3:=hv.unused_nn c y
 rw[hv.unused c y] at h3
 unfold heldK usedK
 omega
variable {p:TPo}
theorem zsf (hp:J13.PotOk n p):J13.outV p=sumTo (fun k=>nthN p.A k-nthN p.G k) n.toNat:=by
 have l1:=hp.2.2.2.1.1.1
 have l2:=hp.2.2.2.1.2.1.1
 unfold J13.outV
 rw[show min p.A.length p.G.length=p.A.length from om,y46,show p.A.length=p.G.length from om,y46,zh4,zh4,show p.A.length=p.G.length from om,show p.G.length=n.toNat from om]
 have:∀ (f g:Nat->Int) (m:Nat),sumTo f m-sumTo g m=sumTo (fun k=>f k-g k) m:=fun f g m=>by
  induction m with
  | zero=>rfl
  | succ m ih=>rw[z1f,z1f,z1f,<- ih]; omega
 exact this _ _ _
variable {c:Y8} {y:Int}
theorem zvx (h:VW w) (hp:J13.hasP w.I.E c y=true):0<=usedW w c y/\usedW w c y<=heldW w c y/\heldW w c y<=J13.outV (J13.potAt w.I c y)/\J13.outV (J13.potAt w.I c y)<=6000000000000000:=by
 have hk:=h.1.potAt hp
 have h2:=h.2.1
 have hl:=h.len
 have e:w.I.P.toNat=w.K.length:=om
 rw[zsf hk,e]
 have b1:=za7 (f:=usedK w c y) (n:=w.K.length) (B:=1000000000000000) fun k hk=>by have:=z76 h c y hk; omega
 have hpk:∀ k,k<w.K.length->heldK w c y k<=nthN (J13.potAt w.I c y).A k-nthN (J13.potAt w.I c y).G k/\nthN (J13.potAt w.I c y).A k-nthN (J13.potAt w.I c y).G k<=1000000000000000:=fun k hkl=>by
  obtain⟨q1,q2,q3⟩:=h.2.2.2.1 k hkl
  have hv:VO (noW w k):=q1.now
  have lg:=hk.2.2.2.1.1
  have lh:=hk.2.2.2.1.2.1
  have t1:=lg.2 _ (z7 (show k<_ by have:=lg.1; omega))
  have t2:=lh.2 _ (z7 (show k<_ by have:=lh.1; omega))
  have t3:=hk.2.2.2.2.1.1 k (by have:=lg.1; omega)
  have hh:=z5x q3 hp
  have hle:=(zem q1 c y).2.2.2
  have hr:=z4t hv.ok c y
  unfold J13.tot at t1 t2
  unfold heldK nthN at *
  refine⟨?_,om⟩
  by_cases hold:hasR (noW w k).L c y=true
  ·obtain⟨o1,o2,o3⟩:=z4l hv q3 hold
   unfold nthN at o2
   have hle':(rightV (stW w k).L c y).Q<=(rightV (noW w k).L c y).Q:=hle
   omega
  ·have e0:rightV (noW w k).L c y=⟨c,y,0,0,0⟩:=y5 hold
   rw[e0]
   show (0:Int)-0<=_
   omega
 refine⟨b1.1,zdl fun k hk=>(z76 h c y hk).2.2.2,zdl fun k hk=>(hpk k hk).1,?_⟩
 have b2:=zdl (f:=fun k=>nthN (J13.potAt w.I c y).A k-nthN (J13.potAt w.I c y).G k) (g:=fun _=>1000000000000000) (n:=w.K.length) fun k hk=>(hpk k hk).2
 have b3:=za7 (f:=fun _=>(1000000000000000:Int)) (n:=w.K.length) (B:=1000000000000000) fun k hk=>om
 omega
noncomputable def shW (p:TPo):Int:=max (J13.outV p-p.T) 0
theorem zbj (h:VW w) (hp:p∈w.I.E) :
  (J13.hasP w.I.E p.B p.D=true/\J13.potAt w.I p.B p.D=p)/\(F_q39 p=some (J13.outV p)/\F_qu p=some (J13.outV p)/\F_q3a p=some (shW p)/\F_q36 p=some (shW p)) /\
  (0<=usedW w p.B p.D/\usedW w p.B p.D<=heldW w p.B p.D/\heldW w p.B p.D<=J13.outV p/\J13.outV p<=6000000000000000)/\(-1000000000000000<=p.T/\p.T<=1000000000000000):=by
 have h1:=z92 h.1 hp
 have h2:=zvx h h1.1
 have h3:=h.1.potAt h1.1
 have h6:=h.1.1
 rw[h1.2] at h2 h3
 have l1:=h3.2.2.2.1.1.1
 have ht:=h3.2.2.1
 have e1:F_q39 p=some (J13.outV p):=by rw[J13.Out_eq,wrapId om om]
 have e2:F_qu p=some (J13.outV p):=by rw[J13.r13_Out_eq om,wrapId om om]
 have e3:F_q3a p=some (shW p):=by
  rw[J13.Shortfall_eq,wrapId om om]
  rfl
 have e4:F_q36 p=some (shW p):=by
  simp only[F_q36,S_q36,Scr.den,e2,obind]
  rw[wrapId (n:=J13.outV p-p.T) om om]
  have key:∀ n:Int,(if n>0 then n else 0)=max n 0:=fun n=>by split <;> omega
  exact y15 some (key _)
 exact⟨h1,⟨e1,e2,e3,e4⟩,h2,ht⟩
theorem zg1 (h:VW w) (c:Y8) (y:Int) (hi:i<=w.K.length):0<=sumTo (heldK w c y) i/\sumTo (heldK w c y) i<=6000000000000000/\0<=sumTo (usedK w c y) i/\sumTo (usedK w c y) i<=6000000000000000:=by
 have hl:=h.len
 have b1:=za7 (f:=heldK w c y) (n:=i) (B:=1000000000000000) fun k hk=>by have:=z76 h c y (show k<w.K.length from om); omega
 have b2:=za7 (f:=usedK w c y) (n:=i) (B:=1000000000000000) fun k hk=>by have:=z76 h c y (show k<w.K.length from om); omega
 omega
theorem zuk (h:VW w) (hp:p∈w.I.E):F_q2s (ups w.K.length (noW w)) p=some (p.T,J13.outV p,heldW w p.B p.D,usedW w p.B p.D):=by
 simp only[F_q2s,S_q2s,Scr.den,(zbj h hp).2.1.1,obind]
 obtain⟨s,e,hs⟩:=zr (body:=fun i s=>(S_q2s_b1 (ups w.K.length (noW w)) p i s).den) (n:=(ups w.K.length (noW w)).length) (fun i s=>s=(sumTo (heldK w p.B p.D) i,sumTo (usedK w p.B p.D) i)) (s0:=((0:Int),(0:Int))) rfl (fun i s hi hI=>by
  subst hI
  rw[zx] at hi
  obtain⟨q1,q2,q3⟩:=h.2.2.2.1 i hi
  have hv:VO (noW w i):=q1.now
  have hb:=z76 h p.B p.D hi
  have p1:=zg1 h p.B p.D (show i<=w.K.length from om)
  have p2:=zg1 h p.B p.D (show i+1<=w.K.length from om)
  rw[z1f,z1f] at p2
  simp only[S_q2s_b1,Scr.den]
  rw[z2h hi,z2k,zbb]
  simp only[obind]
  rw[hv.unused,show (rightV (noW w i).L p.B p.D).A-(rightV (noW w i).L p.B p.D).Q=heldK w p.B p.D i from rfl,show usedE (noW w i).Ag p.B p.D=usedK w p.B p.D i from rfl,wrapId (n:=heldK w p.B p.D i) om om,show heldK w p.B p.D i-(heldK w p.B p.D i-usedK w p.B p.D i)=usedK w p.B p.D i from om,wrapId (n:=usedK w p.B p.D i) om om,wrapId om om,wrapId om om]
  exact⟨_,rfl,by rw[z1f,z1f]⟩)
 rw[e,hs,zx]
 rfl
theorem zul (h:VW w) (hp:J13.hasP w.I.E c y=true):F_q35 w c y=some ((J13.potAt w.I c y).T,J13.outV (J13.potAt w.I c y),heldW w c y,usedW w c y):=by
 have hcy:=J13.potAt_cy hp
 have hm:J13.potAt w.I c y∈w.I.E:=z7 (J13.pix_lt hp).1
 have hs:=zuk h hm
 rw[hcy.1,hcy.2] at hs
 simp only[F_q35,S_q35,Scr.den,J13.Pot_eq h.1.small,z1h hp,obind,z6j h,z8,zh0 h]
 rw[Gg]
 simp only[obind]
 rw[y5 dk,hs]
 rfl
theorem zl6 (h:VW w) (hp:p∈w.I.E):F_q2t w p=some (p.T,J13.outV p,heldW w p.B p.D,usedW w p.B p.D):=by
 simp only[F_q2t,S_q2t,Scr.den,(zbj h hp).2.1.2.1,obind]
 obtain⟨s,e,hs⟩:=zr (body:=fun i s=>(S_q2t_b1 w p i s).den) (n:=w.K.length) (fun i s=>s=(sumTo (heldK w p.B p.D) i,sumTo (usedK w p.B p.D) i)) (s0:=((0:Int),(0:Int))) rfl (fun i s hi hI=>by
  subst hI
  obtain⟨q1,q2,q3⟩:=h.2.2.2.1 i hi
  have hv:VO (noW w i):=q1.now
  have hb:=z76 h p.B p.D hi
  have p2:=zg1 h p.B p.D (show i+1<=w.K.length from om)
  rw[z1f,z1f] at p2
  simp only[S_q2t_b1,Scr.den]
  rw[show w.K.getD i dF=jAt w i from rfl,z5f q1]
  simp only[obind]
  rw[z1g,z4b,(z2p (b:=(nowJ (jAt w i)).Ag) q1.now.val p.B p.D).1]
  simp only[obind]
  rw[show (rightV (nowJ (jAt w i)).L p.B p.D).A-(rightV (nowJ (jAt w i)).L p.B p.D).Q=heldK w p.B p.D i from rfl,show usedE (nowJ (jAt w i)).Ag p.B p.D=usedK w p.B p.D i from rfl,wrapId (n:=heldK w p.B p.D i) om om,wrapId om om,wrapId om om]
  exact⟨_,rfl,by rw[z1f,z1f]⟩)
 rw[e,hs]
 rfl
theorem zwv {ρ:Type} (k a b:Int) (K:Bool->Option α) (R:ρ->Option α):outM (if (k==a)=true then some (Out.next (k==a)) else some (Out.next (k==b))) K R=K (decide (k=a\/k=b)):=by
 by_cases h1:k=a
 ·rw[y6 (by simpa using h1)]; simp[outM,h1]
 rw[y5 (by simpa using h1)]
 simp only[outM,h1,y4e]
 rfl
variable {o:TOf}
theorem zjz (hv:VO o) {s:TTape} (hs:TapeOk s) (day:Int):∃ p s',F_q5s o day s=some (p,s')/\TapeOk s'/\p.B.length<=60:=by
 obtain⟨p,s1,e1,t1,hc,_⟩:=zrx hv hs day
 have h0:([]:Y8).length<=60:=dk
 simp only[F_q5s,S_q5s,Scr.den,e1,obind,zwv]
 by_cases k:p.U=1
 ·rw[y6 (by simp[k])]; exact⟨_,_,rfl,t1,hc⟩
 rw[y5 (by simp[k])]
 by_cases k:p.U=2
 ·rw[y6 (by simp[k])]; exact⟨_,_,rfl,t1,h0⟩
 rw[y5 (by simp[k])]
 by_cases k:p.U=3
 ·rw[y6 (by simp[k])]; exact⟨_,_,rfl,t1,h0⟩
 rw[y5 (by simp[k])]
 by_cases k:p.U=4
 ·rw[y6 (by simp[k])]; exact⟨_,_,rfl,t1,h0⟩
 rw[y5 (by simp[k])]
 by_cases k:p.U=5\/p.U=6
 ·rw[y6 (by simpa using k)]; exact⟨_,_,rfl,t1,h0⟩
 rw[y5 (by simpa using k)]
 by_cases k:p.U=7
 ·rw[y6 (by simp[k])]; exact⟨_,_,rfl,t1,hc⟩
 rw[y5 (by simp[k])]
 by_cases k:p.U=8
 ·rw[y6 (by simp[k])]; exact⟨_,_,rfl,t1,hc⟩
 rw[y5 (by simp[k])]
 exact⟨_,_,rfl,t1,h0⟩
theorem zhv (h:VW w) (hn:1<=n/\n<=w.K.length):F_q3c w n=some (noW w (n-1).toNat,0):=by
 have hl:=h.len
 have hlt:(n-1).toNat<w.K.length:=om
 simp only[F_q3c,S_q3c,Scr.den,z31 h,F_q3b,S_q3b,za,obind]
 rw[y5 dk,y5 sk,wrapId (n:=n-1) om om,show w.K.getD (n-1).toNat dF=jAt w (n-1).toNat from rfl,z5f (h.2.2.2.1 _ hlt).1]
 simp only[obind]
 rw[z6 ⟨om,hlt,trivial⟩]
 rfl
theorem znk (h:c.length<=60):(answerS o c y).1.B.length<=60:=by
 unfold answerS
 by_cases h1:VO o
 ·rw[y5 (fun k=>k h1)]
  by_cases h2:wantedS (rightV o.L c y) (usedV o.Ag c y)=0
  ·rw[y6 h2]; exact y1e _
  ·rw[y5 h2]; exact h
 ·rw[y6 h1]; exact y1e _
def GS (n:Nat) (s:TSt):Prop:=(1<=s.Z/\s.Z<=n)/\s.B.length<=60/\s.Op.B.length<=60
def GA (s:TSt):Prop:=s.U=1->0<=s.V/\s.V<=900
theorem zqf:(([[49],[50]]:List Y8).getD i dF).length<=60:=by
 match i with
 | 0=>decide
 | 1=>decide
 | _+2=>exact y1e _
theorem zqg (h:VW w) {i day:Int} (hn:(w.K.length:Int)=n) (hi:0<=i) {s:TTape} (hs:TapeOk s):∃ p s',F_q3n w n i day s=some (p,s')/\TapeOk s'/\GS w.K.length p/\GA p:=by
 have hl:=h.len
 have hml:=h.2.2.1
 obtain⟨k,s1,e1,t1,k1⟩:=z15 (l:=[1,2,2,4,4,5,5,5,5,6,7,8,8,9,9,9,9,10,11,3]) hs dk dk
 obtain⟨o,s2,e2,t2,o1⟩:=z2u (lo:=1) (hi:=n) t1 om om om
 obtain⟨c,s3,e3,t3,c1⟩:=z1c (n:=2) t2 om om
 obtain⟨a,s4,e4,t4,a1⟩:=z2u (lo:=1) (hi:=200) t3 om om om
 have lm:(1:Int)<=(if (w.O.length:Int)>1 then (w.O.length:Int) else 1)/\(if (w.O.length:Int)>1 then (w.O.length:Int) else 1)<=1000000:=by split <;> omega
 obtain⟨x,s5,e5,t5,x1⟩:=z1c (n:=(if (w.O.length:Int)>1 then (w.O.length:Int) else 1)) t4 lm.1 om
 simp only[F_q3n,S_q3n,Scr.den,e1,e2,e3,e4,e5,obind]
 rw[Gb]
 have q6:∃ v:TSt,(if decide (i<3)=true then guardP (AllP [(0:Int)<=i,(i).toNat<3]) (some (Out.next (⟨(([1,2,4]:List Int).getD ((i).toNat) dF),1,(⟨0,[],0,0,0,0,0,0,0,0⟩:TOp),[49],12,a,x⟩:TSt)))
   else some (Out.next (⟨k,o,(⟨0,[],0,0,0,0,0,0,0,0⟩:TOp),(([[49],[50]]:List Y8).getD ((c).toNat) dF),12,a,x⟩:TSt)):Option (Out TSt R_q3n))=some (Out.next v)/\GS w.K.length v:=by
  by_cases ci:i<3
  ·rw[y6 (by simpa using ci),z6 ⟨hi,om,trivial⟩]
   exact⟨_,rfl,⟨y18 _,by show (1:Int)<=_; omega⟩,by show ([49]:Y8).length<=60; decide,y1e _⟩
  ·rw[y5 (by simpa using ci)]
   exact⟨_,rfl,⟨o1.1,by show o<=_; omega⟩,zqf,y1e _⟩
 obtain⟨v6,q6,g6⟩:=q6
 rw[q6]
 simp only[zd]
 have q7:∃ v:TSt,(if (i==3)=true then some (Out.next (⟨9,v6.Z,v6.Op,v6.B,v6.D,v6.V,0⟩:TSt)) else some (Out.next v6):Option (Out TSt R_q3n))=some (Out.next v)/\GS w.K.length v:=by
  by_cases ci:i=3
  ·rw[y6 (by simpa using ci)]; exact⟨_,rfl,g6⟩
  ·rw[y5 (by simpa using ci)]; exact⟨_,rfl,g6⟩
 obtain⟨v7,q7,g7⟩:=q7
 rw[q7]
 simp only[zd]
 have q8:∃ v:TTape×TSt,(if (v7.U==1)=true then (F_q2 900 s5).bind fun rv9=>(F_q8 ([300,rv9.1,50]:List Int) rv9.2).bind fun rv10=>some (Out.next (rv10.2,(⟨v7.U,v7.Z,v7.Op,v7.B,v7.D,rv10.1,v7.Aj⟩:TSt)))
   else some (Out.next (s5,v7)):Option (Out (TTape×TSt) R_q3n))=some (Out.next v)/\TapeOk v.1/\GS w.K.length v.2/\GA v.2:=by
  by_cases ck:v7.U=1
  ·rw[y6 (by simpa using ck)]
   obtain⟨z1,s6,q1,t6,y1⟩:=z1c (n:=900) t5 om om
   obtain⟨z2,s7,q2,t7,y2⟩:=z15 (l:=[300,z1,50]) t6 sj sj
   simp only[q1,q2,obind]
   refine⟨_,rfl,t7,g7,fun _=>?_⟩
   simp at y2
   show 0<=z2/\z2<=900
   omega
  ·rw[y5 (by simpa using ck)]
   exact⟨_,rfl,t5,g7,fun k=>absurd k ck⟩
 obtain⟨v8,q8,t8,g8,a8⟩:=q8
 rw[q8]
 simp only[zd]
 by_cases c5:v8.2.U=5
 ·rw[y6 (by simpa using c5),zhv h g8.1]
  simp only[obind]
  rw[y5 dk]
  simp only[zd]
  have hlt:(v8.2.Z-1).toNat<w.K.length:=by have:=g8.1; omega
  have hv:VO (noW w (v8.2.Z-1).toNat):=(h.2.2.2.1 _ hlt).1.now
  obtain⟨p,s9,e9,t9,pc⟩:=zjz hv t8 day
  rw[e9]
  simp only[obind]
  rw[zae hv.smO (by have:=g8.2.1; omega)]
  simp only[obind]
  have na:∀ {q:TOp},GA (⟨v8.2.U,v8.2.Z,q,v8.2.B,v8.2.D,v8.2.V,v8.2.Aj⟩:TSt):=fun {q} k=>absurd (show v8.2.U=1 from k) om
  by_cases ca:(answerS (noW w (v8.2.Z-1).toNat) v8.2.B v8.2.D).2=true
  ·rw[zg (gs:=[(answerS (noW w (v8.2.Z-1).toNat) v8.2.B v8.2.D).2=true]) ⟨ca,trivial⟩]
   obtain⟨z3,s10,e10,t10,_⟩:=z1c (n:=3) t9 om om
   rw[e10]
   simp only[obind,za]
   by_cases cz:z3=0
   ·rw[ca,y49,y6 (by simpa using cz)]
    exact⟨_,_,rfl,t10,⟨g8.1,g8.2.1,znk g8.2.1⟩,na⟩
   ·rw[ca,y49,y5 (by simpa using cz)]
    exact⟨_,_,rfl,t10,⟨g8.1,g8.2.1,pc⟩,na⟩
  ·rw[show ∀ {α:Type} (x:Option α) (d:α),optD [(answerS (noW w (v8.2.Z-1).toNat) v8.2.B v8.2.D).2=true] x d=some d from fun _ _=>y5 fun h=>ca h.1]
   simp only[obind,za]
   rw[y2g.2 ca,Bool.false_and,y5 dk]
   exact⟨_,_,rfl,t9,⟨g8.1,g8.2.1,pc⟩,na⟩
 ·rw[y5 (by simpa using c5)]
  exact⟨_,_,rfl,t8,g8,a8⟩
variable {s:TSt}
theorem GS.ok {n:Nat} (h:GS n s):SOk s:=⟨by have:=h.2.1; omega,by have:=h.2.2; omega⟩
theorem zbk (h:VW w) (h0:(stepW w s).2=0):(stepW w s).1.K.length=w.K.length/\VW (stepW w s).1:=by
 have hk:=zuj h s
 have hv:VW (stepW w s).1:=by
  rcases hk with ⟨_,hk⟩ | ⟨hk,_⟩
  ·exact hk
  ·exact absurd h0 hk
 refine⟨?_,hv⟩
 have send:∀ {m:TMe} {e:Int},(sendS w m e).2=0->(sendS w m e).1.K.length=w.K.length:=fun {m e} h0=>by
  by_cases c:e=0
  ·subst c
   by_cases hl:w.O.length=200
   ·rw[z5g hl] at h0; cases h0
   ·rw[z7k hl]
  ·rw[z4w c] at h0; exact absurd h0 c
 have tres:∀ {r:TTr×Int},(tresS w r).2=0->(tresS w r).1.K.length=w.K.length:=fun {r} h0=>by
  unfold tresS at h0 |-
  by_cases c:r.2=0
  ·rw[y5 (by simp[c])]
  ·rw[y6 c] at h0; exact absurd h0 c
 have keep:∀ {w':TWo} {k:Nat} {j:TJo} {e:Int},(keepS w' k j e).2=0->(keepS w' k j e).1.K.length=w'.K.length:=fun {w' k j e} h0=>by
  by_cases c:e=0
  ·subst c
   rw[z2x]
   exact yh
  ·rw[z3x c] at h0; exact absurd h0 c
 by_cases k:s.U=1
 ·rw[z8w k] at h0 |-; exact tres h0
 by_cases k2:s.U=2
 ·rw[z8x k2] at h0 |-; exact tres h0
 by_cases k3:s.U=3
 ·rw[z8y k3] at h0 |-; exact tres h0
 by_cases k4:s.U=4
 ·rw[z8z k4] at h0 |-; exact send h0
 by_cases ka:5<=s.U/\s.U<=8
 ·rw[z90 ka] at h0 |-
  unfold actS at h0 |-
  by_cases h1:1<=s.Z/\s.Z<=w.K.length
  ·rw[y5 (fun g=>g h1)] at h0 |-
   by_cases c5:s.U=5
   ·rw[y6 c5] at h0 |-
    by_cases c8:s.Op.U=8
    ·rw[y6 c8] at h0; cases h0
    ·rw[y5 c8] at h0 |-; exact keep h0
   rw[y5 c5] at h0 |-
   by_cases c6:s.U=6
   ·rw[y6 c6] at h0 |-; exact keep h0
   rw[y5 c6] at h0 |-
   by_cases c7:s.U=7
   ·rw[y6 c7] at h0 |-; exact keep h0
   rw[y5 c7] at h0 |-
   exact send h0
  ·rw[y6 h1] at h0; cases h0
 by_cases km:9<=s.U/\s.U<=11
 ·rw[z5v km] at h0 |-
  unfold mailS at h0 |-
  by_cases h1:0<=s.Aj/\s.Aj<w.O.length
  ·rw[y5 (fun g=>g h1)] at h0 |-
   by_cases c9:s.U=9
   ·rw[y6 c9] at h0 |-
    unfold delivS at h0 |-
    by_cases c0:(mAt w s.Aj.toNat).To=0
    ·rw[y6 c0] at h0 |-
     by_cases c1:(J13.hearM w.I (mAt w s.Aj.toNat)).2=0
     ·rw[y5 (fun k=>k c1)]
     ·rw[y6 c1] at h0; exact absurd h0 c1
    ·rw[y5 c0] at h0 |-; exact keep h0
   rw[y5 c9] at h0 |-
   by_cases c11:s.U=11
   ·rw[y6 c11] at h0 |-; exact send h0
   rw[y5 c11]
   rfl
  ·rw[y6 h1] at h0; cases h0
 ·rw[z91 om] at h0; cases h0
theorem zk0 (h:0<=n):((newW n).K.length:Int)=n:=by
 show ((ups _ _).length:Int)=n
 rw[zx]; omega
variable {m:Int}
theorem znl (hn:1<=n/\n<=6) (hm:0<=m/\m<=1000) {s:TTape} (hs:TapeOk s):∃ l s',F_q1z n m s=some (l,s')/\TapeOk s'/\(l.length:Int)<=m/\∀ x∈l,GS n.toNat x/\GA x:=by
 simp only[F_q1z,S_q1z,Scr.den,zep hn,obind]
 obtain⟨v,e,hv⟩:=z1n (step:=fun s=>(S_q1z_b1 n m s).den) (fun s=>(m-s.2.2.2.2).toNat) (fun s=>TapeOk s.1/\VW s.2.1/\(s.2.1.K.length:Int)=n/\(0<=s.2.2.2.2/\s.2.2.2.2<=m/\(s.2.2.1.length:Int)=s.2.2.2.2)/\∀ x∈s.2.2.1,GS n.toNat x/\GA x)
  (fun s=>TapeOk s.1/\(s.2.2.1.length:Int)<=m/\∀ x∈s.2.2.1,GS n.toNat x/\GA x) (fun s hI=>by
   obtain⟨i1,i2,i3,i4,i5⟩:=hI
   obtain⟨t,w,l,d,i⟩:=s
   simp only at i1 i2 i3 i4 i5
   simp only[S_q1z_b1,Scr.den]
   by_cases c:i<m
   ·rw[y6 (by simpa using c)]
    obtain⟨z1,s6,q1,t6,y1⟩:=z1c (n:=9) i1 om om
    obtain⟨z2,s7,q2,t7,y2⟩:=z15 (l:=[0,1,z1]) t6 sj sj
    obtain⟨p,s8,q3,t8,g1,g2⟩:=zqg i2 (day:=i64.wrap (d+z2)) i3 i4.1 t7
    rw[q1]
    simp only[obind]
    rw[q2]
    simp only[obind]
    rw[q3]
    simp only[obind]
    rw[z4x i2 g1.ok.1 g1.ok.2]
    simp only[obind]
    have ei:i64.wrap (i+1)=i+1:=wrapId om om
    have hg:GS n.toNat p:=by rw[show n.toNat=w.K.length from om]; exact g1
    have hall:∀ x∈l++[p],GS n.toNat x/\GA x:=fun x hx=>by
     rcases y1n.1 hx with hx | hx
     ·exact i5 x hx
     ·rw[y2k.1 hx]; exact⟨hg,g2⟩
    have hlen:((l++[p]).length:Int)=i+1:=by rw[yp]; simp; omega
    by_cases c0:(stepW w p).2=0
    ·rw[y6 (by simpa using c0)]
     simp only[zd]
     rw[Ga,ei]
     obtain⟨w1,w2⟩:=zbk i2 c0
     exact .inl ⟨_,rfl,⟨t8,w2,by show ((stepW w p).1.K.length:Int)=n; omega,⟨by show 0<=i+1; omega,by show i+1<=m; omega,hlen⟩,hall⟩,by show (m-(i+1)).toNat<(m-i).toNat; omega⟩
    ·rw[y5 (by simpa using c0)]
     simp only[zd]
     rw[Ga,ei]
     exact .inl ⟨_,rfl,⟨t8,i2,i3,⟨by show 0<=i+1; omega,by show i+1<=m; omega,hlen⟩,hall⟩,by show (m-(i+1)).toNat<(m-i).toNat; omega⟩
   ·rw[y5 (by simpa using c)]
    exact .inr ⟨_,rfl,i1,by show (l.length:Int)<=m; omega,i5⟩) 1001 (s,newW n,[],4320,0) (by show (m-0).toNat<1001; omega) ⟨hs,zqe hn,zk0 om,⟨y18 _,hm.1,rfl⟩,fun x hx=>(by cases hx)⟩
 obtain⟨h1,h2,h3⟩:=hv
 rw[e]
 simp only[zd]
 rw[Ga]
 exact⟨_,_,rfl,h1,h2,h3⟩
abbrev LA:List TSt:=[(⟨1,0,(⟨0,[],0,0,0,0,0,0,0,0⟩:TOp),[49],12,100,0⟩:TSt),(⟨2,1,(⟨0,[],0,0,0,0,0,0,0,0⟩:TOp),[49],12,100,0⟩:TSt),(⟨4,1,(⟨0,[],0,0,0,0,0,0,0,0⟩:TOp),[49],12,0,0⟩:TSt),(⟨11,0,(⟨0,[],0,0,0,0,0,0,0,0⟩:TOp),[],0,0,0⟩:TSt),(⟨9,0,(⟨0,[],0,0,0,0,0,0,0,0⟩:TOp),[],0,0,0⟩:TSt),(⟨9,0,(⟨0,[],0,0,0,0,0,0,0,0⟩:TOp),[],0,0,0⟩:TSt)]
theorem zum {p:TOp} (h8:p.U=8) (h0:(doS o p).2=0):(doS o p).1.Ag=o.Ag:=by
 obtain⟨hv,_,e⟩:=zfr h0
 rw[e] at h0 |-
 have e8:stepS o p=hearS o p:=by unfold stepS; rw[y6 h8]
 rw[e8] at h0 |-
 obtain⟨r,e1,hr,h1,h2,h3,_⟩:=zfq hv h0
 rw[e1]
def wA (t:TTr) (r:List TOp) (m:List TMe):TWo:=⟨t,[⟨1,r,0⟩],m⟩
theorem zsg (t:TTr) (c:Y8) (y x:Int):(J13.setM t c y x).1.E.length<=t.E.length+1:=by
 unfold J13.setM
 repeat' split
 all_goals first | exact y1e _ | (show (t.E.set _ _).length<=_; rw[yh]; exact y3t _) | (show (insL _ _ _).length<=_; rw[zq]; exact ye _)
theorem znm (t:TTr) (k:Int) (c:Y8) (y x:Int):(J13.grantM t k c y x).1.E.length<=t.E.length+1:=by
 unfold J13.grantM
 repeat' split
 all_goals first | exact y1e _ | (show (t.E.set _ _).length<=_; rw[yh]; exact y3t _)
theorem zsh (t:TTr) (k:Int) (c:Y8) (y x:Int):(J13.askM t k c y x).1.E.length<=t.E.length+1:=by
 unfold J13.askM
 repeat' split
 all_goals first | exact y1e _ | (show (t.E.set _ _).length<=_; rw[yh]; exact y3t _)
theorem zqh (t:TTr) (m:TMe):(J13.hearM t m).1.E.length<=t.E.length+1:=by
 unfold J13.hearM
 repeat' split
 all_goals first | exact y1e _ | (show (t.E.set _ _).length<=_; rw[yh]; exact y3t _)
def znn (w w':TWo):Prop:=(w'.O.length<=w.O.length+1/\w'.I.E.length<=w.I.E.length+1)/\(w'.K=w.K\/∃ k j,w'.K=w.K.set k j/\j.N.length<=(jAt w k).N.length+1)
variable {e:Int}
theorem zg2 {m:TMe} (h:(sendS w m e).2=0):znn w (sendS w m e).1:=by
 by_cases c:e=0
 ·subst c
  by_cases hl:w.O.length=200
  ·rw[z5g hl] at h; cases h
  ·rw[z7k hl]
   exact⟨⟨by show (w.O++[m]).length<=_; simp,y3t _⟩,.inl rfl⟩
 ·rw[z4w c] at h; exact absurd h c
variable {j:TJo}
theorem zc9 {w0:TWo} (hm:w0.O.length<=w.O.length) (hj:w0.K=w.K) (ht:w0.I=w.I) (h:(keepS w0 k j e).2=0) (hr:e=0->j.N.length<=(jAt w k).N.length+1):znn w (keepS w0 k j e).1:=by
 by_cases c:e=0
 ·subst c
  rw[z2x]
  exact⟨⟨y5t hm,by show w0.I.E.length<=_; rw[ht]; exact y3t _⟩,.inr ⟨k,j,by show w0.K.set k j=_; rw[hj],hr rfl⟩⟩
 ·rw[z3x c] at h; exact absurd h c
theorem zg3 {r:TTr×Int} (h:(tresS w r).2=0) (hr:r.1.E.length<=w.I.E.length+1):znn w (tresS w r).1:=by
 unfold tresS at h |-
 by_cases c:r.2=0
 ·rw[y5 (by simp[c])]
  exact⟨⟨y3t _,hr⟩,.inl rfl⟩
 ·rw[y6 c] at h; exact absurd h c
theorem zmb {p:TOp} (h0:(appendS j p).2=0):(appendS j p).1.N.length<=j.N.length+1:=by
 by_cases hp:POp p
 ·by_cases h1:(doS (nowJ j) p).2=0
  ·by_cases hl:j.N.length=400
   ·rw[z3v hp h1 hl] at h0; cases h0
   ·rw[z5e hp h1 hl]; simp
  ·rw[z4d hp h1] at h0
   exact absurd h0 h1
 ·rw[z4c hp] at h0; cases h0
theorem zun (h0:(stepW w s).2=0):znn w (stepW w s).1:=by
 by_cases k:s.U=1
 ·rw[z8w k] at h0 |-; exact zg3 h0 (zsg ..)
 by_cases k2:s.U=2
 ·rw[z8x k2] at h0 |-; exact zg3 h0 (znm ..)
 by_cases k3:s.U=3
 ·rw[z8y k3] at h0 |-; exact zg3 h0 (zsh ..)
 by_cases k4:s.U=4
 ·rw[z8z k4] at h0 |-; exact zg2 h0
 by_cases ka:5<=s.U/\s.U<=8
 ·rw[z90 ka] at h0 |-
  unfold actS at h0 |-
  by_cases h1:1<=s.Z/\s.Z<=w.K.length
  ·rw[y5 (fun g=>g h1)] at h0 |-
   by_cases c5:s.U=5
   ·rw[y6 c5] at h0 |-
    by_cases c8:s.Op.U=8
    ·rw[y6 c8] at h0; cases h0
    ·rw[y5 c8] at h0 |-; exact zc9 (ye _) rfl rfl h0 zmb
   rw[y5 c5] at h0 |-
   by_cases c6:s.U=6
   ·rw[y6 c6] at h0 |-; exact zc9 (ye _) rfl rfl h0 fun _=>y3t _
   rw[y5 c6] at h0 |-
   by_cases c7:s.U=7
   ·rw[y6 c7] at h0 |-; exact zc9 (ye _) rfl rfl h0 fun _=>by
     show (List.take _ _).length<=_
     rw[y1h]; omega
   rw[y5 c7] at h0 |-
   exact zg2 h0
  ·rw[y6 h1] at h0; cases h0
 by_cases km:9<=s.U/\s.U<=11
 ·rw[z5v km] at h0 |-
  unfold mailS at h0 |-
  by_cases h1:0<=s.Aj/\s.Aj<w.O.length
  ·rw[y5 (fun g=>g h1)] at h0 |-
   by_cases c9:s.U=9
   ·rw[y6 c9] at h0 |-
    unfold delivS at h0 |-
    by_cases c0:(mAt w s.Aj.toNat).To=0
    ·rw[y6 c0] at h0 |-
     by_cases c1:(J13.hearM w.I (mAt w s.Aj.toNat)).2=0
     ·rw[y5 (fun k=>k c1)]; exact⟨⟨y5t (y3p ..),zqh ..⟩,.inl rfl⟩
     ·rw[y6 c1] at h0; exact absurd h0 c1
    ·rw[y5 c0] at h0 |-; exact zc9 (w:=w) (w0:=loseW w s.Aj.toNat) (y3p ..) rfl rfl h0 zmb
   rw[y5 c9] at h0 |-
   by_cases c11:s.U=11
   ·rw[y6 c11] at h0 |-; exact zg2 h0
   rw[y5 c11]
   exact⟨⟨y5t (y3p ..),y3t _⟩,.inl rfl⟩
  ·rw[y6 h1] at h0; cases h0
 ·rw[z91 om] at h0; cases h0
def Bd (k:Nat) (w:TWo):Prop:=(w.O.length<=k/\w.I.E.length<=k)/\∀ i,i<w.K.length->(jAt w i).N.length<=k
theorem zuo (h:Bd k w) (h0:(stepW w s).2=0):Bd (k+1) (stepW w s).1:=by
 obtain⟨h1,h2⟩:=zun h0
 refine⟨by have:=h.1; omega,fun i hi=>?_⟩
 rcases h2 with h2 | ⟨q,j,h2,h3⟩
 ·have e:jAt (stepW w s).1 i=jAt w i:=by unfold jAt; rw[h2]
  rw[h2] at hi
  have:=h.2 i hi
  rw[e]; omega
 ·have e:jAt (stepW w s).1 i=(w.K.set q j).getD i dF:=by unfold jAt; rw[h2]
  rw[h2,yh] at hi
  have:=h.2 i hi
  rw[e,zc7 hi]
  split
  ·rename_i e; subst e; omega
  ·omega
theorem zvy:Bd 0 (newW n):=by
 refine⟨⟨ye _,ye _⟩,fun i hi=>?_⟩
 have hi:i<(ups n.toNat (fun i=>(⟨(i:Int)+1,[],0⟩:TJo))).length:=hi
 rw[zx] at hi
 have e:jAt (newW n) i=⟨(i:Int)+1,[],0⟩:=z2h hi
 rw[e]
 exact ye _
theorem Bd.mono {a b:Nat} (h:Bd a w) (hab:a<=b):Bd b w:=⟨by have:=h.1; omega,fun i hi=>by have:=h.2 i hi; omega⟩
theorem zsi (hn:1<=n/\n<=6) (hm:0<=m/\m<=1000) {s:TTape} (hs:TapeOk s):∃ w s',F_q1a n m s=some (w,s')/\TapeOk s'/\VW w/\(w.K.length:Int)=n/\Bd m.toNat w:=by
 obtain⟨l,s1,e1,t1,l1,hl⟩:=znl hn hm hs
 simp only[F_q1a,S_q1a,Scr.den,zep hn,e1,obind]
 obtain⟨w,e,hw⟩:=zr (body:=fun i s=>(S_q1a_b1 (l,s1) i s).den) (n:=l.length) (fun i w=>VW w/\(w.K.length:Int)=n/\Bd i w) (s0:=newW n) ⟨zqe hn,zk0 om,zvy⟩ (fun i w hi hI=>by
  have hg:=(hl _ (z7 hi)).1.ok
  simp only[S_q1a_b1,Scr.den]
  rw[z4x hI.1 hg.1 hg.2]
  simp only[obind]
  by_cases c0:(stepW w (l.getD i dF)).2=0
  ·rw[y6 (by simpa using c0)]
   obtain⟨w1,w2⟩:=zbk hI.1 c0
   exact⟨_,rfl,w2,by rw[w1]; exact hI.2.1,zuo hI.2.2 c0⟩
  ·rw[y5 (by simpa using c0)]
   exact⟨_,rfl,hI.1,hI.2.1,hI.2.2.mono (y3t _)⟩)
 rw[e]
 exact⟨_,_,rfl,t1,hw.1,hw.2.1,hw.2.2.mono om⟩
theorem zvz {k:Int} (h:k=9\/k=10\/k=11):9<=k/\k<=11:=om
theorem zup {p:TOp} (hi:i<w.O.length):stepW w ⟨10,0,p,[],0,0,(i:Int)⟩=(loseW w i,0):=by
 have hI:0<=(i:Int)/\(i:Int)<w.O.length:=om
 rw[z5v (zvz sj)]
 exact (y5 fun k=>k hI).trans ((y5 (show ¬ (10:Int)=9 from dk)).trans (y5 (show ¬ (10:Int)=11 from dk)))
theorem zqi {p:TOp} (hi:i<w.O.length):stepW w ⟨9,0,p,[],0,0,(i:Int)⟩=delivS w i:=by
 have hI:0<=(i:Int)/\(i:Int)<w.O.length:=om
 rw[z5v (zvz sj)]
 exact (y5 fun k=>k hI).trans (y6 rfl)
noncomputable def doW (w:TWo) (s:TSt):TWo:=if (stepW w s).2=0 then (stepW w s).1 else w
theorem z7l (h:(stepW w s).2=0):doW w s=(stepW w s).1:=y6 h
theorem z94 (h:(stepW w s).2≠0):doW w s=w:=y5 h
theorem zbl (h:VW w) (s:TSt):VW (doW w s)/\(doW w s).K.length=w.K.length:=by
 by_cases c:(stepW w s).2=0
 ·rw[z7l c]
  have:=zbk h c
  exact⟨this.2,this.1⟩
 ·rw[z94 c]; exact⟨h,rfl⟩
theorem z95 (h:VW w) (hs:SOk s):F_q2a s ⟨w⟩=some ((stepW w s).2,⟨doW w s⟩):=by
 simp only[F_q2a,S_q2a,Scr.den]
 rw[zqa h hs.1 hs.2]
 simp only[obind]
 by_cases c:(stepW w s).2=0
 ·rw[y6 (by simpa using c),z7l c]
 ·rw[y5 (by simpa using c),z94 c]
noncomputable def lastS (w:TWo):TSt:=⟨9,0,⟨0,[],0,0,0,0,0,0,0,0⟩,[],0,0,i64.wrap ((w.O.length:Int)-1)⟩
noncomputable def exW (w:TWo) (s:TSt):TWo:=if (stepW w s).2=0 then doW (doW w s) (lastS (doW w s)) else w
theorem zsv (h:VW w) (hs:SOk s):F_q40 s ⟨w⟩=some ⟨exW w s⟩:=by
 simp only[F_q40,S_q40,Scr.den]
 rw[z95 h hs]
 simp only[obind]
 unfold exW
 by_cases c:(stepW w s).2=0
 ·rw[y6 (by simpa using c),y6 c,z95 (zbl h s).1 ⟨y1e _,y1e _⟩]
  rfl
 ·rw[y5 (by simpa using c),y5 c,z94 c]
def SameB (w w':TWo):Prop:=w'.K.length=w.K.length/\∀ q,q<w.K.length->(noW w' q).Ag=(noW w q).Ag
theorem SameB.refl (w:TWo):SameB w w:=⟨rfl,fun _ _=>rfl⟩
def SameP (w w':TWo):Prop:=∀ c y,J13.hasP w.I.E c y=true->J13.hasP w'.I.E c y=true
theorem zno (h:VW w) (h0:(delivS w i).2=0):SameB w (delivS w i).1/\(delivS w i).1.O=w.O.eraseIdx i/\SameP w (delivS w i).1:=by
 unfold delivS at h0 |-
 by_cases c0:(mAt w i).To=0
 ·rw[y6 c0] at h0 |-
  by_cases c1:(J13.hearM w.I (mAt w i)).2=0
  ·rw[y5 (fun k=>k c1)]; exact⟨SameB.refl _,rfl,fun c y hp=>((zm9 c1).1.2.2 c y hp).1⟩
  ·rw[y6 c1] at h0; exact absurd h0 c1
 ·rw[y5 c0] at h0 |-
  obtain⟨k,ek⟩:∃ k,k=((mAt w i).To-1).toNat:=⟨_,rfl⟩
  rw[<- ek] at h0 |-
  have a0:(appendS (jAt w k) (hearOp (mAt w i))).2=0:=by
   by_cases c:(appendS (jAt w k) (hearOp (mAt w i))).2=0
   ·exact c
   ·rw[z3x c] at h0; exact h0
  rw[a0,z2x]
  refine⟨⟨yh,fun q hq=>?_⟩,rfl,fun _ _ hp=>hp⟩
  show (nowJ ((w.K.set k _).getD q dF)).Ag=_
  rw[zc7 hq]
  by_cases e:q=k
  ·subst e
   rw[y6 rfl]
   obtain⟨_,a2,_,a4⟩:=zgx (h.2.2.2.1 q hq).1 a0
   rw[a2]
   show (nowJ ⟨(jAt w q).Z,(jAt w q).N++[hearOp (mAt w i)],(jAt w q).Af⟩).Ag=_
   rw[zek]
   exact zum rfl a4
  ·rw[y5 e]
   rfl
def giveOp (c:Y8) (y n:Int):TOp:=⟨7,c,y,0,0,n,0,0,0,0⟩
noncomputable def askW (o:TOf) (c:Y8) (y:Int):Int:=wantedS (rightV o.L c y) (usedV o.Ag c y)
theorem zqj (hv:VO o) (c:Y8) (y:Int):answerS o c y=if askW o c y=0 then (noP,false) else (giveOp c y (askW o c y),true):=y5 fun g=>g hv
theorem zw0 (h:VW w) (s:TSt):VW (exW w s)/\(exW w s).K.length=w.K.length:=by
 unfold exW
 by_cases c:(stepW w s).2=0
 ·rw[y6 c]
  obtain⟨h1,h2⟩:=zbl h s
  obtain⟨h3,h4⟩:=zbl h1 (lastS (doW w s))
  exact⟨h3,h4.trans h2⟩
 ·rw[y5 c]; exact⟨h,rfl⟩
def Tld (t:TTr) (o:TOf) (k:Nat) (c:Y8) (y:Int):Prop:=hasR o.L c y=true/\(rightV o.L c y).A=nthN (J13.potAt t c y).A k/\(rightV o.L c y).F=nthN (J13.potAt t c y).F k/\askW o c y=0
def Rep (t:TTr) (o:TOf) (k:Nat) (c:Y8) (y:Int):Prop:=nthN (J13.potAt t c y).G k=(rightV o.L c y).Q/\nthN (J13.potAt t c y).M k=usedV o.Ag c y
theorem zuq {l:List Int} {x:Int}:nthN (J13.upd l ((k:Int)+1) x) i=if i=k/\k<l.length then x else nthN l i:=by
 have ek:(((k:Int)+1)-1).toNat=k:=om
 unfold nthN J13.upd
 rw[ek]
 by_cases hi:i<l.length
 ·rw[J13.getD_set_int hi]
  by_cases e:i=k
  ·rw[y6 e,y6 ⟨e,om⟩]
  ·rw[y5 e,y5 fun g=>e g.1]
 ·rw[z4y (l:=l.set k x) (by rw[yh]; omega),y5 om,z4y om]
structure CI (w0 v:TWo) (i:Nat):Prop where
 vw:VW v
 mail:v.O=[]
 same:SameB w0 v
 pots:SameP w0 v
 len:v.I.P=w0.I.P/\v.I.E.length=w0.I.E.length/\∀ q,(v.I.E.getD q dF).B=(w0.I.E.getD q dF).B/\(v.I.E.getD q dF).D=(w0.I.E.getD q dF).D
 recs:∀ q,i<=q->q<w0.K.length->jAt v q=jAt w0 q
 keep:∀ c y,J13.hasP v.I.E c y=J13.hasP w0.I.E c y/\(J13.hasP w0.I.E c y=true->(J13.potAt v.I c y).A=(J13.potAt w0.I c y).A/\(J13.potAt v.I c y).F=(J13.potAt w0.I c y).F/\(J13.potAt v.I c y).T=(J13.potAt w0.I c y).T /\
  ∀ q,i<=q->nthN (J13.potAt v.I c y).G q=nthN (J13.potAt w0.I c y).G q/\nthN (J13.potAt v.I c y).M q=nthN (J13.potAt w0.I c y).M q)
 done:∀ q,q<i->stW v q=noW v q/\(∀ c y,J13.hasP v.I.E c y=true->Tld v.I (noW v q) q c y/\Rep v.I (noW v q) q c y)/\(∀ c y,Tld w0.I (noW w0 q) q c y->(rightV (noW v q).L c y).Q=(rightV (noW w0 q).L c y).Q)/\(jAt v q).N.length<=(jAt w0 q).N.length+2 * w0.I.E.length
end Go.Proofs.YtgbpiaddmclccaaGreatDoor
namespace Go.Proofs.YtgbpiaddmclccaaGreatDoor.J13
open Go Go.TA
open Go.IntKind (i64)
def xB:TTr:=xT (xP 100 [60,40] [0,0] [0,0] [50,10])
def xD (a b:Int):TTr:=xT (xP 55 [60,40] [0,0] [a,b] [50,10])
theorem zsj:Small xB:=xs _ rfl
theorem z7m (a b:Int):Small (xD a b):=xs _ rfl
theorem b1:setM xB [49] 12 55=(xD 0 0,0):=kj
theorem b2:potM (xD 0 0) [49] 12=(xP 55 [60,40] [0,0] [0,0] [50,10],true):=kj
theorem b7:TOk (xD 0 0):=y1x kj
theorem b8:TOk (xD 10 30):=y1x kj
theorem zur:F_q6 (xP 55 [60,40] [0,0] [0,0] [50,10])=some [10,30]:=by
 obtain⟨out,e,h1,h2,h3,_⟩:=zgt (n:=2) (p:=xP 55 [60,40] [0,0] [0,0] [50,10]) (b7.2.2 0 (by simp[xD,xT])).1 om
 rw[e]
 rw[show idles (xP 55 [60,40] [0,0] [0,0] [50,10]) (xP 55 [60,40] [0,0] [0,0] [50,10]).A.length=[10,30] from kj] at h1 h2 h3
 rw[show shortV (xP 55 [60,40] [0,0] [0,0] [50,10])-(opens (xP 55 [60,40] [0,0] [0,0] [50,10]) (xP 55 [60,40] [0,0] [0,0] [50,10]).A.length).sum=45 from kj] at h3
 match out,h1 with
 | [a,b],_ =>
  have q1:=h2 0 sj
  have q2:=h2 1 sj
  have e1:([a,b]:List Int).getD 0 dF=a:=rfl
  have e2:([a,b]:List Int).getD 1 dF=b:=rfl
  have e3:([10,30]:List Int).getD 0 dF=10:=rfl
  have e4:([10,30]:List Int).getD 1 dF=30:=rfl
  rw[e1,e3] at q1
  rw[e2,e4] at q2
  simp only[y21,y4u] at h3
  obtain rfl:a=10:=om
  obtain rfl:b=30:=om
  rfl
theorem zqk:F_qi xB [49] 12 55=some (xD 10 30,[⟨0,1,[49],12,60,10,0,0⟩,⟨0,2,[49],12,40,30,0,0⟩],0):=by
 simp only[F_qi,S_qi,Scr.den]
 rw[Set_eq zsj (show ([49]:Y8).length<=1000000 from sj),b1]
 simp only[obind]
 rw[y5 dk,Pot_eq b7.small,b2]
 simp only[obind]
 rw[zur]
 simp only[obind]
 rw[show ([10,30]:List Int).length=0+1+1 from rfl]
 have s1:(S_qi_b1 [49] 12 (xP 55 [60,40] [0,0] [0,0] [50,10],true) [10,30] 0 (xD 0 0,[])).den=some (.cont (xD 10 0,[⟨0,1,[49],12,60,10,0,0⟩])):=by
  simp only[S_qi_b1,Scr.den]
  rw[y5 dk]
  refine zbv ((Ask_eq (z7m _ _) _ _ _ _).trans (y15 some (show askM _ _ _ _ _=(xD 10 0,0) from kj))) ?_
  rw[z6 (by simp only[AllP,y16]; decide)]
  refine zbv ((Tell_eq (z7m _ _) _ _ _).trans (y15 some (show tellM _ _ _ _=(⟨0,1,[49],12,60,10,0,0⟩,0) from kj))) ?_
  rw[z6 (by simp only[AllP,y16]; decide)]
  rfl
 have s2:(S_qi_b1 [49] 12 (xP 55 [60,40] [0,0] [0,0] [50,10],true) [10,30] (0+1) (xD 10 0,[⟨0,1,[49],12,60,10,0,0⟩])).den=some (.cont (xD 10 30,[⟨0,1,[49],12,60,10,0,0⟩,⟨0,2,[49],12,40,30,0,0⟩])):=by
  simp only[S_qi_b1,Scr.den]
  rw[y5 dk]
  refine zbv ((Ask_eq (z7m _ _) _ _ _ _).trans (y15 some (show askM _ _ _ _ _=(xD 10 30,0) from kj))) ?_
  rw[z6 (by simp only[AllP,y16]; decide)]
  refine zbv ((Tell_eq (z7m _ _) _ _ _).trans (y15 some (show tellM _ _ _ _=(⟨0,2,[49],12,40,30,0,0⟩,0) from kj))) ?_
  rw[z6 (by simp only[AllP,y16]; decide)]
  rfl
 simp only[rangeM,s1,s2,outM]
 rw[z6 (by simp only[AllP,y16]; decide)]
theorem zsk:F_q2h (xD 10 30)=some [⟨[49],12,45⟩]:=by
 simp only[F_q2h,S_q2h,Scr.den]
 rw[Valid_eq (z7m _ _),y9 b8]
 simp only[obind]
 rw[y5 dk,show (xD 10 30).E.length=0+1 from rfl]
 have s1:(S_q2h_b1 (xD 10 30) 0 []).den=some (.cont [⟨[49],12,45⟩]):=by
  simp only[S_q2h_b1,Scr.den,Shortfall_eq,obind]
  rw[show max (i64.wrap (outV ((xD 10 30).E.getD 0 dF)-((xD 10 30).E.getD 0 dF).T)) 0=45 from kj,y6 dk,z6 (by simp only[AllP,y16]; decide)]
  rfl
 simp only[rangeM,s1,outM]
 rw[z6 (by simp only[AllP,y16]; decide)]
theorem awake18:F_q4k=some true:=by
 simp only[F_q4k,S_q4k,Scr.den]
 rw[show (⟨2,[⟨[49],12,100,[60,40],[0,0],[0,0],[50,10]⟩]⟩:TTr)=xB from rfl,zqk]
 simp only[obind]
 rw[zsk]
 simp only[obind]
 rw[z6 (by simp[AllP])]
 rfl
end Go.Proofs.YtgbpiaddmclccaaGreatDoor.J13
namespace Go.Proofs.YtgbpiaddmclccaaGreatDoor
open Go Go.TA
open Go.IntKind (i64)
variable {c:Y8} {y x:Int} {t:TTr}
theorem zus (h:(J13.setM t c y x).2=0):J13.TOk (J13.setM t c y x).1/\(J13.setM t c y x).1.P=t.P/\J13.hasP (J13.setM t c y x).1.E c y=true /\
  J13.potAt (J13.setM t c y x).1 c y=if J13.hasP t.E c y=true then J13.withT (J13.potAt t c y) x else J13.newP t.P c y x:=by
 have hk:=(J13.set_ok h).2
 unfold J13.setM at h hk |-
 by_cases h1:J13.TOk t
 ·rw[y5 (fun k=>k h1)] at h hk |-
  by_cases h2:good c=true
  ·rw[y5 (fun k=>k h2)] at h hk |-
   by_cases h3:(0<=y/\y<=99)/\-1000000000000000<=x/\x<=1000000000000000
   ·rw[y5 (fun k=>k h3)] at h hk |-
    by_cases h5:J13.hasP t.E c y=true
    ·rw[y6 h5] at hk
     rw[y6 h5,y6 h5]
     have hcy:=J13.potAt_cy h5
     obtain⟨u1,u2⟩:=z6i h5 (p:=J13.withT (J13.potAt t c y) x) hcy.1 hcy.2 hk
     exact⟨hk,rfl,((u2 c y).1).trans h5,u1⟩
    ·rw[y5 h5] at h hk
     rw[y5 h5,y5 h5]
     by_cases h6:t.E.length=60
     ·rw[y6 h6] at h; cases h
     ·rw[y5 h6] at hk |-
      obtain⟨g1,g2⟩:=zh1 (r:=J13.newP t.P c y x) (J13.posP_le _ _) hk
      exact⟨hk,rfl,g1.1,g1.2⟩
   ·rw[y6 h3] at h; cases h
  ·rw[y6 h2] at h; cases h
 ·rw[y6 h1] at h; cases h
variable {k:Nat}
theorem zw1 (h:J13.TOk t) (hp:J13.hasP t.E c y=true) (hk:(k:Int)<t.P) (hx:1<=x/\x<=1000000000000000) (hg:nthN (J13.potAt t c y).F k+x<=nthN (J13.potAt t c y).A k) :
  J13.askM t ((k:Int)+1) c y x=(J13.putP t c y (J13.withA (J13.potAt t c y) (J13.upd (J13.potAt t c y).F ((k:Int)+1) (nthN (J13.potAt t c y).F k+x))),0):=by
 have en:∀ l,J13.nth l ((k:Int)+1)=nthN l k:=fun l=>by
  show l.getD ((k:Int)+1-1).toNat dF=l.getD k dF
  rw[show ((k:Int)+1-1).toNat=k from om]
 unfold J13.askM
 rw[y5 (fun g=>g h),y5 (fun g=>g hp),y5 (fun g=>g ⟨om,om⟩),y5 (fun g=>g hx),en,en,y5 om]
theorem zut (h:J13.TOk t) (hp:J13.hasP t.E c y=true) (hk:(k:Int)<t.P) (hx:1<=x/\x<=1000000000000000) (hg:nthN (J13.potAt t c y).F k+x<=nthN (J13.potAt t c y).A k) :
  ∃ t',J13.askM t ((k:Int)+1) c y x=(t',0)/\J13.TOk t'/\t'.P=t.P/\t'.E.length=t.E.length/\J13.hasP t'.E c y=true/\J13.potAt t' c y=J13.withA (J13.potAt t c y) (J13.upd (J13.potAt t c y).F ((k:Int)+1) (nthN (J13.potAt t c y).F k+x)):=by
 have e:=zw1 h hp hk hx hg
 have hk':=(J13.ask_ok (show (J13.askM t ((k:Int)+1) c y x).2=0 by rw[e])).2
 rw[e] at hk'
 have hcy:=J13.potAt_cy hp
 obtain⟨u1,u2⟩:=z6i hp (p:=J13.withA (J13.potAt t c y) (J13.upd (J13.potAt t c y).F ((k:Int)+1) (nthN (J13.potAt t c y).F k+x))) hcy.1 hcy.2 hk'
 exact⟨_,e,hk',rfl,yh,((u2 c y).1).trans hp,u1⟩
variable {w:TWo}
theorem zw2 (h:VW w) (h0:(J13.setM w.I c y x).2=0):VW ⟨(J13.setM w.I c y x).1,w.K,w.O⟩:=by
 have:=z93 h (r:=J13.setM w.I c y x) zqc
 rcases this with ⟨_,h2⟩ | ⟨h1,_⟩
 ·unfold tresS at h2
  rwa [y5 (fun k=>k h0)] at h2
 ·exact absurd (show (tresS w (J13.setM w.I c y x)).2=0 by unfold tresS; rw[y5 (fun k=>k h0)]) h1
theorem zw3 (h:VW w) {k:Int} {t':TTr} (h0:J13.askM w.I k c y x=(t',0)):VW ⟨t',w.K,w.O⟩:=by
 have hz:(J13.askM w.I k c y x).2=0:=by rw[h0]
 have:=z93 h (r:=J13.askM w.I k c y x) zqd
 rcases this with ⟨_,h2⟩ | ⟨h1,_⟩
 ·unfold tresS at h2
  rw[y5 (fun k=>k hz),h0] at h2
  exact h2
 ·exact absurd (show (tresS w (J13.askM w.I k c y x)).2=0 by unfold tresS; rw[y5 (fun k=>k hz)]) h1
structure RI (t1:TTr) (c:Y8) (y:Int) (out:List Int) (i:Nat) (t:TTr):Prop where
 ok:J13.TOk t
 off:t.P=t1.P
 len:t.E.length=t1.E.length
 has:J13.hasP t.E c y=true
 row:(J13.potAt t c y).A=(J13.potAt t1 c y).A/\(J13.potAt t c y).G=(J13.potAt t1 c y).G/\(J13.potAt t c y).M=(J13.potAt t1 c y).M/\(J13.potAt t c y).T=(J13.potAt t1 c y).T
 asked:∀ k,nthN (J13.potAt t c y).F k=if k<i/\nthN out k≠0 then max (nthN (J13.potAt t1 c y).F k) (nthN (J13.potAt t1 c y).G k)+nthN out k else nthN (J13.potAt t1 c y).F k
theorem zsl (h:J13.TOk t) (hp:J13.hasP t.E c y=true) (out:List Int):RI t c y out 0 t :=
 ⟨h,rfl,rfl,hp,⟨rfl,rfl,rfl,rfl⟩,fun k=>by rw[y5 (fun g=>absurd g.1 (y3a _))]⟩
variable {i:Nat} {t1:TTr} {out:List Int}
theorem zuu (h:RI t1 c y out i t) (h0:nthN out i=0):RI t1 c y out (i+1) t:=by
 refine⟨h.ok,h.off,h.len,h.has,h.row,fun k=>?_⟩
 rw[h.asked k]
 by_cases e:k=i
 ·subst e
  rw[y5 (fun g=>g.2 h0),y5 (fun g=>g.2 h0)]
 ·by_cases g:k<i/\nthN out k≠0
  ·rw[y6 g,y6 ⟨om,g.2⟩]
  ·rw[y5 g,y5 (fun z=>g ⟨om,z.2⟩)]
theorem zw4 (h:RI t1 c y out i t) (h0:nthN out i≠0) (hi:(i:Int)<t1.P) {G H A U:Int} (eG:nthN (J13.potAt t1 c y).A i=G) (eH:nthN (J13.potAt t1 c y).G i=H) (eA:nthN (J13.potAt t1 c y).F i=A) (hb:0<=G/\G<=1000000000000000/\0<=H/\0<=A/\0<=U) (ho:0<=nthN out i/\nthN out i<=max (G-H-U) 0-max (min (max (G-H-U) 0) (A-H)) 0) :
  ∃ t',J13.askM t ((i:Int)+1) c y (nthN out i+max (H-A) 0)=(t',0)/\RI t1 c y out (i+1) t':=by
 have hA:nthN (J13.potAt t c y).F i=A:=by rw[h.asked i,y5 (fun g=>absurd g.1 (y53 _)),eA]
 have hG:nthN (J13.potAt t c y).A i=G:=by rw[h.row.1,eG]
 have hpk:=h.ok.potAt h.has
 have lA:=hpk.2.2.2.1.2.2.1.1
 obtain⟨t',e,k1,k2,k3,k4,k5⟩:=zut h.ok h.has (k:=i) (by rw[h.off]; exact hi) (x:=nthN out i+max (H-A) 0) ⟨om,om⟩ (by rw[hA,hG]; omega)
 refine⟨t',e,k1,k2.trans h.off,k3.trans h.len,k4,?_,fun k=>?_⟩
 ·rw[k5]; exact h.row
 ·rw[k5]
  show nthN (J13.upd _ _ _) k=_
  rw[zuq,hA]
  by_cases z:k=i
  ·subst z
   rw[y6 ⟨rfl,by have:=h.off; omega⟩,y6 ⟨y2u _,h0⟩,eA,eH]
   omega
  ·rw[y5 (fun g=>z g.1),h.asked k]
   by_cases g:k<i/\nthN out k≠0
   ·rw[y6 g,y6 ⟨om,g.2⟩]
   ·rw[y5 g,y5 (fun q=>g ⟨om,q.2⟩)]
theorem zdm:∀ {l:List TOp} {o:TOf},Runs o l->∀ p∈l,POp p
 | [],_,_,p,hp=>nomatch hp
 | q :: l,o,h,p,hp=>by
  rcases y14.1 hp with rfl | hp
  ·exact h.1.1
  ·exact zdm h.2 p hp
open Classical in
noncomputable def codeR:TOf->List TOp->Int
 | _,[]=>0
 | o,p :: l=>if POp p then (if (doS o p).2=0 then codeR (doS o p).1 l else 9) else 4
open Classical in
theorem z6x:∀ {l:List TOp} {o:TOf},codeR o l=0↔Runs o l
 | [],_=>⟨fun _=>trivial,fun _=>rfl⟩
 | p :: l,o=>by
  show (if POp p then (if (doS o p).2=0 then codeR (doS o p).1 l else 9) else 4)=0↔((POp p/\(doS o p).2=0)/\Runs (doS o p).1 l)
  by_cases h1:POp p
  ·rw[y6 h1]
   by_cases h2:(doS o p).2=0
   ·rw[y6 h2,z6x]
    exact⟨fun h=>⟨⟨h1,h2⟩,h⟩,fun h=>h.2⟩
   ·rw[y5 h2]
    exact⟨fun h=>absurd h dk,fun h=>absurd h.1.2 h2⟩
  ·rw[y5 h1]
   exact⟨fun h=>absurd h dk,fun h=>absurd h.1.1 h1⟩
def ShR (l:List TOp):Prop:=l.length<=1000000/\∀ p∈l,p.B.length<=1000000
open Classical in
theorem zeq {body:Nat->TOf->Option (Step TOf (TOf×Int×Int))} {a:List TOp}
  (hb:∀ i o,i<a.length->VO o->body i o=some (if POp (a.getD i dF) then (if (doS o (a.getD i dF)).2=0 then .cont (doS o (a.getD i dF)).1 else .ret (noO,(i:Int),9)) else .ret (noO,(i:Int),4))) :
  ∀ (l:List TOp) (i:Nat) (o:TOf),a.drop i=l->VO o->(codeR o l=0->rangeM body l.length i o=some (.next (runO o l)))/\(codeR o l≠0->∃ j:Int,rangeM body l.length i o=some (.ret (noO,j,codeR o l)))
 | [],i,o,_,_=>⟨fun _=>rfl,fun h=>absurd rfl h⟩
 | p :: l,i,o,h,hv=>by
  have hi:i<a.length:=Nat.not_le.1 fun k=>by rw[y1j k] at h; cases h
  have hg:a.getD i dF=p:=by
   rw[y1g hi] at h
   injection h with h
   rw[z16 hi,h]
  have hd:a.drop (i+1)=l:=by
   rw[y1g hi] at h
   injection h
  have hs:=hb i o hi hv
  rw[hg] at hs
  simp only[yn,rangeM,hs]
  have ec:codeR o (p :: l)=if POp p then (if (doS o p).2=0 then codeR (doS o p).1 l else 9) else 4:=rfl
  rw[ec]
  by_cases h1:POp p
  ·by_cases h2:(doS o p).2=0
   ·simp only[y6 h1,y6 h2]
    exact zeq hb l (i+1) (doS o p).1 hd (zc1 h2)
   ·simp only[y6 h1,y5 h2]
    exact⟨fun h=>absurd h dk,fun _=>⟨_,rfl⟩⟩
  ·simp only[y5 h1]
   exact⟨fun h=>absurd h dk,fun _=>⟨_,rfl⟩⟩
variable {o:TOf} {p:TOp}
open Classical in
theorem zl7 (hv:VO o) (hc:p.B.length<=1000000) :
  (((F_q47 p).bind fun r=>if (!r)=true then some (Step.ret (noO,(i:Int),(4:Int))) else (F_q3x o p).bind fun r=>if (r.2 != 0)=true then some (Step.ret (noO,(i:Int),(9:Int))) else some (Step.cont r.1)):Option (Step TOf (TOf×Int×Int))) =
  some (if POp p then (if (doS o p).2=0 then .cont (doS o p).1 else .ret (noO,(i:Int),9)) else .ret (noO,(i:Int),4)):=by
 rw[za3 hc]
 simp only[obind]
 by_cases h1:POp p
 ·rw[y9 h1,y5 dk,zdk hv h1.1 hc,y6 h1]
  simp only[obind]
  by_cases h2:(doS o p).2=0
  ·rw[y5 (by simp[h2]),y6 h2]
  ·rw[y6 (by simpa using h2),y5 h2]
 ·rw[ya h1,y6 dk,y5 h1]
variable {l:List TOp}
theorem zer {n:Int} (hn:1<=n/\n<=6) (hl:ShR l):∃ o j,F_qv n l=some (o,j,codeR (newO n) l)/\(codeR (newO n) l=0->o=runO (newO n) l):=by
 obtain⟨g1,g2⟩:=zeq (body:=fun i s=>(S_qv_b1 l i s).den) (a:=l) (fun i o hi hv=>by
  simp only[S_qv_b1,Scr.den]
  exact zl7 hv (hl.2 _ (z7 hi))) l 0 (newO n) rfl (z74 hn)
 simp only[F_qv,S_qv,Scr.den]
 by_cases h:codeR (newO n) l=0
 ·have g:=g1 h
  rw[show (⟨n,[],(⟨[],[],[],[]⟩:TBo)⟩:TOf)=newO n from rfl,g,h]
  exact⟨_,_,rfl,fun _=>rfl⟩
 ·obtain⟨j,g⟩:=g2 h
  rw[show (⟨n,[],(⟨[],[],[],[]⟩:TBo)⟩:TOf)=newO n from rfl,g]
  exact⟨_,_,rfl,fun k=>absurd k h⟩
variable {j:TJo}
theorem VJ.shr (h:VJ j):ShR j.N:=⟨by have:=h.2.1; omega,fun p hp=>by have:=(zdm h.2.2.2 p hp).len; omega⟩
open Classical in
noncomputable def stateS (j:TJo):TOf×Int:=if VJ j then (nowJ j,0) else (noO,1)
open Classical in
noncomputable def stableS (j:TJo):TOf×Int:=if VJ j then (stbJ j,0) else (noO,1)
theorem zes (h:VJ j):stateS j=(nowJ j,0):=y6 h
theorem z6y (h:¬ VJ j):stateS j=(noO,1):=y5 h
theorem zl8 (h:VJ j):stableS j=(stbJ j,0):=y6 h
theorem zl9 (h:¬ VJ j):stableS j=(noO,1):=y5 h
theorem zh5 (hs:ShR j.N):F_q2r j=some (stateS j):=by
 have h6:=hs.1
 simp only[F_q2r,S_q2r,Scr.den,F_q4s,S_q4s,za,obind]
 by_cases hb:(1<=j.Z/\j.Z<=6)/\j.N.length<=400/\(0<=j.Af/\j.Af<=j.N.length)
 ·obtain⟨o,k,e,ho⟩:=zer hb.1 hs
  rw[y5 sk,e]
  simp only[obind]
  by_cases h:codeR (newO j.Z) j.N=0
  ·rw[y5 (by simp[h]),ho h,zes ⟨hb.1,hb.2.1,hb.2.2,z6x.1 h⟩]
   rfl
  ·rw[y6 (by simpa using h),z6y (fun k=>h (z6x.2 k.2.2.2))]
   rfl
 ·rw[y6 sk,z6y (fun k=>hb ⟨k.1,k.2.1,k.2.2.1⟩)]
  rfl
open Classical in
theorem znp (hs:ShR j.N):F_q33 j=some (decide (VJ j)):=by
 simp only[F_q33,S_q33,Scr.den,zh5 hs,obind]
 by_cases h:VJ j
 ·rw[zes h,y9 h]; rfl
 ·rw[z6y h,ya h]; rfl
theorem zsm (h:ShR l) (n:Nat):ShR (l.take n):=⟨by have:=h.1; rw[y1h]; omega,fun p hp=>h.2 p (y35 hp)⟩
theorem znq (hs:ShR j.N):F_q3f j=some (stableS j):=by
 simp only[F_q3f,S_q3f,Scr.den,znp hs,obind]
 by_cases h:VJ j
 ·have hr:=z36 h.2.2.2 j.Af.toNat
  obtain⟨o,k,e,ho⟩:=zer h.1 (zsm hs j.Af.toNat)
  have h0:=z6x.2 hr
  rw[@decide_eq_true _ (_) h,y5 dk,e,zl8 h,h0,ho h0]
  simp only[obind]
  rw[z6 ⟨h.2.2.1.1,by have:=h.2.2.1.2; omega,trivial⟩]
  rfl
 ·rw[@decide_eq_false _ (_) h,y6 dk,zl9 h]
  rfl
def badB (x:Option (Out (TOf×TOf×Int) R_q5)):Prop:=(∃ a b,x=some (.ret (a,b,false)))\/∃ a b e,x=some (.next (a,b,e))/\e≠0
theorem zk1 {st:TOf} {e:Int} (he:e≠0):∀ n i,badB (rangeM (fun i s=>(S_q5_b1 j i s).den) n i (o,st,e))
 | 0,i=>.inr ⟨o,st,e,rfl,he⟩
 | n+1,i=>by
  have hs:(S_q5_b1 j i (o,st,e)).den=some (.ret (noO,noO,false)):=by
   simp only[S_q5_b1,Scr.den,z8]
   rw[zj (by simp[AllP,he])]
   simp only[obind]
   rw[y6 sj]
   rfl
  simp only[rangeM,hs]
  exact .inl ⟨_,_,rfl⟩
theorem zk2 {j:TJo} (hs:ShR j.N):∀ (l:List TOp) (i:Nat) (o st:TOf),j.N.drop i=l->VO o->¬ Runs o l->badB (rangeM (fun i s=>(S_q5_b1 j i s).den) l.length i (o,st,(0:Int)))
 | [],i,o,st,_,_,h=>absurd trivial h
 | p :: l,i,o,st,h,hv,hr=>by
  have hi:i<j.N.length:=Nat.not_le.1 fun k=>by rw[y1j k] at h; cases h
  have hg:j.N.getD i dF=p:=by
   rw[y1g hi] at h
   injection h with h
   rw[z16 hi,h]
  have hd:j.N.drop (i+1)=l:=by
   rw[y1g hi] at h
   injection h
  have hc:p.B.length<=1000000:=hs.2 p (by rw[<- hg]; exact z7 hi)
  by_cases hp:POp p
  ·have h1:(S_q5_b1 j i (o,st,(0:Int))).den=some (.cont ((doS o p).1,if (i:Int)<j.Af then (doS o p).1 else st,(doS o p).2)):=by
    simp only[S_q5_b1,Scr.den,z8]
    rw[Gg,hg,z5b hc,@decide_eq_true _ (_) hp]
    simp only[obind]
    rw[y5 sj,zbd hv.smO hc]
    simp only[obind]
    by_cases c:(i:Int)<j.Af
    ·rw[y6 (by simpa using c),y6 c]
    ·rw[y5 (by simpa using c),y5 c]
   simp only[yn,rangeM,h1]
   by_cases h0:(doS o p).2=0
   ·rw[h0]
    exact zk2 hs l (i+1) (doS o p).1 _ hd (zc1 h0) fun k=>hr ⟨⟨hp,h0⟩,k⟩
   ·exact zk1 h0 _ _
  ·have h1:(S_q5_b1 j i (o,st,(0:Int))).den=some (.ret (noO,noO,false)):=by
    simp only[S_q5_b1,Scr.den,z8]
    rw[Gg,hg,z5b hc,@decide_eq_false _ (_) hp]
    rfl
   simp only[yn,rangeM,h1]
   exact .inl ⟨_,_,rfl⟩
theorem zsn (hs:ShR j.N) (h:¬ VJ j):∃ a b,F_q5 j=some (a,b,false):=by
 have fin:∀ x:Option (Out (TOf×TOf×Int) R_q5),badB x->∃ a b,outM x (fun s=>some (s.1,s.2.1,(s.2.2==0))) (fun x=>some (id x))=some (a,b,false):=by
  rintro x (⟨a,b,rfl⟩ | ⟨a,b,e,rfl,he⟩)
  ·exact⟨a,b,rfl⟩
  ·refine⟨a,b,?_⟩
   rw[zd,y3c.2 he]
 simp only[F_q5,S_q5,Scr.den,z8]
 by_cases hb:j.N.length<=400/\(0<=j.Af/\j.Af<=j.N.length)
 ·rw[y5 sk,zec]
  simp only[obind]
  refine fin _ ?_
  by_cases hn:1<=j.Z/\j.Z<=6
  ·rw[y5 om]
   exact zk2 hs j.N 0 (newO j.Z) _ rfl (z74 hn) fun k=>h ⟨hn,hb.1,hb.2,k⟩
  ·rw[y6 om]
   exact zk1 dk _ _
 ·rw[y6 sk]
  exact⟨_,_,rfl⟩
theorem zuv {a b:List TOp} (h:a.length=b.length) (he:∀ i,i<a.length->a.getD i dF=b.getD i dF):a=b:=by
 refine y33 h fun i h1 h2=>?_
 have:=he i h1
 rwa [z16 h1,z16 h2] at this
open Classical in
theorem zcw {a b:TJo} (hl:a.N.length<=1000000):F_q1m a b=some (decide (a=b)):=by
 obtain⟨n,l,f⟩:=a
 obtain⟨m,k,g⟩:=b
 simp only at hl
 simp only[F_q1m,S_q1m,Scr.den,z8]
 by_cases h:n=m/\f=g/\l.length=k.length
 ·obtain⟨rfl,rfl,h3⟩:=h
  rw[y5 (by simp[h3]),Ga]
  obtain⟨g1,g2⟩:=zl (ρ:=Bool) (n:=l.length) (c:=false) (body:=fun i s=>(S_q1m_b1 ⟨n,l,f⟩ ⟨n,k,f⟩ i s).den) (fun i=>l.getD i dF=k.getD i dF) (fun i hi h=>by
   simp only[S_q1m_b1,Scr.den]
   rw[Ga,y5 (by
    intro z
    rw[yi] at z
    exact y4t (z.symm.trans ((za2 _ _).2 h)))]) (fun i hi h=>by
   simp only[S_q1m_b1,Scr.den]
   rw[Ga,y6 (by
    rw[yi]
    exact y2g.2 fun z=>h ((za2 _ _).1 z))])
  by_cases hk:∀ i,i<l.length->l.getD i dF=k.getD i dF
  ·rw[g1 hk,zuv h3 hk]
   simp[outM]
  ·rw[g2 hk,ya (fun z=>hk fun i hi=>by injection z with _ z; rw[z])]
   rfl
 ·rw[y6 (by
   simp only[yc,y1i]
   by_cases h1:n=m
   ·by_cases h2:f=g
    ·exact .inr fun z=>h ⟨h1,h2,om⟩
    ·exact .inl (.inr h2)
   ·exact .inl (.inl h1)),ya (fun z=>h (by injection z with z1 z2 z3; exact⟨z1,z3,by rw[z2]⟩))]
open Classical in
def SR (l:List TOp):Prop:=l.length<=100/\∀ p∈l,p.B.length<=60
theorem SR.shr (h:SR l):ShR l:=⟨by have:=h.1; omega,fun p hp=>by have:=h.2 p hp; omega⟩
theorem VJ.sr (h:VJ j) (hl:j.N.length<=100):SR j.N:=⟨hl,fun p hp=>(zdm h.2.2.2 p hp).len⟩
theorem zk3 (h:SR l) (hp:p.B.length<=60):SR (l.set i p):=⟨by rw[yh]; exact h.1,fun q hq=>by
 rcases y20 hq with hq | rfl
 ·exact h.2 q hq
 ·exact hp⟩
theorem zet (j:TJo):F_qb j=some true->SR j.N:=by
 intro h
 simp only[F_qb,S_qb,Scr.den] at h
 obtain⟨g1,g2⟩:=zl (ρ:=Bool) (n:=j.N.length) (c:=false) (body:=fun i s=>(S_qb_b1 j i s).den) (fun i=>(j.N.getD i dF).B.length<=60) (fun i hi h=>by
  simp only[S_qb_b1,Scr.den]
  rw[y5 (by simp only[y7]; omega)]) (fun i hi h=>by
  simp only[S_qb_b1,Scr.den]
  rw[y6 (by simp only[y7]; omega)])
 by_cases hk:∀ i,i<j.N.length->(j.N.getD i dF).B.length<=60
 ·rw[g1 hk] at h
  simp only[zd,y13,y7] at h
  refine⟨om,fun p hp=>?_⟩
  obtain⟨i,hi,rfl⟩:=z11 hp
  exact hk i hi
 ·rw[g2 hk] at h
  simp[outM] at h
theorem zdn (j:TJo):∃ b,F_qb j=some b:=by
 simp only[F_qb,S_qb,Scr.den]
 obtain⟨g1,g2⟩:=zl (ρ:=Bool) (n:=j.N.length) (c:=false) (body:=fun i s=>(S_qb_b1 j i s).den) (fun i=>(j.N.getD i dF).B.length<=60) (fun i hi h=>by
  simp only[S_qb_b1,Scr.den]
  rw[y5 (by simp only[y7]; omega)]) (fun i hi h=>by
  simp only[S_qb_b1,Scr.den]
  rw[y6 (by simp only[y7]; omega)])
 by_cases hk:∀ i,i<j.N.length->(j.N.getD i dF).B.length<=60
 ·rw[g1 hk]; exact⟨_,rfl⟩
 ·rw[g2 hk]; exact⟨_,rfl⟩
theorem zdo (hj:SR j.N) (hl:j.N.length<=50) {s:TTape} (hs:TapeOk s):∃ j' s',F_q65 j s=some (j',s')/\TapeOk s'/\SR j'.N:=by
 obtain⟨n,l,f⟩:=j
 simp only at hj hl
 simp only[F_q65,S_q65,Scr.den]
 rw[Ga]
 obtain⟨k,s1,e1,q1,k0,k1⟩:=z1c (n:=6) hs om om
 simp only[e1,obind]
 by_cases h:(k==0)=true
 ·rw[y6 h]
  obtain⟨v,s2,e2,q2,_⟩:=z15 (l:=[0,1,6,7]) q1 dk dk
  simp only[e2,obind]
  rw[Ga]
  exact⟨_,_,rfl,q2,hj⟩
 rw[y5 h]
 by_cases h:(k==1)=true
 ·rw[y6 h]
  obtain⟨v,s2,e2,q2,_⟩:=z15 (l:=[(-1),0,(l.length:Int),(i64.wrap ((l.length:Int)+1))]) q1 sj sj
  simp only[e2,obind]
  rw[Ga]
  exact⟨_,_,rfl,q2,hj⟩
 rw[y5 h]
 by_cases h:(k==2)=true
 ·rw[y6 h]
  by_cases hc:0<l.length
  ·rw[y6 sk]
   obtain⟨i,s2,e2,q2,i0,i1⟩:=z1c (n:=(l.length:Int)) q1 om om
   obtain⟨v,s3,e3,q3,_⟩:=z15 (l:=[(-1),0,5,100000]) q2 dk dk
   simp only[e2,e3,obind]
   rw[z6 ⟨i0,om,om,trivial⟩]
   simp only[zd]
   rw[z6 ⟨by rw[yh]; omega,trivial⟩]
   exact⟨_,_,rfl,q3,zk3 hj (hj.2 (l.getD (0+i.toNat) dF) (z7 om))⟩
  ·rw[y5 (by simp only[y7]; omega)]
   simp only[zd]
   rw[Ga]
   exact⟨_,_,rfl,q1,hj⟩
 rw[y5 h]
 by_cases h:(k==3)=true
 ·rw[y6 h]
  by_cases hc:0<l.length
  ·rw[y6 sk,Ga,Ga]
   exact⟨_,_,rfl,q1,by show (l.drop 1).length<=100; rw[y2t]; omega,fun p hp=>hj.2 p (y36 hp)⟩
  ·rw[y5 (by simp only[y7]; omega),Ga]
   exact⟨_,_,rfl,q1,hj⟩
 rw[y5 h]
 by_cases h:(k==4)=true
 ·rw[y6 h]
  obtain⟨u,s2,e2,q2,u0,u1⟩:=z2u (lo:=0) (hi:=10) q1 om om om
  obtain⟨v,s3,e3,q3,v0,v1⟩:=z1c (n:=4) q2 om om
  simp only[e2,e3,obind]
  rw[Ga]
  simp only[zd]
  rw[z6 ⟨by rw[yp]; simp; omega,trivial⟩]
  refine⟨_,_,rfl,q3,by show (l++_).length<=100; rw[yp]; simp; omega,fun p hp=>?_⟩
  rcases y1n.1 hp with hp | hp
  ·exact hj.2 p hp
  ·rw[y2k.1 hp]; exact y1e _
 ·rw[y5 h]
  by_cases hc:1<l.length
  ·rw[y6 sk,z6 ⟨om,om,om,om,by rw[yh]; omega,trivial⟩]
   simp only[zd]
   rw[z6 ⟨by rw[yh,yh]; omega,trivial⟩]
   exact⟨_,_,rfl,q1,zk3 (zk3 hj (hj.2 _ (z7 om))) (hj.2 _ (z7 om))⟩
  ·rw[y5 (by simp only[y7]; omega)]
   simp only[zd]
   rw[Ga]
   exact⟨_,_,rfl,q1,hj⟩
end Go.Proofs.YtgbpiaddmclccaaGreatDoor
namespace Go.Proofs.YtgbpiaddmclccaaGreatDoor.J13
open Go Go.TA
open Go.IntKind (i64)
def BSm (y:TTr):Prop:=y.E.length<=100/\∀ p∈y.E,p.B.length<=1000/\PSmall p
variable {y:TTr}
theorem BSm.small (h:BSm y):Small y:=fun p hp=>by have:=(h.2 p hp).1; omega
theorem BSm.tsmall (h:BSm y):TSmall y:=⟨by have:=h.1; omega,fun i hi=>(h.2 _ (z7 hi)).2⟩
theorem TOk.bsm {t:TTr} (h:TOk t):BSm t:=⟨by have:=h.2.1; omega,fun p hp=>by
 obtain⟨i,hi,rfl⟩:=z11 hp
 have hp':=(h.2.2 i hi).1
 exact⟨by have:=z3q hp'.1; omega,hp'.small h.1.2⟩⟩
theorem z5y {l:List TPo} (h:l.length<=100/\∀ p∈l,p.B.length<=1000/\PSmall p) {i:Nat} {p:TPo} (h1:p.B.length<=1000) (h2:PSmall p):(l.set i p).length<=100/\∀ q∈l.set i p,q.B.length<=1000/\PSmall q :=
 ⟨by rw[yh]; exact h.1,fun q hq=>by
  rcases y20 hq with hq | rfl
  ·exact h.2 q hq
  ·exact⟨h1,h2⟩⟩
variable {s:TTape}
theorem zk4 (hs:TapeOk s):∃ c s',F_q64 s=some (c,s')/\TapeOk s'/\c.length<=1000:=by
 simp only[F_q64,S_q64,Scr.den]
 obtain⟨v,s',h3,h4,h5,h6⟩:=z1c (n:=12) hs om om
 have h:∀ c∈([[],[48],[48,49],[49,46],[46,49],[49,46,46,50],[49,48,48],[49,46,50,46,51,46,52,46,53],[120],[49,32],[57,57,46,57,57,46,57,57,46,57,57],[52]]:List Y8),c.length<=1000:=dk
 refine⟨_,s',?_,h4,h _ (z7 (show v.toNat<12 from om))⟩
 rw[h3,obind,z6 ⟨by simpa using h5,by simp only; omega,trivial⟩]
theorem Bent_spec {x:TTr} (hx:TOk x) (hs:TapeOk s):∃ o s' l,F_q7z x s=some (o,s',l)/\TapeOk s'/\BSm ⟨o,l⟩:=by
 have hb:=hx.bsm
 have h60:=hx.2.1
 have hrow:∀ i,i<x.E.length->((x.E.getD i dF).A.length:Int)=x.P/\((x.E.getD i dF).G.length:Int)=x.P/\((x.E.getD i dF).F.length:Int)=x.P/\((x.E.getD i dF).M.length:Int)=x.P:=fun i hi=>by
  have hp:=(hx.2.2 i hi).1
  exact⟨hp.2.2.2.1.1.1,hp.2.2.2.1.2.1.1,hp.2.2.2.1.2.2.1.1,hp.2.2.2.1.2.2.2.1⟩
 have h6:=hx.1
 have hloop:∀ i0,rangeM (fun i s'=>(S_q1b_b1 i0 x s i s').den) x.E.length 0 (x.P,([]:List TPo))=some (.next (x.P,x.E)):=fun i0=>z6h (fun i l hi hl=>by
  obtain⟨q1,q2,q3,q4⟩:=hrow i hi
  simp only[S_q1b_b1,Scr.den]
  iterate 5 rw[Ge]
  rw[z6 (by
   simp only[AllP,y16]
   exact⟨fun _=>⟨om,om,om,om⟩,om,om,om,om⟩)])
 simp only[F_q7z,F_q1b,S_q1b,Scr.den,hloop,outM,z8]
 by_cases h0:x.E.length=0
 ·have hg:ghostB x s=0:=y6 h0
  rw[hg,zj (by simp[AllP,h0])]
  simp only[obind]
  rw[y6 (by simp[h0]),Ge]
  obtain⟨v,s1,e1,q1,_⟩:=z15 (l:=[0,1,6,7]) hs dk dk
  simp only[e1,obind]
  exact⟨_,_,_,rfl,q1,hb⟩
 obtain⟨v,s1,e1,q1,v0,v1⟩:=z1c (n:=6) hs om om
 rw[zg (by simp only[AllP,y16]; rw[y3c]; omega),e1]
 simp only[obind]
 by_cases h5:v=5
 ·have hg:ghostB x s=x.E.length:=by
   unfold ghostB
   rw[y5 h0,e1]
   exact y6 h5
  rw[hg,y6 (by simp[h5]),Ge]
  obtain⟨v,s2,e2,q2,_⟩:=z15 (l:=[0,1,6,7]) q1 dk dk
  simp only[e2,obind]
  exact⟨_,_,_,rfl,q2,hb⟩
 obtain⟨k,s2,e2,q2,k0,k1⟩:=z1c (n:=(x.E.length:Int)) q1 om om
 have hg:ghostB x s=k.toNat:=by
  unfold ghostB
  rw[y5 h0,e1]
  simp only[y5 h5,e2]
 obtain⟨i,hi⟩:∃ i,i=k.toNat:=⟨_,rfl⟩
 have hil:i<x.E.length:=om
 rw[hg,<- hi,y5 (by
  rw[yc,y12,y12]
  exact fun z=>z.elim (fun z=>om) h5),Ge,e2]
 simp only[obind]
 rw[<- hi,Ge,z6 (by simp only[AllP,y16])]
 obtain⟨r1,r2,r3,r4⟩:=hrow i hil
 have hbp:=hb.2 _ (z7 hil)
 have hbl:x.E.length<=100/\∀ p∈x.E,p.B.length<=1000/\PSmall p:=hb
 generalize x.E.getD i dF=p at r1 r2 r3 r4 hbp |-
 obtain⟨hc,hs1,hs2,hs3,hs4⟩:=hbp
 obtain⟨j,s3,e3,q3,j0,j1⟩:=z1c (n:=(p.A.length:Int)) q2 om om
 obtain⟨m,s4,e4,q4,m0,m1⟩:=z1c (n:=7) q3 om om
 simp only[e3,e4,obind]
 have G1:∀ {α:Type} (K:Option α),guardP (AllP [p.A.length<2 ^ 63/\p.G.length<2 ^ 63/\p.F.length<2 ^ 63/\p.M.length<2 ^ 63]) K=K:=fun K=>Ge
 by_cases c0:(m==0)=true
 ·rw[y6 c0]
  obtain⟨c,s5,e5,q5,hcl⟩:=zk4 q4
  simp only[e5,obind,G1]
  exact⟨_,_,_,rfl,q5,z5y hbl hcl ⟨hs1,hs2,hs3,hs4⟩⟩
 rw[y5 c0]
 by_cases c0:(m==1)=true
 ·rw[y6 c0]
  obtain⟨c,s5,e5,q5,_⟩:=z15 (l:=[(-1),99,100]) q4 dk dk
  simp only[e5,obind,G1]
  exact⟨_,_,_,rfl,q5,z5y hbl hc ⟨hs1,hs2,hs3,hs4⟩⟩
 rw[y5 c0]
 by_cases c0:(m==2)=true
 ·rw[y6 c0]
  obtain⟨c,s5,e5,q5,_⟩:=z15 (l:=[(-1000000000000001),1000000000000000,1000000000000001]) q4 dk dk
  simp only[e5,obind,G1]
  exact⟨_,_,_,rfl,q5,z5y hbl hc ⟨hs1,hs2,hs3,hs4⟩⟩
 rw[y5 c0]
 by_cases c0:(m==3)=true
 ·rw[y6 c0]
  obtain⟨c,s5,e5,q5,_⟩:=z15 (l:=[(-1),0,1000000000000000,1000000000000001]) q4 dk dk
  simp only[e5,obind]
  rw[Ge,z6 (by simp only[AllP,y16,yh]),Gf]
  exact⟨_,_,_,rfl,q5,z5y hbl hc ⟨by rw[yh]; exact hs1,hs2,hs3,hs4⟩⟩
 rw[y5 c0]
 by_cases c0:(m==4)=true
 ·rw[y6 c0]
  obtain⟨c,s5,e5,q5,_⟩:=z1c (n:=2) q4 om om
  simp only[e5,obind]
  rw[Ge,z6 (by simp only[AllP,y16,yh]),Gf]
  exact⟨_,_,_,rfl,q5,z5y hbl hc ⟨hs1,by rw[yh]; exact hs2,hs3,hs4⟩⟩
 rw[y5 c0]
 by_cases c0:(m==5)=true
 ·rw[y6 c0]
  have ew:i64.wrap ((p.M.length:Int)-1)=(p.M.length:Int)-1:=wrapId om om
  simp only[G1]
  rw[z6 (by simp only[AllP,y16,ew]; omega)]
  exact⟨_,_,_,rfl,q4,z5y hbl hc ⟨hs1,hs2,hs3,by rw[y1h]; omega⟩⟩
 rw[y5 c0]
 simp only[G1]
 rw[z6 (by simp only[AllP,y16,yh,yn,y1k]; omega)]
 have hbs:=z5y (i:=i) hbl hc ⟨hs1,hs2,hs3,hs4⟩
 refine⟨_,_,_,rfl,q4,?_,fun q hq=>?_⟩
 ·simp only[yp,yh,yn,y1k]; omega
 ·rcases y1n.1 hq with hq | hq
  ·exact hbs.2 q hq
  ·rw[y2k.1 hq]
   exact hbs.2 _ (z7 (by rw[yh]; omega))
theorem SmallTreasury_spec (t:TTr):∃ b,F_q1e t=some b/\(b=true->BSm t):=by
 simp only[F_q1e,S_q1e,Scr.den]
 obtain⟨g1,g2⟩:=zl (ρ:=Bool) (n:=t.E.length) (c:=false) (body:=fun i s=>(S_q1e_b1 t i s).den)
  (fun i=>((((t.E.getD i dF).B.length<=60/\(t.E.getD i dF).A.length<=12)/\(t.E.getD i dF).G.length<=12)/\(t.E.getD i dF).F.length<=12)/\(t.E.getD i dF).M.length<=12) (fun i hi h=>by
  simp only[S_q1e_b1,Scr.den,z8]
  rw[y5 (by simp only[yc,y7]; omega)]) (fun i hi h=>by
  simp only[S_q1e_b1,Scr.den,z8]
  rw[y6 (by simp only[yc,y7]; omega)])
 by_cases hk:∀ i,i<t.E.length->((((t.E.getD i dF).B.length<=60/\(t.E.getD i dF).A.length<=12)/\(t.E.getD i dF).G.length<=12)/\(t.E.getD i dF).F.length<=12)/\(t.E.getD i dF).M.length<=12
 ·rw[g1 hk]
  refine⟨_,rfl,fun h=>?_⟩
  have h:=y1x h
  refine⟨om,fun p hp=>?_⟩
  obtain⟨i,hi,rfl⟩:=z11 hp
  have:=hk i hi
  exact⟨om,om,om,om,om⟩
 ·rw[g2 hk]
  exact⟨_,rfl,fun h=>by cases h⟩
end Go.Proofs.YtgbpiaddmclccaaGreatDoor.J13
namespace Go.Proofs.YtgbpiaddmclccaaGreatDoor
open Go Go.TA
open Go.IntKind (i64)
theorem zah {σ ρ:Type} {body:Nat->σ->Option (Step σ ρ)} {n:Nat} {c:ρ} (f:Nat->σ) (p:Nat->Prop) (hy:∀ i,i<n->p i->body i (f i)=some (.cont (f (i+1)))) (hn:∀ i,i<n->¬ p i->body i (f i)=some (.ret c)) :
  ∀ (k i:Nat),i+k=n->((∀ j,i<=j->j<n->p j)->rangeM body k i (f i)=some (.next (f n)))/\((¬ ∀ j,i<=j->j<n->p j)->rangeM body k i (f i)=some (.ret c))
 | 0,i,hk=>⟨fun _=>by rw[show i=n from om]; rfl,fun h=>absurd (fun j h1 h2=>om) h⟩
 | k+1,i,hk=>by
  obtain⟨h1,h2⟩:=zah f p hy hn k (i+1) om
  by_cases hp:p i
  ·simp only[rangeM,hy i om hp]
   exact⟨fun h=>h1 fun j a b=>h j om b,fun h=>h2 fun h'=>h fun j a b=>by
    by_cases e:j=i
    ·rw[e]; exact hp
    ·exact h' j om b⟩
  ·simp only[rangeM,hn i om hp]
   exact⟨fun h=>absurd (h i om om) hp,fun _=>trivial⟩
variable {n:Nat} {ρ σ:Type}
theorem zbm {body:Nat->σ->Option (Step σ ρ)} {c:ρ} (f:Nat->σ) (p:Nat->Prop) (hy:∀ i,i<n->p i->body i (f i)=some (.cont (f (i+1)))) (hn:∀ i,i<n->¬ p i->body i (f i)=some (.ret c)) :
  ((∀ j,j<n->p j)->rangeM body n 0 (f 0)=some (.next (f n)))/\((¬ ∀ j,j<n->p j)->rangeM body n 0 (f 0)=some (.ret c)):=by
 obtain⟨h1,h2⟩:=zah f p hy hn n 0 (yl n)
 exact⟨fun h=>h1 fun j _ b=>h j b,fun h=>h2 fun h'=>h fun j b=>h' j om b⟩
theorem zeu {body:Nat->Unit->Option (Step Unit Int)} {n:Nat} {p:Nat->Prop} (hy:∀ i,i<n->p i->body i ()=some (.cont ())) (hn:∀ i,i<n->¬ p i->body i ()=some (.ret (i:Int))) :
  ∀ (k i:Nat),i+k=n->(¬ ∀ j,i<=j->j<n->p j)->∃ v:Int,0<=v/\rangeM body k i ()=some (.ret v)
 | 0,i,hk,h=>absurd (fun j h1 h2=>om) h
 | k+1,i,hk,h=>by
  by_cases hp:p i
  ·simp only[rangeM,hy i om hp]
   exact zeu hy hn k (i+1) om fun h'=>h fun j a b=>by
    by_cases e:j=i
    ·rw[e]; exact hp
    ·exact h' j om b
  ·simp only[rangeM,hn i om hp]
   exact⟨_,om,rfl⟩
theorem zql {body:Nat->Unit->Option (Step Unit Int)} {p:Nat->Prop} (hy:∀ i,i<n->p i->body i ()=some (.cont ())) (hn:∀ i,i<n->¬ p i->body i ()=some (.ret (i:Int))) (h:¬ ∀ j,j<n->p j) :
  ∃ v:Int,0<=v/\rangeM body n 0 ()=some (.ret v):=zeu hy hn n 0 (yl n) fun h'=>h fun j hj=>h' j (y1e _) hj
variable {t:TTr} {c:Y8} {y:Int}
theorem z4m (h:¬ J13.hasP t.E c y=true):(J13.potM t c y).2=false:=by
 unfold J13.potM
 rw[y5 h]
def ToldR (t:TTr) (k:Nat) (r:TRi):Prop:=J13.hasP t.E r.B r.D=true/\r.A<=nthN (J13.potAt t r.B r.D).A k/\r.F<=nthN (J13.potAt t r.B r.D).F k
def HeardP (b:TOf) (k:Nat) (p:TPo):Prop:=nthN p.G k<=(rightV b.L p.B p.D).Q
variable {a b:TOf}
theorem z6z {k:Nat}:KnownJ t a b k↔(∀ i,i<a.L.length->ToldR t k (a.L.getD i dF))/\∀ i,i<t.E.length->HeardP b k (t.E.getD i dF):=by
 refine⟨fun h=>⟨fun i hi=>h.1 _ (z7 hi),fun i hi=>h.2 _ (z7 hi)⟩,fun h=>⟨fun r hr=>?_,fun p hp=>?_⟩⟩
 ·obtain⟨i,hi,rfl⟩:=z11 hr
  exact h.1 i hi
 ·obtain⟨i,hi,rfl⟩:=z11 hp
  exact h.2 i hi
open Classical in
theorem zh6 (ht:J13.TOk t) {k:Nat} (hk:(k:Int)<t.P) (hn:a.S=(k:Int)+1):F_q7 t a b=some (decide (KnownJ t a b k)):=by
 have h6:=ht.1
 have ew:i64.wrap (a.S-1)=(k:Int):=by rw[hn,wrapId om om]; omega
 simp only[F_q7,S_q7,Scr.den]
 obtain⟨g1,g2⟩:=zl (body:=fun i s=>(S_q7_b1 t a i s).den) (n:=a.L.length) (c:=false) (fun i=>ToldR t k (a.L.getD i dF)) (fun i hi h=>by
  obtain⟨h1,h2,h3⟩:=h
  have hp:=ht.potAt h1
  have hg:=hp.2.2.2.1.1.1
  have ha:=hp.2.2.2.1.2.2.1.1
  simp only[S_q7_b1,Scr.den,J13.Pot_eq ht.small,z1h h1,obind,z8,ew,yb]
  unfold nthN at h2 h3
  rw[z6 ⟨fun _=>om,fun _=>om,fun _=>om,fun _=>om,trivial⟩,y5 (by simp only[y27,yc,yo,y4e,y7]; omega)]) (fun i hi h=>by
  by_cases h1:J13.hasP t.E (a.L.getD i dF).B (a.L.getD i dF).D=true
  ·have hp:=ht.potAt h1
   have hg:=hp.2.2.2.1.1.1
   have ha:=hp.2.2.2.1.2.2.1.1
   have h2:¬ (_/\_):=fun h2=>h ⟨h1,h2⟩
   simp only[S_q7_b1,Scr.den,J13.Pot_eq ht.small,z1h h1,obind,z8,ew,yb]
   unfold nthN at h2
   rw[z6 ⟨fun _=>om,fun _=>om,fun _=>om,fun _=>om,trivial⟩,y6 (by simp only[y27,yc,yo,y4e,y7]; omega)]
  ·simp only[S_q7_b1,Scr.den,J13.Pot_eq ht.small,z4m h1,obind,z8]
   rw[z6 ⟨fun h=>(by simp[AllP] at h),fun h=>(by simp[AllP] at h),fun h=>(by simp[AllP] at h),fun h=>(by simp[AllP] at h),trivial⟩,y6 sj])
 by_cases h1:∀ i,i<a.L.length->ToldR t k (a.L.getD i dF)
 ·rw[g1 h1]
  simp only[zd]
  obtain⟨g3,g4⟩:=zl (body:=fun i s=>(S_q7_b2 t a b i s).den) (n:=t.E.length) (c:=false) (fun i=>HeardP b k (t.E.getD i dF)) (fun i hi h=>by
   have hp:=(ht.2.2 i hi).1
   have hh:=hp.2.2.2.1.2.1.1
   simp only[S_q7_b2,Scr.den,z2k,obind,ew,yb]
   unfold HeardP nthN at h
   rw[Gb,y5 (by simp only[y7]; omega)]) (fun i hi h=>by
   have hp:=(ht.2.2 i hi).1
   have hh:=hp.2.2.2.1.2.1.1
   simp only[S_q7_b2,Scr.den,z2k,obind,ew,yb]
   unfold HeardP nthN at h
   rw[Gb,y6 (by simp only[y7]; omega)])
  by_cases h2:∀ i,i<t.E.length->HeardP b k (t.E.getD i dF)
  ·rw[g3 h2,y9 (z6z.2 ⟨h1,h2⟩)]
   rfl
  ·rw[g4 h2,ya fun h=>h2 (z6z.1 h).2]
   rfl
 ·rw[g2 h1,ya fun h=>h1 (z6z.1 h).1]
  rfl
variable {f:Nat->TOf}
open Classical in
theorem zcx (ht:J13.TOk t) (hn:(n:Int)=t.P) (m:TMe):F_q34 t (ups n f) m=some (decide (MsgOk t f m)):=by
 by_cases hm:MsgOk t f m
 ·rw[zen ht hn hm,y9 hm]
 rw[ya hm]
 have h6:=ht.1
 by_cases h1:J13.hasP t.E m.B m.D=true
 ·have hp:=ht.potAt h1
  have hg:=hp.2.2.2.1.1.1
  have ha:=hp.2.2.2.1.2.2.1.1
  simp only[F_q34,S_q34,Scr.den,J13.Pot_eq ht.small,z1h h1,obind,z82,za]
  rw[y5 dk]
  by_cases h0:m.Aa=0
  ·have hx:¬ ToOk t m:=fun k=>hm ⟨h1,.inl ⟨h0,k⟩⟩
   rw[y6 (by simp[h0])]
   by_cases q1:1<=m.To/\m.To<=t.P
   ·have ew:i64.wrap (m.To-1)=m.To-1:=wrapId om om
    rw[ew,y9 q1,Gg]
    simp only[obind]
    by_cases q2:0<=m.A/\m.A<=(J13.potAt t m.B m.D).A.getD (m.To-1).toNat dF
    ·rw[y9 q2,Gg]
     simp only[obind]
     rw[z6 ⟨fun _=>om,fun _=>om,fun _=>om,fun _=>om,trivial⟩]
     refine y15 some (y2g.2 fun hb=>hx ?_)
     simp only[yg,y7,y12,true_and] at hb
     exact⟨q1,q2,hb.1.1,hb.1.2,hb.2⟩
    ·rw[ya q2,Gh]
     simp only[obind]
     rw[z6 ⟨fun _=>om,fun _=>om,fun h=>(by simp[AllP] at h),fun h=>(by simp[AllP] at h),trivial⟩]
     rfl
   ·rw[ya q1,Gh]
    simp only[obind]
    rw[Gh]
    simp only[obind]
    rw[z6 ⟨fun h=>(by simp[AllP] at h),fun h=>(by simp[AllP] at h),fun h=>(by simp[AllP] at h),fun h=>(by simp[AllP] at h),trivial⟩]
    rfl
  ·have hx:¬ FromOk t f m:=fun k=>hm ⟨h1,.inr ⟨h0,k⟩⟩
   rw[y5 (by simpa using h0)]
   by_cases q1:(1<=m.Aa/\m.Aa<=t.P)/\m.To=0
   ·have ew:i64.wrap (m.Aa-1)=m.Aa-1:=wrapId om om
    rw[ew,y9 q1.1,q1.2,z2h (show (m.Aa-1).toNat<n from om),z2k,Gg]
    simp only[obind]
    rw[Gg]
    simp only[obind]
    by_cases q2:0<=m.Q/\m.Q<=(rightV (f (m.Aa-1).toNat).L m.B m.D).Q
    ·rw[y9 q2,Gg]
     simp only[obind]
     rw[z6 ⟨fun _=>om,fun _=>by rw[zx]; omega,trivial⟩]
     refine y15 some (y2g.2 fun hb=>hx ?_)
     simp only[yg,y7,y12] at hb
     exact⟨q1.1,q1.2,q2,hb.1.1.2,hb.1.2,hb.2⟩
    ·rw[ya q2,Gh]
     simp only[obind]
     rw[z6 ⟨fun _=>om,fun _=>by rw[zx]; omega,trivial⟩]
     rfl
   ·have hb:(decide (1<=m.Aa/\m.Aa<=t.P)&&(m.To==0))=false:=by
     rw[y2g]
     intro hb
     simp only[yg,y7,y12] at hb
     exact q1 hb
    rw[hb,Gh]
    simp only[obind]
    rw[Gh]
    simp only[obind]
    rw[Gh]
    simp only[obind]
    rw[z6 ⟨fun h=>(by simp[AllP] at h),fun h=>(by simp[AllP] at h),trivial⟩]
    rfl
 ·simp only[F_q34,S_q34,Scr.den,J13.Pot_eq ht.small,z4m h1,obind]
  rw[y6 dk]
def RightJ (w:TWo) (i:Nat):Prop:=VJ (jAt w i)/\(jAt w i).Z=(i:Int)+1
def ShW (w:TWo):Prop:=J13.BSm w.I/\(w.K.length<=1000/\∀ j∈w.K,ShR j.N)/\w.O.length<=1000
variable {w:TWo} {i:Nat}
theorem ShW.j (h:ShW w) (hi:i<w.K.length):ShR (jAt w i).N:=h.2.1.2 _ (z7 hi)
theorem znr (hs:ShW w):((∀ i,i<w.K.length->RightJ w i)->F_qc w=some (ups w.K.length (noW w),ups w.K.length (stW w),true))/\((¬ ∀ i,i<w.K.length->RightJ w i)->∃ a b,F_qc w=some (a,b,false)):=by
 have hl:=hs.2.1.1
 simp only[F_qc,S_qc,Scr.den]
 obtain⟨g1,g2⟩:=zbm (body:=fun i s=>(S_qc_b1 w i s).den) (n:=w.K.length) (c:=(([]:List TOf),([]:List TOf),false)) (fun i=>(ups i (noW w),ups i (stW w))) (RightJ w) (fun i hi h=>by
  obtain⟨h1,h2⟩:=h
  simp only[S_qc_b1,Scr.den]
  rw[show w.K.getD i dF=jAt w i from rfl,z5c h1]
  simp only[obind]
  rw[z8g h1]
  simp only[obind,z8]
  rw[h2,wrapId (n:=(i:Int)+1) om om,y5 sj,z6 ⟨by rw[zx]; omega,by rw[zx]; omega,trivial⟩,z4k,z4k]
  rfl) (fun i hi h=>by
  simp only[S_qc_b1,Scr.den]
  rw[show w.K.getD i dF=jAt w i from rfl,zh5 (hs.j hi)]
  simp only[obind]
  rw[znq (hs.j hi)]
  simp only[obind,z8]
  rw[wrapId (n:=(i:Int)+1) om om,y6]
  by_cases h1:VJ (jAt w i)
  ·have h2:(jAt w i).Z≠(i:Int)+1:=fun k=>h ⟨h1,k⟩
   simp[h2]
  ·rw[z6y h1]
   simp)
 refine⟨fun h=>?_,fun h=>⟨[],[],?_⟩⟩
 ·have e:=g1 h
  have e:rangeM (fun i s=>(S_qc_b1 w i s).den) w.K.length 0 (([]:List TOf),([]:List TOf))=_:=e
  rw[e]
  simp only[zd]
  rw[z6 ⟨by rw[zx]; omega,trivial⟩,z6 ⟨by rw[zx]; omega,trivial⟩]
 ·have e:=g2 h
  have e:rangeM (fun i s=>(S_qc_b1 w i s).den) w.K.length 0 (([]:List TOf),([]:List TOf))=_:=e
  rw[e]
  rfl
theorem zqm:VW w↔(J13.TOk w.I/\(w.K.length:Int)=w.I.P/\w.O.length<=200)/\(∀ i,i<w.K.length->RightJ w i)/\(∀ i,i<w.K.length->KnownJ w.I (noW w i) (stW w i) i)/\∀ i,i<w.O.length->MsgOk w.I (stW w) (w.O.getD i dF):=by
 refine⟨fun h=>⟨⟨h.1,h.2.1,h.2.2.1⟩,fun i hi=>⟨(h.2.2.2.1 i hi).1,(h.2.2.2.1 i hi).2.1⟩,fun i hi=>(h.2.2.2.1 i hi).2.2,fun i hi=>h.2.2.2.2 _ (z7 hi)⟩,fun h=>⟨h.1.1,h.1.2.1,h.1.2.2,fun i hi=>⟨(h.2.1 i hi).1,(h.2.1 i hi).2,h.2.2.1 i hi⟩,fun m hm=>?_⟩⟩
 obtain⟨i,hi,rfl⟩:=z11 hm
 exact h.2.2.2 i hi
open Classical in
theorem z5z (hs:ShW w):F_qq w=some (decide (VW w)):=by
 have hs':=hs
 by_cases hw:VW w
 ·rw[z6j hw,y9 hw]
 rw[ya hw]
 simp only[F_qq,S_qq,Scr.den,J13.Valid_eq hs.1.small,obind,z8]
 by_cases h1:J13.TOk w.I/\(w.K.length:Int)=w.I.P/\w.O.length<=200
 ·obtain⟨ht,h2,h3⟩:=h1
  have h6:=ht.1
  rw[y9 ht,y5 (by simp[h2]; omega)]
  obtain⟨s1,s2⟩:=znr hs
  by_cases hj:∀ i,i<w.K.length->RightJ w i
  ·rw[s1 hj]
   simp only[obind]
   rw[y5 dk]
   obtain⟨g1,g2⟩:=zl (body:=fun i s=>(S_qq_b1 w (ups w.K.length (noW w),ups w.K.length (stW w),true) i s).den) (n:=w.K.length) (c:=false) (fun i=>KnownJ w.I (noW w i) (stW w i) i) (fun i hi h=>by
    simp only[S_qq_b1,Scr.den]
    rw[z2h hi,z2h hi,zh6 ht om (show (noW w i).S=_ from (zfw (hj i hi).1).trans (hj i hi).2),y9 h]
    simp only[obind]
    rw[z6 ⟨by rw[zx]; exact hi,trivial⟩,y5 dk]) (fun i hi h=>by
    simp only[S_qq_b1,Scr.den]
    rw[z2h hi,z2h hi,zh6 ht om (show (noW w i).S=_ from (zfw (hj i hi).1).trans (hj i hi).2),ya h]
    simp only[obind]
    rw[z6 ⟨by rw[zx]; exact hi,trivial⟩,y6 dk])
   rw[zx]
   by_cases hk:∀ i,i<w.K.length->KnownJ w.I (noW w i) (stW w i) i
   ·rw[g1 hk]
    simp only[zd]
    have hm:¬ ∀ i,i<w.O.length->MsgOk w.I (stW w) (w.O.getD i dF):=fun hm=>hw (zqm.2 ⟨⟨ht,h2,h3⟩,hj,hk,hm⟩)
    have hx:∃ v:Int,0<=v/\F_qz w.O w (ups w.K.length (stW w))=some v:=by
     simp only[F_qz,S_qz,Scr.den]
     obtain⟨v,hv,e⟩:=zql (body:=fun i s=>(S_qz_b1 w.O w (ups w.K.length (stW w)) i s).den) (n:=w.O.length) (p:=fun i=>MsgOk w.I (stW w) (w.O.getD i dF)) (fun i hi h=>by
      simp only[S_qz_b1,F_q3y,S_q3y,Scr.den]
      rw[zcx ht h2,y9 h]
      rfl) (fun i hi h=>by
      simp only[S_qz_b1,F_q3y,S_q3y,Scr.den]
      rw[zcx ht h2,ya h]
      rfl) hm
     rw[e]
     exact⟨v,hv,rfl⟩
    obtain⟨v,hv,e⟩:=hx
    simp only[F_q52,S_q52,Scr.den,e,obind]
    rw[y9 (show v>=0 from hv)]
    rfl
   ·rw[g2 hk]
    rfl
  ·obtain⟨a,b,e⟩:=s2 hj
   rw[e]
   rfl
 ·rw[y6]
  by_cases ht:J13.TOk w.I
  ·rw[y9 ht]
   by_cases h2:(w.K.length:Int)=w.I.P
   ·have h3:¬ w.O.length<=200:=fun h3=>h1 ⟨ht,h2,h3⟩
    simp[h2]
    omega
   ·simp[h2]
  ·rw[ya ht]
   simp
open Classical in
theorem z83 (ht:J13.TOk w.I) (hn:(n:Int)=w.I.P) (m:TMe):F_q2z w m (ups n f)=some (decide (MsgOk w.I f m)):=by
 by_cases hm:MsgOk w.I f m
 ·rw[z8v ht hn hm,y9 hm]
 rw[ya hm]
 have h6:=ht.1
 by_cases h1:J13.hasP w.I.E m.B m.D=true
 ·have hp:=ht.potAt h1
  have hg:=hp.2.2.2.1.1.1
  have ha:=hp.2.2.2.1.2.2.1.1
  simp only[F_q2z,S_q2z,Scr.den,z1k,z1h h1,obind,za,z8]
  rw[y5 dk]
  by_cases h0:m.Aa=0
  ·have hx:¬ ToOk w.I m:=fun k=>hm ⟨h1,.inl ⟨h0,k⟩⟩
   rw[y6 (by simp[h0])]
   by_cases q1:(1<=m.To/\m.To<=w.I.P)/\m.Q=0/\m.M=0
   ·have ew:i64.wrap (m.To-1)=m.To-1:=wrapId om om
    rw[ew,y5 (by simp[q1.2.1,q1.2.2,zx]; omega),z6 ⟨fun _=>om,fun _=>om,fun _=>om,fun _=>om,trivial⟩]
    refine y15 some (y2g.2 fun hb=>hx ?_)
    simp only[yg,y7] at hb
    exact⟨q1.1,⟨hb.1.1.1,hb.1.1.2⟩,⟨hb.1.2,hb.2⟩,q1.2⟩
   ·rw[y6 (by
     simp only[yc,y7,y1i,zx]
     omega)]
  ·have hx:¬ FromOk w.I f m:=fun k=>hm ⟨h1,.inr ⟨h0,k⟩⟩
   rw[y5 (by simpa using h0)]
   by_cases q1:(1<=m.Aa/\m.Aa<=w.I.P)/\m.To=0/\m.A=0/\m.F=0/\0<=m.M/\m.M<=1000000000000000
   ·have ew:i64.wrap (m.Aa-1)=m.Aa-1:=wrapId om om
    obtain⟨q0,q2,q3,q4,q5⟩:=q1
    rw[y5 (by simp[q2,q3,q4,zx]; omega),ew,yl,z2h (show (m.Aa-1).toNat<n from om),z1g]
    by_cases q6:0<=m.Q
    ·rw[zg (by simp[AllP]; omega)]
     simp only[obind]
     rw[z6 ⟨fun _=>om,fun _=>by rw[zx]; omega,fun _=>by rw[zx]; omega,trivial⟩]
     refine y15 some (y2g.2 fun hb=>hx ?_)
     simp only[yg,y7] at hb
     exact⟨q0,q2,hb,q5,q3,q4⟩
    ·have q7:decide (m.Q>=0)=false:=ya om
     rw[q7,Gh]
     simp only[obind]
     rw[z6 ⟨fun h=>(by simp[AllP] at h),fun h=>(by simp[AllP] at h),fun h=>(by simp[AllP] at h),trivial⟩]
     rfl
   ·rw[y6 (by
     simp only[yc,y7,y1i,zx]
     omega)]
 ·simp only[F_q2z,S_q2z,Scr.den,z1k,z4m h1,obind]
  rw[y6 dk]
open Classical in
theorem z6l (hs:ShW w):F_q0 w=some (decide (VW w)):=by
 by_cases hw:VW w
 ·rw[z31 hw,y9 hw]
 rw[ya hw]
 simp only[F_q0,S_q0,Scr.den,J13.r13_Valid_eq hs.1.small,obind,z8]
 by_cases h1:J13.TOk w.I/\(w.K.length:Int)=w.I.P/\w.O.length<=200
 ·obtain⟨ht,h2,h3⟩:=h1
  have h6:=ht.1
  rw[y9 ht,y5 (by simp[h2]; omega)]
  obtain⟨s1,s2⟩:=zbm (body:=fun i s=>(S_q0_b3 w i s).den) (n:=w.K.length) (c:=false) (fun i=>ups i (stW w)) (fun i=>RightJ w i/\KnownJ w.I (noW w i) (stW w i) i) (fun i hi h=>by
   obtain⟨⟨q1,q2⟩,q3⟩:=h
   simp only[S_q0_b3,Scr.den]
   rw[show w.K.getD i dF=jAt w i from rfl,q2,wrapId (n:=(i:Int)+1) om om,y5 sj,z75 q1]
   simp only[obind]
   rw[y5 dk,z6 ⟨by rw[zx]; omega,trivial⟩]
   obtain⟨u,e,_⟩:=zr (body:=fun k s=>(S_q0_b1 w i (nowJ (jAt w i),stbJ (jAt w i),true) k s).den) (n:=(nowJ (jAt w i)).L.length) (fun _ _=>True) (s0:=()) trivial (fun k u hk _=>by
    obtain⟨z1,z2,z3⟩:=q3.1 _ (z7 hk)
    have hp:=ht.potAt z1
    have hg:=hp.2.2.2.1.1.1
    have ha:=hp.2.2.2.1.2.2.1.1
    simp only[S_q0_b1,Scr.den,z1k]
    unfold nthN at z2 z3
    rw[show (nowJ (jAt w i)).L=(noW w i).L from rfl,z1h z1]
    simp only[obind,z8]
    rw[z6 ⟨fun _=>om,fun _=>om,trivial⟩,y5 (by simp only[y27,yc,yo,y4e,y7]; omega)]
    exact⟨(),rfl,trivial⟩)
   rw[e]
   simp only[zd]
   obtain⟨u,e,_⟩:=zr (body:=fun k s=>(S_q0_b2 w i (nowJ (jAt w i),stbJ (jAt w i),true) k s).den) (n:=w.I.E.length) (fun _ _=>True) (s0:=()) trivial (fun k u hk _=>by
    have z1:=q3.2 _ (z7 hk)
    have hp:=(ht.2.2 k hk).1
    have hh:=hp.2.2.2.1.2.1.1
    simp only[S_q0_b2,Scr.den,z1g,obind]
    unfold nthN at z1
    rw[Ga,y5 (by simp only[y7]; exact y2v.2 z1)]
    exact⟨(),rfl,trivial⟩)
   rw[e,z4k]
   rfl) (fun i hi h=>by
   simp only[S_q0_b3,Scr.den]
   rw[show w.K.getD i dF=jAt w i from rfl,wrapId (n:=(i:Int)+1) om om]
   by_cases q2:(jAt w i).Z=(i:Int)+1
   ·rw[y5 (by simp[q2])]
    by_cases q1:VJ (jAt w i)
    ·have hk:¬ KnownJ w.I (noW w i) (stW w i) i:=fun k=>h ⟨⟨q1,q2⟩,k⟩
     rw[z75 q1]
     simp only[obind]
     rw[y5 dk,z6 ⟨by rw[zx]; omega,trivial⟩]
     obtain⟨g1,g2⟩:=zl (body:=fun k s=>(S_q0_b1 w i (nowJ (jAt w i),stbJ (jAt w i),true) k s).den) (n:=(nowJ (jAt w i)).L.length) (c:=false) (fun k=>ToldR w.I i ((nowJ (jAt w i)).L.getD k dF)) (fun k hk h=>by
      obtain⟨z1,z2,z3⟩:=h
      have hp:=ht.potAt z1
      have hg:=hp.2.2.2.1.1.1
      have ha:=hp.2.2.2.1.2.2.1.1
      simp only[S_q0_b1,Scr.den,z1k,z1h z1]
      unfold nthN at z2 z3
      simp only[obind,z8]
      rw[z6 ⟨fun _=>om,fun _=>om,trivial⟩,y5 (by simp only[y27,yc,yo,y4e,y7]; omega)]) (fun k hk h=>by
      by_cases z1:J13.hasP w.I.E ((nowJ (jAt w i)).L.getD k dF).B ((nowJ (jAt w i)).L.getD k dF).D=true
      ·have hp:=ht.potAt z1
       have hg:=hp.2.2.2.1.1.1
       have ha:=hp.2.2.2.1.2.2.1.1
       have z2:¬ (_/\_):=fun z2=>h ⟨z1,z2⟩
       simp only[S_q0_b1,Scr.den,z1k,z1h z1]
       unfold nthN at z2
       simp only[obind,z8]
       rw[z6 ⟨fun _=>om,fun _=>om,trivial⟩,y6 (by simp only[y27,yc,yo,y4e,y7]; omega)]
      ·simp only[S_q0_b1,Scr.den,z1k,z4m z1,obind,z8]
       rw[z6 ⟨fun h=>(by simp[AllP] at h),fun h=>(by simp[AllP] at h),trivial⟩,y6 sj])
     by_cases c1:∀ k,k<(nowJ (jAt w i)).L.length->ToldR w.I i ((nowJ (jAt w i)).L.getD k dF)
     ·rw[g1 c1]
      simp only[zd]
      obtain⟨g3,g4⟩:=zl (body:=fun k s=>(S_q0_b2 w i (nowJ (jAt w i),stbJ (jAt w i),true) k s).den) (n:=w.I.E.length) (c:=false) (fun k=>HeardP (stbJ (jAt w i)) i (w.I.E.getD k dF)) (fun k hk h=>by
       have hp:=(ht.2.2 k hk).1
       have hh:=hp.2.2.2.1.2.1.1
       simp only[S_q0_b2,Scr.den,z1g,obind]
       unfold HeardP nthN at h
       rw[Ga,y5 (by simp only[y7]; exact y2v.2 h)]) (fun k hk h=>by
       have hp:=(ht.2.2 k hk).1
       have hh:=hp.2.2.2.1.2.1.1
       simp only[S_q0_b2,Scr.den,z1g,obind]
       unfold HeardP nthN at h
       rw[Ga,y6 (by simp only[y7]; exact y4j.1 h)])
      rw[g4 fun c2=>hk (z6z.2 ⟨c1,c2⟩)]
      rfl
     ·rw[g2 c1]
      rfl
    ·obtain⟨a,b,e⟩:=zsn (hs.j hi) q1
     rw[e]
     rfl
   ·rw[y6 (by simpa using q2)])
  by_cases hj:∀ i,i<w.K.length->RightJ w i/\KnownJ w.I (noW w i) (stW w i) i
  ·have e:=s1 hj
   have e:rangeM (fun i s=>(S_q0_b3 w i s).den) w.K.length 0 ([]:List TOf)=_:=e
   rw[e]
   simp only[zd]
   obtain⟨g1,g2⟩:=zl (body:=fun i s=>(S_q0_b4 w (ups w.K.length (stW w)) i s).den) (n:=w.O.length) (c:=false) (fun i=>MsgOk w.I (stW w) (w.O.getD i dF)) (fun i hi h=>by
    simp only[S_q0_b4,Scr.den]
    rw[z83 ht h2,y9 h]
    rfl) (fun i hi h=>by
    simp only[S_q0_b4,Scr.den]
    rw[z83 ht h2,ya h]
    rfl)
   rw[g2 fun hm=>hw (zqm.2 ⟨⟨ht,h2,h3⟩,fun i hi=>(hj i hi).1,fun i hi=>(hj i hi).2,hm⟩)]
   rfl
  ·have e:=s2 hj
   have e:rangeM (fun i s=>(S_q0_b3 w i s).den) w.K.length 0 ([]:List TOf)=_:=e
   rw[e]
   rfl
 ·rw[y6]
  by_cases ht:J13.TOk w.I
  ·rw[y9 ht]
   by_cases h2:(w.K.length:Int)=w.I.P
   ·have h3:¬ w.O.length<=200:=fun h3=>h1 ⟨ht,h2,h3⟩
    simp[h2]
    omega
   ·simp[h2]
  ·rw[ya ht]
   simp
variable {α:Type}
theorem zso [Inhabited α] {a b:List α} (h:a.length=b.length) (he:∀ i,i<a.length->a.getD i dF=b.getD i dF):a=b:=by
 refine y33 h fun i h1 h2=>?_
 have:=he i h1
 rwa [z16 h1,z16 h2] at this
variable {l:List α}
theorem zca [Inhabited α] {k:List α} {c:ρ} {body:Nat->Unit->Option (Step Unit ρ)} (h:l.length=k.length) (hy:∀ i,i<l.length->l.getD i dF=k.getD i dF->body i ()=some (.cont ())) (hn:∀ i,i<l.length->¬ l.getD i dF=k.getD i dF->body i ()=some (.ret c)) :
  (l=k->rangeM body l.length 0 ()=some (.next ()))/\(l≠k->rangeM body l.length 0 ()=some (.ret c)):=by
 obtain⟨g1,g2⟩:=zl (n:=l.length) (fun i=>l.getD i dF=k.getD i dF) hy hn
 exact⟨fun e=>g1 fun i _=>by rw[e],fun e=>g2 fun he=>e (zso h he)⟩
theorem zk5 {l k:α} [Decidable (l=k)] {x:Option (Out Unit Bool)} (g:(l=k->x=some (.next ()))/\(l≠k->x=some (.ret false))):outM x (fun _=>some true) (fun x=>some (id x))=some (decide (l=k)):=by
 by_cases h:l=k
 ·rw[g.1 h,y9 h]; rfl
 ·rw[g.2 h,ya h]; rfl
variable {p:Prop}
theorem zqn [Decidable p] (h:p):¬ (!decide p)=true:=by rw[y9 h]; decide
theorem zqo [Decidable p] (h:¬ p):(!decide p)=true:=by rw[ya h]; rfl
theorem lenNe {k:List α} (h:¬ l.length=k.length):((l.length:Int) != (k.length:Int))=true:=by
 rw[y1i]
 omega
theorem lenEq {k:List α} (h:l.length=k.length):¬ ((l.length:Int) != (k.length:Int))=true:=by
 rw[h]; simp
theorem zla (l k:List Int):F_q1d l k=some (decide (l=k)):=by
 simp only[F_q1d,S_q1d,Scr.den]
 by_cases h:l.length=k.length
 ·rw[y5 (lenEq h)]
  exact zk5 (zca h (fun i hi h=>by
   simp only[S_q1d_b1,Scr.den]
   rw[Ga,y5 (by rw[h]; simp)]) fun i hi h=>by
   simp only[S_q1d_b1,Scr.den]
   rw[Ga,y6 (y1i.2 h)])
 ·rw[y6 (lenNe h),ya fun e=>h (by rw[e])]
theorem zw5 (x a b c d:Bool):((optD [x=true] (some a) dF).bind fun r1=>(optD [(x&&r1)=true] (some b) dF).bind fun r2=>(optD [(x&&r1&&r2)=true] (some c) dF).bind fun r3=>(optD [(x&&r1&&r2&&r3)=true] (some d) dF).bind fun r4=>some (x&&r1&&r2&&r3&&r4))=some (x&&a&&b&&c&&d):=by
 cases x <;> cases a <;> cases b <;> cases c <;> cases d <;> simp[optD,AllP]
open Classical in
theorem zuw (p q:TPo):((p.B==q.B)&&(p.D==q.D)&&(p.T==q.T)&&decide (p.A=q.A)&&decide (p.G=q.G)&&decide (p.F=q.F)&&decide (p.M=q.M))=decide (p=q):=by
 obtain⟨a1,a2,a3,a4,a5,a6,a7⟩:=p
 obtain⟨b1,b2,b3,b4,b5,b6,b7⟩:=q
 rw[y1s]
 simp only[yg,y12,y7,TPo.mk.injEq,and_assoc]
open Classical in
theorem zev (p q:TPo):F_q76 p q=some (decide (p=q)):=by
 simp only[F_q76,S_q76,Scr.den,zla,za]
 rw[zw5,zuw]
open Classical in
theorem zlb {s:TTr} (hl:s.E.length<=1000000):F_q2u s t=some (decide (s=t)):=by
 obtain⟨n,l⟩:=s
 obtain⟨m,k⟩:=t
 simp only at hl
 simp only[F_q2u,S_q2u,Scr.den,z8]
 by_cases h:n=m/\l.length=k.length
 ·obtain⟨rfl,h⟩:=h
  rw[y5 (by simp[h]),Ga,zk5 (zca h (fun i hi h=>by
   simp only[S_q2u_b1,Scr.den,zev,obind]
   rw[Ga,y5 (zqn h)]) fun i hi h=>by
   simp only[S_q2u_b1,Scr.den,zev,obind]
   rw[Ga,y6 (zqo h)])]
  simp
 ·rw[y6 (by
   rw[yc,y1i,y1i]
   by_cases h1:n=m
   ·exact .inr fun z=>h ⟨h1,om⟩
   ·exact .inl h1),ya fun z=>h (by injection z with z1 z2; exact⟨z1,by rw[z2]⟩)]
theorem zh7 (p q:TMe):((p.Aa==q.Aa)&&((p.To==q.To)&&((p.B==q.B)&&((p.D==q.D)&&((p.A==q.A)&&((p.F==q.F)&&((p.Q==q.Q)&&((p.M==q.M)&&true))))))))=true↔p=q:=by
 obtain⟨a1,a2,a3,a4,a5,a6,a7,a8⟩:=p
 obtain⟨b1,b2,b3,b4,b5,b6,b7,b8⟩:=q
 simp only[yg,y12,TMe.mk.injEq,y16]
variable {q:TMe}
theorem zux {p:TMe} (h:p=q):¬ (!((p.Aa==q.Aa)&&((p.To==q.To)&&((p.B==q.B)&&((p.D==q.D)&&((p.A==q.A)&&((p.F==q.F)&&((p.Q==q.Q)&&((p.M==q.M)&&true)))))))))=true:=by
 rw[(zh7 p q).2 h]
 decide
theorem zuy {p:TMe} (h:¬ p=q):(!((p.Aa==q.Aa)&&((p.To==q.To)&&((p.B==q.B)&&((p.D==q.D)&&((p.A==q.A)&&((p.F==q.F)&&((p.Q==q.Q)&&((p.M==q.M)&&true)))))))))=true:=by
 rw[yi]
 exact y2g.2 fun z=>h ((zh7 p q).1 z)
variable {v:TWo}
open Classical in
theorem zlc (hp:v.I.E.length<=1000000) (hj:v.K.length<=1000000) (hr:∀ j∈v.K,j.N.length<=1000000) (hm:v.O.length<=1000000):F_qg v w=some (decide (v=w)):=by
 obtain⟨t,l,a⟩:=v
 obtain⟨u,k,b⟩:=w
 simp only at hp hj hr hm
 simp only[F_qg,S_qg,Scr.den,z8,zlb hp,obind]
 by_cases h:t=u/\l.length=k.length/\a.length=b.length
 ·obtain⟨rfl,h1,h2⟩:=h
  rw[y5 (by simp[h1,h2]),Ga]
  obtain⟨g1,g2⟩:=zca (ρ:=Bool) (c:=false) (body:=fun i s=>(S_qg_b1 ⟨t,l,a⟩ ⟨t,k,b⟩ i s).den) h1 (fun i hi h=>by
   simp only[S_qg_b1,Scr.den]
   rw[zcw (hr _ (z7 hi))]
   simp only[obind]
   rw[Ga,y5 (zqn h)]) (fun i hi h=>by
   simp only[S_qg_b1,Scr.den]
   rw[zcw (hr _ (z7 hi))]
   simp only[obind]
   rw[Ga,y6 (zqo h)])
  by_cases e:l=k
  ·subst e
   rw[g1 rfl]
   simp only[zd]
   rw[Ga,zk5 (zca h2 (fun i hi h=>by
    simp only[S_qg_b2,Scr.den]
    rw[Ga,y5 (zux h)]) fun i hi h=>by
    simp only[S_qg_b2,Scr.den]
    rw[Ga,y6 (zuy h)])]
   simp
  ·rw[g2 e,ya fun z=>e (by injection z)]
   rfl
 ·rw[y6 (by
   simp only[yc,y1i,yi,yf]
   by_cases h1:t=u
   ·by_cases h2:l.length=k.length
    ·exact .inr fun z=>h ⟨h1,h2,om⟩
    ·exact .inl (.inr fun z=>h2 om)
   ·exact .inl (.inl h1)),ya fun z=>h (by injection z with z1 z2 z3; exact⟨z1,by rw[z2],by rw[z3]⟩)]
theorem zqp (hs:ShW w) (c:Y8) (y:Int):∃ x,F_q35 w c y=some x/\F_q3g w c y=some x:=by
 by_cases hp:J13.hasP w.I.E c y=true
 ·by_cases h:VW w
  ·have hcy:=J13.potAt_cy hp
   have hm:J13.potAt w.I c y∈w.I.E:=z7 (J13.pix_lt hp).1
   have hq:=zl6 h hm
   refine⟨_,zul h hp,?_⟩
   rw[hcy.1,hcy.2] at hq
   simp only[F_q3g,S_q3g,Scr.den,z1k,z1h hp,obind,z31 h,z8]
   rw[Gg]
   simp only[obind]
   rw[y5 dk,hq]
   rfl
  ·refine⟨(0,0,0,0),?_,?_⟩
   ·simp only[F_q35,S_q35,Scr.den,J13.Pot_eq hs.1.tsmall,z1h hp,obind,z5z hs,z8]
    rw[Gg,@decide_eq_false _ (_) h]
    rfl
   ·simp only[F_q3g,S_q3g,Scr.den,z1k,z1h hp,obind,z6l hs,z8]
    rw[Gg,@decide_eq_false _ (_) h]
    rfl
 ·refine⟨(0,0,0,0),?_,?_⟩
  ·simp only[F_q35,S_q35,Scr.den,J13.Pot_eq hs.1.tsmall,z4m hp,obind,z8]
   rw[Gh]
   rfl
  ·simp only[F_q3g,S_q3g,Scr.den,z1k,z4m hp,obind,z8]
   rw[Gh]
   rfl
def foldN {σ:Type} (f:Nat->σ->σ):Nat->σ->σ
 | 0,s=>s
 | n+1,s=>f n (foldN f n s)
variable {τ:Type}
theorem z4e {body:Nat->τ->Option (Step τ ρ)} (g:σ->τ) (f:Nat->σ->σ) (I:σ->Prop) (hb:∀ i s,i<n->I s->body i (g s)=some (.cont (g (f i s)))/\I (f i s)) {s:σ} (h:I s) :
  rangeM body n 0 (g s)=some (.next (g (foldN f n s)))/\I (foldN f n s):=by
 obtain⟨t,e,h1,h2⟩:=zr (body:=body) (n:=n) (fun i t=>t=g (foldN f i s)/\I (foldN f i s)) (s0:=g s) ⟨rfl,h⟩ (fun i t hi hI=>by
  obtain⟨rfl,h2⟩:=hI
  obtain⟨q1,q2⟩:=hb i _ hi h2
  exact⟨_,q1,rfl,q2⟩)
 rw[e,h1]
 exact⟨rfl,h2⟩
def VN (n:Nat) (w:TWo):Prop:=VW w/\w.K.length=n
theorem VN.do (h:VN n w) (s:TSt):VN n (doW w s):=by
 obtain⟨h1,h2⟩:=zbl h.1 s
 exact⟨h1,h2.trans h.2⟩
theorem VN.ex (h:VN n w) (s:TSt):VN n (exW w s):=by
 obtain⟨h1,h2⟩:=zw0 h.1 s
 exact⟨h1,h2.trans h.2⟩
noncomputable def arrS (w:TWo):TWo:=if (delivS w 0).2=0 then (delivS w 0).1 else loseW w 0
theorem zw6 (h:VN n w) (hm:0<w.O.length):VN n (arrS w)/\(arrS w).O.length+1=w.O.length:=by
 have el:(w.O.eraseIdx 0).length=w.O.length-1:=by rw[List.length_eraseIdx,y6 hm]
 unfold arrS
 by_cases c:(delivS w 0).2=0
 ·rw[y6 c]
  obtain⟨d1,d2,_⟩:=zno h.1 c
  rcases zjx h.1 hm with ⟨_,k⟩ | ⟨k,_⟩
  ·exact⟨⟨k,d1.1.trans h.2⟩,by rw[d2,el]; omega⟩
  ·exact absurd c k
 ·rw[y5 c]
  refine⟨⟨zc6 h.1 0,h.2⟩,?_⟩
  show (w.O.eraseIdx 0).length+1=_
  rw[el]; omega
theorem zuz (h:VW w) (hm:0<w.O.length):(S_qa_b1 ⟨w⟩).den=some (.cont ⟨arrS w⟩):=by
 simp only[S_qa_b1,Scr.den]
 rw[y6 (by simp only[y7]; omega)]
 have e9:=zqi (p:=⟨0,[],0,0,0,0,0,0,0,0⟩) hm
 have e10:=zup (p:=⟨0,[],0,0,0,0,0,0,0,0⟩) hm
 have z:((0:Nat):Int)=0:=rfl
 rw[z] at e9 e10
 rw[z95 h ⟨y1e _,y1e _⟩]
 simp only[obind]
 unfold arrS
 by_cases c:(delivS w 0).2=0
 ·have hst:(stepW w ⟨9,0,⟨0,[],0,0,0,0,0,0,0,0⟩,[],0,0,0⟩).2=0:=by rw[e9]; exact c
  rw[e9,y5 (by simpa using c),z7l hst,e9,y6 c]
 ·have hst:(stepW w ⟨10,0,⟨0,[],0,0,0,0,0,0,0,0⟩,[],0,0,0⟩).2=0:=by rw[e10]
  rw[e9,y6 (by simpa using c),z94 (by rw[e9]; exact c),z95 h ⟨y1e _,y1e _⟩]
  simp only[obind]
  rw[z7l hst,e10,y5 c]
theorem zld (h:VW w) (hm:0<w.O.length):(S_q1_b1 w).den=some (.cont (arrS w)):=by
 simp only[S_q1_b1,F_q7q,S_q7q,Scr.den]
 rw[y6 (by simp only[y7]; omega)]
 have e9:=zqi (p:=⟨0,[],0,0,0,0,0,0,0,0⟩) hm
 have z:((0:Nat):Int)=0:=rfl
 rw[z] at e9
 have ew:=z47 h.2.2.1 hm
 rw[z] at ew
 rw[z4x h (y1e _) (y1e _),e9]
 simp only[obind]
 unfold arrS
 by_cases c:(delivS w 0).2=0
 ·rw[y5 (by simpa using c),y6 c]
  rfl
 ·rw[y6 (by simpa using c),y5 c,ew]
  rfl
theorem zh8 (g:TWo->τ) {step:τ->Option (Step τ ρ)} (h1:∀ v,VN n v->0<v.O.length->step (g v)=some (.cont (g (arrS v)))) (h2:∀ v,¬ 0<v.O.length->step (g v)=some (.brk (g v))) (m:τ->Nat) (hm:∀ v,m (g v)=v.O.length) (h:VN n w) :
  iterM step (g w)=some (.next (g (foldN (fun _=>arrS) w.O.length w)))/\VN n (foldN (fun _=>arrS) w.O.length w):=by
 obtain⟨s,e,hs⟩:=z1n (step:=step) m (fun s=>∃ i v,s=g v/\v=foldN (fun _=>arrS) i w/\VN n v/\v.O.length+i=w.O.length) (fun s=>s=g (foldN (fun _=>arrS) w.O.length w)/\VN n (foldN (fun _=>arrS) w.O.length w)) (fun s hI=>by
  obtain⟨i,v,rfl,ev,hv,hl⟩:=hI
  by_cases c:0<v.O.length
  ·obtain⟨a1,a2⟩:=zw6 hv c
   exact .inl ⟨_,h1 v hv c,⟨i+1,arrS v,rfl,by rw[ev]; rfl,a1,om⟩,by rw[hm,hm]; omega⟩
  ·have:i=w.O.length:=om
   subst this
   exact .inr ⟨_,h2 v c,by rw[ev],by rw[<- ev]; exact hv⟩) (w.O.length+1) (g w) (by rw[hm]; omega) ⟨0,w,rfl,rfl,h,om⟩
 rw[e,hs.1]
 exact⟨rfl,hs.2⟩
variable {s:TSt}
theorem zk6 (h:VW w) (hs:SOk s):F_q16 w s true=some (exW w s):=by
 simp only[F_q16,S_q16,Scr.den,z4x h hs.1 hs.2,obind]
 unfold exW
 by_cases c:(stepW w s).2=0
 ·have hv:=(zbl h s).1
  rw[y5 (by simpa using c),y5 dk,y6 c]
  rw[z7l c] at hv |-
  rw[z4x hv (y1e _) (y1e _)]
  simp only[obind]
  by_cases c2:(stepW (stepW w s).1 (lastS (stepW w s).1)).2=0
  ·rw[z7l c2]
   exact y5 fun k=>y1i.1 k c2
  ·rw[z94 c2]
   exact y6 (y1i.2 c2)
 ·rw[y6 (by simpa using c),y5 c]
theorem zh9 (h:VW w) (hs:SOk s):F_q16 w s false=some (doW w s):=by
 simp only[F_q16,S_q16,Scr.den,z4x h hs.1 hs.2,obind]
 by_cases c:(stepW w s).2=0
 ·rw[y5 (by simpa using c),y6 dk,z7l c]
 ·rw[y6 (by simpa using c),z94 c]
theorem zk7 {o:TOf} (hv:VO o) (hc:c.length<=1000000) (y:Int):(answerS o c y).1.B.length<=1000000:=by
 rw[zqj hv]
 split
 ·exact y1e _
 ·exact hc
def fourS (n:Int) (k:Int) (c:Y8) (y:Int):TSt:=⟨n,k,⟨0,[],0,0,0,0,0,0,0,0⟩,c,y,0,0⟩
variable {k:Int}
theorem z60 {n:Int} (hc:c.length<=1000000):SOk (fourS n k c y):=⟨hc,y1e _⟩
noncomputable def tellB (k:Int) (c:Y8) (y:Int) (w:TWo):TWo :=
 if (answerS (noW (exW w (fourS 4 k c y)) (k-1).toNat) c y).2=true then doW (exW w (fourS 4 k c y)) ⟨5,k,(answerS (noW (exW w (fourS 4 k c y)) (k-1).toNat) c y).1,[],0,0,0⟩ else exW w (fourS 4 k c y)
theorem zk8 (h:VN n w) (k:Int) (c:Y8) (y:Int):VN n (tellB k c y w):=by
 unfold tellB
 split
 ·exact (h.ex _).do _
 ·exact h.ex _
variable {w0:TWo}
theorem zqq (h:VN n w) (hk:1<=k/\k<=n) (hc:(w0.I.E.getD i dF).B.length<=1000000) :
  (S_qx_b1 k ⟨w0⟩ i ⟨w⟩).den=some (.cont ⟨tellB k (w0.I.E.getD i dF).B (w0.I.E.getD i dF).D w⟩):=by
 have h6:=h.1.len
 have hn:=h.2
 simp only[S_qx_b1,Scr.den]
 generalize (w0.I.E.getD i dF).B=c at hc |-
 generalize (w0.I.E.getD i dF).D=y
 have h1:=h.ex (fourS 4 k c y)
 have e1:F_q40 (⟨4,k,⟨0,[],0,0,0,0,0,0,0,0⟩,c,y,0,0⟩:TSt) ⟨w⟩=some ⟨exW w (fourS 4 k c y)⟩:=zsv h.1 (z60 hc)
 rw[e1]
 simp only[obind]
 unfold tellB
 generalize exW w (fourS 4 k c y)=v at h1 |-
 have hn1:=h1.2
 obtain⟨q1,_,_⟩:=h1.1.2.2.2.1 (k-1).toNat om
 have ew:i64.wrap (k-1)=k-1:=wrapId om om
 rw[ew,show v.K.getD (k-1).toNat dF=jAt v (k-1).toNat from rfl,z5c q1]
 simp only[obind]
 rw[Gb,zpn q1.now.smO hc]
 simp only[obind]
 have hcode:=zk7 q1.now hc y
 rw[show noW v (k-1).toNat=nowJ (jAt v (k-1).toNat) from rfl]
 by_cases ha:(answerS (nowJ (jAt v (k-1).toNat)) c y).2=true
 ·rw[y6 ha,y6 ha,z95 h1.1 ⟨y1e _,hcode⟩]
  rfl
 ·rw[y5 ha,y5 ha]
theorem zle (h:VN n w) (hk:1<=k/\k<=n) (hc:(w0.I.E.getD i dF).B.length<=1000000) :
  (S_q1_b2 (w0,k) i w).den=some (.cont (tellB k (w0.I.E.getD i dF).B (w0.I.E.getD i dF).D w)):=by
 have h6:=h.1.len
 have hn:=h.2
 simp only[S_q1_b2,Scr.den]
 generalize (w0.I.E.getD i dF).B=c at hc |-
 generalize (w0.I.E.getD i dF).D=y
 have h1:=h.ex (fourS 4 k c y)
 have e1:F_q16 w (⟨4,k,⟨0,[],0,0,0,0,0,0,0,0⟩,c,y,0,0⟩:TSt) true=some (exW w (fourS 4 k c y)):=zk6 h.1 (z60 hc)
 rw[e1]
 simp only[obind]
 unfold tellB
 generalize exW w (fourS 4 k c y)=v at h1 |-
 have hn1:=h1.2
 obtain⟨q1,_,_⟩:=h1.1.2.2.2.1 (k-1).toNat om
 have ew:i64.wrap (k-1)=k-1:=wrapId om om
 have eo:F_q3c v k=some (nowJ (jAt v (k-1).toNat),0):=by
  have d1:decide (k>=1)=true:=y9 hk.1
  have d2:decide (k<=(v.K.length:Int))=true:=y9 om
  simp only[F_q3c,S_q3c,F_q3b,S_q3b,Scr.den,z31 h1.1,obind,za,d1,d2]
  rw[ew,show v.K.getD (k-1).toNat dF=jAt v (k-1).toNat from rfl,z5f q1]
  simp only[obind]
  rw[y5 dk,y5 dk,Gb]
 rw[eo]
 simp only[obind]
 rw[zae q1.now.smO hc]
 simp only[obind]
 have hcode:=zk7 q1.now hc y
 rw[show noW v (k-1).toNat=nowJ (jAt v (k-1).toNat) from rfl]
 by_cases ha:(answerS (nowJ (jAt v (k-1).toNat)) c y).2=true
 ·rw[y6 ha,y6 ha,zh9 h1.1 ⟨y1e _,hcode⟩]
  rfl
 ·rw[y5 ha,y5 ha]
noncomputable def tellF (k:Int) (w:TWo):TWo:=foldN (fun i v=>tellB k (w.I.E.getD i dF).B (w.I.E.getD i dF).D v) w.I.E.length w
noncomputable def tellsS (k:Int) (w:TWo):TWo:=doW (tellF k w) (fourS 6 k [] 0)
noncomputable def reportsS (k:Int) (w:TWo):TWo:=foldN (fun i v=>exW v (fourS 8 k (w.I.E.getD i dF).B (w.I.E.getD i dF).D)) w.I.E.length w
noncomputable def settleS (k:Int) (w:TWo):TWo:=reportsS k (tellsS k w)
theorem VW.potLen (h:VW w) (hi:i<w.I.E.length):(w.I.E.getD i dF).B.length<=1000000:=h.small _ (z7 hi)
theorem zcy (h:VN n w) (hk:1<=k/\k<=n) (hn:n<=6):F_qx k ⟨w⟩=some ⟨settleS k w⟩/\(S_q1_b4 (w,k)).den=some (.cont (settleS k w,k+1))/\VN n (settleS k w):=by
 obtain⟨a1,hv⟩:=z4e (body:=fun i s=>(S_qx_b1 k ⟨w⟩ i s).den) (n:=w.I.E.length) (fun v:TWo=>(⟨v⟩:TCa)) (fun i v=>tellB k (w.I.E.getD i dF).B (w.I.E.getD i dF).D v) (VN n) (fun i s hi hs=>⟨zqq hs hk (h.1.potLen hi),zk8 hs _ _ _⟩) h
 obtain⟨a2,_⟩:=z4e (body:=fun i s=>(S_q1_b2 (w,k) i s).den) (n:=w.I.E.length) (fun v:TWo=>v) (fun i v=>tellB k (w.I.E.getD i dF).B (w.I.E.getD i dF).D v) (VN n) (fun i s hi hs=>⟨zle hs hk (h.1.potLen hi),zk8 hs _ _ _⟩) h
 have et:foldN (fun i v=>tellB k (w.I.E.getD i dF).B (w.I.E.getD i dF).D v) w.I.E.length w=tellF k w:=rfl
 rw[et] at a1 a2 hv
 have hx:VN n (tellsS k w):=hv.do (fourS 6 k [] 0)
 have c1:F_q2a (⟨6,k,⟨0,[],0,0,0,0,0,0,0,0⟩,[],0,0,0⟩:TSt) ⟨tellF k w⟩=some ((stepW (tellF k w) (fourS 6 k [] 0)).2,⟨tellsS k w⟩):=z95 hv.1 (z60 (n:=6) (k:=k) (y:=0) (y1e _))
 have c2:F_q16 (tellF k w) (⟨6,k,⟨0,[],0,0,0,0,0,0,0,0⟩,[],0,0,0⟩:TSt) false=some (tellsS k w):=zh9 hv.1 (z60 (n:=6) (k:=k) (y:=0) (y1e _))
 generalize (stepW (tellF k w) (fourS 6 k [] 0)).2=e at c1
 unfold settleS
 generalize tellsS k w=u at hx c1 c2 |-
 obtain⟨b1,hz⟩:=z4e (body:=fun i s=>(S_qx_b2 k (e,⟨u⟩) i s).den) (n:=u.I.E.length) (fun v:TWo=>(⟨v⟩:TCa)) (fun i v=>exW v (fourS 8 k (u.I.E.getD i dF).B (u.I.E.getD i dF).D)) (VN n) (fun i s hi hs=>⟨by
  simp only[S_qx_b2,Scr.den]
  have e1:F_q40 (⟨8,k,⟨0,[],0,0,0,0,0,0,0,0⟩,(u.I.E.getD i dF).B,(u.I.E.getD i dF).D,0,0⟩:TSt) ⟨s⟩=some ⟨_⟩:=zsv hs.1 (z60 (hx.1.potLen hi))
  rw[e1]
  rfl,hs.ex _⟩) hx
 obtain⟨b2,_⟩:=z4e (body:=fun i s=>(S_q1_b3 (w,k) u i s).den) (n:=u.I.E.length) (fun v:TWo=>v) (fun i v=>exW v (fourS 8 k (u.I.E.getD i dF).B (u.I.E.getD i dF).D)) (VN n) (fun i s hi hs=>⟨by
  simp only[S_q1_b3,Scr.den]
  have e1:F_q16 s (⟨8,k,⟨0,[],0,0,0,0,0,0,0,0⟩,(u.I.E.getD i dF).B,(u.I.E.getD i dF).D,0,0⟩:TSt) true=some _:=zk6 hs.1 (z60 (hx.1.potLen hi))
  rw[e1]
  rfl,hs.ex _⟩) hx
 have ho:=h.1.2.1
 have hn':=h.2
 refine⟨?_,?_,hz⟩
 ·simp only[F_qx,S_qx,Scr.den]
  rw[a1]
  simp only[zd]
  rw[c1]
  simp only[obind]
  rw[b1]
  rfl
 ·simp only[S_q1_b4,Scr.den]
  rw[y6 (by rw[y7]; omega),a2]
  simp only[zd]
  rw[c2]
  simp only[obind]
  rw[b2,wrapId (n:=k+1) om om]
  rfl
noncomputable def calmS (w:TWo):TWo:=foldN (fun i=>settleS ((i:Int)+1)) w.K.length (foldN (fun _=>arrS) w.O.length w)
theorem zk9 (h:VW w):F_qa w=some (calmS w,0)/\F_q1 w=some (calmS w,0)/\VW (calmS w):=by
 have hl:=h.len
 have hn:VN w.K.length w:=⟨h,rfl⟩
 obtain⟨a1,hv⟩:=zh8 (fun v:TWo=>(⟨v⟩:TCa)) (step:=fun s=>(S_qa_b1 s).den) (n:=w.K.length) (fun v hv hm=>zuz hv.1 hm) (fun v hm=>by
  simp only[S_qa_b1,Scr.den]
  rw[y5 (by simp only[y7]; omega)]) (fun s=>s.w.O.length) (fun _=>rfl) hn
 obtain⟨a2,_⟩:=zh8 (fun v:TWo=>v) (step:=fun s=>(S_q1_b1 s).den) (n:=w.K.length) (fun v hv hm=>zld hv.1 hm) (fun v hm=>by
  simp only[S_q1_b1,Scr.den]
  rw[y5 (by simp only[y7]; omega)]) (fun s=>s.O.length) (fun _=>rfl) hn
 unfold calmS
 generalize foldN (fun _=>arrS) w.O.length w=v at a1 a2 hv |-
 obtain⟨b1,hz⟩:=z4e (body:=fun i s=>(S_qa_b2 i s).den) (n:=w.K.length) (fun v:TWo=>(⟨v⟩:TCa)) (fun i=>settleS ((i:Int)+1)) (VN w.K.length) (fun i s hi hs=>by
  obtain⟨q1,_,q3⟩:=zcy hs (k:=(i:Int)+1) om hl.2
  refine⟨?_,q3⟩
  simp only[S_qa_b2,Scr.den]
  rw[wrapId (n:=(i:Int)+1) om om,q1]
  rfl) hv
 obtain⟨s,b2,hs⟩:=z1n (step:=fun s=>(S_q1_b4 s).den) (fun s=>((w.K.length:Int)+1-s.2).toNat) (fun s=>∃ i:Nat,i<=w.K.length/\s.2=(i:Int)+1/\s.1=foldN (fun i=>settleS ((i:Int)+1)) i v/\VN w.K.length s.1) (fun s=>s.1=foldN (fun i=>settleS ((i:Int)+1)) w.K.length v) (fun s hI=>by
  obtain⟨z,k⟩:=s
  obtain⟨i,h1,h2,h3,h4⟩:=hI
  simp only at h2 h3 h4
  subst h2
  by_cases c:i<w.K.length
  ·obtain⟨_,q2,q3⟩:=zcy h4 (k:=(i:Int)+1) om hl.2
   exact .inl ⟨_,q2,⟨i+1,c,sj,by rw[h3]; rfl,q3⟩,by simp only; omega⟩
  ·have ho:=h4.1.2.1
   have hj:=h4.2
   have:i=w.K.length:=om
   subst this
   refine .inr ⟨(z,(w.K.length:Int)+1),?_,h3⟩
   simp only[S_q1_b4,Scr.den]
   rw[y5 (by rw[y7]; omega)]) (w.K.length+2) (v,1) (by simp only; omega) ⟨0,y1e _,rfl,rfl,hv⟩
 refine⟨?_,?_,hz.1⟩
 ·simp only[F_qa,S_qa,Scr.den,z6j h,obind]
  rw[y5 dk,a1]
  simp only[zd]
  rw[Ga,b1]
  simp only[zd]
  rw[zse hz.1.fr]
  rfl
 ·simp only[F_q1,S_q1,Scr.den,z31 h,obind]
  rw[y5 dk,a2]
  simp only[zd]
  rw[b2]
  simp only[zd]
  rw[hs]
theorem zha (hs:ShW w):∃ x,F_qa w=some x/\F_q1 w=some x/\z6k x:=by
 by_cases h:VW w
 ·obtain⟨h1,h2,h3⟩:=zk9 h
  exact⟨_,h1,h2,.inl ⟨rfl,h3⟩⟩
 ·refine⟨(zWd,1),?_,?_,.inr ⟨dk,rfl⟩⟩
  ·simp only[F_qa,S_qa,Scr.den]
   rw[z5z hs,@decide_eq_false _ (_) h]
   rfl
  ·simp only[F_q1,S_q1,Scr.den]
   rw[z6l hs,@decide_eq_false _ (_) h]
   rfl
theorem VW.sh (h:VW w):ShW w:=⟨J13.TOk.bsm h.1,⟨by have:=h.len; omega,fun j hj=>by
 obtain⟨i,hi,rfl⟩:=z11 hj
 exact (h.2.2.2.1 i hi).1.shr⟩,by have:=h.2.2.1; omega⟩
theorem zew (w:TWo):∃ b,F_qd w=some b/\(b=true->ShW w):=by
 simp only[F_qd,S_qd,Scr.den,za]
 obtain⟨g1,g2⟩:=zl (ρ:=Bool) (n:=w.K.length) (c:=false) (body:=fun i s=>(S_qd_b1 w i s).den) (fun i=>F_qb (w.K.getD i dF)=some true) (fun i hi h=>by
  simp only[S_qd_b1,Scr.den,h,obind]
  rw[y5 dk]) (fun i hi h=>by
  obtain⟨b,e⟩:=zdn (w.K.getD i dF)
  cases b with
  | true=>exact absurd e h
  | false =>
   simp only[S_qd_b1,Scr.den,e,obind]
   rw[y6 dk])
 obtain⟨g3,g4⟩:=zl (ρ:=Bool) (n:=w.O.length) (c:=false) (body:=fun i s=>(S_qd_b2 w i s).den) (fun i=>(w.O.getD i dF).B.length<=60) (fun i hi h=>by
  simp only[S_qd_b2,Scr.den]
  rw[y5 (by simp only[y7]; omega)]) (fun i hi h=>by
  simp only[S_qd_b2,Scr.den]
  rw[y6 (by simp only[y7]; omega)])
 by_cases h1:∀ i,i<w.K.length->F_qb (w.K.getD i dF)=some true
 ·rw[g1 h1]
  simp only[zd]
  by_cases h2:∀ i,i<w.O.length->(w.O.getD i dF).B.length<=60
  ·rw[g3 h2]
   simp only[zd]
   obtain⟨b,e,hb⟩:=J13.SmallTreasury_spec w.I
   rw[e]
   refine⟨_,rfl,fun h=>?_⟩
   simp only[yg,y7] at h
   refine⟨hb h.1.1,⟨om,fun j hj=>?_⟩,om⟩
   obtain⟨i,hi,rfl⟩:=z11 hj
   exact (zet _ (h1 i hi)).shr
  ·rw[g4 h2]
   exact⟨_,rfl,fun h=>by cases h⟩
 ·rw[g2 h1]
  exact⟨_,rfl,fun h=>by cases h⟩
theorem zg4 (h:VW w) (hb:Bd 50 w) {s:TTape} (hs:TapeOk s):∃ v s',F_q3p w s=some (v,s')/\TapeOk s'/\ShW v:=by
 have hw:=h.sh
 have hl:=h.len
 have hm:=h.2.2.1
 simp only[F_q3p,S_q3p,Scr.den]
 rw[Ga,Ga]
 obtain⟨k,s1,e1,q1,k0,k1⟩:=z1c (n:=6) hs om om
 simp only[e1,obind]
 by_cases c:(k==0)=true
 ·rw[y6 c]
  obtain⟨o,s2,l,e2,q2,hbs⟩:=J13.Bent_spec h.1 q1
  simp only[e2,obind]
  have hlen:=hbs.1
  simp only at hlen
  rw[Ga,Ga,Ga]
  exact⟨_,_,rfl,q2,hbs,hw.2⟩
 rw[y5 c]
 by_cases c:(k==1)=true
 ·rw[y6 c]
  obtain⟨i,s2,e2,q2,i0,i1⟩:=z1c (n:=(w.K.length:Int)) q1 om om
  rw[e2]
  simp only[obind,yl]
  have hi:i.toNat<w.K.length:=om
  have hr:=hb.2 _ hi
  obtain⟨j,s3,e3,q3,hj⟩:=zdo (j:=w.K.getD i.toNat dF) ((h.2.2.2.1 _ hi).1.sr om) hr q2
  rw[e3]
  simp only[obind]
  rw[z6 ⟨i0,hi,hi,trivial⟩,z6 ⟨by rw[yh]; omega,trivial⟩,Ga]
  refine⟨_,_,rfl,q3,hw.1,⟨by show (w.K.set _ _).length<=_; rw[yh]; omega,fun x hx=>?_⟩,hw.2.2⟩
  rcases y20 hx with hx | rfl
  ·exact hw.2.1.2 x hx
  ·exact hj.shr
 rw[y5 c]
 by_cases c:(k==2)=true
 ·rw[y6 c]
  obtain⟨v1,s2,e2,q2,_⟩:=z1c (n:=3) q1 om om
  obtain⟨v2,s3,e3,q3,_⟩:=z1c (n:=3) q2 om om
  obtain⟨v3,s4,e4,q4,_⟩:=z15 (l:=[0,50,5000]) q3 dk dk
  obtain⟨v4,s5,e5,q5,_⟩:=z15 (l:=[0,0,30]) q4 dk dk
  simp only[e2,e3,e4,e5,obind]
  rw[Ga,Ga,z6 ⟨by rw[yp,y1t]; omega,trivial⟩]
  exact⟨_,_,rfl,q5,hw.1,hw.2.1,by show (w.O++[_]).length<=_; rw[yp,y1t]; omega⟩
 rw[y5 c]
 by_cases c:(k==3)=true
 ·rw[y6 c,Ga,Ga,Ga]
  exact⟨_,_,rfl,q1,hw.1,⟨by show (w.K.drop 1).length<=_; rw[y2t]; omega,fun x hx=>hw.2.1.2 x (y36 hx)⟩,hw.2.2⟩
 rw[y5 c]
 by_cases c:(k==4)=true
 ·rw[y6 c]
  by_cases hp:0<w.O.length
  ·rw[y6 (by simp only[y7]; omega)]
   obtain⟨v,s2,e2,q2,_⟩:=z15 (l:=[1,100]) q1 dk dk
   rw[e2]
   simp only[obind]
   rw[z6 ⟨hp,hp,trivial⟩]
   simp only[zd]
   rw[Ga,z6 ⟨by rw[yh]; omega,trivial⟩]
   exact⟨_,_,rfl,q2,hw.1,hw.2.1,by show (w.O.set _ _).length<=_; rw[yh]; omega⟩
  ·rw[y5 (by simp only[y7]; omega)]
   simp only[zd]
   rw[Ga,Ga]
   exact⟨_,_,rfl,q1,hw⟩
 rw[y5 c]
 by_cases hp:0<w.O.length
 ·rw[y6 (by simp only[y7]; omega)]
  obtain⟨v,s2,e2,q2,_⟩:=z15 (l:=[1,1000]) q1 dk dk
  rw[e2]
  simp only[obind]
  rw[z6 ⟨hp,hp,trivial⟩]
  simp only[zd]
  rw[Ga,z6 ⟨by rw[yh]; omega,trivial⟩]
  exact⟨_,_,rfl,q2,hw.1,hw.2.1,by show (w.O.set _ _).length<=_; rw[yh]; omega⟩
 ·rw[y5 (by simp only[y7]; omega)]
  simp only[zd]
  rw[Ga,Ga]
  exact⟨_,_,rfl,q1,hw⟩
theorem zhb {σ ρ τ:Type} {b1:Nat->σ->Option (Step σ ρ)} {b2:Nat->σ->Option (Step σ τ)} (I:Nat->σ->Prop) {n:Nat} (hb:∀ i s,i<n->I i s->∃ s',b1 i s=some (.cont s')/\b2 i s=some (.cont s')/\I (i+1) s') :
  ∀ (k t:Nat) (s:σ),t+k=n->I t s->∃ r,rangeM b1 k t s=some (.next r)/\rangeM b2 k t s=some (.next r)/\I n r
 | 0,t,s,e,h=>⟨s,rfl,rfl,by obtain rfl:t=n:=om; exact h⟩
 | k+1,t,s,e,h=>by
  obtain⟨s',e1,e2,h'⟩:=hb t s om h
  obtain⟨r,a1,a2,a3⟩:=zhb I hb k (t+1) s' om h'
  exact⟨r,by simp only[rangeM,e1,a1],by simp only[rangeM,e2,a2],a3⟩
theorem zns {t1:TTr} {out:List Int} {p1:TPo} {f:Bool} {m:List TMe} (ep:J13.potAt t1 c y=p1) (pk:J13.PotOk t1.P p1) (hn:t1.P<=6) (hi:i<p1.A.length) (hR:RI t1 c y out i t) (hV:VW ⟨t,v.K,v.O⟩) (ho:0<=nthN out i/\nthN out i<=J13.idleV p1 i) (hm:m.length<=i):∃ t' m',(S_qi_b1 c y (p1,f) out i (t,m)).den=some (.cont (t',m'))/\(S_q2b_b1 c y (p1,f) out i (t,m)).den=some (.cont (t',m'))/\RI t1 c y out (i+1) t'/\VW ⟨t',v.K,v.O⟩/\m'.length<=i+1:=by
 obtain⟨⟨a,b,d,e⟩,q1,q2,q3⟩:=J13.at18 pk hi
 have lp:=pk.2.2.2.1.1.1
 unfold J13.tot at a b d e
 simp only[S_qi_b1,S_q2b_b1,Scr.den]
 by_cases z:nthN out i=0
 ·have zt:(out.getD i dF==0)=true:=by rw[show out.getD i dF=0 from z]; rfl
  rw[y6 zt,y6 zt]
  exact⟨_,_,rfl,rfl,zuu hR z,hV,om⟩
 ·have zt:¬ (out.getD i dF==0)=true:=by simpa [nthN] using z
  rw[y5 zt,y5 zt]
  have hou:0<=nthN out i/\nthN out i<=max (p1.A.getD i dF-p1.G.getD i dF-p1.M.getD i dF) 0-max (min (max (p1.A.getD i dF-p1.G.getD i dF-p1.M.getD i dF) 0) (p1.F.getD i dF-p1.G.getD i dF)) 0:=ho
  obtain⟨t',ea,hR'⟩:=zw4 hR z om (G:=p1.A.getD i dF) (H:=p1.G.getD i dF) (A:=p1.F.getD i dF) (U:=p1.M.getD i dF) (by rw[ep]; rfl) (by rw[ep]; rfl) (by rw[ep]; rfl) ⟨a.1,a.2,b.1,d.1,e.1⟩ hou
  have ew:i64.wrap ((i:Int)+1)=(i:Int)+1:=wrapId om om
  have e2:i64.wrap (p1.G.getD i dF-p1.F.getD i dF)=p1.G.getD i dF-p1.F.getD i dF:=wrapId om om
  have e3:i64.wrap (out.getD i dF+max (p1.G.getD i dF-p1.F.getD i dF) 0)=nthN out i+max (p1.G.getD i dF-p1.F.getD i dF) 0:=wrapId (n:=nthN out i+max (p1.G.getD i dF-p1.F.getD i dF) 0) om om
  rw[ew,e2,J13.max18,J13.max18',e3,J13.Ask_eq (z3w hR.ok),J13.r13_Ask_eq (z3w hR.ok),ea]
  simp only[obind]
  have g1:AllP [i<p1.G.length,i<p1.F.length]:=⟨q1,q2,trivial⟩
  have g2:AllP [(m.length+1) * (2 * 72)<=2 ^ 48]:=⟨om,trivial⟩
  rw[z6 g1,z6 g1,y5 dk,J13.Tell_eq (z3w hR'.ok),zcu (z3w hR'.ok)]
  simp only[obind]
  rw[z6 g2]
  exact⟨_,_,rfl,rfl,hR',zw3 hV ea,sk⟩
theorem zlf (h:VW v) (hc:c.length<=1000000) (y total:Int) :
  ∃ t m e,F_qi v.I c y total=some (t,m,e)/\F_q2b v.I c y total=some (t,m,e)/\(e=0->VW ⟨t,v.K,v.O⟩):=by
 simp only[F_qi,S_qi,F_q2b,S_q2b,Scr.den]
 rw[J13.Set_eq (z3w h.1) hc,J13.r13_Set_eq (z3w h.1) hc]
 simp only[obind]
 by_cases h0:(J13.setM v.I c y total).2=0
 ·have hn0:¬ ((J13.setM v.I c y total).2 != 0)=true:=by simpa using h0
  rw[y5 hn0,y5 hn0]
  obtain⟨s1,s2,s3,_⟩:=zus h0
  have hV:=zw2 h h0
  generalize (J13.setM v.I c y total).1=t1 at *
  have pk:=s1.potAt s3
  have h2:=h.2.1
  have h1:=h.1.1
  have lp:=pk.2.2.2.1.1.1
  obtain⟨out,eo,er,hP⟩:=J13.Plan_both pk om
  have lo:out.length=(J13.potAt t1 c y).A.length:=by
   have:=hP.1
   rw[J13.idles_length] at this
   exact this
  obtain⟨s,e1,e2,hR,hV2,hm⟩:=zhb (b1:=fun i s=>(S_qi_b1 c y (J13.potAt t1 c y,true) out i s).den) (b2:=fun i s=>(S_q2b_b1 c y (J13.potAt t1 c y,true) out i s).den) (n:=out.length) (fun i s=>RI t1 c y out i s.1/\VW ⟨s.1,v.K,v.O⟩/\s.2.length<=i) (fun i s hi hI=>by
   obtain⟨i1,i2,i3⟩:=hI
   have hg:i<(J13.potAt t1 c y).A.length:=om
   have hb:=hP.2.1 i (by rw[J13.idles_length]; exact hg)
   rw[J13.idles_at hg] at hb
   obtain⟨t',m',k1,k2,k3,k4,k5⟩:=zns (v:=v) (f:=true) rfl pk om hg i1 i2 hb i3
   exact⟨(t',m'),k1,k2,k3,k4,k5⟩) out.length 0 (t1,([]:List TMe)) (yl _) ⟨zsl s1 s3 out,hV,ye _⟩
  rw[J13.Pot_eq s1.small,z1k,z1h s3]
  simp only[obind]
  rw[eo,er]
  simp only[obind]
  rw[e1,e2]
  simp only[zd]
  have g:AllP [s.2.length<2 ^ 63]:=⟨om,trivial⟩
  rw[z6 g]
  exact⟨_,_,_,rfl,rfl,fun _=>hV2⟩
 ·have hn0:((J13.setM v.I c y total).2 != 0)=true:=by simpa using h0
  rw[y6 hn0,y6 hn0]
  exact⟨_,_,_,rfl,rfl,fun k=>absurd k h0⟩
theorem zcz (hs:ShW w) (hc:c.length<=1000000) (y total:Int):∃ x,F_q57 w c y total=some x/\F_q5a w c y total=some x/\z6k x:=by
 obtain⟨x,e1,e2,hx⟩:=zha hs
 simp only[F_q57,S_q57,F_q5a,S_q5a,Scr.den,e1,e2,obind]
 rcases hx with ⟨h0,hv⟩ | ⟨h0,_⟩
 ·have hn0:¬ (x.2 != 0)=true:=by simpa using h0
  rw[y5 hn0,y5 hn0]
  obtain⟨t,m,e,r1,r2,hV⟩:=zlf hv hc y total
  rw[r1,r2]
  simp only[obind]
  by_cases h1:e=0
  ·subst h1
   rw[y5 dk,y5 dk]
   obtain⟨z,z1,z2,hz⟩:=zha (hV rfl).sh
   rw[z1,z2]
   exact⟨z,rfl,rfl,hz⟩
  ·have hn1:(e != 0)=true:=by simpa using h1
   rw[y6 hn1,y6 hn1]
   exact⟨_,rfl,rfl,z3y h1⟩
 ·have hn0:(x.2 != 0)=true:=by simpa using h0
  rw[y6 hn0,y6 hn0]
  exact⟨_,rfl,rfl,z3y h0⟩
theorem zqr (hs:ShW w) (c:Y8) (y:Int):∃ x,F_q6m w c y=some x/\F_q6n w c y=some x:=by
 simp only[F_q6m,S_q6m,F_q6n,S_q6n,Scr.den,z8,J13.Pot_eq hs.1.tsmall,z1k,z5z hs,z6l hs,obind]
 by_cases hp:J13.hasP w.I.E c y=true
 ·rw[z1h hp]
  rw[Gg]
  simp only[obind]
  by_cases h:VW w
  ·have hm:J13.potAt w.I c y∈w.I.E:=z7 (J13.pix_lt hp).1
   obtain⟨_,f2,_,_⟩:=zbj h hm
   obtain⟨z,z1,z2⟩:=zqp hs c y
   rw[@decide_eq_true _ (_) h,y5 dk,y5 dk,z1,z2]
   simp only[obind]
   rw[f2.2.2.1,f2.2.2.2]
   simp only[obind]
   rw[J13.max18,J13.max18']
   exact⟨_,rfl,rfl⟩
  ·rw[@decide_eq_false _ (_) h,y6 dk,y6 dk]
   exact⟨_,rfl,rfl⟩
 ·rw[z4m hp,Gh]
  simp only[obind]
  rw[y6 sj,y6 sj]
  exact⟨_,rfl,rfl⟩
theorem zsp {q:α->Prop} {a b c d:α} (h0:q a) (h1:q b) (h2:q c) (hi:i<3):q (([a,b,c]:List α).getD i d):=by
 have:i=0\/i=1\/i=2:=om
 rcases this with rfl | rfl | rfl
 ·exact h0
 ·exact h1
 ·exact h2
theorem zqs (h:zjy w):F_qg w w=some true:=by
 rw[zlc (by have:=h.1.1; omega) h.2.1 h.2.2.1 h.2.2.2,@decide_eq_true _ (_) rfl]
variable {raw:TWo} {code:Y8} {r1:R_q1a} {r2:R_q3p}
theorem zw7 {j:Nat} (hw:ShW (([r1.1,r2.1,raw]:List TWo).getD i dF)):(S_qr_b1 raw code r1 r2 i j ()).den=some (.cont ()):=by
 obtain⟨x,e1,e2⟩:=zqr hw (([code,[49]]:List Y8).getD j dF) 12
 simp only[S_qr_b1,Scr.den,e1,e2,obind,z8]
 rw[y5 sj]
theorem zw8 {year total:Int} (hw:ShW (([r1.1,r2.1,raw]:List TWo).getD i dF)) (hc:code.length<=60):(S_qr_b2 raw code year total r1 r2 i ()).den=some (.cont ()):=by
 obtain⟨x,e1,e2,hx⟩:=zcz hw (c:=code) om year total
 obtain⟨y,d1,d2,hy⟩:=zcz hw (c:=[49]) dk 12 40
 simp only[S_qr_b2,Scr.den]
 obtain⟨g,_⟩:=zl (body:=fun j s=>(S_qr_b1 raw code r1 r2 i j s).den) (n:=2) (c:=false) (fun _=>True) (fun j hj _=>zw7 hw) (fun j hj h=>absurd trivial h)
 rw[g fun _ _=>trivial]
 simp only[zd,e1,e2,d1,d2,obind,z8]
 rw[Gg,zqs hx.fr]
 simp only[obind]
 rw[Gg,zqs hy.fr]
 simp only[obind]
 rw[y5 sj]
theorem za8 (t:List Int) (raw:TWo) (code:Y8) (year total:Int):F_qr t raw code year total=some true:=by
 obtain⟨b1,e1,h1⟩:=zew raw
 simp only[F_qr,S_qr,Scr.den,e1,J13.awake18,obind,z8]
 by_cases hc:¬ (b1=true/\code.length<=60)
 ·rw[y6 (by
   cases b1 with
   | false=>simp
   | true =>
    have:¬ code.length<=60:=fun k=>hc ⟨rfl,k⟩
    simp only[yc,y7]
    exact .inr om)]
 obtain⟨rfl,h60⟩:=y2m.1 hc
 rw[y5 sk]
 have hraw:=h1 rfl
 obtain⟨s0,e2,q2⟩:=zrt t
 obtain⟨w,s1,e3,q3,hv,hj,hB⟩:=zsi (n:=2) (m:=14) om om q2
 rw[e2]
 simp only[obind]
 rw[e3]
 simp only[obind]
 obtain⟨v,s2,e4,q4,hsv⟩:=zg4 hv (hB.mono dk) q3
 rw[e4]
 simp only[obind]
 obtain⟨g,_⟩:=zl (body:=fun i s=>(S_qr_b2 raw code year total (w,s1) (v,s2) i s).den) (n:=3) (c:=false) (fun _=>True) (fun i hi _=>zw8 (zsp hv.sh hsv hraw hi) h60) (fun i hi h=>absurd trivial h)
 rw[g fun _ _=>trivial]
 rfl
end Go.Proofs.YtgbpiaddmclccaaGreatDoor
