/- A part of the proof: plain laws of what the functions compute. No condition. -/
import Derived.Test.YtlhikmklpelceaaGreatDoorP4
namespace Go.Proofs.YtlhikmklpelceaaGreatDoor
open Go Go.TA
open Go.IntKind (i64)
def Tld (t:TTr) (o:TOf) (k:Nat) (c:Y8) (y:Int):Prop:=hasR o.J c y=true/\(rightV o.J c y).A=nthN (J13.potAt t c y).A k/\(rightV o.J c y).K=nthN (J13.potAt t c y).K k/\askW o c y=0
variable {k:Nat} {c:Y8} {y:Int} {t:TTr}
theorem zos {o:TOf} (hv:VO o) {p:TOp} (h0:(doS o p).2=0) (hb:(doS o p).1.Ae=o.Ae) (hne:¬ (p.D=c/\p.E=y)) (h:Tld t o k c y):Tld t (doS o p).1 k c y/\(rightV (doS o p).1.J c y).M=(rightV o.J c y).M:=by
 obtain⟨h1,h2,h3,h4⟩:=h
 obtain⟨d1,d2,d3,d4,_⟩:=(z42 h0).2 c y
 rw[y5 (fun g=>hne g.2)] at d2 d3 d4
 have hr:=d1.2 (.inl h1)
 refine⟨⟨hr,d2.trans h2,d3.trans h3,?_⟩,d4⟩
 rw[(z5q (zbw h0) hr).2.2,d2,d3,d4,hb,<- (z5q hv h1).2.2]
 exact h4
variable {w:TWo} {i:Nat}
theorem zsu {w0:TWo} (h:VW w) (hm:w.V=[]) (hk:k<w.H.length) (hrec:(jAt w k).Ab.length<390) (hR:hasR (noW w k).J c y=true\/((noW w k).J.length:Int)≠60) (hp:J13.hasP w.F.B c y=true) (ec:(w0.F.B.getD i dF).D=c) (ey:(w0.F.B.getD i dF).E=y) :
  ∃ j,(S_qh_b1 ((k:Int)+1) ⟨w0⟩ i ⟨w⟩).den=some (.cont ⟨⟨w.F,w.H.set k j,[]⟩⟩)/\VW ⟨w.F,w.H.set k j,[]⟩/\stbJ j=stW w k/\j.Ab.length<=(jAt w k).Ab.length+2/\(nowJ j).Ae=(noW w k).Ae/\Tld w.F (nowJ j) k c y/\∀ c' y',Tld w.F (noW w k) k c' y'->Tld w.F (nowJ j) k c' y'/\(rightV (nowJ j).J c' y').M=(rightV (noW w k).J c' y').M:=by
 have hl:=h.len
 have h2:=h.2.1
 obtain⟨q1,q2,q3⟩:=h.2.2.2.1 k hk
 have hv:VO (noW w k):=q1.now
 obtain⟨g1,g2,g3⟩:=zki h hk om hR hp
 have hcy:=J13.potAt_cy hp
 have hpk:=h.1.potAt hp
 have hg:good c=true:=by have:=hpk.1; rwa [hcy.1] at this
 have hy:0<=y/\y<=99:=by have:=hpk.2.1; rwa [hcy.2] at this
 have hc:=z2m hg
 have ex:=zss h hm hk om hR hp
 have hx:=zoq h ⟨4,(k:Int)+1,z5p,c,y,0,0⟩
 rw[ex] at hx
 obtain⟨v1,_⟩:=hx
 obtain⟨m,em⟩:∃ m,m=hearOp (z1c w.F k c y):=⟨_,rfl⟩
 rw[<- em] at g1 g2 g3 ex v1
 obtain⟨j1,e1⟩:∃ j1:TJo,j1=⟨(jAt w k).Y,(jAt w k).Ab++[m],(jAt w k).Ag⟩:=⟨_,rfl⟩
 rw[<- e1] at ex v1
 have hk1:k<(w.H.set k j1).length:=by rw[ya]; exact hk
 have ej:jAt ⟨w.F,w.H.set k j1,[]⟩ k=j1:=by
  show (w.H.set k j1).getD k dF=j1
  rw[z3l hk,y6 rfl]
 have n1:nowJ j1=(doS (noW w k) m).1:=by rw[e1,z5l]; rfl
 obtain⟨r1,r2,r3⟩:=v1.2.2.2.1 k hk1
 have r3:KnownJ w.F (nowJ (jAt ⟨w.F,w.H.set k j1,[]⟩ k)) _ k:=r3
 rw[ej] at r1 r2 r3
 have hv1:VO (nowJ j1):=r1.now
 have hb1:(nowJ j1).Ae=(noW w k).Ae:=by rw[n1]; exact zkf (by rw[em]; rfl) g2
 obtain⟨d1,d2,d3,d4,_⟩:=(z42 g2).2 c y
 have k8:m.Q=8/\m.D=c/\m.E=y:=by rw[em]; exact⟨rfl,rfl,rfl⟩
 rw[y6 k8] at d2 d3
 rw[y5 (fun g=>absurd (k8.1.symm.trans g.1) dk)] at d4
 rw[<- n1] at d1 d2 d3 d4
 have hr1:=d1.2 (.inr k8)
 obtain⟨_,u1,u2⟩:=z2d r1.now r3 hr1
 have mG:m.A=nthN (J13.potAt w.F c y).A k:=by rw[em]; rfl
 have mA:m.Af=nthN (J13.potAt w.F c y).K k:=by rw[em]; rfl
 have G1:(rightV (nowJ j1).J c y).A=nthN (J13.potAt w.F c y).A k:=Int.le_antisymm u1 (by rw[d2,<- mG]; exact Int.le_max_right _ _)
 have A1:(rightV (nowJ j1).J c y).K=nthN (J13.potAt w.F c y).K k:=Int.le_antisymm u2 (by rw[d3,<- mA]; exact Int.le_max_right _ _)
 have ew:i64.wrap (((k:Int)+1)-1)=(k:Int):=by rw[wrapId om om]; omega
 have s1:stbJ j1=stW w k:=by rw[e1,z6v q1]; rfl
 have old1:∀ c' y',¬ (c=c'/\y=y')->Tld w.F (noW w k) k c' y'->Tld w.F (nowJ j1) k c' y'/\(rightV (nowJ j1).J c' y').M=(rightV (noW w k).J c' y').M:=fun c' y' hne ht=>by
  rw[n1]
  exact zos hv g2 (by rw[<- n1]; exact hb1) (by rw[k8.2.1,k8.2.2]; exact hne) ht
 simp only[S_qh_b1,Scr.den]
 rw[ec,ey,show (⟨0,[],0,0,0,0,0,0,0,0⟩:TOp)=z5p from rfl,zr0 h ⟨by show c.length<=_; omega,y17 _⟩,ex]
 simp only[obind,ew,ye]
 rw[show (w.H.set k j1).getD k dF=j1 from ej,z6u r1]
 simp only[obind]
 rw[za ⟨om,hk1,trivial⟩,znw hv1.smO om,zop hv1]
 simp only[obind]
 by_cases c0:askW (nowJ j1) c y=0
 ·rw[y6 c0,y5 dk]
  refine⟨j1,rfl,v1,s1,?_,hb1,⟨hr1,G1,A1,c0⟩,fun c' y' ht=>?_⟩
  ·rw[e1]; show ((jAt w k).Ab++[m]).length<=_; simp
  ·by_cases e:c=c'/\y=y'
   ·obtain⟨rfl,rfl⟩:=e
    exact⟨⟨hr1,G1,A1,c0⟩,d4⟩
   ·exact old1 c' y' e ht
 ·rw[y5 c0,y6 rfl]
  obtain⟨x1,x2,x3⟩:=zst hv1 hr1 c0
  obtain⟨b1,b2,_⟩:=z5q hv1 hr1
  have hbd:=z2i hv1.ok c y
  have hus:=z1g hv1.val c y
  rw[hv1.unused] at b2
  have hpop:=zql hg hy (n:=askW (nowJ j1) c y) ⟨b1,om⟩
  have hst:=zu6 (w:=⟨w.F,w.H.set k j1,[]⟩) hk1 (p:=giveOp c y (askW (nowJ j1) c y)) (by show ¬ (7:Int)=8; decide) hpop (by show (doS (nowJ (jAt _ k)) _).2=0; rw[ej]; exact x1) (by rw[ej,e1]; show ((jAt w k).Ab++[m]).length≠400; rw[yu]; simp; omega)
  rw[ej] at hst
  obtain⟨j2,e2⟩:∃ j2:TJo,j2=⟨j1.Y,j1.Ab++[giveOp c y (askW (nowJ j1) c y)],j1.Ag⟩:=⟨_,rfl⟩
  rw[<- e2] at hst
  have hst:stepW ⟨w.F,w.H.set k j1,[]⟩ ⟨5,(k:Int)+1,giveOp c y (askW (nowJ j1) c y),[],0,0,0⟩=(⟨w.F,w.H.set k j2,[]⟩,0):=by
   rw[hst]
   show ((⟨w.F,(w.H.set k j1).set k j2,[]⟩:TWo),(0:Int))=_
   rw[List.set_set]
  rw[z94 v1 ⟨y17 _,by show c.length<=_; omega⟩,z4o (by rw[hst]),hst]
  have v2:=zke v1 hst
  have n2:nowJ j2=(doS (nowJ j1) (giveOp c y (askW (nowJ j1) c y))).1:=by rw[e2,z5l]
  obtain⟨y1,y2,y3,_,_⟩:=(z42 x1).2 c y
  rw[y5 (fun g=>absurd g.1 (show ¬ (7:Int)=8 from dk))] at y2 y3
  have T2:Tld w.F (nowJ j2) k c y:=by
   rw[n2]
   exact⟨y1.2 (.inl hr1),y2.trans G1,y3.trans A1,x3⟩
  refine⟨j2,rfl,v2,?_,?_,?_,T2,fun c' y' ht=>?_⟩
  ·rw[e2,z6v r1]; exact s1
  ·rw[e2,e1]; show ((jAt w k).Ab++[m]++[_]).length<=_; simp
  ·rw[n2]; exact x2.trans hb1
  ·by_cases e:c=c'/\y=y'
   ·obtain⟨rfl,rfl⟩:=e
    refine absurd ?_ c0
    rw[(z5q hv1 hr1).2.2,G1,A1,d4,hb1,<- ht.2.1,<- ht.2.2.1,<- (z5q hv ht.1).2.2]
    exact ht.2.2.2
   ·rw[n2]
    obtain⟨t1,t2⟩:=zos hv1 x1 x2 e (old1 c' y' e ht).1
    exact⟨t1,t2.trans (old1 c' y' e ht).2⟩
def Rep (t:TTr) (o:TOf) (k:Nat) (c:Y8) (y:Int):Prop:=nthN (J13.potAt t c y).L k=(rightV o.J c y).M/\nthN (J13.potAt t c y).P k=usedV o.Ae c y
def TS (k:Nat) (t t':TTr):Prop:=(t'.N=t.N/\t'.B.length=t.B.length/\∀ i,(t'.B.getD i dF).D=(t.B.getD i dF).D/\(t'.B.getD i dF).E=(t.B.getD i dF).E)/\∀ c y,J13.hasP t'.B c y=J13.hasP t.B c y/\(J13.hasP t.B c y=true->(J13.potAt t' c y).A=(J13.potAt t c y).A/\(J13.potAt t' c y).K=(J13.potAt t c y).K/\(J13.potAt t' c y).W=(J13.potAt t c y).W/\∀ i,i≠k->nthN (J13.potAt t' c y).L i=nthN (J13.potAt t c y).L i/\nthN (J13.potAt t' c y).P i=nthN (J13.potAt t c y).P i)
theorem z95 {l:List Int} {x:Int}:nthN (J13.upd l ((k:Int)+1) x) i=if i=k/\k<l.length then x else nthN l i:=by
 have ek:(((k:Int)+1)-1).toNat=k:=om
 unfold nthN J13.upd
 rw[ek]
 by_cases hi:i<l.length
 ·rw[J13.getD_set_int hi]
  by_cases e:i=k
  ·rw[y6 e,y6 ⟨e,om⟩]
  ·rw[y5 e,y5 fun g=>e g.1]
 ·rw[z5a (l:=l.set k x) (by rw[ya]; omega),y5 om,z5a om]
variable {v:TWo}
theorem zsv (h:VW w) (hm:w.V=[]) (hk:k<w.H.length) (hc:c.length<=1000000) (hR:hasR (stW w k).J c y=true) {e:Int} (ec:(v.F.B.getD i dF).D=c) (ey:(v.F.B.getD i dF).E=y) :
  ∃ t,(S_qh_b2 ((k:Int)+1) (e,⟨v⟩) i ⟨w⟩).den=some (.cont ⟨⟨t,w.H,[]⟩⟩)/\VW ⟨t,w.H,[]⟩/\TS k w.F t/\Rep t (stW w k) k c y/\∀ c' y',J13.hasP w.F.B c' y'=true->Rep w.F (stW w k) k c' y'->Rep t (stW w k) k c' y':=by
 have h2:=h.2.1
 obtain⟨q1,q2,q3⟩:=h.2.2.2.1 k hk
 have hle:=z8x q1 c y
 have hp:J13.hasP w.F.B c y=true:=(z2d q1.now q3 (hle.1 hR)).1
 have hcy:=J13.potAt_cy hp
 have hpk:=h.1.potAt hp
 have ex:=zon h hm hk hR
 have hx:=zoq h ⟨8,(k:Int)+1,z5p,c,y,0,0⟩
 rw[ex] at hx
 obtain⟨p,ep⟩:∃ p,p=J13.withH (J13.potAt w.F c y) (J13.upd (J13.potAt w.F c y).L ((k:Int)+1) (rightV (stW w k).J c y).M) (J13.upd (J13.potAt w.F c y).P ((k:Int)+1) (usedV (stW w k).Ae c y)):=⟨_,rfl⟩
 rw[<- ep] at hx ex
 obtain⟨u1,u2⟩:=z5b hp (p:=p) (by rw[ep]; exact hcy.1) (by rw[ep]; exact hcy.2) hx.1.1
 have lH:k<(J13.potAt w.F c y).L.length:=by have:=hpk.2.2.2.1.2.1.1; omega
 have lU:k<(J13.potAt w.F c y).P.length:=by have:=hpk.2.2.2.1.2.2.2.1; omega
 have R:Rep (J13.putP w.F c y p) (stW w k) k c y:=by
  unfold Rep
  rw[u1,ep]
  show nthN (J13.upd _ _ _) k=_/\nthN (J13.upd _ _ _) k=_
  rw[z95,z95,y6 ⟨rfl,lH⟩,y6 ⟨rfl,lU⟩]
  exact⟨rfl,rfl⟩
 refine⟨J13.putP w.F c y p,?_,hx.1,⟨⟨rfl,ya,fun q=>?_⟩,fun c' y'=>⟨(u2 c' y').1,fun hp'=>?_⟩⟩,R,fun c' y' hp' hr=>?_⟩
 ·simp only[S_qh_b2,Scr.den]
  rw[ec,ey,show (⟨0,[],0,0,0,0,0,0,0,0⟩:TOp)=z5p from rfl,zr0 h ⟨hc,y17 _⟩,ex]
  rfl
 ·obtain⟨k1,k2,k3⟩:=J13.pix_lt hp
  show ((w.F.B.set (J13.pix w.F.B c y) p).getD q dF).D=_/\((w.F.B.set (J13.pix w.F.B c y) p).getD q dF).E=_
  simp only[y8,y4d]
  by_cases z:J13.pix w.F.B c y=q
  ·subst z
   rw[y6 rfl,y6 k1,<- y8,k2,k3,ep]
   exact⟨hcy.1,hcy.2⟩
  ·rw[y5 z]; exact⟨rfl,rfl⟩
 ·by_cases q:c'=c/\y'=y
  ·obtain⟨rfl,rfl⟩:=q
   rw[u1,ep]
   refine⟨rfl,rfl,rfl,fun i hi=>?_⟩
   show nthN (J13.upd _ _ _) i=_/\nthN (J13.upd _ _ _) i=_
   rw[z95,z95,y5 fun g=>hi g.1,y5 fun g=>hi g.1]
   exact⟨rfl,rfl⟩
  ·rw[(u2 c' y').2 hp' q]
   exact⟨rfl,rfl,rfl,fun _ _=>⟨rfl,rfl⟩⟩
 ·by_cases q:c'=c/\y'=y
  ·obtain⟨rfl,rfl⟩:=q
   exact R
  ·unfold Rep
   rw[(u2 c' y').2 hp' q]
   exact hr
theorem TS.refl (k:Nat) (t:TTr):TS k t t:=⟨⟨rfl,rfl,fun _=>⟨rfl,rfl⟩⟩,fun _ _=>⟨rfl,fun _=>⟨rfl,rfl,rfl,fun _ _=>⟨rfl,rfl⟩⟩⟩⟩
theorem TS.trans {a b c:TTr} (h:TS k a b) (h':TS k b c):TS k a c:=⟨⟨h'.1.1.trans h.1.1,h'.1.2.1.trans h.1.2.1,fun i=>⟨(h'.1.2.2 i).1.trans (h.1.2.2 i).1,(h'.1.2.2 i).2.trans (h.1.2.2 i).2⟩⟩,fun d y=>by
 obtain⟨g1,g2⟩:=h.2 d y
 obtain⟨g3,g4⟩:=h'.2 d y
 refine⟨g3.trans g1,fun hp=>?_⟩
 obtain⟨a1,a2,a3,a4⟩:=g2 hp
 obtain⟨b1,b2,b3,b4⟩:=g4 (g1.trans hp)
 exact⟨b1.trans a1,b2.trans a2,b3.trans a3,fun i hi=>⟨(b4 i hi).1.trans (a4 i hi).1,(b4 i hi).2.trans (a4 i hi).2⟩⟩⟩
theorem zot (h:VW w) (hm:w.V=[]) (hk:k<w.H.length) (hpots:w.F.B.length<60) (hrec:(jAt w k).Ab.length+2 * w.F.B.length<390) :
  ∃ t j,F_qh ((k:Int)+1) ⟨w⟩=some ⟨⟨t,w.H.set k j,[]⟩⟩/\VW ⟨t,w.H.set k j,[]⟩/\TS k w.F t/\stbJ j=nowJ j/\j.Ab.length<=(jAt w k).Ab.length+2 * w.F.B.length/\(nowJ j).Ae=(noW w k).Ae /\
   (∀ c y,J13.hasP w.F.B c y=true->Tld w.F (nowJ j) k c y/\Rep t (nowJ j) k c y)/\∀ c y,Tld w.F (noW w k) k c y->(rightV (nowJ j).J c y).M=(rightV (noW w k).J c y).M:=by
 have hpl:=h.1.2.1
 simp only[F_qh,S_qh,Scr.den]
 obtain⟨s,e,hs⟩:=zm (body:=fun i s=>(S_qh_b1 ((k:Int)+1) ⟨w⟩ i s).den) (n:=w.F.B.length) (fun i s=>∃ j,s=(⟨⟨w.F,w.H.set k j,[]⟩⟩:TCa)/\VW ⟨w.F,w.H.set k j,[]⟩/\j.Ab.length<=(jAt w k).Ab.length+2 * i/\(nowJ j).Ae=(noW w k).Ae /\
   (∀ q,q<i->Tld w.F (nowJ j) k (w.F.B.getD q dF).D (w.F.B.getD q dF).E)/\∀ c y,Tld w.F (noW w k) k c y->Tld w.F (nowJ j) k c y/\(rightV (nowJ j).J c y).M=(rightV (noW w k).J c y).M) (s0:=(⟨w⟩:TCa)) ⟨jAt w k,by
    have:w.H.set k (jAt w k)=w.H:=z5u hk
    rw[this,<- hm],by
    have:w.H.set k (jAt w k)=w.H:=z5u hk
    rw[this,<- hm]; exact h,om,rfl,fun q hq=>absurd hq (y2i _),fun _ _ ht=>⟨ht,rfl⟩⟩ (fun i s hi hI=>by
  obtain⟨j,rfl,i1,i2,i3,i4,i5⟩:=hI
  have hk1:k<(⟨w.F,w.H.set k j,[]⟩:TWo).H.length:=by show k<(w.H.set k j).length; rw[ya]; exact hk
  have ej:jAt ⟨w.F,w.H.set k j,[]⟩ k=j:=by
   show (w.H.set k j).getD k dF=j
   rw[z3l hk,y6 rfl]
  have en:noW ⟨w.F,w.H.set k j,[]⟩ k=nowJ j:=by unfold noW; rw[ej]
  have hrp:=zjf i1 hk1
  have hrp:(noW ⟨w.F,w.H.set k j,[]⟩ k).J.length<=w.F.B.length:=hrp
  obtain⟨p1,p2⟩:=z45 h.1 (zb hi)
  obtain⟨j',z1,z2,z3,z4,z5,z6,z7⟩:=zsu (w0:=w) i1 rfl hk1 (by rw[ej]; omega) (.inr om) p1 (i:=i) rfl rfl
  rw[ej] at z4
  rw[en] at z5 z7
  have es:(⟨w.F,(w.H.set k j).set k j',[]⟩:TWo)=⟨w.F,w.H.set k j',[]⟩:=by rw[List.set_set]
  refine⟨_,z1,j',yi TCa.mk es,?_,om,z5.trans i3,fun q hq=>?_,fun c y ht=>?_⟩
  ·rw[<- es]; exact z2
  ·by_cases c:q=i
   ·subst c; exact z6
   ·exact (z7 _ _ (i4 q om)).1
  ·obtain⟨a1,a2⟩:=i5 c y ht
   obtain⟨a3,a4⟩:=z7 c y a1
   exact⟨a3,a4.trans a2⟩)
 obtain⟨j,rfl,i1,i2,i3,i4,i5⟩:=hs
 rw[e]
 simp only[zo]
 have hk1:k<(⟨w.F,w.H.set k j,[]⟩:TWo).H.length:=by show k<(w.H.set k j).length; rw[ya]; exact hk
 have ej:jAt ⟨w.F,w.H.set k j,[]⟩ k=j:=by
  show (w.H.set k j).getD k dF=j
  rw[z3l hk,y6 rfl]
 have e6:=zor hk1 (p:=⟨0,[],0,0,0,0,0,0,0,0⟩)
 rw[ej] at e6
 have e6:stepW ⟨w.F,w.H.set k j,[]⟩ ⟨6,(k:Int)+1,⟨0,[],0,0,0,0,0,0,0,0⟩,[],0,0,0⟩=(⟨w.F,w.H.set k (flushJ j),[]⟩,0):=by
  rw[e6]
  show ((⟨w.F,(w.H.set k j).set k (flushJ j),[]⟩:TWo),(0:Int))=_
  rw[List.set_set]
 rw[z94 i1 ⟨y17 _,y17 _⟩,z4o (by rw[e6]),e6]
 simp only[obind]
 have v2:=zke i1 e6
 have all:∀ c y,J13.hasP w.F.B c y=true->Tld w.F (nowJ j) k c y:=fun c y hp=>by
  obtain⟨x1,x2,x3⟩:=J13.pix_lt hp
  have:=i4 _ x1
  rwa [x2,x3] at this
 have hf:∀ t,VW ⟨t,w.H.set k (flushJ j),[]⟩->k<(⟨t,w.H.set k (flushJ j),[]⟩:TWo).H.length/\stW ⟨t,w.H.set k (flushJ j),[]⟩ k=nowJ j:=fun t _=>⟨by show k<(w.H.set k (flushJ j)).length; rw[ya]; exact hk,by
  show stbJ ((w.H.set k (flushJ j)).getD k dF)=nowJ j
  rw[z3l hk,y6 rfl,z86]⟩
 obtain⟨s,e,hs⟩:=zm (body:=fun i s=>(S_qh_b2 ((k:Int)+1) (0,⟨⟨w.F,w.H.set k (flushJ j),[]⟩⟩) i s).den) (n:=w.F.B.length) (fun i s=>∃ t,s=(⟨⟨t,w.H.set k (flushJ j),[]⟩⟩:TCa)/\VW ⟨t,w.H.set k (flushJ j),[]⟩/\TS k w.F t /\
   ∀ q,q<i->Rep t (nowJ j) k (w.F.B.getD q dF).D (w.F.B.getD q dF).E) (s0:=(⟨⟨w.F,w.H.set k (flushJ j),[]⟩⟩:TCa)) ⟨w.F,rfl,v2,TS.refl _ _,fun q hq=>absurd hq (y2i _)⟩ (fun i s hi hI=>by
  obtain⟨t,rfl,o1,o2,o3⟩:=hI
  obtain⟨f1,f2⟩:=hf t o1
  obtain⟨p1,p2⟩:=z45 h.1 (zb hi)
  have hgd:=z2m (h.1.good _ (zb hi)).1
  obtain⟨t',z1,z2,z3,z4,z5⟩:=zsv (v:=⟨w.F,w.H.set k (flushJ j),[]⟩) (e:=0) o1 rfl f1 (c:=(w.F.B.getD i dF).D) (y:=(w.F.B.getD i dF).E) om (by rw[f2]; exact (all _ _ p1).1) (i:=i) rfl rfl
  rw[f2] at z4 z5
  refine⟨_,z1,t',rfl,z2,o2.trans z3,fun q hq=>?_⟩
  by_cases c:q=i
  ·subst c; exact z4
  ·have hq2:q<w.F.B.length:=om
   exact z5 _ _ ((o2.2 _ _).1.trans (z45 h.1 (zb hq2)).1) (o3 q om))
 obtain⟨t,rfl,o1,o2,o3⟩:=hs
 rw[e]
 refine⟨t,flushJ j,rfl,o1,o2,by rw[z86,z41],?_,?_,fun c y hp=>⟨?_,?_⟩,fun c y ht=>?_⟩
 ·show j.Ab.length<=_
  omega
 ·rw[z41]; exact i3
 ·rw[z41]; exact all c y hp
 ·rw[z41]
  obtain⟨x1,x2,x3⟩:=J13.pix_lt hp
  have:=o3 _ x1
  rwa [x2,x3] at this
 ·rw[z41]; exact (i5 c y ht).2
theorem zsw {q:Nat} {j:TJo} (hq:q<v.H.length):jAt ⟨t,v.H.set k j,[]⟩ q=if q=k then j else jAt v q:=z3l hq
structure CI (w0 v:TWo) (i:Nat):Prop where
 vw:VW v
 mail:v.V=[]
 same:SameB w0 v
 pots:SameP w0 v
 len:v.F.N=w0.F.N/\v.F.B.length=w0.F.B.length/\∀ q,(v.F.B.getD q dF).D=(w0.F.B.getD q dF).D/\(v.F.B.getD q dF).E=(w0.F.B.getD q dF).E
 recs:∀ q,i<=q->q<w0.H.length->jAt v q=jAt w0 q
 keep:∀ c y,J13.hasP v.F.B c y=J13.hasP w0.F.B c y/\(J13.hasP w0.F.B c y=true->(J13.potAt v.F c y).A=(J13.potAt w0.F c y).A/\(J13.potAt v.F c y).K=(J13.potAt w0.F c y).K/\(J13.potAt v.F c y).W=(J13.potAt w0.F c y).W /\
  ∀ q,i<=q->nthN (J13.potAt v.F c y).L q=nthN (J13.potAt w0.F c y).L q/\nthN (J13.potAt v.F c y).P q=nthN (J13.potAt w0.F c y).P q)
 done:∀ q,q<i->stW v q=noW v q/\(∀ c y,J13.hasP v.F.B c y=true->Tld v.F (noW v q) q c y/\Rep v.F (noW v q) q c y)/\(∀ c y,Tld w0.F (noW w0 q) q c y->(rightV (noW v q).J c y).M=(rightV (noW w0 q).J c y).M)/\(jAt v q).Ab.length<=(jAt w0 q).Ab.length+2 * w0.F.B.length
theorem zou (h:VW w) (hm:w.V=[]) (hpots:w.F.B.length<60) (hrec:∀ k,k<w.H.length->(jAt w k).Ab.length+2 * w.F.B.length<390) :
  ∃ v,rangeM (fun i s=>(S_qc_b2 i s).den) w.H.length 0 (⟨w⟩:TCa)=some (.next ⟨v⟩)/\CI w v w.H.length:=by
 have hlen:=h.len
 obtain⟨s,e,v,rfl,hs⟩:=zm (body:=fun i s=>(S_qc_b2 i s).den) (n:=w.H.length) (fun i s=>∃ v,s=(⟨v⟩:TCa)/\CI w v i) (s0:=(⟨w⟩:TCa))
  ⟨w,rfl,h,hm,SameB.refl _,fun _ _ hp=>hp,⟨rfl,rfl,fun _=>⟨rfl,rfl⟩⟩,fun _ _ _=>rfl,fun _ _=>⟨rfl,fun _=>⟨rfl,rfl,rfl,fun _ _=>⟨rfl,rfl⟩⟩⟩,fun q hq=>absurd hq (y2i _)⟩ (fun i s hi hI=>by
  obtain⟨v,rfl,c1,c2,c3,c4,c5,c6,c7,c8⟩:=hI
  have hi2:i<v.H.length:=by rw[c3.1]; exact hi
  have hj:=c6 i (yf _) hi
  obtain⟨t,j,z1,z2,z3,z4,z5,z6,z7,z8⟩:=zot c1 c2 hi2 (by rw[c5.2.1]; exact hpots) (by rw[hj,c5.2.1]; exact hrec i hi)
  have ew:i64.wrap ((i:Int)+1)=(i:Int)+1:=wrapId om om
  have hjq:∀ q,q<w.H.length->jAt ⟨t,v.H.set i j,[]⟩ q=if q=i then j else jAt v q:=fun q hq=>zsw (by rw[c3.1]; exact hq)
  have hn:∀ q,q<w.H.length->noW ⟨t,v.H.set i j,[]⟩ q=if q=i then nowJ j else noW v q:=fun q hq=>by
   unfold noW
   rw[hjq q hq]
   split <;> rfl
  have hst:∀ q,q<w.H.length->stW ⟨t,v.H.set i j,[]⟩ q=if q=i then stbJ j else stW v q:=fun q hq=>by
   unfold stW
   rw[hjq q hq]
   split <;> rfl
  have hni:noW v i=noW w i:=by unfold noW; rw[hj]
  refine⟨⟨⟨t,v.H.set i j,[]⟩⟩,?_,_,rfl,z2,rfl,⟨?_,fun q hq=>?_⟩,fun c y hp=>?_,⟨z3.1.1.trans c5.1,z3.1.2.1.trans c5.2.1,fun q=>⟨(z3.1.2.2 q).1.trans (c5.2.2 q).1,(z3.1.2.2 q).2.trans (c5.2.2 q).2⟩⟩,fun q hq1 hq2=>?_,fun c y=>⟨(z3.2 c y).1.trans (c7 c y).1,fun hp=>?_⟩,fun q hq=>?_⟩
  ·simp only[S_qc_b2,Scr.den,ew,z1,obind]
  ·show (v.H.set i j).length=_
   rw[ya]; exact c3.1
  ·rw[hn q hq]
   by_cases z:q=i
   ·subst z
    rw[y6 rfl]
    exact z6.trans (c3.2 q hq)
   ·rw[y5 z]; exact c3.2 q hq
  ·exact (z3.2 c y).1.trans (c4 c y hp)
  ·rw[hjq q hq2,y5 om]
   exact c6 q om hq2
  ·have hp':=(c7 c y).1.trans hp
   obtain⟨a1,a2,a3,a4⟩:=(c7 c y).2 hp
   obtain⟨b1,b2,b3,b4⟩:=(z3.2 c y).2 hp'
   exact⟨b1.trans a1,b2.trans a2,b3.trans a3,fun q hq=>⟨(b4 q om).1.trans (a4 q om).1,(b4 q om).2.trans (a4 q om).2⟩⟩
  ·have hq':q<w.H.length:=om
   rw[hn q hq',hst q hq',hjq q hq']
   have tl:∀ o c y,J13.hasP v.F.B c y=true->Tld v.F o q c y->Tld t o q c y:=fun o c y hp ht=>by
    obtain⟨b1,b2,_,_⟩:=(z3.2 c y).2 hp
    unfold Tld
    rw[b1,b2]
    exact ht
   by_cases z:q=i
   ·subst z
    simp only[y6]
    refine⟨z4,fun c y hp=>?_,fun c y ht=>?_,by rw[<- hj,<- c5.2.1]; exact z5⟩
    ·have hp':=(z3.2 c y).1.symm.trans hp
     exact⟨tl _ c y hp' (z7 c y hp').1,(z7 c y hp').2⟩
    ·rw[<- hni] at ht |-
     refine z8 c y ?_
     by_cases hp:J13.hasP w.F.B c y=true
     ·obtain⟨a1,a2,_,_⟩:=(c7 c y).2 hp
      unfold Tld
      rw[a1,a2]
      exact ht
     ·exact absurd ((z2d (c1.2.2.2.1 q hi2).1.now (c1.2.2.2.1 q hi2).2.2 (show hasR (nowJ (jAt v q)).J c y=true from ht.1)).1) (by rw[(c7 c y).1]; exact hp)
   ·rw[y5 z,y5 z,y5 z]
    obtain⟨d1,d2,d3⟩:=c8 q om
    refine⟨d1,fun c y hp=>?_,d3⟩
    have hp':=(z3.2 c y).1.symm.trans hp
    obtain⟨b1,b2,_,b4⟩:=(z3.2 c y).2 hp'
    refine⟨tl _ c y hp' (d2 c y hp').1,?_⟩
    unfold Rep
    rw[(b4 q z).1,(b4 q z).2]
    exact (d2 c y hp').2)
 exact⟨v,e,hs⟩
theorem zkj (h:VW w) {b:Nat} (hb:Bd b w) (hq:∀ w1,Bd (b+w.V.length) w1->(w.V=[]->w1=w)->w1.F.B.length<60/\∀ k,k<w1.H.length->(jAt w1 k).Ab.length+2 * w1.F.B.length<390) :
  ∃ w1 v,(VW w1/\SameB w w1/\SameP w w1/\(w.V=[]->w1=w)/\Bd (b+w.V.length) w1)/\F_qc w=some (v,0)/\CI w1 v w1.H.length:=by
 obtain⟨w1,e,k1,k2,k3,k4,k5,k6⟩:=zlw h hb
 obtain⟨q1,q2⟩:=hq w1 k4 k6
 obtain⟨v,e2,hc⟩:=zou k1 k2 q1 q2
 have hl:=h.len
 refine⟨w1,v,⟨k1,k3,k5,k6,k4⟩,?_,hc⟩
 simp only[F_qc,S_qc,Scr.den]
 rw[z6m h]
 simp only[obind]
 rw[y5 dk,e]
 simp only[zo]
 rw[za ⟨om,trivial⟩,<- k3.1,e2]
 simp only[zo]
 rw[zqg hc.vw.fr]
 rfl
variable {n:Nat}
theorem z48 {f g:Nat->Int} (h:∀ k,k<n->f k=g k):sumTo f n=sumTo g n :=
 Int.le_antisymm (z2z fun k hk=>Int.le_of_eq (h k hk)) (z2z fun k hk=>Int.le_of_eq (h k hk).symm)
theorem CI.jl {w1:TWo} (hc:CI w1 v n):v.H.length=w1.H.length:=hc.same.1
end Go.Proofs.YtlhikmklpelceaaGreatDoor
namespace Go.Proofs.YtlhikmklpelceaaGreatDoor.J13
open Go Go.TA
open Go.IntKind (i64)
def xP (n:Int) (g h a u:List Int):TPo:=⟨[49],12,n,g,h,a,u⟩
def xT (p:TPo):TTr:=⟨2,[p]⟩
def xR (g a r:Int):TRi:=⟨[49],12,g,a,r⟩
theorem a1:setM ⟨2,[]⟩ [49] 12 100=(xT (xP 100 [0,0] [0,0] [0,0] [0,0]),0):=kj
theorem a2:divideM (xT (xP 100 [0,0] [0,0] [0,0] [0,0])) [49] 12 [60,40]=(xT (xP 100 [60,40] [0,0] [0,0] [0,0]),0):=kj
theorem a3:setM (xT (xP 100 [60,40] [0,0] [0,0] [0,0])) [49] 12 90=(xT (xP 90 [60,40] [0,0] [0,0] [0,0]),0):=kj
theorem a4:potM (xT (xP 90 [60,40] [0,0] [0,0] [0,0])) [49] 12=(xP 90 [60,40] [0,0] [0,0] [0,0],true):=kj
theorem a5:askM (xT (xP 90 [60,40] [0,0] [0,0] [0,0])) 1 [49] 12 10=(xT (xP 90 [60,40] [0,0] [10,0] [0,0]),0):=kj
theorem a6:tellM (xT (xP 90 [60,40] [0,0] [10,0] [0,0])) 1 [49] 12=(⟨0,1,[49],12,60,10,0,0⟩,0):=kj
theorem a7:learnS (xR 0 0 0) ⟨0,1,[49],12,60,10,0,0⟩=(xR 60 10 0,0):=kj
theorem a8:wantedS (xR 60 10 0) 20=10:=kj
theorem a9:returnS (xR 60 10 0) 20 10=(xR 60 10 10,0):=kj
theorem xs (p:TPo) (h:p.D=[49]):Small (xT p):=fun q hq=>by
 obtain rfl:q=p:=by simpa [xT] using hq
 rw[h]; simp
variable {p:TPo} {n:Int}
theorem zsx (h:PotOk n p):outV p=p.A.sum-p.L.sum:=by
 have l1:=h.2.2.2.1.1.1
 have l2:=h.2.2.2.1.2.1.1
 unfold outV
 rw[show min p.A.length p.L.length=p.A.length from om,y41,y1y om]
theorem z6z:∀ {a b:List Int},a.length=b.length->leRow a b->a.sum<=b.sum
 | [],[],_,_=>sj
 | x :: a,y :: b,hl,h=>by
  have h0:=h 0 sj
  have:=z6z (a:=a) (b:=b) (by simpa using hl) fun i hi=>by
   have:=h (i+1) sk
   simpa using this
  simp only[y25]
  have e1:(x :: a).getD 0 dF=x:=rfl
  have e2:(y :: b).getD 0 dF=y:=rfl
  rw[e1,e2] at h0
  omega
 | [],_ :: _,hl,_=>by simp at hl
 | _ :: _,[],hl,_=>by simp at hl
theorem zjg (h:PotOk n p):0<=outV p:=by
 rw[zsx h]
 have l1:=h.2.2.2.1.1.1
 have l2:=h.2.2.2.1.2.1.1
 have:=z6z (a:=p.L) (b:=p.A) om h.2.2.2.2.1.1
 omega
variable {k:Nat} {l:List Int}
theorem zkk (hk:k<l.length) (x:Int):(l.set k x).sum=l.sum-l.getD k dF+x:=by
 induction l generalizing k with
 | nil=>simp at hk
 | cons z l ih =>
  cases k with
  | zero=>simp[List.sum_cons]; omega
  | succ k =>
   rw[y46,y25,ih (by simpa using hk),y25]
   have:(z :: l).getD (k+1) dF=l.getD k dF:=rfl
   rw[this]; omega
def gP (p:TPo) (k:Nat) (n:Int):TPo:=withG p (p.A.set k (p.A.getD k dF+n))
theorem zqm (h0:0<l.length) (h1:l.length<=1000000):∃ m:Int,F_q2g l=some m/\m∈l/\∀ x∈l,x<=m:=by
 simp only[F_q2g,S_q2g,Scr.den]
 rw[za (by simp only[AllP,yn,y9]; omega),za (by simp only[AllP,yn]; omega)]
 obtain⟨r,e,hJ⟩:=z1p (step:=fun s=>(S_q2g_b1 l s).den) (fun s:Int×Int=>((l.length:Int)-s.2).toNat)
  (fun s=>∃ i:Nat,s.2=i/\1<=i/\i<=l.length/\s.1∈l/\∀ j,j<i->l.getD j dF<=s.1) (fun s=>s.1∈l/\∀ x∈l,x<=s.1) (fun st hI=>by
  obtain⟨m,z⟩:=st
  obtain⟨i,hz,k1,k2,k3,k4⟩:=hI
  simp only at hz k3 k4
  subst hz
  simp only[S_q2g_b1,Scr.den]
  by_cases hc:i<l.length
  ·left
   rw[y6 (show decide ((i:Int)<(l.length:Int))=true from yd om),ye,yo,za (by simp only[AllP,yn]; omega),wrapId (n:=(i:Int)+1) om om]
   refine⟨_,rfl,⟨i+1,rfl,om,om,?_,fun j hj=>?_⟩,by show ((l.length:Int)-((i:Int)+1)).toNat<((l.length:Int)-i).toNat; omega⟩
   ·show (if l.getD i dF>m then l.getD i dF else m)∈l
    split
    ·exact zb hc
    ·exact k3
   ·show l.getD j dF<=(if l.getD i dF>m then l.getD i dF else m)
    by_cases e:j=i
    ·subst e; split <;> omega
    ·have:=k4 j om; split <;> omega
  ·right
   rw[y5 (show ¬ decide ((i:Int)<(l.length:Int))=true by rw[y7]; omega)]
   refine⟨_,rfl,k3,fun x hx=>?_⟩
   obtain⟨j,hj,rfl⟩:=z19 hx
   exact k4 j om) _ (l.getD (0+0) dF,1) (y2j _) ⟨1,rfl,yf _,h0,zb h0,fun j hj=>by
    obtain rfl:j=0:=om
    exact y1d _⟩
 rw[e]
 exact⟨_,rfl,hJ⟩
variable {m:Int}
theorem zlx (hm:m∈l) (h1:l.length<=1000000):∃ i:Nat,F_q2q m l=some (i:Int)/\i<l.length/\l.getD i dF=m:=by
 simp only[F_q2q,S_q2q,Scr.den]
 rw[za (by simp only[AllP,yn]; omega),z4v l (fun x=>m==x) (fun i=>(i:Int)) (fun i hi=>by
  simp only[S_q2q_b1,Scr.den,yo]
  rw[za (by simp only[AllP,yn]; exact hi)]
  split <;> rfl)]
 have hany:(l.any fun x=>m==x)=true:=y4h.2 ⟨m,hm,sj⟩
 have hlt:l.findIdx (fun x=>m==x)<l.length:=y54 ⟨m,hm,sj⟩
 rw[y6 hany]
 refine⟨_,rfl,hlt,?_⟩
 have:=y3w (w:=hlt)
 simp only[y12] at this
 rw[z29 hlt]
 exact this.symm
def Gr (I:List Int) (R:Int) (idle out:List Int) (rest:Int):Prop :=
 (idle.length=I.length/\out.length=I.length) /\
 (∀ k,k<I.length->(out.getD k dF=0/\idle.getD k dF=I.getD k dF)\/(idle.getD k dF=0/\(0<=out.getD k dF/\out.getD k dF<=I.getD k dF)/\(0<rest->out.getD k dF=I.getD k dF))) /\
 (∀ k,k<I.length->0<out.getD k dF->∀ j,j<I.length->I.getD k dF<I.getD j dF->out.getD j dF=I.getD j dF/\idle.getD j dF=0) /\
 R=rest+out.sum/\(0<=rest\/rest=R)
def PlanOk (I:List Int) (R:Int) (out:List Int):Prop :=
 out.length=I.length/\(∀ k,k<I.length->0<=out.getD k dF/\out.getD k dF<=I.getD k dF)/\out.sum=max 0 (min R I.sum) /\
 ∀ k,k<I.length->0<out.getD k dF->∀ j,j<I.length->I.getD k dF<I.getD j dF->out.getD j dF=I.getD j dF
theorem z5r (h:∀ k,k<l.length->0<=l.getD k dF):0<=l.sum:=by
 have:=z6z (a:=List.replicate l.length (0:Int)) (b:=l) sj fun i hi=>by
  have:=h i hi
  simpa [List.getD_eq_getElem?_getD,hi] using this
 simpa using this
variable {I idle out:List Int} {R rest:Int}
theorem Gr.done (h:Gr I R idle out rest) (hI:∀ k,k<I.length->0<=I.getD k dF) (he:rest<=0\/∀ k,k<I.length->idle.getD k dF<=0):PlanOk I R out:=by
 obtain⟨⟨l1,l2⟩,h1,h2,h3,h4⟩:=h
 have hb:∀ k,k<I.length->0<=out.getD k dF/\out.getD k dF<=I.getD k dF:=fun k hk=>by
  rcases h1 k hk with ⟨a,b⟩ | ⟨a,b,c⟩
  ·have:=hI k hk; omega
  ·exact b
 have hI0:=z5r hI
 have ho0:=z5r (l:=out) fun k hk=>(hb k om).1
 have hle:=z6z (a:=out) (b:=I) l2 fun k hk=>(hb k hk).2
 refine⟨l2,hb,?_,fun k hk hp j hj hlt=>(h2 k hk hp j hj hlt).1⟩
 by_cases hr:rest<=0
 ·rcases h4 with h4 | h4 <;> omega
 ·have hid:∀ k,k<I.length->idle.getD k dF<=0:=by
   rcases he with he | he
   ·exact absurd he hr
   ·exact he
  have:out=I:=za1 l2 fun k hk=>by
   have hk':k<I.length:=om
   rcases h1 k hk' with ⟨a,b⟩ | ⟨a,b,c⟩
   ·have:=hid k hk'; have:=hI k hk'; omega
   ·exact c om
  rw[this] at h3 |-
  omega
theorem Gr.step {i:Nat} (h:Gr I R idle out rest) (_hI:∀ k,k<I.length->0<=I.getD k dF) (hr:0<rest) (hi:i<I.length) (hm:idle.getD i dF=m) (h0:0<m) (hmax:∀ k,k<I.length->idle.getD k dF<=m):Gr I R (idle.set i 0) (out.set i (min m rest)) (rest-min m rest):=by
 obtain⟨⟨l1,l2⟩,h1,h2,h3,h4⟩:=h
 have hii:out.getD i dF=0/\idle.getD i dF=I.getD i dF:=by
  rcases h1 i hi with h | ⟨a,_⟩
  ·exact h
  ·omega
 have gi:∀ k,k<I.length->(idle.set i 0).getD k dF=if k=i then 0 else idle.getD k dF:=fun k hk=>getD_set_int om
 have go:∀ k,k<I.length->(out.set i (min m rest)).getD k dF=if k=i then min m rest else out.getD k dF:=fun k hk=>getD_set_int om
 refine⟨⟨by simpa using l1,by simpa using l2⟩,fun k hk=>?_,fun k hk hp j hj hlt=>?_,?_,?_⟩
 ·rw[gi k hk,go k hk]
  by_cases e:k=i
  ·subst e
   rw[y6 rfl,y6 rfl]
   exact .inr ⟨rfl,om,fun _=>om⟩
  ·rw[y5 e,y5 e]
   rcases h1 k hk with h | ⟨a,b,c⟩
   ·exact .inl h
   ·exact .inr ⟨a,b,fun _=>c hr⟩
 ·rw[go k hk] at hp
  rw[go j hj,gi j hj]
  by_cases e:k=i
  ·subst e
   by_cases e2:j=k
   ·subst e2; omega
   ·rw[y5 e2,y5 e2]
    have:=hmax j hj
    rcases h1 j hj with ⟨a,b⟩ | ⟨a,b,c⟩
    ·omega
    ·exact⟨c hr,a⟩
  ·rw[y5 e] at hp
   have:=h2 k hk hp j hj hlt
   by_cases e2:j=i
   ·subst e2; omega
   ·rw[y5 e2,y5 e2]; exact this
 ·rw[zkk om]; omega
 ·left; omega
theorem zsy (n:Int):F_q6h n=some (!decide (tot n)):=by
 simp only[F_q6h,S_q6h,Scr.den,zd]
 congr 1
 by_cases h:tot n
 ·have h':=h
  unfold tot at h'
  rw[yd h,yh om,yh om]
  rfl
 ·rw[yh h]
  unfold tot at h
  simp only[y4f,yc,y7]
  omega
theorem zly (l:List Int):F_q6i l=some (!rowT l):=by
 have h:F_q2p l=some (if rowT l=true then -1 else ((l.findIdx fun x=>!decide (tot x):Nat):Int)):=by
  simp only[F_q2p,S_q2p,Scr.den]
  rw[z4v l (fun x=>!decide (tot x)) (fun i=>(i:Int)) (fun i hi=>by
   simp only[S_q2p_b1,Scr.den,zsy,obind]
   split <;> rfl)]
  have e:(l.any fun x=>!decide (tot x))=!rowT l:=by rw[rowT,List.all_eq_not_any_not,Bool.not_not]
  rw[e]
  cases rowT l <;> rfl
 simp only[F_q6i,S_q6i,Scr.den,h,obind]
 congr 1
 cases rowT l with
 | true=>rfl
 | false=>simp
theorem zsz (hp:PotOk n p):F_q2f p=some true:=by
 obtain⟨_,_,ht,⟨r1,r2,r3,r4⟩,_⟩:=hp
 have l1:=r1.1; have l2:=r2.1; have l3:=r3.1; have l4:=r4.1
 have one:∀ i (l:List Int),([p.A,p.L,p.K,p.P]:List (List Int)).getD i dF=l->rowOk n l->(S_q2f_b1 p i ()).den=some (.cont ()):=fun i l hl hr=>by
  have hlen:=hr.1
  simp only[S_q2f_b1,Scr.den,hl,zd,zly]
  have e:((l.length:Int) != (p.A.length:Int))=false:=sk
  rw[e,zk (by simp[AllP])]
  simp only[obind,z63.2 hr.2]
  rfl
 simp only[F_q2f,S_q2f,Scr.den,zg]
 rw[show (4:Nat)=0+1+1+1+1 from rfl]
 simp only[rangeM,one 0 p.A rfl r1,one (0+1) p.L rfl r2,one (0+1+1) p.K rfl r3,one (0+1+1+1) p.P rfl r4,outM]
 congr 1
 simp only[yl,y7]
 omega
def unusedV (p:TPo) (k:Nat):Int:=max (p.A.getD k dF-p.L.getD k dF-p.P.getD k dF) 0
def openV (p:TPo) (k:Nat):Int:=max (min (unusedV p k) (p.K.getD k dF-p.L.getD k dF)) 0
def idleV (p:TPo) (k:Nat):Int:=unusedV p k-openV p k
theorem max18 (x:Int):(if 0>x then 0 else x)=max x 0:=by split <;> omega
theorem max18' (x:Int):(if x>0 then x else 0)=max x 0:=by split <;> omega
theorem zr2 (x y:Int):(if x<y then x else y)=min y x:=by split <;> omega
theorem at18 (hp:PotOk n p) (hk:k<p.A.length) :
  (tot (p.A.getD k dF)/\tot (p.L.getD k dF)/\tot (p.K.getD k dF)/\tot (p.P.getD k dF))/\(k<p.L.length/\k<p.K.length/\k<p.P.length):=by
 obtain⟨_,_,ht,⟨r1,r2,r3,r4⟩,_⟩:=hp
 have l1:=r1.1; have l2:=r2.1; have l3:=r3.1; have l4:=r4.1
 exact⟨⟨r1.2 _ (zb hk),r2.2 _ (zb om),r3.2 _ (zb om),r4.2 _ (zb om)⟩,om,om,om⟩
theorem zig (hp:PotOk n p) (hk:k<p.A.length):(0<=openV p k/\openV p k<=1000000000000000)/\(0<=idleV p k/\idleV p k<=1000000000000000):=by
 obtain⟨⟨a,b,c,d⟩,_⟩:=at18 hp hk
 unfold tot at a b c d
 unfold idleV openV unusedV
 omega
theorem zu7 (hp:PotOk n p) (hk:k<p.A.length):F_q6j p (k:Int)=some (openV p k,idleV p k):=by
 obtain⟨⟨a,b,c,d⟩,q1,q2,q3⟩:=at18 hp hk
 simp only[F_q6j,S_q6j,Scr.den,ye]
 rw[za (by simp only[AllP,yn]; omega),za (by simp only[AllP,yn]; omega)]
 unfold idleV openV unusedV
 generalize p.A.getD k dF=g at *
 generalize p.L.getD k dF=h at *
 generalize p.K.getD k dF=s at *
 generalize p.P.getD k dF=u at *
 unfold tot at a b c d
 rw[wrapId (n:=g-h) om om,wrapId (n:=s-h) om om,wrapId (n:=g-h-u) om om]
 simp only[max18,zr2]
 rw[wrapId (n:=max (g-h-u) 0-max (min (max (g-h-u) 0) (s-h)) 0) om om]
def idles (p:TPo) (n:Nat):List Int:=(List.range n).map (idleV p)
def opens (p:TPo) (n:Nat):List Int:=(List.range n).map (openV p)
theorem ze3 {n:Nat}:idles p (n+1)=idles p n++[idleV p n]:=by simp[idles,List.range_succ]
theorem ze4 {n:Nat}:opens p (n+1)=opens p n++[openV p n]:=by simp[opens,List.range_succ]
theorem idles_length {n:Nat}:(idles p n).length=n:=by simp[idles]
theorem idles_at {n:Nat} (hk:k<n):(idles p n).getD k dF=idleV p k:=by simp[idles,List.getD_eq_getElem?_getD,hk]
theorem zf7 {n:Int} {p:TPo} (hp:PotOk n p):∀ {i:Nat},i<=p.A.length->0<=(opens p i).sum/\(opens p i).sum<=i * 1000000000000000/\0<=(idles p i).sum/\(idles p i).sum<=i * 1000000000000000
 | 0,_=>by simp[opens,idles]
 | i+1,hi=>by
  have:=zf7 hp (i:=i) om
  have:=zig hp (k:=i) om
  rw[ze4,ze3,y49,y49]
  simp only[y25,List.sum_nil]
  omega
def shortV (p:TPo):Int:=max (outV p-p.W) 0
theorem Plan_spec (hp:PotOk n p) (hn:n<=6):∃ out,F_qi p=some out/\PlanOk (idles p p.A.length) (shortV p-(opens p p.A.length).sum) out:=by
 have hb:=zba hp hn
 have ho:=zjg hp
 have ht:=hp.2.2.1
 have l1:=hp.2.2.2.1.1.1
 have hop:=zf7 hp (yf _)
 have hs0:0<=shortV p/\shortV p<=7000000000000000:=by unfold shortV; omega
 simp only[F_qi,S_qi,Scr.den,zsz hp,obind,Shortfall_eq]
 rw[y5 dk,za (by simp only[AllP,yn]; omega),show max (i64.wrap (outV p-p.W)) 0=shortV p by rw[wrapId (n:=outV p-p.W) om om]; rfl]
 obtain⟨r,e,h1⟩:=zm (body:=fun i s=>(S_qi_b1 p i s).den) (n:=p.A.length) (fun i s=>s=(idles p i,shortV p-(opens p i).sum)) (s0:=(([]:List Int),shortV p)) (by simp[idles,opens]) (fun i s hi hI=>by
  subst hI
  have hbb:=zf7 hp (i:=i) om
  have hb2:=zig hp hi
  simp only[S_qi_b1,Scr.den,zu7 hp hi,obind,idles_length]
  rw[za (by simp only[AllP,yn]; omega),wrapId (n:=shortV p-(opens p i).sum-openV p i) om om]
  refine⟨_,rfl,?_⟩
  rw[ze3,ze4,y49]
  simp only[y25,List.sum_nil]
  exact Prod.ext rfl (by show _-_-_=_-(_+(_+0)); omega))
 subst h1
 rw[e]
 simp only[outM,idles_length]
 have hI:∀ k,k<(idles p p.A.length).length->0<=(idles p p.A.length).getD k dF/\(idles p p.A.length).getD k dF<=1000000000000000:=fun k hk=>by
  rw[idles_length] at hk
  rw[idles_at hk]
  exact (zig hp hk).2
 generalize hR:shortV p-(opens p p.A.length).sum=R
 generalize hii:idles p p.A.length=I at hI
 have hlI:I.length=p.A.length:=by rw[<- hii,idles_length]
 rw[za (by simp only[AllP,yn]; omega),ye]
 obtain⟨r,e2,hJ⟩:=z1p (step:=fun s=>(S_qi_b2 p s).den) (fun s:List Int×List Int×Int=>s.1.sum.toNat) (fun s=>Gr I R s.1 s.2.1 s.2.2) (fun s=>PlanOk I R s.2.1) (fun st hG=>by
  obtain⟨idle,out,rest⟩:=st
  simp only at hG
  have hG':=hG
  obtain⟨⟨k1,k2⟩,k3,k4,k5,k6⟩:=hG'
  have hid:∀ k,k<idle.length->0<=idle.getD k dF/\idle.getD k dF<=1000000000000000:=fun k hk=>by
   have:=hI k om
   rcases k3 k om with h | h <;> omega
  simp only[S_qi_b2,Scr.den,zg]
  by_cases hc:0<rest/\0<idle.length
  ·rw[y6 (by simp only[yl,y7]; omega)]
   obtain⟨m,e3,hm,hmax⟩:=zqm hc.2 om
   rw[e3]
   simp only[obind]
   by_cases h0:m=0
   ·right
    rw[y6 (by simpa using h0)]
    refine⟨_,rfl,hG.done (fun k hk=>(hI k hk).1) (.inr fun k hk=>?_)⟩
    have:=hmax _ (zb (show k<idle.length from om))
    omega
   ·left
    obtain⟨i,e4,hi,hmi⟩:=zlx hm om
    have him:=hid i hi
    have hm0:0<m:=om
    rw[y5 (by simpa using h0),e4]
    simp only[obind,ye,yo,ya]
    rw[za (by simp only[AllP,yn]; omega),za (by simp only[AllP,yn]; omega),zr2,getD_set_int om,y6 rfl]
    have hst:=hG.step (fun k hk=>(hI k hk).1) hc.1 (show i<I.length from om) hmi hm0 (fun k hk=>hmax _ (zb om))
    have hsum0:=z5r (l:=idle) fun k hk=>(hid k hk).1
    have hsum1:=z5r (l:=idle.set i 0) fun k hk=>by
     rw[getD_set_int (by simpa using hk)]
     split
     ·exact y1d _
     ·exact (hid k (by simpa using hk)).1
    have hset:=zkk hi 0
    have hos:=z5r (l:=out) fun k hk=>by
     rcases k3 k om with h | h <;> omega
    rw[wrapId (n:=rest-min m rest) om om]
    exact⟨_,rfl,hst,by show (idle.set i 0).sum.toNat<idle.sum.toNat; omega⟩
  ·right
   rw[y5 (by simp only[yl,y7]; omega)]
   refine⟨_,rfl,hG.done (fun k hk=>(hI k hk).1) ?_⟩
   by_cases hr:0<rest
   ·exact .inr fun k hk=>om
   ·exact .inl om) _ (I,List.replicate p.A.length (0:Int),R) (y2j _) ⟨⟨rfl,by simp[hlI]⟩,fun k hk=>.inl ⟨by simp[List.getD_eq_getElem?_getD,<- hlI,hk],rfl⟩,fun k hk hp=>by
    rw[show (List.replicate p.A.length (0:Int)).getD k dF=0 by simp[List.getD_eq_getElem?_getD,<- hlI,hk]] at hp
    omega,sj,.inr rfl⟩
 rw[e2]
 simp only
 have:=hJ.1
 rw[za (by simp only[AllP,yn]; omega)]
 exact⟨_,rfl,hJ⟩
def xB:TTr:=xT (xP 100 [60,40] [0,0] [0,0] [50,10])
def xD (a b:Int):TTr:=xT (xP 55 [60,40] [0,0] [a,b] [50,10])
theorem zqn:Small xB:=xs _ rfl
theorem z7p (a b:Int):Small (xD a b):=xs _ rfl
theorem b1:setM xB [49] 12 55=(xD 0 0,0):=kj
theorem b2:potM (xD 0 0) [49] 12=(xP 55 [60,40] [0,0] [0,0] [50,10],true):=kj
theorem b7:TOk (xD 0 0):=y1z kj
theorem b8:TOk (xD 10 30):=y1z kj
theorem zt0:F_qi (xP 55 [60,40] [0,0] [0,0] [50,10])=some [10,30]:=by
 obtain⟨out,e,h1,h2,h3,_⟩:=Plan_spec (n:=2) (p:=xP 55 [60,40] [0,0] [0,0] [50,10]) (b7.2.2 0 (by simp[xD,xT])).1 om
 rw[e]
 rw[show idles (xP 55 [60,40] [0,0] [0,0] [50,10]) (xP 55 [60,40] [0,0] [0,0] [50,10]).A.length=[10,30] from kj] at h1 h2 h3
 rw[show shortV (xP 55 [60,40] [0,0] [0,0] [50,10])-(opens (xP 55 [60,40] [0,0] [0,0] [50,10]) (xP 55 [60,40] [0,0] [0,0] [50,10]).A.length).sum=45 from kj] at h3
 match out,h1 with
 | [a,b],_ =>
  have q1:=h2 0 sj
  have q2:=h2 1 sj
  have e1:([a,b]:List Int).getD 0 dF=a:=rfl
  have e2:([a,b]:List Int).getD 1 dF=b:=rfl
  have e3:([10,30]:List Int).getD 0 dF=10:=rfl
  have e4:([10,30]:List Int).getD 1 dF=30:=rfl
  rw[e1,e3] at q1
  rw[e2,e4] at q2
  simp only[y25,List.sum_nil] at h3
  obtain rfl:a=10:=om
  obtain rfl:b=30:=om
  rfl
theorem zov:F_qd xB [49] 12 55=some (xD 10 30,[⟨0,1,[49],12,60,10,0,0⟩,⟨0,2,[49],12,40,30,0,0⟩],0):=by
 simp only[F_qd,S_qd,Scr.den]
 rw[Set_eq zqn (show ([49]:Y8).length<=1000000 from sj),b1]
 simp only[obind]
 rw[y5 dk,Pot_eq b7.small,b2]
 simp only[obind]
 rw[zt0]
 simp only[obind]
 rw[show ([10,30]:List Int).length=0+1+1 from rfl]
 have s1:(S_qd_b1 [49] 12 (xP 55 [60,40] [0,0] [0,0] [50,10],true) [10,30] 0 (xD 0 0,[])).den=some (.cont (xD 10 0,[⟨0,1,[49],12,60,10,0,0⟩])):=by
  simp only[S_qd_b1,Scr.den]
  rw[y5 dk]
  refine zbo ((Ask_eq (z7p _ _) _ _ _ _).trans (yi some (show askM _ _ _ _ _=(xD 10 0,0) from kj))) ?_
  rw[za (by simp only[AllP,yn]; decide)]
  refine zbo ((Tell_eq (z7p _ _) _ _ _).trans (yi some (show tellM _ _ _ _=(⟨0,1,[49],12,60,10,0,0⟩,0) from kj))) ?_
  rw[za (by simp only[AllP,yn]; decide)]
  rfl
 have s2:(S_qd_b1 [49] 12 (xP 55 [60,40] [0,0] [0,0] [50,10],true) [10,30] (0+1) (xD 10 0,[⟨0,1,[49],12,60,10,0,0⟩])).den=some (.cont (xD 10 30,[⟨0,1,[49],12,60,10,0,0⟩,⟨0,2,[49],12,40,30,0,0⟩])):=by
  simp only[S_qd_b1,Scr.den]
  rw[y5 dk]
  refine zbo ((Ask_eq (z7p _ _) _ _ _ _).trans (yi some (show askM _ _ _ _ _=(xD 10 30,0) from kj))) ?_
  rw[za (by simp only[AllP,yn]; decide)]
  refine zbo ((Tell_eq (z7p _ _) _ _ _).trans (yi some (show tellM _ _ _ _=(⟨0,2,[49],12,40,30,0,0⟩,0) from kj))) ?_
  rw[za (by simp only[AllP,yn]; decide)]
  rfl
 simp only[rangeM,s1,s2,outM]
 rw[za (by simp only[AllP,yn]; decide)]
theorem zqo:F_q2j (xD 10 30)=some [⟨[49],12,45⟩]:=by
 simp only[F_q2j,S_q2j,Scr.den]
 rw[Valid_eq (z7p _ _),yd b8]
 simp only[obind]
 rw[y5 dk,show (xD 10 30).B.length=0+1 from rfl]
 have s1:(S_q2j_b1 (xD 10 30) 0 []).den=some (.cont [⟨[49],12,45⟩]):=by
  simp only[S_q2j_b1,Scr.den,Shortfall_eq,obind]
  rw[show max (i64.wrap (outV ((xD 10 30).B.getD 0 dF)-((xD 10 30).B.getD 0 dF).W)) 0=45 from kj,y6 dk,za (by simp only[AllP,yn]; decide)]
  rfl
 simp only[rangeM,s1,outM]
 rw[za (by simp only[AllP,yn]; decide)]
theorem awake18:F_q6l=some true:=by
 simp only[F_q6l,S_q6l,Scr.den]
 rw[show (⟨2,[⟨[49],12,100,[60,40],[0,0],[0,0],[50,10]⟩]⟩:TTr)=xB from rfl,zov]
 simp only[obind]
 rw[zqo]
 simp only[obind]
 rw[za (by simp[AllP])]
 rfl
end Go.Proofs.YtlhikmklpelceaaGreatDoor.J13
namespace Go.Proofs.YtlhikmklpelceaaGreatDoor
open Go Go.TA
open Go.IntKind (i64)
variable {c:Y8} {y x:Int} {t:TTr}
theorem zu8 (h:J13.TOk t) (hc:good c=true) (hy:0<=y/\y<=99) (hx:-1000000000000000<=x/\x<=1000000000000000) (hl:t.B.length<60):(J13.setM t c y x).2=0:=by
 unfold J13.setM
 rw[y5 (fun k=>k h),y5 (fun k=>k hc),y5 (fun k=>k ⟨hy,hx⟩)]
 by_cases h5:J13.hasP t.B c y=true
 ·rw[y6 h5]
 ·rw[y5 h5,y5 om]
theorem zkl (h:(J13.setM t c y x).2=0):J13.TOk (J13.setM t c y x).1/\(J13.setM t c y x).1.N=t.N/\J13.hasP (J13.setM t c y x).1.B c y=true /\
  J13.potAt (J13.setM t c y x).1 c y=if J13.hasP t.B c y=true then J13.withT (J13.potAt t c y) x else J13.newP t.N c y x:=by
 have hk:=(J13.set_ok h).2
 unfold J13.setM at h hk |-
 by_cases h1:J13.TOk t
 ·rw[y5 (fun k=>k h1)] at h hk |-
  by_cases h2:good c=true
  ·rw[y5 (fun k=>k h2)] at h hk |-
   by_cases h3:(0<=y/\y<=99)/\-1000000000000000<=x/\x<=1000000000000000
   ·rw[y5 (fun k=>k h3)] at h hk |-
    by_cases h5:J13.hasP t.B c y=true
    ·rw[y6 h5] at hk
     rw[y6 h5,y6 h5]
     have hcy:=J13.potAt_cy h5
     obtain⟨u1,u2⟩:=z5b h5 (p:=J13.withT (J13.potAt t c y) x) hcy.1 hcy.2 hk
     exact⟨hk,rfl,((u2 c y).1).trans h5,u1⟩
    ·rw[y5 h5] at h hk
     rw[y5 h5,y5 h5]
     by_cases h6:t.B.length=60
     ·rw[y6 h6] at h; cases h
     ·rw[y5 h6] at hk |-
      obtain⟨g1,g2⟩:=zfy (r:=J13.newP t.N c y x) (J13.posP_le _ _) hk
      exact⟨hk,rfl,g1.1,g1.2⟩
   ·rw[y6 h3] at h; cases h
  ·rw[y6 h2] at h; cases h
 ·rw[y6 h1] at h; cases h
variable {k:Nat}
theorem zu9 (h:J13.TOk t) (hp:J13.hasP t.B c y=true) (hk:(k:Int)<t.N) (hx:1<=x/\x<=1000000000000000) (hg:nthN (J13.potAt t c y).K k+x<=nthN (J13.potAt t c y).A k) :
  J13.askM t ((k:Int)+1) c y x=(J13.putP t c y (J13.withA (J13.potAt t c y) (J13.upd (J13.potAt t c y).K ((k:Int)+1) (nthN (J13.potAt t c y).K k+x))),0):=by
 have en:∀ l,J13.nth l ((k:Int)+1)=nthN l k:=fun l=>by
  show l.getD ((k:Int)+1-1).toNat dF=l.getD k dF
  rw[show ((k:Int)+1-1).toNat=k from om]
 unfold J13.askM
 rw[y5 (fun g=>g h),y5 (fun g=>g hp),y5 (fun g=>g ⟨om,om⟩),y5 (fun g=>g hx),en,en,y5 om]
theorem zt1 (h:J13.TOk t) (hp:J13.hasP t.B c y=true) (hk:(k:Int)<t.N) (hx:1<=x/\x<=1000000000000000) (hg:nthN (J13.potAt t c y).K k+x<=nthN (J13.potAt t c y).A k) :
  ∃ t',J13.askM t ((k:Int)+1) c y x=(t',0)/\J13.TOk t'/\t'.N=t.N/\t'.B.length=t.B.length/\J13.hasP t'.B c y=true/\J13.potAt t' c y=J13.withA (J13.potAt t c y) (J13.upd (J13.potAt t c y).K ((k:Int)+1) (nthN (J13.potAt t c y).K k+x)):=by
 have e:=zu9 h hp hk hx hg
 have hk':=(J13.ask_ok (show (J13.askM t ((k:Int)+1) c y x).2=0 by rw[e])).2
 rw[e] at hk'
 have hcy:=J13.potAt_cy hp
 obtain⟨u1,u2⟩:=z5b hp (p:=J13.withA (J13.potAt t c y) (J13.upd (J13.potAt t c y).K ((k:Int)+1) (nthN (J13.potAt t c y).K k+x))) hcy.1 hcy.2 hk'
 exact⟨_,e,hk',rfl,ya,((u2 c y).1).trans hp,u1⟩
variable {w:TWo}
theorem zua (h:VW w) (h0:(J13.setM w.F c y x).2=0):VW ⟨(J13.setM w.F c y x).1,w.H,w.V⟩:=by
 have:=z93 h (r:=J13.setM w.F c y x) zog
 rcases this with ⟨_,h2⟩ | ⟨h1,_⟩
 ·unfold tresS at h2
  rwa [y5 (fun k=>k h0)] at h2
 ·exact absurd (show (tresS w (J13.setM w.F c y x)).2=0 by unfold tresS; rw[y5 (fun k=>k h0)]) h1
theorem zub (h:VW w) {k:Int} {t':TTr} (h0:J13.askM w.F k c y x=(t',0)):VW ⟨t',w.H,w.V⟩:=by
 have hz:(J13.askM w.F k c y x).2=0:=by rw[h0]
 have:=z93 h (r:=J13.askM w.F k c y x) zoh
 rcases this with ⟨_,h2⟩ | ⟨h1,_⟩
 ·unfold tresS at h2
  rw[y5 (fun k=>k hz),h0] at h2
  exact h2
 ·exact absurd (show (tresS w (J13.askM w.F k c y x)).2=0 by unfold tresS; rw[y5 (fun k=>k hz)]) h1
theorem zow (f g:Nat->Int) (n:Nat):sumTo (fun k=>f k-g k) n=sumTo f n-sumTo g n:=by
 induction n with
 | zero=>rfl
 | succ n ih=>rw[z12,z12,z12,ih]; omega
variable {n:Nat}
theorem zlz {f g:Nat->Int} (h:∀ k,k<n->f k<=g k) (hs:sumTo g n<=sumTo f n):∀ k,k<n->f k=g k:=by
 induction n with
 | zero=>intro k hk; omega
 | succ n ih =>
  rw[z12,z12] at hs
  have h1:=z2z (n:=n) fun k hk=>h k om
  have h2:=h n (y2j n)
  intro k hk
  by_cases e:k=n
  ·subst e; omega
  ·exact ih (fun k hk=>h k om) om k om
theorem zbf (n:Nat):sumTo (fun _=>0) n=0:=by
 induction n with
 | zero=>rfl
 | succ n ih=>rw[z12,ih]; rfl
theorem zuc (l:List Int):l.sum=sumTo (nthN l) l.length:=by
 unfold sumTo
 refine yi List.sum (y33 sj fun i h1 h2=>?_)
 simp[nthN,List.getD_eq_getElem?_getD,List.getElem?_eq_getElem h1]
def idleK (G H A U:Nat->Int) (k:Nat):Int:=max (G k-H k-U k) 0-max (min (max (G k-H k-U k) 0) (A k-H k)) 0
def openK (G H A U:Nat->Int) (k:Nat):Int:=max (min (max (G k-H k-U k) 0) (A k-H k)) 0
variable {total:Int}
theorem zih {G H A U R out:Nat->Int} (h1:∀ k,k<n->0<=U k/\H k+U k<=G k/\min (G k-U k) (A k)<=H k) (h2:∀ k,k<n->0<=out k/\out k<=idleK G H A U k) (h3:∀ k,k<n->(out k=0->R k=H k)/\(out k≠0->min (G k-U k) (max (A k) (H k)+out k)<=R k)/\R k+U k<=G k) (h4:sumTo out n=max 0 (min (max (sumTo (fun k=>G k-H k) n-total) 0-sumTo (openK G H A U) n) (sumTo (idleK G H A U) n))) :
  max (sumTo (fun k=>G k-R k) n-total) 0=max (sumTo U n-total) 0/\(total<sumTo (fun k=>G k-R k) n->∀ k,k<n->G k-R k-U k=0):=by
 have ho:∀ k,k<n->openK G H A U k=0/\idleK G H A U k=G k-H k-U k:=fun k hk=>by
  have:=h1 k hk
  unfold openK idleK
  omega
 have e1:sumTo (openK G H A U) n=0:=by
  have:=z48 (n:=n) (f:=openK G H A U) (g:=fun _=>0) fun k hk=>(ho k hk).1
  rw[this,zbf]
 have hR:∀ k,k<n->G k-R k<=(G k-H k)-out k/\U k<=G k-R k:=fun k hk=>by
  have a:=h1 k hk
  have b:=h2 k hk
  have c:=h3 k hk
  have d:=(ho k hk).2
  by_cases e:out k=0
  ·have:=c.1 e; omega
  ·have:=c.2.1 e; omega
 have s1:=z2z (n:=n) fun k hk=>(hR k hk).1
 have s2:=z2z (n:=n) fun k hk=>(hR k hk).2
 rw[zow (fun k=>G k-H k) out] at s1
 have s3:=z2z (n:=n) fun k hk=>(h2 k hk).2
 by_cases c:max (sumTo (fun k=>G k-H k) n-total) 0<=sumTo (idleK G H A U) n
 ·refine⟨om,fun g=>om⟩
 ·have hs:sumTo (idleK G H A U) n<=sumTo out n:=om
  have same:=zlz (fun k hk=>(h2 k hk).2) hs
  have z:∀ k,k<n->G k-R k=U k:=fun k hk=>by
   have a:=hR k hk
   have b:=same k hk
   have d:=(ho k hk).2
   omega
  rw[z48 z]
  exact⟨rfl,fun _ k hk=>by have:=z k hk; omega⟩
structure RI (t1:TTr) (c:Y8) (y:Int) (out:List Int) (i:Nat) (t:TTr):Prop where
 ok:J13.TOk t
 off:t.N=t1.N
 len:t.B.length=t1.B.length
 has:J13.hasP t.B c y=true
 row:(J13.potAt t c y).A=(J13.potAt t1 c y).A/\(J13.potAt t c y).L=(J13.potAt t1 c y).L/\(J13.potAt t c y).P=(J13.potAt t1 c y).P/\(J13.potAt t c y).W=(J13.potAt t1 c y).W
 asked:∀ k,nthN (J13.potAt t c y).K k=if k<i/\nthN out k≠0 then max (nthN (J13.potAt t1 c y).K k) (nthN (J13.potAt t1 c y).L k)+nthN out k else nthN (J13.potAt t1 c y).K k
theorem zqp (h:J13.TOk t) (hp:J13.hasP t.B c y=true) (out:List Int):RI t c y out 0 t :=
 ⟨h,rfl,rfl,hp,⟨rfl,rfl,rfl,rfl⟩,fun k=>by rw[y5 (fun g=>absurd g.1 (y2i _))]⟩
variable {i:Nat} {t1:TTr} {out:List Int}
theorem zt2 (h:RI t1 c y out i t) (h0:nthN out i=0):RI t1 c y out (i+1) t:=by
 refine⟨h.ok,h.off,h.len,h.has,h.row,fun k=>?_⟩
 rw[h.asked k]
 by_cases e:k=i
 ·subst e
  rw[y5 (fun g=>g.2 h0),y5 (fun g=>g.2 h0)]
 ·by_cases g:k<i/\nthN out k≠0
  ·rw[y6 g,y6 ⟨om,g.2⟩]
  ·rw[y5 g,y5 (fun z=>g ⟨om,z.2⟩)]
theorem zud (h:RI t1 c y out i t) (h0:nthN out i≠0) (hi:(i:Int)<t1.N) {G H A U:Int} (eG:nthN (J13.potAt t1 c y).A i=G) (eH:nthN (J13.potAt t1 c y).L i=H) (eA:nthN (J13.potAt t1 c y).K i=A) (hb:0<=G/\G<=1000000000000000/\0<=H/\0<=A/\0<=U) (ho:0<=nthN out i/\nthN out i<=max (G-H-U) 0-max (min (max (G-H-U) 0) (A-H)) 0) :
  ∃ t',J13.askM t ((i:Int)+1) c y (nthN out i+max (H-A) 0)=(t',0)/\RI t1 c y out (i+1) t':=by
 have hA:nthN (J13.potAt t c y).K i=A:=by rw[h.asked i,y5 (fun g=>absurd g.1 (y4z _)),eA]
 have hG:nthN (J13.potAt t c y).A i=G:=by rw[h.row.1,eG]
 have hpk:=h.ok.potAt h.has
 have lA:=hpk.2.2.2.1.2.2.1.1
 obtain⟨t',e,k1,k2,k3,k4,k5⟩:=zt1 h.ok h.has (k:=i) (by rw[h.off]; exact hi) (x:=nthN out i+max (H-A) 0) ⟨om,om⟩ (by rw[hA,hG]; omega)
 refine⟨t',e,k1,k2.trans h.off,k3.trans h.len,k4,?_,fun k=>?_⟩
 ·rw[k5]; exact h.row
 ·rw[k5]
  show nthN (J13.upd _ _ _) k=_
  rw[z95,hA]
  by_cases z:k=i
  ·subst z
   rw[y6 ⟨rfl,by have:=h.off; omega⟩,y6 ⟨y2j _,h0⟩,eA,eH]
   omega
  ·rw[y5 (fun g=>z g.1),h.asked k]
   by_cases g:k<i/\nthN out k≠0
   ·rw[y6 g,y6 ⟨om,g.2⟩]
   ·rw[y5 g,y5 (fun q=>g ⟨om,q.2⟩)]
variable {v u:TWo}
theorem zm0 {w1:TWo} (hc:CI w1 v w1.H.length) (ht:0<=total) (h0:(J13.setM v.F c y total).2=0) {t2:TTr} (e1:(J13.setM v.F c y total).1=t1) (hP:J13.PlanOk (J13.idles (J13.potAt t1 c y) (J13.potAt t1 c y).A.length) (J13.shortV (J13.potAt t1 c y)-(J13.opens (J13.potAt t1 c y) (J13.potAt t1 c y).A.length).sum) out) (hr:RI t1 c y out v.H.length t2) (hd:CI ⟨t2,v.H,[]⟩ u v.H.length) :
  J13.hasP u.F.B c y=true/\(J13.potAt u.F c y).W=total/\max (J13.outV (J13.potAt u.F c y)-total) 0=max (usedW u c y-total) 0 /\
   (total<J13.outV (J13.potAt u.F c y)->∀ k,k<u.H.length->(rightV (noW u k).J c y).A-(rightV (noW u k).J c y).M-usedE (noW u k).Ae c y=0):=by
 obtain⟨s1,s2,s3,s4⟩:=zkl h0
 rw[e1] at s1 s2 s3 s4
 have hv:=hc.vw
 have hu:=hd.vw
 have h2:=hv.2.1
 have hun:u.H.length=v.H.length:=hd.same.1
 have hpu:J13.hasP u.F.B c y=true:=((hd.keep c y).1).trans hr.has
 obtain⟨m1,m2,m3,_⟩:=(hd.keep c y).2 hr.has
 have qk:=hu.1.potAt hpu
 have pk:=s1.potAt s3
 have hoff:u.F.N=v.F.N:=hd.len.1.trans (hr.off.trans s2)
 obtain⟨q,eq⟩:∃ q,q=J13.potAt u.F c y:=⟨_,rfl⟩
 have hqm:q∈u.F.B:=by rw[eq]; exact zb (J13.pix_lt hpu).1
 have hqc:=J13.potAt_cy hpu
 rw[<- eq] at hqc
 obtain⟨_,_,f3,_⟩:=z5c hu hqm
 rw[hqc.1,hqc.2] at f3
 have hT:q.W=total:=by
  rw[eq]
  refine m3.trans (hr.row.2.2.2.trans ?_)
  rw[s4]
  split <;> rfl
 have hG:q.A=(J13.potAt t1 c y).A:=by rw[eq]; exact m1.trans hr.row.1
 have hO:J13.outV q=sumTo (fun k=>nthN q.A k-nthN q.L k) v.H.length:=by
  rw[eq,zd7 qk,hoff,show v.F.N.toNat=v.H.length from om]
 rw[<- eq]
 refine⟨hpu,hT,?_⟩
 by_cases hp:J13.hasP v.F.B c y=true
 ·rw[y6 hp] at s4
  obtain⟨p,ep⟩:∃ p,p=J13.potAt v.F c y:=⟨_,rfl⟩
  rw[<- ep] at s4
  have lp:=pk.2.2.2.1.1.1
  have ln:(J13.potAt t1 c y).A.length=v.H.length:=om
  rw[ln] at hP
  obtain⟨o1,o2,o3,_⟩:=hP
  rw[J13.idles_length] at o1
  have hP1:J13.potAt t1 c y=J13.withT p total:=s4
  have idl:∀ k,J13.idleV (J13.potAt t1 c y) k=idleK (nthN p.A) (nthN p.L) (nthN p.K) (nthN p.P) k:=fun k=>by rw[hP1]; rfl
  have opl:∀ k,J13.openV (J13.potAt t1 c y) k=openK (nthN p.A) (nthN p.L) (nthN p.K) (nthN p.P) k:=fun k=>by rw[hP1]; rfl
  have si:(J13.idles (J13.potAt t1 c y) v.H.length).sum=sumTo (idleK (nthN p.A) (nthN p.L) (nthN p.K) (nthN p.P)) v.H.length:=z48 fun k _=>idl k
  have so:(J13.opens (J13.potAt t1 c y) v.H.length).sum=sumTo (openK (nthN p.A) (nthN p.L) (nthN p.K) (nthN p.P)) v.H.length:=z48 fun k _=>opl k
  have ss:J13.shortV (J13.potAt t1 c y)=max (sumTo (fun k=>nthN p.A k-nthN p.L k) v.H.length-total) 0:=by
   unfold J13.shortV
   rw[zd7 pk,s2,show v.F.N.toNat=v.H.length from om,hP1]
   rfl
  rw[zuc,o1,si,so,ss] at o3
  have key:=zih (n:=v.H.length) (G:=nthN p.A) (H:=nthN p.L) (A:=nthN p.K) (U:=nthN p.P) (R:=nthN q.L) (out:=nthN out) (total:=total) (fun k hk=>?_) (fun k hk=>?_) (fun k hk=>?_) o3
  ·have g1:∀ k,nthN q.A k=nthN p.A k:=fun k=>by rw[hG,hP1]; rfl
   have hq:J13.outV q=sumTo (fun k=>nthN p.A k-nthN q.L k) v.H.length:=by rw[hO]; exact z48 fun k _=>by rw[g1]
   have hU:∀ k,k<v.H.length->usedK u c y k=nthN p.P k:=fun k hk=>by
    have hb:=(hc.done k (by rw[<- hc.jl]; exact hk)).2.1 c y hp
    obtain⟨_,b⟩:=hb
    unfold Rep at b
    rw[<- ep] at b
    rw[b.2]
    refine y1k ?_ (z1g (hv.2.2.2.1 k hk).1.now.val c y).1.symm
    show usedE (noW u k).Ae c y=usedE (nowJ (jAt v k)).Ae c y
    rw[hd.same.2 k hk]
    rfl
   have hw:usedW u c y=sumTo (nthN p.P) v.H.length:=by
    unfold usedW
    rw[hun]
    exact z48 hU
   rw[hq,hw]
   refine⟨key.1,fun g k hk=>?_⟩
   have hk:k<v.H.length:=om
   have:=key.2 g k hk
   obtain⟨a,b⟩:=(hd.done k hk).2.1 c y hpu
   unfold Tld at a
   unfold Rep at b
   rw[<- eq] at a b
   have e3:=hU k hk
   unfold usedK at e3
   rw[a.2.1,<- b.1,e3,g1]
   exact this
  ·obtain⟨a,b⟩:=(hc.done k (by rw[<- hc.jl]; exact hk)).2.1 c y hp
   unfold Tld at a
   unfold Rep at b
   rw[<- ep] at a b
   have hvo:=(hv.2.2.2.1 k hk).1.now
   have e3:=(z1g hvo.val c y)
   have hb:=z4i hv c y hk
   have hw:=(z5q hvo a.1).2.2
   have hz:=a.2.2.2
   have b2:nthN p.P k=usedE (nowJ (jAt v k)).Ae c y:=b.2.trans e3.1
   have a2:(rightV (nowJ (jAt v k)).J c y).A=nthN p.A k:=a.2.1
   have a3:(rightV (nowJ (jAt v k)).J c y).K=nthN p.K k:=a.2.2.1
   have b1:nthN p.L k=(rightV (nowJ (jAt v k)).J c y).M:=b.1
   unfold heldK usedK at hb
   have hb:0<=(rightV (nowJ (jAt v k)).J c y).A-(rightV (nowJ (jAt v k)).J c y).M/\_/\0<=usedE (nowJ (jAt v k)).Ae c y/\usedE (nowJ (jAt v k)).Ae c y<=(rightV (nowJ (jAt v k)).J c y).A-(rightV (nowJ (jAt v k)).J c y).M:=hb
   have hz:askW (nowJ (jAt v k)) c y=0:=hz
   rw[hw] at hz
   omega
  ·have:=o2 k (by rw[J13.idles_length]; exact hk)
   rw[J13.idles_at hk,idl] at this
   exact this
  ·obtain⟨a,b⟩:=(hd.done k hk).2.1 c y hpu
   have ret:=(hd.done k hk).2.2.1 c y
   obtain⟨a0,b0⟩:=(hc.done k (by rw[<- hc.jl]; exact hk)).2.1 c y hp
   unfold Tld at a
   unfold Rep at b b0
   rw[<- eq] at a b
   rw[<- ep] at b0
   have hvo:=(hu.2.2.2.1 k om).1.now
   have hb:=z4i hu c y (show k<u.H.length from om)
   have hw:=(z5q hvo a.1).2.2
   have g1:nthN q.A k=nthN p.A k:=by rw[hG,hP1]; rfl
   have e3:usedE (noW u k).Ae c y=nthN p.P k:=by
    rw[b0.2]
    refine y1k ?_ (z1g (hv.2.2.2.1 k hk).1.now.val c y).1.symm
    show usedE (noW u k).Ae c y=usedE (nowJ (jAt v k)).Ae c y
    rw[hd.same.2 k hk]
    rfl
   have e4:nthN q.K k=if k<v.H.length/\nthN out k≠0 then max (nthN p.K k) (nthN p.L k)+nthN out k else nthN p.K k:=by
    rw[eq,m2,hr.asked k,hP1]
    rfl
   have hz:askW (nowJ (jAt u k)) c y=0:=a.2.2.2
   rw[hw] at hz
   have a2:(rightV (nowJ (jAt u k)).J c y).A=nthN q.A k:=a.2.1
   have a3:(rightV (nowJ (jAt u k)).J c y).K=nthN q.K k:=a.2.2.1
   have b1:nthN q.L k=(rightV (nowJ (jAt u k)).J c y).M:=b.1
   have e3:usedE (nowJ (jAt u k)).Ae c y=nthN p.P k:=e3
   unfold heldK usedK at hb
   have hb:0<=(rightV (nowJ (jAt u k)).J c y).A-(rightV (nowJ (jAt u k)).J c y).M/\_/\0<=usedE (nowJ (jAt u k)).Ae c y/\usedE (nowJ (jAt u k)).Ae c y<=(rightV (nowJ (jAt u k)).J c y).A-(rightV (nowJ (jAt u k)).J c y).M:=hb
   refine⟨fun z=>?_,fun z=>?_,om⟩
   ·have ht2:Tld t2 (noW v k) k c y:=by
     unfold Tld at a0 |-
     rw[<- ep] at a0
     refine⟨a0.1,a0.2.1.trans ?_,a0.2.2.1.trans ?_,a0.2.2.2⟩
     ·rw[hr.row.1,hP1]; rfl
     ·rw[hr.asked k,y5 (fun g=>g.2 z),hP1]; rfl
    have r:=ret ht2
    rw[b.1,b0.1]
    exact r
   ·rw[y6 ⟨hk,z⟩] at e4
    omega
 ·rw[y5 hp] at s4
  have g0:∀ k,nthN q.A k=0:=fun k=>by rw[hG,s4]; exact zfz _ _
  have hz:J13.outV q<=0:=by
   rw[hO]
   have lq:=qk.2.2.2.1.2.1
   rw[<- eq] at lq
   have:=z2z (n:=v.H.length) (f:=fun k=>nthN q.A k-nthN q.L k) (g:=fun _=>0) fun k hk=>by
    have l1:=lq.1
    have:=(lq.2 _ (zb (show k<q.L.length from om))).1
    have g:=g0 k
    show nthN q.A k-nthN q.L k<=0
    unfold nthN at g |-
    omega
   rw[zbf] at this
   exact this
  exact⟨om,fun g=>om⟩
variable {e:Int}
theorem zg3 {m:TMe} (h:(sendS w m e).2=0):SameB w (sendS w m e).1:=by
 unfold sendS at h |-
 split at h
 ·rename_i g
  exact absurd h g
 ·rename_i g
  rw[y5 g]
  split at h
  ·cases h
  ·rename_i g2
   rw[y5 g2]
   exact⟨rfl,fun _ _=>rfl⟩
variable {s:TSt}
theorem zue (hk:s.Q=4) (h:(stepW w s).2=0):SameB w (stepW w s).1:=by
 rw[z65 hk] at h |-
 exact zg3 h
theorem zuf (hk:s.Q=8) (h:(stepW w s).2=0):SameB w (stepW w s).1:=by
 rw[z58 om] at h |-
 unfold actS at h |-
 by_cases h1:1<=s.Y/\s.Y<=w.H.length
 ·rw[y5 (fun g=>g h1),y5 om,y5 om,y5 om] at h |-
  exact zg3 h
 ·rw[y6 h1] at h; cases h
theorem zii {j:TJo} (hb:(nowJ j).Ae=(noW w k).Ae):SameB w ⟨w.F,w.H.set k j,w.V⟩:=by
 refine⟨ya,fun q hq=>?_⟩
 show (nowJ ((w.H.set k j).getD q dF)).Ae=_
 rw[z3l hq]
 by_cases e:q=k
 ·subst e
  rw[y6 rfl]; exact hb
 ·rw[y5 e]; rfl
variable {p:TOp}
theorem zug (hk:k<w.H.length):SameB w (stepW w ⟨6,(k:Int)+1,p,[],0,0,0⟩).1:=by
 rw[zor hk]
 exact zii (by rw[z41]; rfl)
variable {o:TOf}
theorem zqq (h7:p.Q=7) (h0:(doS o p).2=0):(doS o p).1.Ae=o.Ae:=by
 obtain⟨hv,_,e⟩:=zbv h0
 rw[e] at h0 |-
 have e7:stepS o p=giveS o p:=by unfold stepS; rw[y5 om,y6 h7]
 rw[e7] at h0 |-
 obtain⟨_,_,_,r,e1,_⟩:=zbu hv h0
 rw[e1]
theorem zuh (h:VW w) (hk:k<w.H.length) (h7:p.Q=7) (h0:(stepW w ⟨5,(k:Int)+1,p,[],0,0,0⟩).2=0):SameB w (stepW w ⟨5,(k:Int)+1,p,[],0,0,0⟩).1:=by
 rw[zif hk ⟨dk,dk⟩,y6 rfl,y5 om] at h0 |-
 have a0:(appendS (jAt w k) p).2=0:=by
  by_cases c:(appendS (jAt w k) p).2=0
  ·exact c
  ·rw[z3c c] at h0; exact h0
 rw[a0,z1s]
 refine zii ?_
 obtain⟨_,a2,_,a4⟩:=zb9 (h.2.2.2.1 k hk).1 a0
 rw[a2]
 show (nowJ ⟨(jAt w k).Y,(jAt w k).Ab++[p],(jAt w k).Ag⟩).Ae=_
 rw[z5l]
 exact zqq h7 a4
theorem zui (h:VW w) (h0:(stepW w ⟨9,0,p,[],0,0,x⟩).2=0):SameB w (stepW w ⟨9,0,p,[],0,0,x⟩).1:=by
 by_cases c:0<=x/\x<w.V.length
 ·obtain⟨i,rfl⟩:∃ i:Nat,x=(i:Int):=⟨x.toNat,om⟩
  rw[zbe om] at h0 |-
  exact (za6 h h0).1
 ·rw[z59 (s:=⟨9,0,p,[],0,0,x⟩) (zqj (.inl rfl))] at h0
  unfold mailS at h0
  rw[y6 (show ¬ (0<=x/\x<(w.V.length:Int)) from c)] at h0
  cases h0
theorem zox (h:VW w) (hp:¬ J13.hasP w.F.B c y=true):usedW w c y=0:=by
 unfold usedW
 rw[z48 (g:=fun _=>0) fun k hk=>?_,zbf]
 have hb:=z4i h c y hk
 have hr:¬ hasR (noW w k).J c y=true:=fun g=>hp (z2d (h.2.2.2.1 k hk).1.now (h.2.2.2.1 k hk).2.2 g).1
 have e:rightV (noW w k).J c y=⟨c,y,0,0,0⟩:=y5 hr
 unfold heldK at hb
 rw[e] at hb
 simp only at hb
 omega
theorem z71 (h:VW w) (hs:SOk s) (hb:(stepW w s).2=0->SameB w (stepW w s).1) (b:Bool):∃ w',F_q2s w s b=some w'/\VW w'/\SameB w w':=by
 simp only[F_q2s,S_q2s,Scr.den]
 rw[z6k h hs.1 hs.2]
 simp only[obind]
 by_cases c:(stepW w s).2=0
 ·have h1:=(z47 h c).2
  have hb:=hb c
  rw[y5 (by simpa using c)]
  cases b with
  | false=>exact⟨_,y6 rfl,h1,hb⟩
  | true =>
   rw[y5 dk,z6k h1 (y17 _) (y17 _)]
   simp only[obind]
   by_cases c2:(stepW (stepW w s).1 ⟨9,0,⟨0,[],0,0,0,0,0,0,0,0⟩,[],0,0,i64.wrap (((stepW w s).1.V.length:Int)-1)⟩).2=0
   ·rw[y5 (by simpa using c2)]
    exact⟨_,rfl,(z47 h1 c2).2,hb.trans (zui h1 c2)⟩
   ·rw[y6 (by simpa using c2)]
    exact⟨_,rfl,h1,hb⟩
 ·rw[y6 (by simpa using c)]
  exact⟨_,rfl,h,SameB.refl _⟩
theorem zoy (h:VW w):∃ w',iterM (fun s=>(S_q2_b1 s).den) w=some (.next w')/\VW w'/\SameB w w':=by
 obtain⟨s,e,hs⟩:=z1p (step:=fun s=>(S_q2_b1 s).den) (fun s:TWo=>s.V.length) (fun s=>VW s/\SameB w s) (fun s=>VW s/\SameB w s) (fun v hI=>by
  obtain⟨i1,i2⟩:=hI
  simp only[S_q2_b1,Scr.den]
  by_cases c:0<v.V.length
  ·rw[y6 (by simp only[y7]; omega)]
   have e9:=zbe (p:=⟨0,[],0,0,0,0,0,0,0,0⟩) c
   have z:((0:Nat):Int)=0:=rfl
   rw[z] at e9
   have el:(v.V.eraseIdx 0).length=v.V.length-1:=by rw[y5e,y6 c]
   have hm:=i1.2.2.1
   have ew:=z4h hm c
   rw[z] at ew
   simp only[F_q6n,S_q6n,Scr.den]
   rw[z6k i1 (y17 _) (y17 _),e9]
   simp only[obind]
   by_cases c0:(delivS v 0).2=0
   ·rw[y5 (by simpa using c0)]
    obtain⟨d1,d2,_⟩:=za6 i1 c0
    have hst:(stepW v ⟨9,0,⟨0,[],0,0,0,0,0,0,0,0⟩,[],0,0,0⟩).2=0:=by rw[e9]; exact c0
    have hv:=(z47 i1 hst).2
    rw[e9] at hv
    exact .inl ⟨_,rfl,⟨hv,i2.trans d1⟩,by rw[d2,el]; omega⟩
   ·rw[y6 (by simpa using c0),ew]
    refine .inl ⟨_,rfl,⟨z92 i1 0,i2.trans ⟨rfl,fun _ _=>rfl⟩⟩,?_⟩
    show (v.V.eraseIdx 0).length<_
    rw[el]; omega
  ·rw[y5 (by simp only[y7]; omega)]
   exact .inr ⟨_,rfl,i1,i2⟩) (w.V.length+1) w (y2j _) ⟨h,SameB.refl _⟩
 exact⟨s,e,hs⟩
theorem zqr (hc:c.length<=1000000):(answerS o c y).1.D.length<=1000000/\((answerS o c y).2=true->(answerS o c y).1.Q=7):=by
 unfold answerS
 split
 ·exact⟨y17 _,fun h=>by cases h⟩
 ·split
  ·exact⟨y17 _,fun h=>by cases h⟩
  ·exact⟨hc,fun _=>rfl⟩
theorem zij (h:VW w) (hi:i<w.F.B.length):(w.F.B.getD i dF).D.length<=1000000:=by
 have:=z2m (h.1.good _ (zb hi)).1
 omega
theorem zjh {s:TWo} (hv:VW v) (h:VW s) (hn:s.H.length=v.H.length) (hk:k<v.H.length) (hi:i<v.F.B.length):∃ s',(S_q2_b2 (v,(k:Int)+1) i s).den=some (.cont s')/\VW s'/\SameB s s':=by
 have hc:=zij hv hi
 obtain⟨w1,e1,h1,b1⟩:=z71 h (s:=⟨4,(k:Int)+1,⟨0,[],0,0,0,0,0,0,0,0⟩,(v.F.B.getD i dF).D,(v.F.B.getD i dF).E,0,0⟩) ⟨hc,y17 _⟩ (fun z=>zue rfl z) true
 have hk1:k<w1.H.length:=by rw[b1.1,hn]; exact hk
 have hvo:VO (noW w1 k):=(h1.2.2.2.1 k hk1).1.now
 simp only[S_q2_b2,Scr.den]
 rw[e1]
 simp only[obind]
 rw[z6n h1 ⟨om,om⟩,show ((k:Int)+1-1).toNat=k from om]
 simp only[obind]
 rw[zab hvo.smO hc]
 simp only[obind]
 obtain⟨a1,a2⟩:=zqr (o:=noW w1 k) (y:=(v.F.B.getD i dF).E) hc
 by_cases z:(answerS (noW w1 k) (v.F.B.getD i dF).D (v.F.B.getD i dF).E).2=true
 ·rw[y6 z]
  obtain⟨w2,e2,h2,b2⟩:=z71 h1 (s:=⟨5,(k:Int)+1,(answerS (noW w1 k) (v.F.B.getD i dF).D (v.F.B.getD i dF).E).1,[],0,0,0⟩) ⟨y17 _,a1⟩ (fun q=>zuh h1 hk1 (a2 z) q) false
  rw[e2]
  exact⟨_,rfl,h2,b1.trans b2⟩
 ·rw[y5 z]
  exact⟨_,rfl,h1,b1⟩
theorem zji (hv:VW v) (hk:k<v.H.length):∃ s',(S_q2_b4 (v,(k:Int)+1)).den=some (.cont (s',(k:Int)+2))/\VW s'/\SameB v s':=by
 have h2:=hv.2.1
 have hl:=hv.len
 obtain⟨a,ea,a1,a2⟩:=zm (body:=fun i s=>(S_q2_b2 (v,(k:Int)+1) i s).den) (n:=v.F.B.length) (fun _ s=>VW s/\SameB v s) (s0:=v) ⟨hv,SameB.refl _⟩ (fun i s hi hI=>by
  obtain⟨s',e,h1,b1⟩:=zjh hv hI.1 hI.2.1 hk hi
  exact⟨s',e,h1,hI.2.trans b1⟩)
 have hka:k<a.H.length:=by rw[a2.1]; exact hk
 obtain⟨b,eb,b1,b2⟩:=z71 a1 (s:=⟨6,(k:Int)+1,⟨0,[],0,0,0,0,0,0,0,0⟩,[],0,0,0⟩) ⟨y17 _,y17 _⟩ (fun _=>zug hka) false
 obtain⟨d,ed,d1,d2⟩:=zm (body:=fun i s=>(S_q2_b3 (v,(k:Int)+1) b i s).den) (n:=b.F.B.length) (fun _ s=>VW s/\SameB b s) (s0:=b) ⟨b1,SameB.refl _⟩ (fun i s hi hI=>by
  obtain⟨s',e,h1,e1⟩:=z71 hI.1 (s:=⟨8,(k:Int)+1,⟨0,[],0,0,0,0,0,0,0,0⟩,(b.F.B.getD i dF).D,(b.F.B.getD i dF).E,0,0⟩) ⟨zij b1 hi,y17 _⟩ (fun z=>zuf rfl z) true
  refine⟨s',?_,h1,hI.2.trans e1⟩
  simp only[S_q2_b3,Scr.den]
  rw[e]
  rfl)
 refine⟨d,?_,d1,(a2.trans b2).trans d2⟩
 simp only[S_q2_b4,Scr.den]
 rw[y6 (by simp only[y7]; omega),ea]
 simp only[zo]
 rw[eb]
 simp only[obind]
 rw[ed]
 simp only[zo]
 rw[wrapId om om]
 rw[show (k:Int)+1+1=(k:Int)+2 from om]
theorem zjj (h:VW w):∃ w',F_q2 w=some (w',0)/\VW w'/\SameB w w':=by
 obtain⟨a,ea,a1,a2⟩:=zoy h
 have h2:=a1.2.1
 obtain⟨s,e,hs⟩:=z1p (step:=fun s=>(S_q2_b4 s).den) (fun s:TWo×Int=>a.H.length+1-s.2.toNat) (fun s=>(VW s.1/\SameB a s.1)/\∃ k:Nat,s.2=(k:Int)+1/\k<=a.H.length) (fun s=>VW s.1/\SameB a s.1) (fun s hI=>by
  obtain⟨x,m⟩:=s
  obtain⟨⟨i1,i2⟩,k,i3,i4⟩:=hI
  simp only at i1 i2 i3 i4
  subst i3
  have hx:=i1.2.1
  have hl:=i2.1
  by_cases c:k<a.H.length
  ·obtain⟨s',e,h1,b1⟩:=zji i1 (k:=k) om
   refine .inl ⟨_,e,⟨⟨h1,i2.trans b1⟩,k+1,by show (k:Int)+2=_; omega,om⟩,?_⟩
   show a.H.length+1-((k:Int)+2).toNat<a.H.length+1-((k:Int)+1).toNat
   omega
  ·simp only[S_q2_b4,Scr.den]
   rw[y5 (by simp only[y7]; omega)]
   exact .inr ⟨_,rfl,i1,i2⟩) (a.H.length+2) (a,1) (by show a.H.length+1-(1:Int).toNat<_; omega) ⟨⟨a1,SameB.refl _⟩,0,rfl,y17 _⟩
 refine⟨s.1,?_,hs.1,a2.trans hs.2⟩
 simp only[F_q2,S_q2,Scr.den]
 rw[z44 h]
 simp only[obind]
 rw[y5 dk,ea]
 simp only[zo]
 rw[e]
 rfl
theorem zoz {p1:TPo} {f:Bool} {m:List TMe} (ep:J13.potAt t1 c y=p1) (pk:J13.PotOk t1.N p1) (hn:t1.N<=6) (hi:i<p1.A.length) (hR:RI t1 c y out i t) (hV:VW ⟨t,v.H,v.V⟩) (ho:0<=nthN out i/\nthN out i<=J13.idleV p1 i) (hm:m.length<=i):∃ t' m',(S_qd_b1 c y (p1,f) out i (t,m)).den=some (.cont (t',m'))/\RI t1 c y out (i+1) t'/\VW ⟨t',v.H,v.V⟩/\m'.length<=i+1:=by
 obtain⟨⟨a,b,d,e⟩,q1,q2,q3⟩:=J13.at18 pk hi
 have lp:=pk.2.2.2.1.1.1
 unfold J13.tot at a b d e
 simp only[S_qd_b1,Scr.den]
 by_cases z:nthN out i=0
 ·rw[y6 (show (out.getD i dF==0)=true by rw[show out.getD i dF=0 from z]; rfl)]
  exact⟨_,_,rfl,zt2 hR z,hV,om⟩
 ·rw[y5 (show ¬ (out.getD i dF==0)=true by simpa [nthN] using z)]
  have hou:0<=nthN out i/\nthN out i<=max (p1.A.getD i dF-p1.L.getD i dF-p1.P.getD i dF) 0-max (min (max (p1.A.getD i dF-p1.L.getD i dF-p1.P.getD i dF) 0) (p1.K.getD i dF-p1.L.getD i dF)) 0:=ho
  obtain⟨t',ea,hR'⟩:=zud hR z om (G:=p1.A.getD i dF) (H:=p1.L.getD i dF) (A:=p1.K.getD i dF) (U:=p1.P.getD i dF) (by rw[ep]; rfl) (by rw[ep]; rfl) (by rw[ep]; rfl) ⟨a.1,a.2,b.1,d.1,e.1⟩ hou
  have ew:i64.wrap ((i:Int)+1)=(i:Int)+1:=wrapId om om
  have e2:i64.wrap (p1.L.getD i dF-p1.K.getD i dF)=p1.L.getD i dF-p1.K.getD i dF:=wrapId om om
  have e3:i64.wrap (out.getD i dF+max (p1.L.getD i dF-p1.K.getD i dF) 0)=nthN out i+max (p1.L.getD i dF-p1.K.getD i dF) 0:=wrapId (n:=nthN out i+max (p1.L.getD i dF-p1.K.getD i dF) 0) om om
  rw[ew,e2,J13.max18,e3,J13.Ask_eq (z89 hR.ok),ea]
  simp only[obind]
  rw[za (show AllP [i<p1.L.length,i<p1.K.length] from ⟨q1,q2,trivial⟩),J13.Tell_eq (z89 hR'.ok)]
  simp only[obind]
  rw[za (show AllP [(m.length+1) * (2 * 72)<=2 ^ 48] from ⟨om,trivial⟩)]
  exact⟨_,_,rfl,hR',zub hV ea,sk⟩
theorem zp0 (h:VW v) (hc:c.length<=1000000) (h0:(J13.setM v.F c y total).2=0) (e1:(J13.setM v.F c y total).1=t1) :
  ∃ t2 m out,F_qd v.F c y total=some (t2,m,0)/\J13.PlanOk (J13.idles (J13.potAt t1 c y) (J13.potAt t1 c y).A.length) (J13.shortV (J13.potAt t1 c y)-(J13.opens (J13.potAt t1 c y) (J13.potAt t1 c y).A.length).sum) out/\RI t1 c y out v.H.length t2/\VW ⟨t2,v.H,v.V⟩:=by
 obtain⟨s1,s2,s3,_⟩:=zkl h0
 have hV:=zua h h0
 rw[e1] at s1 s2 s3 hV
 have pk:=s1.potAt s3
 have h2:=h.2.1
 have h1:=h.1.1
 have lp:=pk.2.2.2.1.1.1
 obtain⟨out,eo,hP⟩:=J13.Plan_spec pk om
 have lo:out.length=v.H.length:=by
  have:=hP.1
  rw[J13.idles_length] at this
  omega
 obtain⟨s,e,hR,hV2,hm⟩:=zm (body:=fun i s=>(S_qd_b1 c y (J13.potAt t1 c y,true) out i s).den) (n:=out.length) (fun i s=>RI t1 c y out i s.1/\VW ⟨s.1,v.H,v.V⟩/\s.2.length<=i) (s0:=(t1,([]:List TMe))) ⟨zqp s1 s3 out,hV,yf _⟩ (fun i s hi hI=>by
  obtain⟨i1,i2,i3⟩:=hI
  have hg:i<(J13.potAt t1 c y).A.length:=om
  have hb:=hP.2.1 i (by rw[J13.idles_length]; exact hg)
  rw[J13.idles_at hg] at hb
  obtain⟨t',m',k1,k2,k3,k4⟩:=zoz (v:=v) (f:=true) rfl pk om hg i1 i2 hb i3
  exact⟨(t',m'),k1,k2,k3,k4⟩)
 rw[lo] at hR
 refine⟨s.1,s.2,out,?_,hP,hR,hV2⟩
 simp only[F_qd,S_qd,Scr.den]
 rw[J13.Set_eq (z89 h.1) hc]
 simp only[obind]
 rw[y5 (by simpa using h0),e1,J13.Pot_eq s1.small,z43 s3]
 simp only[obind]
 rw[eo]
 simp only[obind]
 rw[e]
 simp only[zo]
 rw[za (show AllP [s.2.length<2 ^ 63] from ⟨om,trivial⟩)]
theorem zp1 (h:VW w) (hb:Bd 20 w) (hg:good c=true) (hy:0<=y/\y<=99) (ht:0<=total/\total<=1000) :
  ∃ w1 v t2 u out,(SameB w w1/\CI w1 v w1.H.length)/\(J13.setM v.F c y total).2=0/\J13.PlanOk (J13.idles (J13.potAt (J13.setM v.F c y total).1 c y) (J13.potAt (J13.setM v.F c y total).1 c y).A.length) (J13.shortV (J13.potAt (J13.setM v.F c y total).1 c y)-(J13.opens (J13.potAt (J13.setM v.F c y total).1 c y) (J13.potAt (J13.setM v.F c y total).1 c y).A.length).sum) out /\
   RI (J13.setM v.F c y total).1 c y out v.H.length t2/\CI ⟨t2,v.H,[]⟩ u v.H.length/\F_q42 w c y total=some (u,0):=by
 have hml:=hb.1.1
 have hcl:=z2m hg
 obtain⟨w1,v,⟨k1,k2,_,_,k5⟩,ec,hc⟩:=zkj h hb fun w1 h _=>⟨by have:=h.1; omega,fun k hk=>by have:=h.1; have:=h.2 k hk; omega⟩
 have hv:=hc.vw
 have hpl:v.F.B.length<=40:=by rw[hc.len.2.1]; have:=k5.1; omega
 have h0:=zu8 (x:=total) hv.1 hg hy om om
 obtain⟨t2,m,out,er,hP,hR,hV2⟩:=zp0 hv om h0 rfl
 rw[hc.mail] at hV2
 have hl2:t2.B.length<=41:=by
  rw[hR.len]
  have:=zie v.F c y total
  omega
 have hrec:∀ k,k<v.H.length->(jAt v k).Ab.length<=120:=fun k hk=>by
  have:=(hc.done k (by rw[<- hc.jl]; exact hk)).2.2.2
  have:=k5.1
  have:=k5.2 k (by rw[<- hc.jl]; exact hk)
  omega
 have hB:Bd 120 ⟨t2,v.H,[]⟩:=⟨⟨y17 _,by show t2.B.length<=120; omega⟩,hrec⟩
 obtain⟨v1,u,⟨_,_,_,j4,_⟩,eu,hd⟩:=zkj hV2 hB fun x _ hx=>by
  rw[hx rfl]
  exact⟨by show t2.B.length<60; omega,fun k hk=>by
   have:=hrec k hk
   show (jAt v k).Ab.length+2 * t2.B.length<390
   omega⟩
 obtain rfl:=j4 rfl
 refine⟨w1,v,t2,u,out,⟨k2,hc⟩,h0,hP,hR,hd,?_⟩
 simp only[F_q42,S_q42,Scr.den]
 rw[ec]
 simp only[obind]
 rw[y5 dk,er]
 simp only[obind]
 rw[y5 dk,hc.mail,eu]
 rfl
theorem z8k {x:TWo} (h:SameB x v) (c:Y8) (y:Int):usedW v c y=usedW x c y:=by
 unfold usedW
 rw[h.1]
 refine z48 fun q hq=>?_
 unfold usedK
 rw[h.2 q hq]
theorem zbg (h:VW w) (hp:J13.hasP w.F.B c y=true):F_q2x w c y=some ((J13.potAt w.F c y).W,J13.outV (J13.potAt w.F c y),heldW w c y,usedW w c y):=by
 have hm:J13.potAt w.F c y∈w.F.B:=zb (J13.pix_lt hp).1
 have hcy:=J13.potAt_cy hp
 have hs:=zcr h hm
 rw[hcy.1,hcy.2] at hs
 simp only[F_q2x,S_q2x,Scr.den,zd]
 rw[z6x,z43 hp]
 simp only[obind]
 rw[z44 h,zk (gs:=[(!true)=false]) ⟨rfl,trivial⟩]
 simp only[obind]
 rw[y5 dk,hs]
 rfl
theorem zgj (h:VW w) (c:Y8) (y:Int):∃ a b d,F_q2x w c y=some (a,b,d,usedW w c y):=by
 by_cases hp:J13.hasP w.F.B c y=true
 ·exact⟨_,_,_,zbg h hp⟩
 ·rw[zox h hp]
  refine⟨0,0,0,?_⟩
  simp only[F_q2x,S_q2x,Scr.den,zd]
  rw[z6x,show J13.potM w.F c y=(⟨[],0,0,[],[],[],[]⟩,false) from y5 hp]
  simp only[obind]
  rw[zp (gs:=[_=false]) (fun g=>by have:=g.1; cases this)]
  simp only[obind]
  rw[y6 dk]
theorem zt3 (h:VW u) (hp:J13.hasP u.F.B c y=true):F_q43 u c y=some (max (usedW u c y-(J13.potAt u.F c y).W) 0,max (J13.outV (J13.potAt u.F c y)-(J13.potAt u.F c y).W) 0):=by
 have hm:J13.potAt u.F c y∈u.F.B:=zb (J13.pix_lt hp).1
 have hcy:=J13.potAt_cy hp
 obtain⟨f1,f2,f3,f4⟩:=z5c h hm
 rw[hcy.1,hcy.2] at f3
 simp only[F_q43,S_q43,Scr.den,zd]
 rw[J13.Pot_eq h.1.small,z43 hp]
 simp only[obind]
 rw[z6m h,zk (gs:=[(!true)=false]) ⟨rfl,trivial⟩]
 simp only[obind]
 rw[y5 dk,zso h hp]
 simp only[obind]
 rw[f2.2.2.1]
 simp only[obind]
 rw[wrapId (n:=usedW u c y-(J13.potAt u.F c y).W) om om,J13.max18]
 rfl
variable {a b:Int}
theorem zm1 (hu:VW u) (hun:0<b->∀ k,k<u.H.length->unusedV (noW u k) [49] 12=0) (hi:i<u.H.length):(S_qj_b1 (u,e) (a,b) i ()).den=some (.cont ()):=by
 have hl:=hu.len
 have ew:i64.wrap ((i:Int)+1)=(i:Int)+1:=wrapId om om
 simp only[S_qj_b1,Scr.den]
 rw[ew,z6n hu ⟨om,om⟩,show ((i:Int)+1-1).toNat=i from om]
 simp only[obind,zd,zg]
 rw[z6l]
 by_cases hb:0<b
 ·rw[zk (gs:=[decide (b>0)=true,((0:Int) != 0)=false]) ⟨yd hb,rfl,trivial⟩,hun hb i hi]
  simp only[obind]
  rw[y5 sj]
 ·rw[zp (gs:=[decide (b>0)=true,((0:Int) != 0)=false]) (fun g=>hb (y1z g.1))]
  simp only[obind]
  rw[y5 sj]
theorem zm2 (hu:VW u) (hun:0<b->∀ k,k<u.H.length->unusedV (noW u k) [49] 12=0) (hi:i<u.F.B.length):(S_qj_b2 (u,e) (a,b) i ()).den=some (.cont ()):=by
 have hm:u.F.B.getD i dF∈u.F.B:=zb hi
 obtain⟨f1,_⟩:=z45 hu.1 hm
 have pk:=hu.1.potAt f1
 rw[(z45 hu.1 hm).2] at pk
 have lp:=pk.2.2.2.1.1.1
 have h2:=hu.2.1
 have hl:=hu.len
 simp only[S_qj_b2,Scr.den]
 split
 ·rfl
 ·obtain⟨x,ex,_⟩:=zm (body:=fun k s=>(S_qj_b1 (u,e) (a,b) k s).den) (n:=(u.F.B.getD i dF).A.length) (fun _ _=>True) (s0:=()) trivial (fun k s hk _=>⟨(),zm1 hu hun om,trivial⟩)
  rw[za ⟨om,trivial⟩,ex]
  rfl
theorem z96 (a:List Int):F_qj a=some true:=by
 obtain⟨s0,e0,t0⟩:=zhr a
 obtain⟨n,s1,e1,t1,hn⟩:=z2g (lo:=1) (hi:=3) t0 om om om
 obtain⟨w,s2,e2,t2,hw,hwn,hb⟩:=zqi (n:=n) (m:=20) om om t1
 have hb0:Bd 20 w:=hb
 obtain⟨total,s3,e3,t3,ht1,ht2⟩:=z2e (n:=300) t2 om om
 obtain⟨x,ex,hx,sx⟩:=zjj hw
 obtain⟨w1,v,tt,u,out,⟨k2,hc⟩,h0,hP,hR,hd,eu⟩:=zp1 hw hb0 (c:=[49]) (y:=12) (total:=total) zu4 dk om
 obtain⟨r1,r2,r3,r4⟩:=zm0 hc ht1 h0 rfl hP hR hd
 have hu:=hd.vw
 have hus:usedW u [49] 12=usedW x [49] 12:=by
  rw[z8k (x:=⟨tt,v.H,[]⟩) hd.same,z8k sx]
  have:=z8k (k2.trans hc.same) [49] 12
  exact this
 have hun:0<max (J13.outV (J13.potAt u.F [49] 12)-total) 0->∀ k,k<u.H.length->unusedV (noW u k) [49] 12=0:=fun g k hk=>by
  refine ((hu.2.2.2.1 k hk).1.now.unused [49] 12).trans ?_
  exact r4 om k hk
 have hm:J13.potAt u.F [49] 12∈u.F.B:=zb (J13.pix_lt r1).1
 obtain⟨_,_,f3,_⟩:=z5c hu hm
 have hcy:=J13.potAt_cy r1
 rw[hcy.1,hcy.2] at f3
 obtain⟨b1,b2,b3,eb⟩:=zgj hx [49] 12
 have eR:=zt3 hu r1
 rw[r2,<- r3] at eR
 obtain⟨z,ez,_⟩:=zm (body:=fun i s=>(S_qj_b2 (u,0) (max (J13.outV (J13.potAt u.F [49] 12)-total) 0,max (J13.outV (J13.potAt u.F [49] 12)-total) 0) i s).den) (n:=u.F.B.length) (fun _ _=>True) (s0:=()) trivial (fun i s hi _=>⟨(),zm2 hu hun hi,trivial⟩)
 simp only[F_qj,S_qj,Scr.den,e0,e1,obind]
 rw[e2]
 simp only[obind]
 rw[ex]
 simp only[obind]
 rw[e3]
 simp only[obind]
 rw[eu]
 simp only[obind,zd]
 rw[zje hu,zk (gs:=[_=false]) ⟨dk,trivial⟩]
 simp only[obind]
 rw[hd.mail,y5 dk,zbg hu r1]
 simp only[obind]
 rw[eb]
 simp only[obind]
 rw[eR]
 simp only[obind]
 rw[r2,<- hus,wrapId (n:=usedW u [49] 12-total) om om,y5 (by
  rw[show (if usedW u [49] 12-total>0 then usedW u [49] 12-total else 0)=max (usedW u [49] 12-total) 0 from J13.max18' _,<- r3]
  simp),ez]
 simp only[zo]
 rw[J13.awake18]
 rfl
end Go.Proofs.YtlhikmklpelceaaGreatDoor
