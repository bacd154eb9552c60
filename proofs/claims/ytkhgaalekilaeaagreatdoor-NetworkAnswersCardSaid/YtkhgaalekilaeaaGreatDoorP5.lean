/- A part of the proof: plain laws of what the functions compute. No condition. -/
import Derived.Test.YtkhgaalekilaeaaGreatDoorP4
namespace Go.Proofs.YtkhgaalekilaeaaGreatDoor
open Go Go.TA
open Go.IntKind (i64)
theorem zab {σ ρ:Type} {body:Nat->σ->Option (Step σ ρ)} {n:Nat} {c:ρ} (f:Nat->σ) (p:Nat->Prop) (hy:∀ i,i<n->p i->body i (f i)=some (.cont (f (i+1)))) (hn:∀ i,i<n->¬ p i->body i (f i)=some (.ret c)) :
  ∀ (k i:Nat),i+k=n->((∀ j,i<=j->j<n->p j)->rangeM body k i (f i)=some (.next (f n)))/\((¬ ∀ j,i<=j->j<n->p j)->rangeM body k i (f i)=some (.ret c))
 | 0,i,hk=>⟨fun _=>by rw[show i=n from om]; rfl,fun h=>absurd (fun j h1 h2=>om) h⟩
 | k+1,i,hk=>by
  obtain⟨h1,h2⟩:=zab f p hy hn k (i+1) om
  by_cases hp:p i
  ·simp only[rangeM,hy i om hp]
   exact⟨fun h=>h1 fun j a b=>h j om b,fun h=>h2 fun h'=>h fun j a b=>by
    by_cases e:j=i
    ·rw[e]; exact hp
    ·exact h' j om b⟩
  ·simp only[rangeM,hn i om hp]
   exact⟨fun h=>absurd (h i om om) hp,fun _=>trivial⟩
variable {n:Nat} {ρ σ:Type}
theorem zbj {body:Nat->σ->Option (Step σ ρ)} {c:ρ} (f:Nat->σ) (p:Nat->Prop) (hy:∀ i,i<n->p i->body i (f i)=some (.cont (f (i+1)))) (hn:∀ i,i<n->¬ p i->body i (f i)=some (.ret c)) :
  ((∀ j,j<n->p j)->rangeM body n 0 (f 0)=some (.next (f n)))/\((¬ ∀ j,j<n->p j)->rangeM body n 0 (f 0)=some (.ret c)):=by
 obtain⟨h1,h2⟩:=zab f p hy hn n 0 (yo n)
 exact⟨fun h=>h1 fun j _ b=>h j b,fun h=>h2 fun h'=>h fun j b=>h' j om b⟩
theorem zev {body:Nat->Unit->Option (Step Unit Int)} {n:Nat} {p:Nat->Prop} (hy:∀ i,i<n->p i->body i ()=some (.cont ())) (hn:∀ i,i<n->¬ p i->body i ()=some (.ret (i:Int))) :
  ∀ (k i:Nat),i+k=n->(¬ ∀ j,i<=j->j<n->p j)->∃ v:Int,0<=v/\rangeM body k i ()=some (.ret v)
 | 0,i,hk,h=>absurd (fun j h1 h2=>om) h
 | k+1,i,hk,h=>by
  by_cases hp:p i
  ·simp only[rangeM,hy i om hp]
   exact zev hy hn k (i+1) om fun h'=>h fun j a b=>by
    by_cases e:j=i
    ·rw[e]; exact hp
    ·exact h' j om b
  ·simp only[rangeM,hn i om hp]
   exact⟨_,om,rfl⟩
theorem zqq {body:Nat->Unit->Option (Step Unit Int)} {p:Nat->Prop} (hy:∀ i,i<n->p i->body i ()=some (.cont ())) (hn:∀ i,i<n->¬ p i->body i ()=some (.ret (i:Int))) (h:¬ ∀ j,j<n->p j) :
  ∃ v:Int,0<=v/\rangeM body n 0 ()=some (.ret v):=zev hy hn n 0 (yo n) fun h'=>h fun j hj=>h' j (y1g _) hj
variable {t:TTr} {c:Y8} {y:Int}
theorem z63 (h:¬ J13.hasP t.E c y=true):(J13.potM t c y).2=false:=by
 unfold J13.potM
 rw[y7 h]
def ToldR (t:TTr) (k:Nat) (r:TRi):Prop:=J13.hasP t.E r.B r.D=true/\r.A<=nthN (J13.potAt t r.B r.D).A k/\r.G<=nthN (J13.potAt t r.B r.D).G k
def HeardP (b:TOf) (k:Nat) (p:TPo):Prop:=nthN p.H k<=(rightV b.L p.B p.D).S
variable {a b:TOf}
theorem z6w {k:Nat}:KnownJ t a b k↔(∀ i,i<a.L.length->ToldR t k (a.L.getD i dF))/\∀ i,i<t.E.length->HeardP b k (t.E.getD i dF):=by
 refine⟨fun h=>⟨fun i hi=>h.1 _ (z8 hi),fun i hi=>h.2 _ (z8 hi)⟩,fun h=>⟨fun r hr=>?_,fun p hp=>?_⟩⟩
 ·obtain⟨i,hi,rfl⟩:=z13 hr
  exact h.1 i hi
 ·obtain⟨i,hi,rfl⟩:=z13 hp
  exact h.2 i hi
open Classical in
theorem zh9 (ht:J13.TOk t) {k:Nat} (hk:(k:Int)<t.O) (hn:a.Q=(k:Int)+1):F_q9 t a b=some (decide (KnownJ t a b k)):=by
 have h6:=ht.1
 have ew:i64.wrap (a.Q-1)=(k:Int):=by rw[hn,wrapId om om]; omega
 simp only[F_q9,S_q9,Scr.den]
 obtain⟨g1,g2⟩:=zi (body:=fun i s=>(S_q9_b1 t a i s).den) (n:=a.L.length) (c:=false) (fun i=>ToldR t k (a.L.getD i dF)) (fun i hi h=>by
  obtain⟨h1,h2,h3⟩:=h
  have hp:=ht.potAt h1
  have hg:=hp.2.2.2.1.1.1
  have ha:=hp.2.2.2.1.2.2.1.1
  simp only[S_q9_b1,Scr.den,J13.Pot_eq ht.small,z1t h1,obind,z9,ew,yg]
  unfold nthN at h2 h3
  rw[z7 ⟨fun _=>om,fun _=>om,fun _=>om,fun _=>om,trivial⟩,y7 (by simp only[y29,ye,yu,y46,y9]; omega)]) (fun i hi h=>by
  by_cases h1:J13.hasP t.E (a.L.getD i dF).B (a.L.getD i dF).D=true
  ·have hp:=ht.potAt h1
   have hg:=hp.2.2.2.1.1.1
   have ha:=hp.2.2.2.1.2.2.1.1
   have h2:¬ (_/\_):=fun h2=>h ⟨h1,h2⟩
   simp only[S_q9_b1,Scr.den,J13.Pot_eq ht.small,z1t h1,obind,z9,ew,yg]
   unfold nthN at h2
   rw[z7 ⟨fun _=>om,fun _=>om,fun _=>om,fun _=>om,trivial⟩,y8 (by simp only[y29,ye,yu,y46,y9]; omega)]
  ·simp only[S_q9_b1,Scr.den,J13.Pot_eq ht.small,z63 h1,obind,z9]
   rw[z7 ⟨fun h=>(by simp[AllP] at h),fun h=>(by simp[AllP] at h),fun h=>(by simp[AllP] at h),fun h=>(by simp[AllP] at h),trivial⟩,y8 sj])
 by_cases h1:∀ i,i<a.L.length->ToldR t k (a.L.getD i dF)
 ·rw[g1 h1]
  simp only[zb]
  obtain⟨g3,g4⟩:=zi (body:=fun i s=>(S_q9_b2 t a b i s).den) (n:=t.E.length) (c:=false) (fun i=>HeardP b k (t.E.getD i dF)) (fun i hi h=>by
   have hp:=(ht.2.2 i hi).1
   have hh:=hp.2.2.2.1.2.1.1
   simp only[S_q9_b2,Scr.den,z2r,obind,ew,yg]
   unfold HeardP nthN at h
   rw[Gb,y7 (by simp only[y9]; omega)]) (fun i hi h=>by
   have hp:=(ht.2.2 i hi).1
   have hh:=hp.2.2.2.1.2.1.1
   simp only[S_q9_b2,Scr.den,z2r,obind,ew,yg]
   unfold HeardP nthN at h
   rw[Gb,y8 (by simp only[y9]; omega)])
  by_cases h2:∀ i,i<t.E.length->HeardP b k (t.E.getD i dF)
  ·rw[g3 h2,yb (z6w.2 ⟨h1,h2⟩)]
   rfl
  ·rw[g4 h2,yc fun h=>h2 (z6w.1 h).2]
   rfl
 ·rw[g2 h1,yc fun h=>h1 (z6w.1 h).1]
  rfl
variable {f:Nat->TOf}
open Classical in
theorem zcw (ht:J13.TOk t) (hn:(n:Int)=t.O) (m:TMe):F_q39 t (ups n f) m=some (decide (MsgOk t f m)):=by
 by_cases hm:MsgOk t f m
 ·rw[zeo ht hn hm,yb hm]
 rw[yc hm]
 have h6:=ht.1
 by_cases h1:J13.hasP t.E m.B m.D=true
 ·have hp:=ht.potAt h1
  have hg:=hp.2.2.2.1.1.1
  have ha:=hp.2.2.2.1.2.2.1.1
  simp only[F_q39,S_q39,Scr.den,J13.Pot_eq ht.small,z1t h1,obind,z41,zd]
  rw[y7 dk]
  by_cases h0:m.Aa=0
  ·have hx:¬ ToOk t m:=fun k=>hm ⟨h1,.inl ⟨h0,k⟩⟩
   rw[y8 (by simp[h0])]
   by_cases q1:1<=m.To/\m.To<=t.O
   ·have ew:i64.wrap (m.To-1)=m.To-1:=wrapId om om
    rw[ew,yb q1,Gg]
    simp only[obind]
    by_cases q2:0<=m.A/\m.A<=(J13.potAt t m.B m.D).A.getD (m.To-1).toNat dF
    ·rw[yb q2,Gg]
     simp only[obind]
     rw[z7 ⟨fun _=>om,fun _=>om,fun _=>om,fun _=>om,trivial⟩]
     refine y18 some (y1x.2 fun hb=>hx ?_)
     simp only[yj,y9,y15,true_and] at hb
     exact⟨q1,q2,hb.1.1,hb.1.2,hb.2⟩
    ·rw[yc q2,Gh]
     simp only[obind]
     rw[z7 ⟨fun _=>om,fun _=>om,fun h=>(by simp[AllP] at h),fun h=>(by simp[AllP] at h),trivial⟩]
     rfl
   ·rw[yc q1,Gh]
    simp only[obind]
    rw[Gh]
    simp only[obind]
    rw[z7 ⟨fun h=>(by simp[AllP] at h),fun h=>(by simp[AllP] at h),fun h=>(by simp[AllP] at h),fun h=>(by simp[AllP] at h),trivial⟩]
    rfl
  ·have hx:¬ FromOk t f m:=fun k=>hm ⟨h1,.inr ⟨h0,k⟩⟩
   rw[y7 (by simpa using h0)]
   by_cases q1:(1<=m.Aa/\m.Aa<=t.O)/\m.To=0
   ·have ew:i64.wrap (m.Aa-1)=m.Aa-1:=wrapId om om
    rw[ew,yb q1.1,q1.2,z2n (show (m.Aa-1).toNat<n from om),z2r,Gg]
    simp only[obind]
    rw[Gg]
    simp only[obind]
    by_cases q2:0<=m.S/\m.S<=(rightV (f (m.Aa-1).toNat).L m.B m.D).S
    ·rw[yb q2,Gg]
     simp only[obind]
     rw[z7 ⟨fun _=>om,fun _=>by rw[zr]; omega,trivial⟩]
     refine y18 some (y1x.2 fun hb=>hx ?_)
     simp only[yj,y9,y15] at hb
     exact⟨q1.1,q1.2,q2,hb.1.1.2,hb.1.2,hb.2⟩
    ·rw[yc q2,Gh]
     simp only[obind]
     rw[z7 ⟨fun _=>om,fun _=>by rw[zr]; omega,trivial⟩]
     rfl
   ·have hb:(decide (1<=m.Aa/\m.Aa<=t.O)&&(m.To==0))=false:=by
     rw[y1x]
     intro hb
     simp only[yj,y9,y15] at hb
     exact q1 hb
    rw[hb,Gh]
    simp only[obind]
    rw[Gh]
    simp only[obind]
    rw[Gh]
    simp only[obind]
    rw[z7 ⟨fun h=>(by simp[AllP] at h),fun h=>(by simp[AllP] at h),trivial⟩]
    rfl
 ·simp only[F_q39,S_q39,Scr.den,J13.Pot_eq ht.small,z63 h1,obind]
  rw[y8 dk]
def RightJ (w:TWo) (i:Nat):Prop:=VJ (jAt w i)/\(jAt w i).Z=(i:Int)+1
def ShW (w:TWo):Prop:=J13.BSm w.K/\(w.J.length<=1000/\∀ j∈w.J,ShR j.M)/\w.N.length<=1000
variable {w:TWo} {i:Nat}
theorem ShW.j (h:ShW w) (hi:i<w.J.length):ShR (jAt w i).M:=h.2.1.2 _ (z8 hi)
theorem zns (hs:ShW w):((∀ i,i<w.J.length->RightJ w i)->F_qb w=some (ups w.J.length (noW w),ups w.J.length (stW w),true))/\((¬ ∀ i,i<w.J.length->RightJ w i)->∃ a b,F_qb w=some (a,b,false)):=by
 have hl:=hs.2.1.1
 simp only[F_qb,S_qb,Scr.den]
 obtain⟨g1,g2⟩:=zbj (body:=fun i s=>(S_qb_b1 w i s).den) (n:=w.J.length) (c:=(([]:List TOf),([]:List TOf),false)) (fun i=>(ups i (noW w),ups i (stW w))) (RightJ w) (fun i hi h=>by
  obtain⟨h1,h2⟩:=h
  simp only[S_qb_b1,Scr.den]
  rw[show w.J.getD i dF=jAt w i from rfl,z4d h1]
  simp only[obind]
  rw[z8j h1]
  simp only[obind,z9]
  rw[h2,wrapId (n:=(i:Int)+1) om om,y7 sj,z7 ⟨by rw[zr]; omega,by rw[zr]; omega,trivial⟩,z40,z40]
  rfl) (fun i hi h=>by
  simp only[S_qb_b1,Scr.den]
  rw[show w.J.getD i dF=jAt w i from rfl,zh8 (hs.j hi)]
  simp only[obind]
  rw[znr (hs.j hi)]
  simp only[obind,z9]
  rw[wrapId (n:=(i:Int)+1) om om,y8]
  by_cases h1:VJ (jAt w i)
  ·have h2:(jAt w i).Z≠(i:Int)+1:=fun k=>h ⟨h1,k⟩
   simp[h2]
  ·rw[z6v h1]
   simp)
 refine⟨fun h=>?_,fun h=>⟨[],[],?_⟩⟩
 ·have e:=g1 h
  have e:rangeM (fun i s=>(S_qb_b1 w i s).den) w.J.length 0 (([]:List TOf),([]:List TOf))=_:=e
  rw[e]
  simp only[zb]
  rw[z7 ⟨by rw[zr]; omega,trivial⟩,z7 ⟨by rw[zr]; omega,trivial⟩]
 ·have e:=g2 h
  have e:rangeM (fun i s=>(S_qb_b1 w i s).den) w.J.length 0 (([]:List TOf),([]:List TOf))=_:=e
  rw[e]
  rfl
theorem zqr:VW w↔(J13.TOk w.K/\(w.J.length:Int)=w.K.O/\w.N.length<=200)/\(∀ i,i<w.J.length->RightJ w i)/\(∀ i,i<w.J.length->KnownJ w.K (noW w i) (stW w i) i)/\∀ i,i<w.N.length->MsgOk w.K (stW w) (w.N.getD i dF):=by
 refine⟨fun h=>⟨⟨h.1,h.2.1,h.2.2.1⟩,fun i hi=>⟨(h.2.2.2.1 i hi).1,(h.2.2.2.1 i hi).2.1⟩,fun i hi=>(h.2.2.2.1 i hi).2.2,fun i hi=>h.2.2.2.2 _ (z8 hi)⟩,fun h=>⟨h.1.1,h.1.2.1,h.1.2.2,fun i hi=>⟨(h.2.1 i hi).1,(h.2.1 i hi).2,h.2.2.1 i hi⟩,fun m hm=>?_⟩⟩
 obtain⟨i,hi,rfl⟩:=z13 hm
 exact h.2.2.2 i hi
open Classical in
theorem z2o (hs:ShW w):F_qd w=some (decide (VW w)):=by
 have hs':=hs
 by_cases hw:VW w
 ·rw[z2w hw,yb hw]
 rw[yc hw]
 simp only[F_qd,S_qd,Scr.den,J13.Valid_eq hs.1.small,obind,z9]
 by_cases h1:J13.TOk w.K/\(w.J.length:Int)=w.K.O/\w.N.length<=200
 ·obtain⟨ht,h2,h3⟩:=h1
  have h6:=ht.1
  rw[yb ht,y7 (by simp[h2]; omega)]
  obtain⟨s1,s2⟩:=zns hs
  by_cases hj:∀ i,i<w.J.length->RightJ w i
  ·rw[s1 hj]
   simp only[obind]
   rw[y7 dk]
   obtain⟨g1,g2⟩:=zi (body:=fun i s=>(S_qd_b1 w (ups w.J.length (noW w),ups w.J.length (stW w),true) i s).den) (n:=w.J.length) (c:=false) (fun i=>KnownJ w.K (noW w i) (stW w i) i) (fun i hi h=>by
    simp only[S_qd_b1,Scr.den]
    rw[z2n hi,z2n hi,zh9 ht om (show (noW w i).Q=_ from (zfz (hj i hi).1).trans (hj i hi).2),yb h]
    simp only[obind]
    rw[z7 ⟨by rw[zr]; exact hi,trivial⟩,y7 dk]) (fun i hi h=>by
    simp only[S_qd_b1,Scr.den]
    rw[z2n hi,z2n hi,zh9 ht om (show (noW w i).Q=_ from (zfz (hj i hi).1).trans (hj i hi).2),yc h]
    simp only[obind]
    rw[z7 ⟨by rw[zr]; exact hi,trivial⟩,y8 dk])
   rw[zr]
   by_cases hk:∀ i,i<w.J.length->KnownJ w.K (noW w i) (stW w i) i
   ·rw[g1 hk]
    simp only[zb]
    have hm:¬ ∀ i,i<w.N.length->MsgOk w.K (stW w) (w.N.getD i dF):=fun hm=>hw (zqr.2 ⟨⟨ht,h2,h3⟩,hj,hk,hm⟩)
    have hx:∃ v:Int,0<=v/\F_qy w.N w (ups w.J.length (stW w))=some v:=by
     simp only[F_qy,S_qy,Scr.den]
     obtain⟨v,hv,e⟩:=zqq (body:=fun i s=>(S_qy_b1 w.N w (ups w.J.length (stW w)) i s).den) (n:=w.N.length) (p:=fun i=>MsgOk w.K (stW w) (w.N.getD i dF)) (fun i hi h=>by
      simp only[S_qy_b1,F_q3w,S_q3w,Scr.den]
      rw[zcw ht h2,yb h]
      rfl) (fun i hi h=>by
      simp only[S_qy_b1,F_q3w,S_q3w,Scr.den]
      rw[zcw ht h2,yc h]
      rfl) hm
     rw[e]
     exact⟨v,hv,rfl⟩
    obtain⟨v,hv,e⟩:=hx
    simp only[F_q51,S_q51,Scr.den,e,obind]
    rw[yb (show v>=0 from hv)]
    rfl
   ·rw[g2 hk]
    rfl
  ·obtain⟨a,b,e⟩:=s2 hj
   rw[e]
   rfl
 ·rw[y8]
  by_cases ht:J13.TOk w.K
  ·rw[yb ht]
   by_cases h2:(w.J.length:Int)=w.K.O
   ·have h3:¬ w.N.length<=200:=fun h3=>h1 ⟨ht,h2,h3⟩
    simp[h2]
    omega
   ·simp[h2]
  ·rw[yc ht]
   simp
open Classical in
theorem z88 (ht:J13.TOk w.K) (hn:(n:Int)=w.K.O) (m:TMe):F_q3a w m (ups n f)=some (decide (MsgOk w.K f m)):=by
 by_cases hm:MsgOk w.K f m
 ·rw[z8u ht hn hm,yb hm]
 rw[yc hm]
 have h6:=ht.1
 by_cases h1:J13.hasP w.K.E m.B m.D=true
 ·have hp:=ht.potAt h1
  have hg:=hp.2.2.2.1.1.1
  have ha:=hp.2.2.2.1.2.2.1.1
  simp only[F_q3a,S_q3a,Scr.den,z20,z1t h1,obind,zd,z9]
  rw[y7 dk]
  by_cases h0:m.Aa=0
  ·have hx:¬ ToOk w.K m:=fun k=>hm ⟨h1,.inl ⟨h0,k⟩⟩
   rw[y8 (by simp[h0])]
   by_cases q1:(1<=m.To/\m.To<=w.K.O)/\m.S=0/\m.P=0
   ·have ew:i64.wrap (m.To-1)=m.To-1:=wrapId om om
    rw[ew,y7 (by simp[q1.2.1,q1.2.2,zr]; omega),z7 ⟨fun _=>om,fun _=>om,fun _=>om,fun _=>om,trivial⟩]
    refine y18 some (y1x.2 fun hb=>hx ?_)
    simp only[yj,y9] at hb
    exact⟨q1.1,⟨hb.1.1.1,hb.1.1.2⟩,⟨hb.1.2,hb.2⟩,q1.2⟩
   ·rw[y8 (by
     simp only[ye,y9,y1j,zr]
     omega)]
  ·have hx:¬ FromOk w.K f m:=fun k=>hm ⟨h1,.inr ⟨h0,k⟩⟩
   rw[y7 (by simpa using h0)]
   by_cases q1:(1<=m.Aa/\m.Aa<=w.K.O)/\m.To=0/\m.A=0/\m.G=0/\0<=m.P/\m.P<=1000000000000000
   ·have ew:i64.wrap (m.Aa-1)=m.Aa-1:=wrapId om om
    obtain⟨q0,q2,q3,q4,q5⟩:=q1
    rw[y7 (by simp[q2,q3,q4,zr]; omega),ew,yo,z2n (show (m.Aa-1).toNat<n from om),z1i]
    by_cases q6:0<=m.S
    ·rw[ze (by simp[AllP]; omega)]
     simp only[obind]
     rw[z7 ⟨fun _=>om,fun _=>by rw[zr]; omega,fun _=>by rw[zr]; omega,trivial⟩]
     refine y18 some (y1x.2 fun hb=>hx ?_)
     simp only[yj,y9] at hb
     exact⟨q0,q2,hb,q5,q3,q4⟩
    ·have q7:decide (m.S>=0)=false:=yc om
     rw[q7,Gh]
     simp only[obind]
     rw[z7 ⟨fun h=>(by simp[AllP] at h),fun h=>(by simp[AllP] at h),fun h=>(by simp[AllP] at h),trivial⟩]
     rfl
   ·rw[y8 (by
     simp only[ye,y9,y1j,zr]
     omega)]
 ·simp only[F_q3a,S_q3a,Scr.den,z20,z63 h1,obind]
  rw[y8 dk]
open Classical in
theorem z2x (hs:ShW w):F_q0 w=some (decide (VW w)):=by
 by_cases hw:VW w
 ·rw[z2c hw,yb hw]
 rw[yc hw]
 simp only[F_q0,S_q0,Scr.den,J13.r13_Valid_eq hs.1.small,obind,z9]
 by_cases h1:J13.TOk w.K/\(w.J.length:Int)=w.K.O/\w.N.length<=200
 ·obtain⟨ht,h2,h3⟩:=h1
  have h6:=ht.1
  rw[yb ht,y7 (by simp[h2]; omega)]
  obtain⟨s1,s2⟩:=zbj (body:=fun i s=>(S_q0_b3 w i s).den) (n:=w.J.length) (c:=false) (fun i=>ups i (stW w)) (fun i=>RightJ w i/\KnownJ w.K (noW w i) (stW w i) i) (fun i hi h=>by
   obtain⟨⟨q1,q2⟩,q3⟩:=h
   simp only[S_q0_b3,Scr.den]
   rw[show w.J.getD i dF=jAt w i from rfl,q2,wrapId (n:=(i:Int)+1) om om,y7 sj,z72 q1]
   simp only[obind]
   rw[y7 dk,z7 ⟨by rw[zr]; omega,trivial⟩]
   obtain⟨u,e,_⟩:=zq (body:=fun k s=>(S_q0_b1 w i (nowJ (jAt w i),stbJ (jAt w i),true) k s).den) (n:=(nowJ (jAt w i)).L.length) (fun _ _=>True) (s0:=()) trivial (fun k u hk _=>by
    obtain⟨z1,z2,z3⟩:=q3.1 _ (z8 hk)
    have hp:=ht.potAt z1
    have hg:=hp.2.2.2.1.1.1
    have ha:=hp.2.2.2.1.2.2.1.1
    simp only[S_q0_b1,Scr.den,z20]
    unfold nthN at z2 z3
    rw[show (nowJ (jAt w i)).L=(noW w i).L from rfl,z1t z1]
    simp only[obind,z9]
    rw[z7 ⟨fun _=>om,fun _=>om,trivial⟩,y7 (by simp only[y29,ye,yu,y46,y9]; omega)]
    exact⟨(),rfl,trivial⟩)
   rw[e]
   simp only[zb]
   obtain⟨u,e,_⟩:=zq (body:=fun k s=>(S_q0_b2 w i (nowJ (jAt w i),stbJ (jAt w i),true) k s).den) (n:=w.K.E.length) (fun _ _=>True) (s0:=()) trivial (fun k u hk _=>by
    have z1:=q3.2 _ (z8 hk)
    have hp:=(ht.2.2 k hk).1
    have hh:=hp.2.2.2.1.2.1.1
    simp only[S_q0_b2,Scr.den,z1i,obind]
    unfold nthN at z1
    rw[Ga,y7 (by simp only[y9]; exact y2w.2 z1)]
    exact⟨(),rfl,trivial⟩)
   rw[e,z40]
   rfl) (fun i hi h=>by
   simp only[S_q0_b3,Scr.den]
   rw[show w.J.getD i dF=jAt w i from rfl,wrapId (n:=(i:Int)+1) om om]
   by_cases q2:(jAt w i).Z=(i:Int)+1
   ·rw[y7 (by simp[q2])]
    by_cases q1:VJ (jAt w i)
    ·have hk:¬ KnownJ w.K (noW w i) (stW w i) i:=fun k=>h ⟨⟨q1,q2⟩,k⟩
     rw[z72 q1]
     simp only[obind]
     rw[y7 dk,z7 ⟨by rw[zr]; omega,trivial⟩]
     obtain⟨g1,g2⟩:=zi (body:=fun k s=>(S_q0_b1 w i (nowJ (jAt w i),stbJ (jAt w i),true) k s).den) (n:=(nowJ (jAt w i)).L.length) (c:=false) (fun k=>ToldR w.K i ((nowJ (jAt w i)).L.getD k dF)) (fun k hk h=>by
      obtain⟨z1,z2,z3⟩:=h
      have hp:=ht.potAt z1
      have hg:=hp.2.2.2.1.1.1
      have ha:=hp.2.2.2.1.2.2.1.1
      simp only[S_q0_b1,Scr.den,z20,z1t z1]
      unfold nthN at z2 z3
      simp only[obind,z9]
      rw[z7 ⟨fun _=>om,fun _=>om,trivial⟩,y7 (by simp only[y29,ye,yu,y46,y9]; omega)]) (fun k hk h=>by
      by_cases z1:J13.hasP w.K.E ((nowJ (jAt w i)).L.getD k dF).B ((nowJ (jAt w i)).L.getD k dF).D=true
      ·have hp:=ht.potAt z1
       have hg:=hp.2.2.2.1.1.1
       have ha:=hp.2.2.2.1.2.2.1.1
       have z2:¬ (_/\_):=fun z2=>h ⟨z1,z2⟩
       simp only[S_q0_b1,Scr.den,z20,z1t z1]
       unfold nthN at z2
       simp only[obind,z9]
       rw[z7 ⟨fun _=>om,fun _=>om,trivial⟩,y8 (by simp only[y29,ye,yu,y46,y9]; omega)]
      ·simp only[S_q0_b1,Scr.den,z20,z63 z1,obind,z9]
       rw[z7 ⟨fun h=>(by simp[AllP] at h),fun h=>(by simp[AllP] at h),trivial⟩,y8 sj])
     by_cases c1:∀ k,k<(nowJ (jAt w i)).L.length->ToldR w.K i ((nowJ (jAt w i)).L.getD k dF)
     ·rw[g1 c1]
      simp only[zb]
      obtain⟨g3,g4⟩:=zi (body:=fun k s=>(S_q0_b2 w i (nowJ (jAt w i),stbJ (jAt w i),true) k s).den) (n:=w.K.E.length) (c:=false) (fun k=>HeardP (stbJ (jAt w i)) i (w.K.E.getD k dF)) (fun k hk h=>by
       have hp:=(ht.2.2 k hk).1
       have hh:=hp.2.2.2.1.2.1.1
       simp only[S_q0_b2,Scr.den,z1i,obind]
       unfold HeardP nthN at h
       rw[Ga,y7 (by simp only[y9]; exact y2w.2 h)]) (fun k hk h=>by
       have hp:=(ht.2.2 k hk).1
       have hh:=hp.2.2.2.1.2.1.1
       simp only[S_q0_b2,Scr.den,z1i,obind]
       unfold HeardP nthN at h
       rw[Ga,y8 (by simp only[y9]; exact y4d.1 h)])
      rw[g4 fun c2=>hk (z6w.2 ⟨c1,c2⟩)]
      rfl
     ·rw[g2 c1]
      rfl
    ·obtain⟨a,b,e⟩:=zso (hs.j hi) q1
     rw[e]
     rfl
   ·rw[y8 (by simpa using q2)])
  by_cases hj:∀ i,i<w.J.length->RightJ w i/\KnownJ w.K (noW w i) (stW w i) i
  ·have e:=s1 hj
   have e:rangeM (fun i s=>(S_q0_b3 w i s).den) w.J.length 0 ([]:List TOf)=_:=e
   rw[e]
   simp only[zb]
   obtain⟨g1,g2⟩:=zi (body:=fun i s=>(S_q0_b4 w (ups w.J.length (stW w)) i s).den) (n:=w.N.length) (c:=false) (fun i=>MsgOk w.K (stW w) (w.N.getD i dF)) (fun i hi h=>by
    simp only[S_q0_b4,Scr.den]
    rw[z88 ht h2,yb h]
    rfl) (fun i hi h=>by
    simp only[S_q0_b4,Scr.den]
    rw[z88 ht h2,yc h]
    rfl)
   rw[g2 fun hm=>hw (zqr.2 ⟨⟨ht,h2,h3⟩,fun i hi=>(hj i hi).1,fun i hi=>(hj i hi).2,hm⟩)]
   rfl
  ·have e:=s2 hj
   have e:rangeM (fun i s=>(S_q0_b3 w i s).den) w.J.length 0 ([]:List TOf)=_:=e
   rw[e]
   rfl
 ·rw[y8]
  by_cases ht:J13.TOk w.K
  ·rw[yb ht]
   by_cases h2:(w.J.length:Int)=w.K.O
   ·have h3:¬ w.N.length<=200:=fun h3=>h1 ⟨ht,h2,h3⟩
    simp[h2]
    omega
   ·simp[h2]
  ·rw[yc ht]
   simp
variable {α:Type}
theorem zsp [Inhabited α] {a b:List α} (h:a.length=b.length) (he:∀ i,i<a.length->a.getD i dF=b.getD i dF):a=b:=by
 refine y34 h fun i h1 h2=>?_
 have:=he i h1
 rwa [z18 h1,z18 h2] at this
theorem z56 [Inhabited α] {l k:List α} {c:ρ} {body:Nat->Unit->Option (Step Unit ρ)} (h:l.length=k.length) (hy:∀ i,i<l.length->l.getD i dF=k.getD i dF->body i ()=some (.cont ())) (hn:∀ i,i<l.length->¬ l.getD i dF=k.getD i dF->body i ()=some (.ret c)) :
  (l=k->rangeM body l.length 0 ()=some (.next ()))/\(l≠k->rangeM body l.length 0 ()=some (.ret c)):=by
 obtain⟨g1,g2⟩:=zi (n:=l.length) (fun i=>l.getD i dF=k.getD i dF) hy hn
 exact⟨fun e=>g1 fun i _=>by rw[e],fun e=>g2 fun he=>e (zsp h he)⟩
theorem z7n {l k:α} [Decidable (l=k)] {x:Option (Out Unit Bool)} (g:(l=k->x=some (.next ()))/\(l≠k->x=some (.ret false))):outM x (fun _=>some true) (fun x=>some (id x))=some (decide (l=k)):=by
 by_cases h:l=k
 ·rw[g.1 h,yb h]; rfl
 ·rw[g.2 h,yc h]; rfl
theorem zew {p:Prop} [Decidable p] (h:p):¬ (!decide p)=true:=by rw[yb h]; decide
theorem zex {p:Prop} [Decidable p] (h:¬ p):(!decide p)=true:=by rw[yc h]; rfl
theorem lenNe {l k:List α} (h:¬ l.length=k.length):((l.length:Int) != (k.length:Int))=true:=by
 rw[y1j]
 omega
theorem lenEq {l k:List α} (h:l.length=k.length):¬ ((l.length:Int) != (k.length:Int))=true:=by
 rw[h]; simp
theorem zlc (l k:List Int):F_q1i l k=some (decide (l=k)):=by
 simp only[F_q1i,S_q1i,Scr.den]
 by_cases h:l.length=k.length
 ·rw[y7 (lenEq h)]
  exact z7n (z56 h (fun i hi h=>by
   simp only[S_q1i_b1,Scr.den]
   rw[Ga,y7 (by rw[h]; simp)]) fun i hi h=>by
   simp only[S_q1i_b1,Scr.den]
   rw[Ga,y8 (y1j.2 h)])
 ·rw[y8 (lenNe h),yc fun e=>h (by rw[e])]
theorem zuq (l k:List Int):F_q1l l k=some (decide (l=k)):=by
 simp only[F_q1l,S_q1l,Scr.den]
 by_cases h:l.length=k.length
 ·rw[y7 (lenEq h)]
  exact z7n (z56 h (fun i hi h=>by
   simp only[S_q1l_b1,Scr.den]
   rw[Ga,y7 (by rw[h]; simp)]) fun i hi h=>by
   simp only[S_q1l_b1,Scr.den]
   rw[Ga,y8 (y1j.2 h)])
 ·rw[y8 (lenNe h),yc fun e=>h (by rw[e])]
theorem zqs (x a b c d:Bool):((optD [x=true] (some a) dF).bind fun r1=>(optD [(x&&r1)=true] (some b) dF).bind fun r2=>(optD [(x&&r1&&r2)=true] (some c) dF).bind fun r3=>(optD [(x&&r1&&r2&&r3)=true] (some d) dF).bind fun r4=>some (x&&r1&&r2&&r3&&r4))=some (x&&a&&b&&c&&d):=by
 cases x <;> cases a <;> cases b <;> cases c <;> cases d <;> simp[optD,AllP]
theorem zw3 (x a b c:Bool):((optD [x=true] (some a) dF).bind fun r1=>(optD [(x&&r1)=true] (some b) dF).bind fun r2=>(optD [(x&&r1&&r2)=true] (some c) dF).bind fun r3=>some (x&&r1&&r2&&r3))=some (x&&a&&b&&c):=by
 cases x <;> cases a <;> cases b <;> cases c <;> simp[optD,AllP]
open Classical in
theorem zmd (p q:TPo):((p.B==q.B)&&(p.D==q.D)&&(p.T==q.T)&&decide (p.A=q.A)&&decide (p.H=q.H)&&decide (p.G=q.G)&&decide (p.P=q.P))=decide (p=q):=by
 obtain⟨a1,a2,a3,a4,a5,a6,a7⟩:=p
 obtain⟨b1,b2,b3,b4,b5,b6,b7⟩:=q
 rw[y1q]
 simp only[yj,y15,y9,TPo.mk.injEq,y5p]
open Classical in
theorem zey (p q:TPo):F_q71 p q=some (decide (p=q)):=by
 simp only[F_q71,S_q71,Scr.den,zlc,zd]
 rw[zqs,zmd]
open Classical in
theorem zha (p q:TPo):F_q73 p q=some (decide (p=q)):=by
 simp only[F_q73,S_q73,Scr.den,zuq,zd]
 rw[zqs,zmd]
open Classical in
theorem zld {s:TTr} (hl:s.E.length<=1000000):F_q2z s t=some (decide (s=t)):=by
 obtain⟨n,l⟩:=s
 obtain⟨m,k⟩:=t
 simp only at hl
 simp only[F_q2z,S_q2z,Scr.den,z9]
 by_cases h:n=m/\l.length=k.length
 ·obtain⟨rfl,h⟩:=h
  rw[y7 (by simp[h]),Ga,z7n (z56 h (fun i hi h=>by
   simp only[S_q2z_b1,Scr.den,zey,obind]
   rw[Ga,y7 (zew h)]) fun i hi h=>by
   simp only[S_q2z_b1,Scr.den,zey,obind]
   rw[Ga,y8 (zex h)])]
  simp
 ·rw[y8 (by
   rw[ye,y1j,y1j]
   by_cases h1:n=m
   ·exact .inr fun z=>h ⟨h1,om⟩
   ·exact .inl h1),yc fun z=>h (by injection z with z1 z2; exact⟨z1,by rw[z2]⟩)]
theorem zhb (p q:TMe):((p.Aa==q.Aa)&&((p.To==q.To)&&((p.B==q.B)&&((p.D==q.D)&&((p.A==q.A)&&((p.G==q.G)&&((p.S==q.S)&&((p.P==q.P)&&true))))))))=true↔p=q:=by
 obtain⟨a1,a2,a3,a4,a5,a6,a7,a8⟩:=p
 obtain⟨b1,b2,b3,b4,b5,b6,b7,b8⟩:=q
 simp only[yj,y15,TMe.mk.injEq,y1b]
variable {q:TMe}
theorem zme {p:TMe} (h:p=q):¬ (!((p.Aa==q.Aa)&&((p.To==q.To)&&((p.B==q.B)&&((p.D==q.D)&&((p.A==q.A)&&((p.G==q.G)&&((p.S==q.S)&&((p.P==q.P)&&true)))))))))=true:=by
 rw[(zhb p q).2 h]
 decide
theorem zmf {p:TMe} (h:¬ p=q):(!((p.Aa==q.Aa)&&((p.To==q.To)&&((p.B==q.B)&&((p.D==q.D)&&((p.A==q.A)&&((p.G==q.G)&&((p.S==q.S)&&((p.P==q.P)&&true)))))))))=true:=by
 rw[yi]
 exact y1x.2 fun z=>h ((zhb p q).1 z)
variable {v:TWo}
open Classical in
theorem zcx (hp:v.K.E.length<=1000000) (hj:v.J.length<=1000000) (hr:∀ j∈v.J,j.M.length<=1000000) (hm:v.N.length<=1000000):F_qa v w=some (decide (v=w)):=by
 obtain⟨t,l,a⟩:=v
 obtain⟨u,k,b⟩:=w
 simp only at hp hj hr hm
 simp only[F_qa,S_qa,Scr.den,z9,zld hp,obind]
 by_cases h:t=u/\l.length=k.length/\a.length=b.length
 ·obtain⟨rfl,h1,h2⟩:=h
  rw[y7 (by simp[h1,h2]),Ga]
  obtain⟨g1,g2⟩:=z56 (ρ:=Bool) (c:=false) (body:=fun i s=>(S_qa_b1 ⟨t,l,a⟩ ⟨t,k,b⟩ i s).den) h1 (fun i hi h=>by
   simp only[S_qa_b1,Scr.den]
   rw[zcv (hr _ (z8 hi))]
   simp only[obind]
   rw[Ga,y7 (zew h)]) (fun i hi h=>by
   simp only[S_qa_b1,Scr.den]
   rw[zcv (hr _ (z8 hi))]
   simp only[obind]
   rw[Ga,y8 (zex h)])
  by_cases e:l=k
  ·subst e
   rw[g1 rfl]
   simp only[zb]
   rw[Ga,z7n (z56 h2 (fun i hi h=>by
    simp only[S_qa_b2,Scr.den]
    rw[Ga,y7 (zme h)]) fun i hi h=>by
    simp only[S_qa_b2,Scr.den]
    rw[Ga,y8 (zmf h)])]
   simp
  ·rw[g2 e,yc fun z=>e (by injection z)]
   rfl
 ·rw[y8 (by
   simp only[ye,y1j,yi,yh]
   by_cases h1:t=u
   ·by_cases h2:l.length=k.length
    ·exact .inr fun z=>h ⟨h1,h2,om⟩
    ·exact .inl (.inr fun z=>h2 om)
   ·exact .inl (.inl h1)),yc fun z=>h (by injection z with z1 z2 z3; exact⟨z1,by rw[z2],by rw[z3]⟩)]
open Classical in
theorem zqt (l k:List TPo):F_q30 l k=some (decide (l=k)):=by
 simp only[F_q30,S_q30,Scr.den]
 by_cases h:l.length=k.length
 ·rw[y7 (lenEq h)]
  exact z7n (z56 h (fun i hi h=>by
   simp only[S_q30_b1,Scr.den,zha,obind]
   rw[Ga,y7 (zew h)]) fun i hi h=>by
   simp only[S_q30_b1,Scr.den,zha,obind]
   rw[Ga,y8 (zex h)])
 ·rw[y8 (lenNe h),yc fun e=>h (by rw[e])]
open Classical in
theorem zur (l k:List TJo):F_q31 l k=some (decide (l=k)):=by
 simp only[F_q31,S_q31,Scr.den]
 by_cases h:l.length=k.length
 ·rw[y7 (lenEq h)]
  exact z7n (z56 h (fun i hi h=>by
   simp only[S_q31_b1,Scr.den,zk4,obind]
   rw[Ga,y7 (zew h)]) fun i hi h=>by
   simp only[S_q31_b1,Scr.den,zk4,obind]
   rw[Ga,y8 (zex h)])
 ·rw[y8 (lenNe h),yc fun e=>h (by rw[e])]
open Classical in
theorem zus (l k:List TMe):F_q32 l k=some (decide (l=k)):=by
 simp only[F_q32,S_q32,Scr.den]
 by_cases h:l.length=k.length
 ·rw[y7 (lenEq h)]
  exact z7n (z56 h (fun i hi h=>by
   simp only[S_q32_b1,Scr.den]
   rw[Ga,y7 (zme h)]) fun i hi h=>by
   simp only[S_q32_b1,Scr.den]
   rw[Ga,y8 (zmf h)])
 ·rw[y8 (lenNe h),yc fun e=>h (by rw[e])]
open Classical in
theorem zez (v w:TWo):F_q59 v w=some (decide (v=w)):=by
 obtain⟨⟨n,t⟩,l,a⟩:=v
 obtain⟨⟨m,u⟩,k,b⟩:=w
 simp only[F_q59,S_q59,Scr.den,zd,zqt,zur,zus]
 rw[zw3]
 congr 1
 rw[y1q]
 simp only[yj,y15,y9,TWo.mk.injEq,TTr.mk.injEq,y5p]
theorem zsq (t:TTr) (c:Y8) (y x:Int):(J13.setM t c y x).1.E.length<=t.E.length+1:=by
 unfold J13.setM
 repeat' split
 all_goals first | exact y1g _ | (show (t.E.set _ _).length<=_; rw[yl]; exact y3z _) | (show (insL _ _ _).length<=_; rw[zu]; exact yf _)
theorem znt (t:TTr) (k:Int) (c:Y8) (y x:Int):(J13.grantM t k c y x).1.E.length<=t.E.length+1:=by
 unfold J13.grantM
 repeat' split
 all_goals first | exact y1g _ | (show (t.E.set _ _).length<=_; rw[yl]; exact y3z _)
theorem zsr (t:TTr) (k:Int) (c:Y8) (y x:Int):(J13.askM t k c y x).1.E.length<=t.E.length+1:=by
 unfold J13.askM
 repeat' split
 all_goals first | exact y1g _ | (show (t.E.set _ _).length<=_; rw[yl]; exact y3z _)
theorem zqu (t:TTr) (m:TMe):(J13.hearM t m).1.E.length<=t.E.length+1:=by
 unfold J13.hearM
 repeat' split
 all_goals first | exact y1g _ | (show (t.E.set _ _).length<=_; rw[yl]; exact y3z _)
def znu (w w':TWo):Prop:=(w'.N.length<=w.N.length+1/\w'.K.E.length<=w.K.E.length+1)/\(w'.J=w.J\/∃ k j,w'.J=w.J.set k j/\j.M.length<=(jAt w k).M.length+1)
variable {e:Int}
theorem zg9 {m:TMe} (h:(sendS w m e).2=0):znu w (sendS w m e).1:=by
 by_cases c:e=0
 ·subst c
  by_cases hl:w.N.length=200
  ·rw[z5j hl] at h; cases h
  ·rw[z4u hl]
   exact⟨⟨by show (w.N++[m]).length<=_; simp,y3z _⟩,.inl rfl⟩
 ·rw[z55 c] at h; exact absurd h c
variable {w0:TWo}
theorem zc7 (hm:w0.N.length<=w.N.length) (hj:w0.J=w.J) (ht:w0.K=w.K) {k:Nat} {j:TJo} (h:(keepS w0 k j e).2=0) (hr:e=0->j.M.length<=(jAt w k).M.length+1):znu w (keepS w0 k j e).1:=by
 by_cases c:e=0
 ·subst c
  rw[z2s]
  exact⟨⟨y5u hm,by show w0.K.E.length<=_; rw[ht]; exact y3z _⟩,.inr ⟨k,j,by show w0.J.set k j=_; rw[hj],hr rfl⟩⟩
 ·rw[z43 c] at h; exact absurd h c
theorem zga {r:TTr×Int} (h:(tresS w r).2=0) (hr:r.1.E.length<=w.K.E.length+1):znu w (tresS w r).1:=by
 unfold tresS at h |-
 by_cases c:r.2=0
 ·rw[y7 (by simp[c])]
  exact⟨⟨y3z _,hr⟩,.inl rfl⟩
 ·rw[y8 c] at h; exact absurd h c
variable {p:TOp}
theorem zmg {j:TJo} (h0:(appendS j p).2=0):(appendS j p).1.M.length<=j.M.length+1:=by
 by_cases hp:POp p
 ·by_cases h1:(doS (nowJ j) p).2=0
  ·by_cases hl:j.M.length=400
   ·rw[z3z hp h1 hl] at h0; cases h0
   ·rw[z4e hp h1 hl]; simp
  ·rw[z4m hp h1] at h0
   exact absurd h0 h1
 ·rw[z4l hp] at h0; cases h0
variable {s:TSt}
theorem zut (h0:(stepW w s).2=0):znu w (stepW w s).1:=by
 by_cases k:s.U=1
 ·rw[z73 k] at h0 |-; exact zga h0 (zsq ..)
 by_cases k2:s.U=2
 ·rw[z74 k2] at h0 |-; exact zga h0 (znt ..)
 by_cases k3:s.U=3
 ·rw[z8v k3] at h0 |-; exact zga h0 (zsr ..)
 by_cases k4:s.U=4
 ·rw[z75 k4] at h0 |-; exact zg9 h0
 by_cases ka:5<=s.U/\s.U<=8
 ·rw[z8w ka] at h0 |-
  unfold actS at h0 |-
  by_cases h1:1<=s.Z/\s.Z<=w.J.length
  ·rw[y7 (fun g=>g h1)] at h0 |-
   by_cases c5:s.U=5
   ·rw[y8 c5] at h0 |-
    by_cases c8:s.Op.U=8
    ·rw[y8 c8] at h0; cases h0
    ·rw[y7 c8] at h0 |-; exact zc7 (yf _) rfl rfl h0 zmg
   rw[y7 c5] at h0 |-
   by_cases c6:s.U=6
   ·rw[y8 c6] at h0 |-; exact zc7 (yf _) rfl rfl h0 fun _=>y3z _
   rw[y7 c6] at h0 |-
   by_cases c7:s.U=7
   ·rw[y8 c7] at h0 |-; exact zc7 (yf _) rfl rfl h0 fun _=>by
     show (List.take _ _).length<=_
     rw[y1k]; omega
   rw[y7 c7] at h0 |-
   exact zg9 h0
  ·rw[y8 h1] at h0; cases h0
 by_cases km:9<=s.U/\s.U<=11
 ·rw[z4f km] at h0 |-
  unfold mailS at h0 |-
  by_cases h1:0<=s.Ai/\s.Ai<w.N.length
  ·rw[y7 (fun g=>g h1)] at h0 |-
   by_cases c9:s.U=9
   ·rw[y8 c9] at h0 |-
    unfold delivS at h0 |-
    by_cases c0:(mAt w s.Ai.toNat).To=0
    ·rw[y8 c0] at h0 |-
     by_cases c1:(J13.hearM w.K (mAt w s.Ai.toNat)).2=0
     ·rw[y7 (fun k=>k c1)]; exact⟨⟨y5u (y3n ..),zqu ..⟩,.inl rfl⟩
     ·rw[y8 c1] at h0; exact absurd h0 c1
    ·rw[y7 c0] at h0 |-; exact zc7 (w:=w) (w0:=loseW w s.Ai.toNat) (y3n ..) rfl rfl h0 zmg
   rw[y7 c9] at h0 |-
   by_cases c11:s.U=11
   ·rw[y8 c11] at h0 |-; exact zg9 h0
   rw[y7 c11]
   exact⟨⟨y5u (y3n ..),y3z _⟩,.inl rfl⟩
  ·rw[y8 h1] at h0; cases h0
 ·rw[z8x om] at h0; cases h0
def Bd (k:Nat) (w:TWo):Prop:=(w.N.length<=k/\w.K.E.length<=k)/\∀ i,i<w.J.length->(jAt w i).M.length<=k
theorem zuu {k:Nat} (h:Bd k w) (h0:(stepW w s).2=0):Bd (k+1) (stepW w s).1:=by
 obtain⟨h1,h2⟩:=zut h0
 refine⟨by have:=h.1; omega,fun i hi=>?_⟩
 rcases h2 with h2 | ⟨q,j,h2,h3⟩
 ·have e:jAt (stepW w s).1 i=jAt w i:=by unfold jAt; rw[h2]
  rw[h2] at hi
  have:=h.2 i hi
  rw[e]; omega
 ·have e:jAt (stepW w s).1 i=(w.J.set q j).getD i dF:=by unfold jAt; rw[h2]
  rw[h2,yl] at hi
  have:=h.2 i hi
  rw[e,zc5 hi]
  split
  ·rename_i e; subst e; omega
  ·omega
theorem zw4 {n:Int}:Bd 0 (newW n):=by
 refine⟨⟨yf _,yf _⟩,fun i hi=>?_⟩
 have hi:i<(ups n.toNat (fun i=>(⟨(i:Int)+1,[],0⟩:TJo))).length:=hi
 rw[zr] at hi
 have e:jAt (newW n) i=⟨(i:Int)+1,[],0⟩:=z2n hi
 rw[e]
 exact yf _
theorem Bd.mono {a b:Nat} (h:Bd a w) (hab:a<=b):Bd b w:=⟨by have:=h.1; omega,fun i hi=>by have:=h.2 i hi; omega⟩
variable {o:TOf}
theorem zle (hv:VO o):F_q1b o o=some true:=by
 have hl:=hv.len
 simp only[F_q1b,S_q1b,Scr.den,z9]
 rw[zgw ⟨by have:=hv.smO.1.1.1; omega,by have:=hv.smO.1.1.2.1; omega,by have:=hv.smO.1.1.2.2.1; omega,by have:=hv.smO.1.1.2.2.2; omega⟩,ze (gs:=[_=false]) ⟨sj,trivial⟩]
 simp only[obind]
 rw[y7 sj,Ga]
 have ra:=zi (ρ:=Bool) (n:=o.L.length) (c:=false) (body:=fun i s=>(S_q1b_b1 o o i s).den) (fun _=>True) (fun i hi _=>by
  simp only[S_q1b_b1,Scr.den]
  rw[z7 ⟨hi,trivial⟩,y7 sj]) (fun i hi h=>absurd trivial h)
 rw[ra.1 fun _ _=>trivial]
 rfl
variable {k:Int}
theorem zw5 (h:k=9\/k=10\/k=11):9<=k/\k<=11:=om
theorem zuv (hi:i<w.N.length):stepW w ⟨10,0,p,[],0,0,(i:Int)⟩=(loseW w i,0):=by
 have hI:0<=(i:Int)/\(i:Int)<w.N.length:=om
 rw[z4f (zw5 sj)]
 exact (y7 fun k=>k hI).trans ((y7 (show ¬ (10:Int)=9 from dk)).trans (y7 (show ¬ (10:Int)=11 from dk)))
theorem zqv (hi:i<w.N.length):stepW w ⟨9,0,p,[],0,0,(i:Int)⟩=delivS w i:=by
 have hI:0<=(i:Int)/\(i:Int)<w.N.length:=om
 rw[z4f (zw5 sj)]
 exact (y7 fun k=>k hI).trans (y8 rfl)
theorem zf0 (n:Int):∃ x,F_q13 n=some x/\F_q11 n=some x/\z60 x/\(x.2=0->x.1=newW n/\0<=n)/\(1<=n/\n<=6->x.2=0):=by
 by_cases h:1<=n/\n<=6
 ·exact⟨_,zjy h,zeq h,.inl ⟨rfl,zjx h⟩,fun _=>⟨rfl,om⟩,fun _=>rfl⟩
 ·refine⟨(zWd,2),?_,?_,.inr ⟨dk,rfl⟩,fun k=>absurd k dk,fun k=>absurd k h⟩
  ·simp only[F_q13,S_q13,Scr.den,z41,obind]
   rw[yc h,y8 dk]
   rfl
  ·simp only[F_q11,S_q11,Scr.den,z9]
   rw[y8 sk]
   rfl
theorem zuw (hs:ShW w) (hk:SOk s):∃ x,F_q41 w s=some x/\F_q1s w s=some x/\z60 x:=by
 by_cases h:VW w
 ·exact⟨_,zup h hk,z44 h hk.1 hk.2,zg5 h s⟩
 ·refine⟨(zWd,1),?_,?_,.inr ⟨dk,rfl⟩⟩
  ·simp only[F_q41,S_q41,Scr.den]
   rw[z2o hs,@decide_eq_false _ (_) h]
   rfl
  ·simp only[F_q1s,S_q1s,Scr.den]
   rw[z2x hs,@decide_eq_false _ (_) h]
   rfl
theorem zqw (hs:ShW w) (c:Y8) (y:Int):∃ x,F_q2r w c y=some x/\F_q3h w c y=some x:=by
 by_cases hp:J13.hasP w.K.E c y=true
 ·by_cases h:VW w
  ·have hcy:=J13.potAt_cy hp
   have hm:J13.potAt w.K c y∈w.K.E:=z8 (J13.pix_lt hp).1
   have hq:=zcu h hm
   refine⟨_,zma h hp,?_⟩
   rw[hcy.1,hcy.2] at hq
   simp only[F_q3h,S_q3h,Scr.den,z20,z1t hp,obind,z2c h,z9]
   rw[Gg]
   simp only[obind]
   rw[y7 dk,hq]
   rfl
  ·refine⟨(0,0,0,0),?_,?_⟩
   ·simp only[F_q2r,S_q2r,Scr.den,J13.Pot_eq hs.1.tsmall,z1t hp,obind,z2o hs,z9]
    rw[Gg,@decide_eq_false _ (_) h]
    rfl
   ·simp only[F_q3h,S_q3h,Scr.den,z20,z1t hp,obind,z2x hs,z9]
    rw[Gg,@decide_eq_false _ (_) h]
    rfl
 ·refine⟨(0,0,0,0),?_,?_⟩
  ·simp only[F_q2r,S_q2r,Scr.den,J13.Pot_eq hs.1.tsmall,z63 hp,obind,z9]
   rw[Gh]
   rfl
  ·simp only[F_q3h,S_q3h,Scr.den,z20,z63 hp,obind,z9]
   rw[Gh]
   rfl
theorem zqx (hs:ShW w):∃ b,F_q15 w=some b/\F_q1k w=some b:=by
 by_cases h:VW w
 ·exact⟨_,z8z h,zl8 h⟩
 ·refine⟨false,?_,?_⟩
  ·simp only[F_q15,S_q15,Scr.den]
   rw[z2o hs,@decide_eq_false _ (_) h]
   rfl
  ·simp only[F_q1k,S_q1k,Scr.den]
   rw[z2x hs,@decide_eq_false _ (_) h]
   rfl
theorem zss (h:o=noO\/VO o):F_q1b o o=some true:=by
 rcases h with rfl | h
 ·simp only[F_q1b,S_q1b,Scr.den,z9]
  rw[zgw (show zn8 noO.Ag from zvo),ze (gs:=[_=false]) ⟨sj,trivial⟩]
  simp only[obind]
  rw[y7 sj,Gd]
  rfl
 ·exact zle h
theorem zlf (hs:ShW w) (n:Int):∃ x,F_q4k w n=some x/\F_q19 w n=some x/\(x.1=noO\/VO x.1):=by
 have hl:=hs.2.1.1
 by_cases h:VW w
 ·simp only[F_q4k,S_q4k,F_q19,S_q19,F_q2w,S_q2w,Scr.den,z2w h,z2c h,z41,obind,zd]
  by_cases hn:1<=n/\n<=(w.J.length:Int)
  ·obtain⟨q1,_,_⟩:=h.2.2.2.1 (n-1).toNat om
   have ew:i64.wrap (n-1)=n-1:=wrapId om om
   have e1:decide (n>=1)=true:=yb hn.1
   have e2:decide (n<=(w.J.length:Int))=true:=yb hn.2
   rw[yb hn,e1,e2,ew,show w.J.getD (n-1).toNat dF=jAt w (n-1).toNat from rfl,z4d q1,z42 q1]
   simp only[obind]
   refine⟨(nowJ (jAt w (n-1).toNat),0),?_,?_,.inr q1.now⟩
   ·rw[y7 dk,y7 dk,Gb]
   ·rw[y7 dk,y7 dk,Gb]
  ·have e1:(decide (n>=1)&&decide (n<=(w.J.length:Int)))=false:=by
    rw[y1x]
    intro hb
    simp only[yj,y9] at hb
    exact hn hb
   rw[yc hn,e1]
   exact⟨_,rfl,rfl,.inl rfl⟩
 ·refine⟨(noO,1),?_,?_,.inl rfl⟩
  ·simp only[F_q4k,S_q4k,Scr.den]
   rw[z2o hs,@decide_eq_false _ (_) h]
   rfl
  ·simp only[F_q19,S_q19,Scr.den]
   rw[z2x hs,@decide_eq_false _ (_) h]
   rfl
theorem znv (l:List Int):F_q2j l l=some true:=by
 simp only[F_q2j,S_q2j,Scr.den]
 rw[y7 sj]
 have ra:=zi (ρ:=Bool) (n:=l.length) (c:=false) (body:=fun i s=>(S_q2j_b1 l l i s).den) (fun _=>True) (fun i hi _=>by
  simp only[S_q2j_b1,Scr.den]
  rw[z7 (by simp only[AllP,y1b]; exact hi),y7 sj]) (fun i hi h=>absurd trivial h)
 rw[ra.1 fun _ _=>trivial]
 rfl
noncomputable def runS (l:List TSt) (s:TWo×List Int):TWo×List Int:=l.foldl (fun s p=>(if (stepW s.1 p).2=0 then (stepW s.1 p).1 else s.1,s.2++[(stepW s.1 p).2])) s
variable {l:List TSt}
theorem zqy (hi:i<l.length) (s:TWo×List Int):runS (l.take (i+1)) s=(if (stepW (runS (l.take i) s).1 (l.getD i dF)).2=0 then (stepW (runS (l.take i) s).1 (l.getD i dF)).1 else (runS (l.take i) s).1,(runS (l.take i) s).2++[(stepW (runS (l.take i) s).1 (l.getD i dF)).2]):=by
 unfold runS
 rw[zbi hi,List.foldl_append]
 rfl
theorem zk6 (_hl:l.length<=200) (_hk:∀ p∈l,SOk p) (h:VW w) (hB:Bd 0 w) {body:Nat->TWo×List Int->Option (Step (TWo×List Int) ρ)} (hb:∀ i (v:TWo) (r:List Int),i<l.length->VW v->r.length=i->body i (v,r)=some (.cont (if (stepW v (l.getD i dF)).2=0 then (stepW v (l.getD i dF)).1 else v,r++[(stepW v (l.getD i dF)).2]))) :
  ∃ v r,rangeM body l.length 0 (w,[])=some (.next (v,r))/\(v,r)=runS l (w,[])/\(VW v/\v.J.length=w.J.length/\Bd l.length v)/\r.length=l.length:=by
 obtain⟨s,e,hs1,hs2,hs3⟩:=zq (body:=body) (n:=l.length) (fun i s=>s=runS (l.take i) (w,[])/\(VW s.1/\s.1.J.length=w.J.length/\Bd i s.1)/\s.2.length=i) (s0:=(w,([]:List Int))) ⟨rfl,⟨h,rfl,hB⟩,rfl⟩ (fun i s hi hI=>by
  obtain⟨v,r⟩:=s
  obtain⟨h1,⟨h2,h4,h5⟩,h3⟩:=hI
  refine⟨_,hb i v r hi h2 h3,?_,?_,?_⟩
  ·rw[zqy hi,<- h1]
  ·simp only at h4 h5
   by_cases c:(stepW v (l.getD i dF)).2=0
   ·simp only[y8 c]
    obtain⟨k1,k2⟩:=z87 h2 c
    exact⟨k2,k1.trans h4,zuu h5 c⟩
   ·simp only[y7 c]
    exact⟨h2,h4,h5.mono om⟩
  ·show (r++[_]).length=i+1
   rw[yp]
   simp only at h3
   simp[h3])
 obtain⟨v,r⟩:=s
 rw[y23 (yf _)] at hs1
 exact⟨v,r,e,hs1,hs2,hs3⟩
theorem zk7 (_h:VW w) (_:SOk s) {r:List Int} (hr:r.length<=200) :
  (outM (if ((stepW w s).2==0)=true then some (Out.next (stepW w s).1) else some (Out.next w)) (fun sv4:TWo=>guardP (AllP [(r.length+1) * (2 * 8)<=2 ^ 48]) (some (Step.cont (sv4,r++[(stepW w s).2])))) some:Option (Step (TWo×List Int) ρ))=some (.cont (if (stepW w s).2=0 then (stepW w s).1 else w,r++[(stepW w s).2])):=by
 by_cases c:(stepW w s).2=0
 ·rw[y8 (by simpa using c),y8 c]
  simp only[zb]
  rw[Ga]
 ·rw[y7 (by simpa using c),y7 c]
  simp only[zb]
  rw[Ga]
def RunOk (n:Int) (l:List TSt) (x:TWo×List Int×Int):Prop:=(x.1=zWd\/VW x.1)/\(1<=n/\n<=6->VW x.1/\(x.1.J.length:Int)=n/\Bd l.length x.1)
theorem zhc {n:Int} (hl:l.length<=200) (hk:∀ p∈l,SOk p):∃ x,F_qi n l=some x/\F_q10 n l=some x/\RunOk n l x:=by
 obtain⟨y,e1,e2,h,hy,hy'⟩:=zf0 n
 simp only[F_qi,S_qi,F_q10,S_q10,Scr.den,e1,e2,obind]
 rcases h with ⟨h0,hv⟩ | ⟨h0,_⟩
 ·have n1:¬ (y.2 != 0)=true:=by rw[h0]; decide
  obtain⟨ey,hn0⟩:=hy h0
  have hB:Bd 0 y.1:=by rw[ey]; exact zw4
  have hjl:(y.1.J.length:Int)=n:=by rw[ey]; exact zk0 hn0
  have n2:¬ decide ((l.length:Int)>200)=true:=by rw[y9]; omega
  obtain⟨v1,r1,q1,z1,hv1,hr1⟩:=zk6 hl hk hv hB (ρ:=R_qi) (body:=fun i s=>(S_qi_b1 l i s).den) (fun i v r hi hv hr=>by
   simp only[S_qi_b1,Scr.den]
   have hp:=hk _ (z8 hi)
   rw[z85 hv hp.1 hp.2]
   exact zk7 (r:=r) hv hp om)
  obtain⟨v4,r4,q4,z4,_,_⟩:=zk6 hl hk hv hB (ρ:=R_q10) (body:=fun i s=>(S_q10_b1 l i s).den) (fun i v r hi hv hr=>by
   simp only[S_q10_b1,Scr.den]
   have hp:=hk _ (z8 hi)
   rw[z44 hv hp.1 hp.2]
   exact zk7 (r:=r) hv hp om)
  obtain⟨a4,b4⟩:=Prod.mk.inj (z4.trans z1.symm)
  subst a4 b4
  refine⟨(v4,r4,0),?_,?_,.inr hv1.1,fun _=>⟨hv1.1,by rw[hv1.2.1]; exact hjl,hv1.2.2⟩⟩
  ·rw[y7 n1,y7 n2,q1]
   simp only[zb]
   rw[za0 hv1.1.fr]
   simp only[obind]
   rw[Ga]
  ·rw[y7 n1,y7 n2,q4]
   simp only[zb]
   rw[Ga]
 ·have n1:(y.2 != 0)=true:=y1j.2 h0
  refine⟨(zWd,[],y.2),?_,?_,.inl rfl,fun k=>absurd (hy' k) h0⟩
  all_goals rw[y8 n1]; rfl
noncomputable def doW (w:TWo) (s:TSt):TWo:=if (stepW w s).2=0 then (stepW w s).1 else w
theorem z7o (h:(stepW w s).2=0):doW w s=(stepW w s).1:=y8 h
theorem z90 (h:(stepW w s).2≠0):doW w s=w:=y7 h
theorem zbk (h:VW w) (s:TSt):VW (doW w s)/\(doW w s).J.length=w.J.length:=by
 by_cases c:(stepW w s).2=0
 ·rw[z7o c]
  have:=z87 h c
  exact⟨this.2,this.1⟩
 ·rw[z90 c]; exact⟨h,rfl⟩
theorem z91 (h:VW w) (hs:SOk s):F_q2l s ⟨w⟩=some ((stepW w s).2,⟨doW w s⟩):=by
 simp only[F_q2l,S_q2l,Scr.den]
 rw[z85 h hs.1 hs.2]
 simp only[obind]
 by_cases c:(stepW w s).2=0
 ·rw[y8 (by simpa using c),z7o c]
 ·rw[y7 (by simpa using c),z90 c]
noncomputable def lastS (w:TWo):TSt:=⟨9,0,⟨0,[],0,0,0,0,0,0,0,0⟩,[],0,0,i64.wrap ((w.N.length:Int)-1)⟩
noncomputable def exW (w:TWo) (s:TSt):TWo:=if (stepW w s).2=0 then doW (doW w s) (lastS (doW w s)) else w
theorem zt4 (h:VW w) (hs:SOk s):F_q42 s ⟨w⟩=some ⟨exW w s⟩:=by
 simp only[F_q42,S_q42,Scr.den]
 rw[z91 h hs]
 simp only[obind]
 unfold exW
 by_cases c:(stepW w s).2=0
 ·rw[y8 (by simpa using c),y8 c,z91 (zbk h s).1 ⟨y1g _,y1g _⟩]
  rfl
 ·rw[y7 (by simpa using c),y7 c,z90 c]
def SameB (w w':TWo):Prop:=w'.J.length=w.J.length/\∀ q,q<w.J.length->(noW w' q).Ag=(noW w q).Ag
theorem SameB.refl (w:TWo):SameB w w:=⟨rfl,fun _ _=>rfl⟩
def SameP (w w':TWo):Prop:=∀ c y,J13.hasP w.K.E c y=true->J13.hasP w'.K.E c y=true
theorem znw (h:VW w) (h0:(delivS w i).2=0):SameB w (delivS w i).1/\(delivS w i).1.N=w.N.eraseIdx i/\SameP w (delivS w i).1:=by
 unfold delivS at h0 |-
 by_cases c0:(mAt w i).To=0
 ·rw[y8 c0] at h0 |-
  by_cases c1:(J13.hearM w.K (mAt w i)).2=0
  ·rw[y7 (fun k=>k c1)]; exact⟨SameB.refl _,rfl,fun c y hp=>((zm7 c1).1.2.2 c y hp).1⟩
  ·rw[y8 c1] at h0; exact absurd h0 c1
 ·rw[y7 c0] at h0 |-
  obtain⟨k,ek⟩:∃ k,k=((mAt w i).To-1).toNat:=⟨_,rfl⟩
  rw[<- ek] at h0 |-
  have a0:(appendS (jAt w k) (hearOp (mAt w i))).2=0:=by
   by_cases c:(appendS (jAt w k) (hearOp (mAt w i))).2=0
   ·exact c
   ·rw[z43 c] at h0; exact h0
  rw[a0,z2s]
  refine⟨⟨yl,fun q hq=>?_⟩,rfl,fun _ _ hp=>hp⟩
  show (nowJ ((w.J.set k _).getD q dF)).Ag=_
  rw[zc5 hq]
  by_cases e:q=k
  ·subst e
   rw[y8 rfl]
   obtain⟨_,a2,_,a4⟩:=zh1 (h.2.2.2.1 q hq).1 a0
   rw[a2]
   show (nowJ ⟨(jAt w q).Z,(jAt w q).M++[hearOp (mAt w i)],(jAt w q).Af⟩).Ag=_
   rw[zeg]
   exact zg8 rfl a4
  ·rw[y7 e]
   rfl
def giveOp (c:Y8) (y n:Int):TOp:=⟨7,c,y,0,0,n,0,0,0,0⟩
noncomputable def askW (o:TOf) (c:Y8) (y:Int):Int:=wantedS (rightV o.L c y) (usedV o.Ag c y)
theorem zqz (hv:VO o) (c:Y8) (y:Int):answerS o c y=if askW o c y=0 then (noP,false) else (giveOp c y (askW o c y),true):=y7 fun g=>g hv
theorem zw6 (h:VW w) (s:TSt):VW (exW w s)/\(exW w s).J.length=w.J.length:=by
 unfold exW
 by_cases c:(stepW w s).2=0
 ·rw[y8 c]
  obtain⟨h1,h2⟩:=zbk h s
  obtain⟨h3,h4⟩:=zbk h1 (lastS (doW w s))
  exact⟨h3,h4.trans h2⟩
 ·rw[y7 c]; exact⟨h,rfl⟩
def foldN {σ:Type} (f:Nat->σ->σ):Nat->σ->σ
 | 0,s=>s
 | n+1,s=>f n (foldN f n s)
variable {τ:Type}
theorem z4n {body:Nat->τ->Option (Step τ ρ)} (g:σ->τ) (f:Nat->σ->σ) (I:σ->Prop) (hb:∀ i s,i<n->I s->body i (g s)=some (.cont (g (f i s)))/\I (f i s)) {s:σ} (h:I s) :
  rangeM body n 0 (g s)=some (.next (g (foldN f n s)))/\I (foldN f n s):=by
 obtain⟨t,e,h1,h2⟩:=zq (body:=body) (n:=n) (fun i t=>t=g (foldN f i s)/\I (foldN f i s)) (s0:=g s) ⟨rfl,h⟩ (fun i t hi hI=>by
  obtain⟨rfl,h2⟩:=hI
  obtain⟨q1,q2⟩:=hb i _ hi h2
  exact⟨_,q1,rfl,q2⟩)
 rw[e,h1]
 exact⟨rfl,h2⟩
def VN (n:Nat) (w:TWo):Prop:=VW w/\w.J.length=n
theorem VN.do (h:VN n w) (s:TSt):VN n (doW w s):=by
 obtain⟨h1,h2⟩:=zbk h.1 s
 exact⟨h1,h2.trans h.2⟩
theorem VN.ex (h:VN n w) (s:TSt):VN n (exW w s):=by
 obtain⟨h1,h2⟩:=zw6 h.1 s
 exact⟨h1,h2.trans h.2⟩
noncomputable def arrS (w:TWo):TWo:=if (delivS w 0).2=0 then (delivS w 0).1 else loseW w 0
theorem zw7 (h:VN n w) (hm:0<w.N.length):VN n (arrS w)/\(arrS w).N.length+1=w.N.length:=by
 have el:(w.N.eraseIdx 0).length=w.N.length-1:=by rw[List.length_eraseIdx,y8 hm]
 unfold arrS
 by_cases c:(delivS w 0).2=0
 ·rw[y8 c]
  obtain⟨d1,d2,_⟩:=znw h.1 c
  rcases zjw h.1 hm with ⟨_,k⟩ | ⟨k,_⟩
  ·exact⟨⟨k,d1.1.trans h.2⟩,by rw[d2,el]; omega⟩
  ·exact absurd c k
 ·rw[y7 c]
  refine⟨⟨zc4 h.1 0,h.2⟩,?_⟩
  show (w.N.eraseIdx 0).length+1=_
  rw[el]; omega
theorem zux (h:VW w) (hm:0<w.N.length):(S_qe_b1 ⟨w⟩).den=some (.cont ⟨arrS w⟩):=by
 simp only[S_qe_b1,Scr.den]
 rw[y8 (by simp only[y9]; omega)]
 have e9:=zqv (p:=⟨0,[],0,0,0,0,0,0,0,0⟩) hm
 have e10:=zuv (p:=⟨0,[],0,0,0,0,0,0,0,0⟩) hm
 have z:((0:Nat):Int)=0:=rfl
 rw[z] at e9 e10
 rw[z91 h ⟨y1g _,y1g _⟩]
 simp only[obind]
 unfold arrS
 by_cases c:(delivS w 0).2=0
 ·have hst:(stepW w ⟨9,0,⟨0,[],0,0,0,0,0,0,0,0⟩,[],0,0,0⟩).2=0:=by rw[e9]; exact c
  rw[e9,y7 (by simpa using c),z7o hst,e9,y8 c]
 ·have hst:(stepW w ⟨10,0,⟨0,[],0,0,0,0,0,0,0,0⟩,[],0,0,0⟩).2=0:=by rw[e10]
  rw[e9,y8 (by simpa using c),z90 (by rw[e9]; exact c),z91 h ⟨y1g _,y1g _⟩]
  simp only[obind]
  rw[z7o hst,e10,y7 c]
theorem zlg (h:VW w) (hm:0<w.N.length):(S_q3_b1 w).den=some (.cont (arrS w)):=by
 simp only[S_q3_b1,F_q7r,S_q7r,Scr.den]
 rw[y8 (by simp only[y9]; omega)]
 have e9:=zqv (p:=⟨0,[],0,0,0,0,0,0,0,0⟩) hm
 have z:((0:Nat):Int)=0:=rfl
 rw[z] at e9
 have ew:=z4g h.2.2.1 hm
 rw[z] at ew
 rw[z44 h (y1g _) (y1g _),e9]
 simp only[obind]
 unfold arrS
 by_cases c:(delivS w 0).2=0
 ·rw[y7 (by simpa using c),y8 c]
  rfl
 ·rw[y8 (by simpa using c),y7 c,ew]
  rfl
theorem zhd (g:TWo->τ) {step:τ->Option (Step τ ρ)} (h1:∀ v,VN n v->0<v.N.length->step (g v)=some (.cont (g (arrS v)))) (h2:∀ v,¬ 0<v.N.length->step (g v)=some (.brk (g v))) (m:τ->Nat) (hm:∀ v,m (g v)=v.N.length) (h:VN n w) :
  iterM step (g w)=some (.next (g (foldN (fun _=>arrS) w.N.length w)))/\VN n (foldN (fun _=>arrS) w.N.length w):=by
 obtain⟨s,e,hs⟩:=z2i (step:=step) m (fun s=>∃ i v,s=g v/\v=foldN (fun _=>arrS) i w/\VN n v/\v.N.length+i=w.N.length) (fun s=>s=g (foldN (fun _=>arrS) w.N.length w)/\VN n (foldN (fun _=>arrS) w.N.length w)) (fun s hI=>by
  obtain⟨i,v,rfl,ev,hv,hl⟩:=hI
  by_cases c:0<v.N.length
  ·obtain⟨a1,a2⟩:=zw7 hv c
   exact .inl ⟨_,h1 v hv c,⟨i+1,arrS v,rfl,by rw[ev]; rfl,a1,om⟩,by rw[hm,hm]; omega⟩
  ·have:i=w.N.length:=om
   subst this
   exact .inr ⟨_,h2 v c,by rw[ev],by rw[<- ev]; exact hv⟩) (w.N.length+1) (g w) (by rw[hm]; omega) ⟨0,w,rfl,rfl,h,om⟩
 rw[e,hs.1]
 exact⟨rfl,hs.2⟩
theorem zk8 (h:VW w) (hs:SOk s):F_q1a w s true=some (exW w s):=by
 simp only[F_q1a,S_q1a,Scr.den,z44 h hs.1 hs.2,obind]
 unfold exW
 by_cases c:(stepW w s).2=0
 ·have hv:=(zbk h s).1
  rw[y7 (by simpa using c),y7 dk,y8 c]
  rw[z7o c] at hv |-
  rw[z44 hv (y1g _) (y1g _)]
  simp only[obind]
  by_cases c2:(stepW (stepW w s).1 (lastS (stepW w s).1)).2=0
  ·rw[z7o c2]
   exact y7 fun k=>y1j.1 k c2
  ·rw[z90 c2]
   exact y8 (y1j.2 c2)
 ·rw[y8 (by simpa using c),y7 c]
theorem zhe (h:VW w) (hs:SOk s):F_q1a w s false=some (doW w s):=by
 simp only[F_q1a,S_q1a,Scr.den,z44 h hs.1 hs.2,obind]
 by_cases c:(stepW w s).2=0
 ·rw[y7 (by simpa using c),y8 dk,z7o c]
 ·rw[y8 (by simpa using c),z90 c]
theorem zk9 (hv:VO o) (hc:c.length<=1000000) (y:Int):(answerS o c y).1.B.length<=1000000:=by
 rw[zqz hv]
 split
 ·exact y1g _
 ·exact hc
def fourS (n:Int) (k:Int) (c:Y8) (y:Int):TSt:=⟨n,k,⟨0,[],0,0,0,0,0,0,0,0⟩,c,y,0,0⟩
theorem z64 {n:Int} (hc:c.length<=1000000):SOk (fourS n k c y):=⟨hc,y1g _⟩
noncomputable def tellB (k:Int) (c:Y8) (y:Int) (w:TWo):TWo :=
 if (answerS (noW (exW w (fourS 4 k c y)) (k-1).toNat) c y).2=true then doW (exW w (fourS 4 k c y)) ⟨5,k,(answerS (noW (exW w (fourS 4 k c y)) (k-1).toNat) c y).1,[],0,0,0⟩ else exW w (fourS 4 k c y)
theorem zka (h:VN n w) (k:Int) (c:Y8) (y:Int):VN n (tellB k c y w):=by
 unfold tellB
 split
 ·exact (h.ex _).do _
 ·exact h.ex _
theorem zr0 (h:VN n w) (hk:1<=k/\k<=n) (hc:(w0.K.E.getD i dF).B.length<=1000000) :
  (S_qw_b1 k ⟨w0⟩ i ⟨w⟩).den=some (.cont ⟨tellB k (w0.K.E.getD i dF).B (w0.K.E.getD i dF).D w⟩):=by
 have h6:=h.1.len
 have hn:=h.2
 simp only[S_qw_b1,Scr.den]
 generalize (w0.K.E.getD i dF).B=c at hc |-
 generalize (w0.K.E.getD i dF).D=y
 have h1:=h.ex (fourS 4 k c y)
 have e1:F_q42 (⟨4,k,⟨0,[],0,0,0,0,0,0,0,0⟩,c,y,0,0⟩:TSt) ⟨w⟩=some ⟨exW w (fourS 4 k c y)⟩:=zt4 h.1 (z64 hc)
 rw[e1]
 simp only[obind]
 unfold tellB
 generalize exW w (fourS 4 k c y)=v at h1 |-
 have hn1:=h1.2
 obtain⟨q1,_,_⟩:=h1.1.2.2.2.1 (k-1).toNat om
 have ew:i64.wrap (k-1)=k-1:=wrapId om om
 rw[ew,show v.J.getD (k-1).toNat dF=jAt v (k-1).toNat from rfl,z4d q1]
 simp only[obind]
 rw[Gb,zpu q1.now.smO hc]
 simp only[obind]
 have hcode:=zk9 q1.now hc y
 rw[show noW v (k-1).toNat=nowJ (jAt v (k-1).toNat) from rfl]
 by_cases ha:(answerS (nowJ (jAt v (k-1).toNat)) c y).2=true
 ·rw[y8 ha,y8 ha,z91 h1.1 ⟨y1g _,hcode⟩]
  rfl
 ·rw[y7 ha,y7 ha]
theorem zlh (h:VN n w) (hk:1<=k/\k<=n) (hc:(w0.K.E.getD i dF).B.length<=1000000) :
  (S_q3_b2 (w0,k) i w).den=some (.cont (tellB k (w0.K.E.getD i dF).B (w0.K.E.getD i dF).D w)):=by
 have h6:=h.1.len
 have hn:=h.2
 simp only[S_q3_b2,Scr.den]
 generalize (w0.K.E.getD i dF).B=c at hc |-
 generalize (w0.K.E.getD i dF).D=y
 have h1:=h.ex (fourS 4 k c y)
 have e1:F_q1a w (⟨4,k,⟨0,[],0,0,0,0,0,0,0,0⟩,c,y,0,0⟩:TSt) true=some (exW w (fourS 4 k c y)):=zk8 h.1 (z64 hc)
 rw[e1]
 simp only[obind]
 unfold tellB
 generalize exW w (fourS 4 k c y)=v at h1 |-
 have hn1:=h1.2
 obtain⟨q1,_,_⟩:=h1.1.2.2.2.1 (k-1).toNat om
 have ew:i64.wrap (k-1)=k-1:=wrapId om om
 have eo:F_q19 v k=some (nowJ (jAt v (k-1).toNat),0):=by
  have d1:decide (k>=1)=true:=yb hk.1
  have d2:decide (k<=(v.J.length:Int))=true:=yb om
  simp only[F_q19,S_q19,F_q2w,S_q2w,Scr.den,z2c h1.1,obind,zd,d1,d2]
  rw[ew,show v.J.getD (k-1).toNat dF=jAt v (k-1).toNat from rfl,z42 q1]
  simp only[obind]
  rw[y7 dk,y7 dk,Gb]
 rw[eo]
 simp only[obind]
 rw[za9 q1.now.smO hc]
 simp only[obind]
 have hcode:=zk9 q1.now hc y
 rw[show noW v (k-1).toNat=nowJ (jAt v (k-1).toNat) from rfl]
 by_cases ha:(answerS (nowJ (jAt v (k-1).toNat)) c y).2=true
 ·rw[y8 ha,y8 ha,zhe h1.1 ⟨y1g _,hcode⟩]
  rfl
 ·rw[y7 ha,y7 ha]
noncomputable def tellF (k:Int) (w:TWo):TWo:=foldN (fun i v=>tellB k (w.K.E.getD i dF).B (w.K.E.getD i dF).D v) w.K.E.length w
noncomputable def tellsS (k:Int) (w:TWo):TWo:=doW (tellF k w) (fourS 6 k [] 0)
noncomputable def reportsS (k:Int) (w:TWo):TWo:=foldN (fun i v=>exW v (fourS 8 k (w.K.E.getD i dF).B (w.K.E.getD i dF).D)) w.K.E.length w
noncomputable def settleS (k:Int) (w:TWo):TWo:=reportsS k (tellsS k w)
theorem VW.potLen (h:VW w) (hi:i<w.K.E.length):(w.K.E.getD i dF).B.length<=1000000:=h.small _ (z8 hi)
theorem zcy (h:VN n w) (hk:1<=k/\k<=n) (hn:n<=6):F_qw k ⟨w⟩=some ⟨settleS k w⟩/\(S_q3_b4 (w,k)).den=some (.cont (settleS k w,k+1))/\VN n (settleS k w):=by
 obtain⟨a1,hv⟩:=z4n (body:=fun i s=>(S_qw_b1 k ⟨w⟩ i s).den) (n:=w.K.E.length) (fun v:TWo=>(⟨v⟩:TCa)) (fun i v=>tellB k (w.K.E.getD i dF).B (w.K.E.getD i dF).D v) (VN n) (fun i s hi hs=>⟨zr0 hs hk (h.1.potLen hi),zka hs _ _ _⟩) h
 obtain⟨a2,_⟩:=z4n (body:=fun i s=>(S_q3_b2 (w,k) i s).den) (n:=w.K.E.length) (fun v:TWo=>v) (fun i v=>tellB k (w.K.E.getD i dF).B (w.K.E.getD i dF).D v) (VN n) (fun i s hi hs=>⟨zlh hs hk (h.1.potLen hi),zka hs _ _ _⟩) h
 have et:foldN (fun i v=>tellB k (w.K.E.getD i dF).B (w.K.E.getD i dF).D v) w.K.E.length w=tellF k w:=rfl
 rw[et] at a1 a2 hv
 have hx:VN n (tellsS k w):=hv.do (fourS 6 k [] 0)
 have c1:F_q2l (⟨6,k,⟨0,[],0,0,0,0,0,0,0,0⟩,[],0,0,0⟩:TSt) ⟨tellF k w⟩=some ((stepW (tellF k w) (fourS 6 k [] 0)).2,⟨tellsS k w⟩):=z91 hv.1 (z64 (n:=6) (k:=k) (y:=0) (y1g _))
 have c2:F_q1a (tellF k w) (⟨6,k,⟨0,[],0,0,0,0,0,0,0,0⟩,[],0,0,0⟩:TSt) false=some (tellsS k w):=zhe hv.1 (z64 (n:=6) (k:=k) (y:=0) (y1g _))
 generalize (stepW (tellF k w) (fourS 6 k [] 0)).2=e at c1
 unfold settleS
 generalize tellsS k w=u at hx c1 c2 |-
 obtain⟨b1,hz⟩:=z4n (body:=fun i s=>(S_qw_b2 k (e,⟨u⟩) i s).den) (n:=u.K.E.length) (fun v:TWo=>(⟨v⟩:TCa)) (fun i v=>exW v (fourS 8 k (u.K.E.getD i dF).B (u.K.E.getD i dF).D)) (VN n) (fun i s hi hs=>⟨by
  simp only[S_qw_b2,Scr.den]
  have e1:F_q42 (⟨8,k,⟨0,[],0,0,0,0,0,0,0,0⟩,(u.K.E.getD i dF).B,(u.K.E.getD i dF).D,0,0⟩:TSt) ⟨s⟩=some ⟨_⟩:=zt4 hs.1 (z64 (hx.1.potLen hi))
  rw[e1]
  rfl,hs.ex _⟩) hx
 obtain⟨b2,_⟩:=z4n (body:=fun i s=>(S_q3_b3 (w,k) u i s).den) (n:=u.K.E.length) (fun v:TWo=>v) (fun i v=>exW v (fourS 8 k (u.K.E.getD i dF).B (u.K.E.getD i dF).D)) (VN n) (fun i s hi hs=>⟨by
  simp only[S_q3_b3,Scr.den]
  have e1:F_q1a s (⟨8,k,⟨0,[],0,0,0,0,0,0,0,0⟩,(u.K.E.getD i dF).B,(u.K.E.getD i dF).D,0,0⟩:TSt) true=some _:=zk8 hs.1 (z64 (hx.1.potLen hi))
  rw[e1]
  rfl,hs.ex _⟩) hx
 have ho:=h.1.2.1
 have hn':=h.2
 refine⟨?_,?_,hz⟩
 ·simp only[F_qw,S_qw,Scr.den]
  rw[a1]
  simp only[zb]
  rw[c1]
  simp only[obind]
  rw[b1]
  rfl
 ·simp only[S_q3_b4,Scr.den]
  rw[y8 (by rw[y9]; omega),a2]
  simp only[zb]
  rw[c2]
  simp only[obind]
  rw[b2,wrapId (n:=k+1) om om]
  rfl
noncomputable def calmS (w:TWo):TWo:=foldN (fun i=>settleS ((i:Int)+1)) w.J.length (foldN (fun _=>arrS) w.N.length w)
theorem zkb (h:VW w):F_qe w=some (calmS w,0)/\F_q3 w=some (calmS w,0)/\VW (calmS w):=by
 have hl:=h.len
 have hn:VN w.J.length w:=⟨h,rfl⟩
 obtain⟨a1,hv⟩:=zhd (fun v:TWo=>(⟨v⟩:TCa)) (step:=fun s=>(S_qe_b1 s).den) (n:=w.J.length) (fun v hv hm=>zux hv.1 hm) (fun v hm=>by
  simp only[S_qe_b1,Scr.den]
  rw[y7 (by simp only[y9]; omega)]) (fun s=>s.w.N.length) (fun _=>rfl) hn
 obtain⟨a2,_⟩:=zhd (fun v:TWo=>v) (step:=fun s=>(S_q3_b1 s).den) (n:=w.J.length) (fun v hv hm=>zlg hv.1 hm) (fun v hm=>by
  simp only[S_q3_b1,Scr.den]
  rw[y7 (by simp only[y9]; omega)]) (fun s=>s.N.length) (fun _=>rfl) hn
 unfold calmS
 generalize foldN (fun _=>arrS) w.N.length w=v at a1 a2 hv |-
 obtain⟨b1,hz⟩:=z4n (body:=fun i s=>(S_qe_b2 i s).den) (n:=w.J.length) (fun v:TWo=>(⟨v⟩:TCa)) (fun i=>settleS ((i:Int)+1)) (VN w.J.length) (fun i s hi hs=>by
  obtain⟨q1,_,q3⟩:=zcy hs (k:=(i:Int)+1) om hl.2
  refine⟨?_,q3⟩
  simp only[S_qe_b2,Scr.den]
  rw[wrapId (n:=(i:Int)+1) om om,q1]
  rfl) hv
 obtain⟨s,b2,hs⟩:=z2i (step:=fun s=>(S_q3_b4 s).den) (fun s=>((w.J.length:Int)+1-s.2).toNat) (fun s=>∃ i:Nat,i<=w.J.length/\s.2=(i:Int)+1/\s.1=foldN (fun i=>settleS ((i:Int)+1)) i v/\VN w.J.length s.1) (fun s=>s.1=foldN (fun i=>settleS ((i:Int)+1)) w.J.length v) (fun s hI=>by
  obtain⟨z,k⟩:=s
  obtain⟨i,h1,h2,h3,h4⟩:=hI
  simp only at h2 h3 h4
  subst h2
  by_cases c:i<w.J.length
  ·obtain⟨_,q2,q3⟩:=zcy h4 (k:=(i:Int)+1) om hl.2
   exact .inl ⟨_,q2,⟨i+1,c,sj,by rw[h3]; rfl,q3⟩,by simp only; omega⟩
  ·have ho:=h4.1.2.1
   have hj:=h4.2
   have:i=w.J.length:=om
   subst this
   refine .inr ⟨(z,(w.J.length:Int)+1),?_,h3⟩
   simp only[S_q3_b4,Scr.den]
   rw[y7 (by rw[y9]; omega)]) (w.J.length+2) (v,1) (by simp only; omega) ⟨0,y1g _,rfl,rfl,hv⟩
 refine⟨?_,?_,hz.1⟩
 ·simp only[F_qe,S_qe,Scr.den,z2w h,obind]
  rw[y7 dk,a1]
  simp only[zb]
  rw[Ga,b1]
  simp only[zb]
  rw[za0 hz.1.fr]
  rfl
 ·simp only[F_q3,S_q3,Scr.den,z2c h,obind]
  rw[y7 dk,a2]
  simp only[zb]
  rw[b2]
  simp only[zb]
  rw[hs]
theorem zr1 (hs:ShW w):∃ x,F_qe w=some x/\F_q3 w=some x/\z60 x:=by
 by_cases h:VW w
 ·obtain⟨h1,h2,h3⟩:=zkb h
  exact⟨_,h1,h2,.inl ⟨rfl,h3⟩⟩
 ·refine⟨(zWd,1),?_,?_,.inr ⟨dk,rfl⟩⟩
  ·simp only[F_qe,S_qe,Scr.den]
   rw[z2o hs,@decide_eq_false _ (_) h]
   rfl
  ·simp only[F_q3,S_q3,Scr.den]
   rw[z2x hs,@decide_eq_false _ (_) h]
   rfl
theorem VW.sh (h:VW w):ShW w:=⟨J13.TOk.bsm h.1,⟨by have:=h.len; omega,fun j hj=>by
 obtain⟨i,hi,rfl⟩:=z13 hj
 exact (h.2.2.2.1 i hi).1.shr⟩,by have:=h.2.2.1; omega⟩
theorem zf1 (w:TWo):∃ b,F_qf w=some b/\(b=true->ShW w):=by
 simp only[F_qf,S_qf,Scr.den,zd]
 obtain⟨g1,g2⟩:=zi (ρ:=Bool) (n:=w.J.length) (c:=false) (body:=fun i s=>(S_qf_b1 w i s).den) (fun i=>F_qc (w.J.getD i dF)=some true) (fun i hi h=>by
  simp only[S_qf_b1,Scr.den,h,obind]
  rw[y7 dk]) (fun i hi h=>by
  obtain⟨b,e⟩:=zdp (w.J.getD i dF)
  cases b with
  | true=>exact absurd e h
  | false =>
   simp only[S_qf_b1,Scr.den,e,obind]
   rw[y8 dk])
 obtain⟨g3,g4⟩:=zi (ρ:=Bool) (n:=w.N.length) (c:=false) (body:=fun i s=>(S_qf_b2 w i s).den) (fun i=>(w.N.getD i dF).B.length<=60) (fun i hi h=>by
  simp only[S_qf_b2,Scr.den]
  rw[y7 (by simp only[y9]; omega)]) (fun i hi h=>by
  simp only[S_qf_b2,Scr.den]
  rw[y8 (by simp only[y9]; omega)])
 by_cases h1:∀ i,i<w.J.length->F_qc (w.J.getD i dF)=some true
 ·rw[g1 h1]
  simp only[zb]
  by_cases h2:∀ i,i<w.N.length->(w.N.getD i dF).B.length<=60
  ·rw[g3 h2]
   simp only[zb]
   obtain⟨b,e,hb⟩:=J13.SmallTreasury_spec w.K
   rw[e]
   refine⟨_,rfl,fun h=>?_⟩
   simp only[yj,y9] at h
   refine⟨hb h.1.1,⟨om,fun j hj=>?_⟩,om⟩
   obtain⟨i,hi,rfl⟩:=z13 hj
   exact (zeu _ (h1 i hi)).shr
  ·rw[g4 h2]
   exact⟨_,rfl,fun h=>by cases h⟩
 ·rw[g2 h1]
  exact⟨_,rfl,fun h=>by cases h⟩
theorem z89 {n:Int} (hl:∀ s∈l,s.B.length<=reachBytes/\s.Op.B.length<=reachBytes):∃ b,F_q1c l n=some b/\(b=true->(l.length:Int)<=n/\∀ s∈l,SOk s):=by
 have hrb:reachBytes=140737488351232:=rfl
 simp only[F_q1c,S_q1c,Scr.den]
 obtain⟨g1,g2⟩:=zi (ρ:=Bool) (n:=l.length) (c:=false) (body:=fun i s=>(S_q1c_b1 l i s).den) (fun i=>(l.getD i dF).B.length+(l.getD i dF).Op.B.length<=100) (fun i hi h=>by
  have hw:i64.wrap (((l.getD i dF).B.length:Int)+((l.getD i dF).Op.B.length:Int))=((l.getD i dF).B.length:Int)+((l.getD i dF).Op.B.length:Int):=wrapId om om
  simp only[S_q1c_b1,Scr.den]
  rw[hw,y7 (by simp only[y9]; omega)]) (fun i hi h=>by
  obtain⟨q1,q2⟩:=hl _ (z8 hi)
  have hw:i64.wrap (((l.getD i dF).B.length:Int)+((l.getD i dF).Op.B.length:Int))=((l.getD i dF).B.length:Int)+((l.getD i dF).Op.B.length:Int):=wrapId om om
  simp only[S_q1c_b1,Scr.den]
  rw[hw,y8 (by simp only[y9]; omega)])
 by_cases h1:∀ i,i<l.length->(l.getD i dF).B.length+(l.getD i dF).Op.B.length<=100
 ·rw[g1 h1]
  refine⟨_,rfl,fun h=>⟨y24 h,fun s hs=>?_⟩⟩
  obtain⟨i,hi,rfl⟩:=z13 hs
  have:=h1 i hi
  exact⟨om,om⟩
 ·rw[g2 h1]
  exact⟨_,rfl,fun h=>by cases h⟩
theorem zkc {n m:Int} (hn:1<=n/\n<=6) (hm:0<=m/\m<=1000) {s:TTape} (hs:TapeOk s):∃ s' l,F_q1t n m s=some (s',l)/\TapeOk s'/\(l.length:Int)<=m/\∀ x∈l,SOk x:=by
 simp only[F_q1t,S_q1t,Scr.den,zeq hn,obind]
 obtain⟨v,e,hv⟩:=z2i (step:=fun s=>(S_q1t_b1 n m s).den) (fun s=>(m-s.2.2.2.2).toNat) (fun s=>TapeOk s.1/\VW s.2.1/\(s.2.1.J.length:Int)=n/\(0<=s.2.2.2.2/\s.2.2.2.2<=m/\(s.2.2.1.length:Int)=s.2.2.2.2)/\∀ x∈s.2.2.1,SOk x)
  (fun s=>TapeOk s.1/\(s.2.2.1.length:Int)<=m/\∀ x∈s.2.2.1,SOk x) (fun s hI=>by
   obtain⟨i1,i2,i3,i4,i5⟩:=hI
   obtain⟨t,w,l,d,i⟩:=s
   simp only at i1 i2 i3 i4 i5
   simp only[S_q1t_b1,Scr.den]
   by_cases c:i<m
   ·rw[y8 (by simpa using c)]
    obtain⟨z1,s6,q1,t6,y1⟩:=z1d (n:=9) i1 om om
    obtain⟨z2,s7,q2,t7,y2⟩:=z10 (l:=[0,1,z1]) t6 sj sj
    obtain⟨p,s8,q3,t8,g1,g2⟩:=zqj i2 (day:=i64.wrap (d+z2)) i3 i4.1 t7
    rw[q1]
    simp only[obind]
    rw[q2]
    simp only[obind]
    rw[q3]
    simp only[obind]
    rw[z44 i2 g1.ok.1 g1.ok.2]
    simp only[obind]
    have ei:i64.wrap (i+1)=i+1:=wrapId om om
    have hall:∀ x∈l++[p],SOk x:=fun x hx=>by
     rcases y1p.1 hx with hx | hx
     ·exact i5 x hx
     ·rw[y2b.1 hx]; exact g1.ok
    have hlen:((l++[p]).length:Int)=i+1:=by rw[yp]; simp; omega
    have h1p:([p]:List TSt).length=1:=rfl
    by_cases c0:(stepW w p).2=0
    ·rw[y8 (by simpa using c0)]
     simp only[zb]
     rw[Ga,ei]
     obtain⟨w1,w2⟩:=z87 i2 c0
     exact .inl ⟨_,rfl,⟨t8,w2,by show ((stepW w p).1.J.length:Int)=n; omega,⟨by show 0<=i+1; omega,by show i+1<=m; omega,hlen⟩,hall⟩,by show (m-(i+1)).toNat<(m-i).toNat; omega⟩
    ·rw[y7 (by simpa using c0)]
     simp only[zb]
     rw[Ga,ei]
     exact .inl ⟨_,rfl,⟨t8,i2,i3,⟨by show 0<=i+1; omega,by show i+1<=m; omega,hlen⟩,hall⟩,by show (m-(i+1)).toNat<(m-i).toNat; omega⟩
   ·rw[y7 (by simpa using c)]
    exact .inr ⟨_,rfl,i1,by show (l.length:Int)<=m; omega,i5⟩) 1001 (s,newW n,[],4320,0) (by show (m-0).toNat<1001; omega) ⟨hs,zjx hn,zk0 om,⟨y1h _,hm.1,rfl⟩,fun x hx=>(by cases hx)⟩
 obtain⟨h1,h2,h3⟩:=hv
 rw[e]
 exact⟨_,_,rfl,h1,h2,h3⟩
theorem zhz {a:TSt} (ha:SOk a) {s:TTape} (hs:TapeOk s):∃ p s',F_q70 a s=some (p,s')/\TapeOk s'/\SOk p:=by
 simp only[F_q70,S_q70,Scr.den]
 obtain⟨k,s1,e1,q1,k0,k1⟩:=z1d (n:=7) hs om om
 simp only[e1,obind]
 by_cases h:(k==0)=true
 ·rw[y8 h]
  obtain⟨v,s2,e2,q2,_⟩:=z29 (lo:=0) (hi:=12) q1 om om om
  rw[e2]
  exact⟨_,_,rfl,q2,ha⟩
 rw[y7 h]
 by_cases h:(k==1)=true
 ·rw[y8 h]
  obtain⟨v,s2,e2,q2,_⟩:=z10 (l:=[(-1),0,7]) q1 dk dk
  rw[e2]
  exact⟨_,_,rfl,q2,ha⟩
 rw[y7 h]
 by_cases h:(k==2)=true
 ·rw[y8 h]
  obtain⟨v,s2,e2,q2,hv⟩:=J13.BadCode_spec q1
  rw[e2]
  exact⟨_,_,rfl,q2,by show v.length<=_; omega,ha.2⟩
 rw[y7 h]
 by_cases h:(k==3)=true
 ·rw[y8 h]
  obtain⟨v,s2,e2,q2,_⟩:=z10 (l:=[(-1),13,100]) q1 dk dk
  rw[e2]
  exact⟨_,_,rfl,q2,ha⟩
 rw[y7 h]
 by_cases h:(k==4)=true
 ·rw[y8 h]
  obtain⟨v,s2,e2,q2,_⟩:=z10 (l:=[(-1),0,100000,1152921504606846976]) q1 dk dk
  rw[e2]
  exact⟨_,_,rfl,q2,ha⟩
 rw[y7 h]
 by_cases h:(k==5)=true
 ·rw[y8 h]
  obtain⟨v,s2,e2,q2,_⟩:=z10 (l:=[(-1),0,50]) q1 dk dk
  rw[e2]
  exact⟨_,_,rfl,q2,ha⟩
 rw[y7 h]
 obtain⟨v,s2,e2,q2,_⟩:=z29 (lo:=0) (hi:=10) q1 om om om
 rw[e2]
 exact⟨_,_,rfl,q2,ha⟩
theorem zgb (h:VW w) (hb:Bd 50 w) {s:TTape} (hs:TapeOk s):∃ v s',F_q3g w s=some (v,s')/\TapeOk s'/\ShW v:=by
 have hw:=h.sh
 have hl:=h.len
 have hm:=h.2.2.1
 simp only[F_q3g,S_q3g,Scr.den]
 rw[Ga,Ga]
 obtain⟨k,s1,e1,q1,k0,k1⟩:=z1d (n:=6) hs om om
 simp only[e1,obind]
 by_cases c:(k==0)=true
 ·rw[y8 c]
  obtain⟨o,s2,l,e2,q2,hbs⟩:=J13.Bent_spec h.1 q1
  simp only[e2,obind]
  have hlen:=hbs.1
  simp only at hlen
  rw[Ga,Ga,Ga]
  exact⟨_,_,rfl,q2,hbs,hw.2⟩
 rw[y7 c]
 by_cases c:(k==1)=true
 ·rw[y8 c]
  obtain⟨i,s2,e2,q2,i0,i1⟩:=z1d (n:=(w.J.length:Int)) q1 om om
  rw[e2]
  simp only[obind,yo]
  have hi:i.toNat<w.J.length:=om
  have hr:=hb.2 _ hi
  obtain⟨j,s3,e3,q3,hj⟩:=zdq (j:=w.J.getD i.toNat dF) ((h.2.2.2.1 _ hi).1.sr om) hr q2
  rw[e3]
  simp only[obind]
  rw[z7 ⟨i0,hi,hi,trivial⟩,z7 ⟨by rw[yl]; omega,trivial⟩,Ga]
  refine⟨_,_,rfl,q3,hw.1,⟨by show (w.J.set _ _).length<=_; rw[yl]; omega,fun x hx=>?_⟩,hw.2.2⟩
  rcases y1v hx with hx | rfl
  ·exact hw.2.1.2 x hx
  ·exact hj.shr
 rw[y7 c]
 by_cases c:(k==2)=true
 ·rw[y8 c]
  obtain⟨v1,s2,e2,q2,_⟩:=z1d (n:=3) q1 om om
  obtain⟨v2,s3,e3,q3,_⟩:=z1d (n:=3) q2 om om
  obtain⟨v3,s4,e4,q4,_⟩:=z10 (l:=[0,50,5000]) q3 dk dk
  obtain⟨v4,s5,e5,q5,_⟩:=z10 (l:=[0,0,30]) q4 dk dk
  simp only[e2,e3,e4,e5,obind]
  rw[Ga,Ga,z7 ⟨by rw[yp,y1w]; omega,trivial⟩]
  exact⟨_,_,rfl,q5,hw.1,hw.2.1,by show (w.N++[_]).length<=_; rw[yp,y1w]; omega⟩
 rw[y7 c]
 by_cases c:(k==3)=true
 ·rw[y8 c,Ga,Ga,Ga]
  exact⟨_,_,rfl,q1,hw.1,⟨by show (w.J.drop 1).length<=_; rw[y2v]; omega,fun x hx=>hw.2.1.2 x (y36 hx)⟩,hw.2.2⟩
 rw[y7 c]
 by_cases c:(k==4)=true
 ·rw[y8 c]
  by_cases hp:0<w.N.length
  ·rw[y8 (by simp only[y9]; omega)]
   obtain⟨v,s2,e2,q2,_⟩:=z10 (l:=[1,100]) q1 dk dk
   rw[e2]
   simp only[obind]
   rw[z7 ⟨hp,hp,trivial⟩]
   simp only[zb]
   rw[Ga,z7 ⟨by rw[yl]; omega,trivial⟩]
   exact⟨_,_,rfl,q2,hw.1,hw.2.1,by show (w.N.set _ _).length<=_; rw[yl]; omega⟩
  ·rw[y7 (by simp only[y9]; omega)]
   simp only[zb]
   rw[Ga,Ga]
   exact⟨_,_,rfl,q1,hw⟩
 rw[y7 c]
 by_cases hp:0<w.N.length
 ·rw[y8 (by simp only[y9]; omega)]
  obtain⟨v,s2,e2,q2,_⟩:=z10 (l:=[1,1000]) q1 dk dk
  rw[e2]
  simp only[obind]
  rw[z7 ⟨hp,hp,trivial⟩]
  simp only[zb]
  rw[Ga,z7 ⟨by rw[yl]; omega,trivial⟩]
  exact⟨_,_,rfl,q2,hw.1,hw.2.1,by show (w.N.set _ _).length<=_; rw[yl]; omega⟩
 ·rw[y7 (by simp only[y9]; omega)]
  simp only[zb]
  rw[Ga,Ga]
  exact⟨_,_,rfl,q1,hw⟩
variable {d:α}
theorem zw8 {q:α->Prop} {a b:α} (h0:q a) (h1:q b) (hi:i<2):q (([a,b]:List α).getD i d):=by
 have:i=0\/i=1:=om
 rcases this with rfl | rfl
 ·exact h0
 ·exact h1
theorem zw9 {q:α->Prop} {a b c:α} (h0:q a) (h1:q b) (h2:q c) (hi:i<3):q (([a,b,c]:List α).getD i d):=by
 have:i=0\/i=1\/i=2:=om
 rcases this with rfl | rfl | rfl
 ·exact h0
 ·exact h1
 ·exact h2
theorem sameFr (h:zg6 w):F_qa w w=some true:=by
 rw[zcx (by have:=h.1.1; omega) h.2.1 h.2.2.1 h.2.2.2,@decide_eq_true _ (_) rfl]
theorem sameSh (h:ShW v) (w:TWo):F_qa v w=F_q59 v w:=by
 rw[zez,zcx (by have:=h.1.1; omega) (by have:=h.2.1.1; omega) (fun j hj=>(h.2.1.2 j hj).1) (by have:=h.2.2; omega)]
variable {raw:TWo} {code:Y8}
theorem zst {p:TSt} {n:Int} {rv1:R_q1t} {s:TTape} {m:List TSt} (hs:TapeOk s) (hm:∀ x∈m,SOk x) (hi:i<m.length) :
  ∃ s' m',(S_q1_b1 raw p l code n rv1 i (s,m)).den=some (.cont (s',m'))/\TapeOk s'/\m'.length=m.length/\∀ x∈m',SOk x:=by
 simp only[S_q1_b1,Scr.den,yo]
 obtain⟨k,s1,e1,q1,_⟩:=z1d (n:=10) hs om om
 rw[e1]
 simp only[obind]
 by_cases c:(k==9)=true
 ·rw[y8 c]
  obtain⟨x,s2,e2,q2,hx⟩:=zhz (hm _ (z8 hi)) q1
  rw[e2]
  simp only[obind]
  rw[z7 ⟨hi,hi,trivial⟩]
  refine⟨_,_,rfl,q2,by rw[yl],fun y hy=>?_⟩
  rcases y1v hy with hy | rfl
  ·exact hm y hy
  ·exact hx
 ·rw[y7 c]
  exact⟨_,_,rfl,q1,rfl,hm⟩
theorem zwa {n:Int} {x:TWo×List Int×Int} (h:RunOk n l x):zg6 x.1:=by
 rcases h.1 with e | h
 ·rw[e]; exact zvz
 ·exact h.fr
variable {sv3:TTape×List TSt}
theorem zsu {n:Int} {j:Nat} (hl:(([sv3.2,l]:List (List TSt)).getD i dF).length<=200) (hk:∀ x∈(([sv3.2,l]:List (List TSt)).getD i dF),SOk x):(S_q1_b2 l n sv3 i j ()).den=some (.cont ()):=by
 obtain⟨x,e1,e2,hx⟩:=zhc (n:=([2,n]:List Int).getD j dF) hl hk
 simp only[S_q1_b2,Scr.den,e1,e2,obind,z9]
 rw[Gg,znv]
 simp only[obind]
 rw[Gg,sameFr (zwa hx)]
 simp only[obind]
 rw[y7 sj]
theorem zsv {n:Int} (hl:(([sv3.2,l]:List (List TSt)).getD i dF).length<=200/\∀ x∈(([sv3.2,l]:List (List TSt)).getD i dF),SOk x):(S_q1_b3 l n sv3 i ()).den=some (.cont ()):=by
 simp only[S_q1_b3,Scr.den]
 obtain⟨g,_⟩:=zi (body:=fun j s=>(S_q1_b2 l n sv3 i j s).den) (n:=2) (c:=false) (fun _=>True) (fun j hj _=>zsu hl.1 hl.2) (fun j hj h=>absurd trivial h)
 rw[g fun _ _=>trivial]
 rfl
variable {rv16:R_q10} {rv17:R_q3g}
theorem zsw {j:Nat} (hw:ShW (([rv16.1,rv17.1,raw]:List TWo).getD i dF)):(S_q1_b4 raw code rv16 rv17 i j ()).den=some (.cont ()):=by
 obtain⟨x,e1,e2⟩:=zqw hw (([code,[49]]:List Y8).getD j dF) 12
 simp only[S_q1_b4,Scr.den,e1,e2,obind,z9]
 rw[y7 sj]
theorem zsx {n:Int} {j:Nat} (hw:ShW (([rv16.1,rv17.1,raw]:List TWo).getD i dF)):(S_q1_b5 raw n rv16 rv17 i j ()).den=some (.cont ()):=by
 obtain⟨x,e1,e2,hx⟩:=zlf hw (([n,1,3]:List Int).getD j dF)
 simp only[S_q1_b5,Scr.den,e1,e2,obind,z9]
 rw[Gg,zss hx]
 simp only[obind]
 rw[y7 sj]
theorem zsy {p:TSt} {n:Int} (hw:ShW (([rv16.1,rv17.1,raw]:List TWo).getD i dF)) (hp:SOk p):(S_q1_b6 raw p code n rv16 rv17 i ()).den=some (.cont ()):=by
 obtain⟨b,s1,s2⟩:=zqx hw
 obtain⟨x,d1,d2,hx⟩:=zuw hw hp
 obtain⟨y,c1,c2,hy⟩:=zr1 hw
 have m1:=zez (([rv16.1,rv17.1,raw]:List TWo).getD i dF) raw
 have m2:=sameSh hw raw
 rw[m1] at m2
 simp only[S_q1_b6,Scr.den,z2o hw,z2x hw,s1,s2,m1,m2,obind,z9]
 rw[Gg]
 simp only[obind]
 rw[Gg]
 simp only[obind]
 rw[y7 sj]
 obtain⟨g1,_⟩:=zi (body:=fun j s=>(S_q1_b4 raw code rv16 rv17 i j s).den) (n:=2) (c:=false) (fun _=>True) (fun j hj _=>zsw hw) (fun j hj h=>absurd trivial h)
 rw[g1 fun _ _=>trivial]
 simp only[zb]
 rw[d1,d2,c1,c2]
 simp only[obind]
 rw[Gg,sameFr hx.fr]
 simp only[obind]
 rw[Gg,sameFr hy.fr]
 simp only[obind]
 rw[y7 sj]
 obtain⟨g2,_⟩:=zi (body:=fun j s=>(S_q1_b5 raw n rv16 rv17 i j s).den) (n:=3) (c:=false) (fun _=>True) (fun j hj _=>zsx hw) (fun j hj h=>absurd trivial h)
 rw[g2 fun _ _=>trivial]
 rfl
theorem zae (t:List Int) (raw:TWo) (p:TSt) (l:List TSt) (code:Y8) (year n:Int) (hp:p.B.length<=reachBytes/\p.Op.B.length<=reachBytes) (hl:∀ s∈l,s.B.length<=reachBytes/\s.Op.B.length<=reachBytes) :
  F_q1 t raw p l code year n=some true:=by
 obtain⟨b1,e1,h1⟩:=zf1 raw
 obtain⟨b2,e2,h2⟩:=z89 (l:=[p]) (n:=1) (fun s hs=>by rw[y2b.1 hs]; exact hp)
 obtain⟨b3,e3,h3⟩:=z89 (l:=l) (n:=12) hl
 simp only[F_q1,S_q1,Scr.den,e1,e2,e3,zsm,obind,z9,zd]
 cases b1 with
 | false =>
  rw[Gh]
  simp only[obind]
  rw[Gh]
  simp only[obind]
  rw[y8 sj]
 | true =>
 rw[Gg]
 simp only[obind]
 cases b2 with
 | false =>
  rw[Gh]
  simp only[obind]
  rw[y8 sj]
 | true =>
 rw[Gg]
 simp only[obind]
 by_cases hc:¬ (b3=true/\code.length<=60)
 ·rw[y8 (by
   cases b3 with
   | false=>simp
   | true =>
    have:¬ code.length<=60:=fun k=>hc ⟨rfl,k⟩
    simp only[ye,y9]
    exact .inr om)]
 obtain⟨rfl,hc⟩:=y2n.1 hc
 rw[y7 sk]
 have hraw:=h1 rfl
 have hpk:SOk p:=(h2 rfl).2 p (y2b.2 rfl)
 obtain⟨hl12,hlk⟩:=h3 rfl
 obtain⟨s0,e4,q4⟩:=zs0 t
 obtain⟨s1,made,e5,q5,hm16,hmk⟩:=zkc (n:=2) (m:=16) om om q4
 rw[e4]
 simp only[obind]
 rw[e5]
 simp only[obind]
 rw[Ga]
 obtain⟨s2,e6,h6⟩:=zq (body:=fun i s=>(S_q1_b1 raw p l code n (s1,made) i s).den) (n:=made.length) (fun _ s=>TapeOk s.1/\s.2.length=made.length/\∀ x∈s.2,SOk x) (s0:=(s1,made)) ⟨q5,rfl,hmk⟩ (fun i s hi hI=>by
  obtain⟨s,m⟩:=s
  obtain⟨i1,i2,i3⟩:=hI
  simp only at i2
  obtain⟨s',m',e,a1,a2,a3⟩:=zst (raw:=raw) (p:=p) (l:=l) (code:=code) (n:=n) (rv1:=(s1,made)) i1 i3 (show i<m.length from om)
  exact⟨_,e,a1,a2.trans i2,a3⟩)
 rw[e6]
 obtain⟨s3,bent⟩:=s2
 obtain⟨q6,hbl,hbk⟩:=h6
 simp only at q6 hbl hbk
 simp only[zb]
 rw[Ga]
 obtain⟨g1,_⟩:=zi (body:=fun i s=>(S_q1_b3 l n (s3,bent) i s).den) (n:=2) (c:=false) (fun _=>True) (fun i hi _=>zsv (zw8 (q:=fun m:List TSt=>m.length<=200/\∀ x∈m,SOk x) ⟨by show bent.length<=200; omega,hbk⟩ ⟨om,hlk⟩ hi)) (fun i hi h=>absurd trivial h)
 rw[g1 fun _ _=>trivial]
 simp only[zb]
 obtain⟨x,_,r3,hx⟩:=zhc (n:=2) (l:=bent) om hbk
 obtain⟨hv,hj,hB⟩:=hx.2 om
 obtain⟨v,s4,e7,q7,hsv⟩:=zgb hv (hB.mono om) q6
 rw[r3]
 simp only[obind]
 rw[e7]
 simp only[obind]
 obtain⟨g3,_⟩:=zi (body:=fun i s=>(S_q1_b6 raw p code n x (v,s4) i s).den) (n:=3) (c:=false) (fun _=>True) (fun i hi _=>zsy (zw9 hv.sh hsv hraw hi) hpk) (fun i hi h=>absurd trivial h)
 rw[g3 fun _ _=>trivial]
 simp only[zb]
 obtain⟨y,n1,n2,hy,_⟩:=zf0 n
 rw[n1,n2]
 simp only[obind]
 rw[Gg,sameFr hy.fr]
 simp only[obind]
 rw[Gg]
 simp
end Go.Proofs.YtkhgaalekilaeaaGreatDoor
