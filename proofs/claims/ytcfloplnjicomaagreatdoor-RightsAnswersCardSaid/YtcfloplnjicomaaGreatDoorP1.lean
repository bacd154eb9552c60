/- A part of the proof: plain laws of what the functions compute. No condition. -/
import Derived.Test.YtcfloplnjicomaaGreatDoorG6
import Derived.Test.YtcfloplnjicomaaGreatDoorT8
import Derived.Test.YtcfloplnjicomaaGreatDoorT5
namespace Go.Proofs.YtcfloplnjicomaaGreatDoor
open Go Go.TA
open Go.IntKind (i64)
def goodR:Y8->Nat->Nat->Bool
 | [],d,p=>decide (0<d)&&decide (p<=4)
 | c :: l,d,p=>if c.toNat=46 then (if d=0 then false else goodR l 0 (p+1)) else
  if c.toNat<48\/57<c.toNat\/(d=0/\c.toNat=48)\/d=2 then false else goodR l (d+1) p
def dig (c:UInt8):Prop:=48<=c.toNat/\c.toNat<=57
def preOk:Y8->Prop
 | []=>True
 | [a]=>dig a/\a.toNat≠48
 | [a,b]=>dig a/\a.toNat≠48/\dig b
 | _=>False
def cntOk (ws:List Y8) (p:Nat):Bool:=match nums ws with
 | none=>false
 | some ns=>decide (ns.length+p<=5)
theorem z59 (w:Y8) (ws:List Y8) (p:Nat):cntOk (w :: ws) p=match pv w with
  | none=>false
  | some _=>cntOk ws (p+1):=by
 unfold cntOk
 simp only[nums]
 cases pv w with
 | none=>rfl
 | some n =>
  cases nums ws with
  | none=>rfl
  | some ns =>
   simp only[y1n,y19]
   congr 1
   rw[eq_iff_iff]; omega
theorem z8m:∀ {w:Y8},preOk w->w≠[]->∃ n,pv w=some n
 | [a],h,_=>⟨_,by simp only[pv]; rw[yb ⟨by have:=h.1.1; have:=h.2; omega,h.1.2⟩]⟩
 | [a,b],h,_=>⟨_,by simp only[pv]; rw[yb ⟨⟨by have:=h.1.1; have:=h.2.1; omega,h.1.2⟩,h.2.2⟩]⟩
 | [],_,h=>absurd rfl h
 | _ :: _ :: _ :: _,h,_=>h.elim
variable {w:Y8}
theorem zek {pre:Y8} {c:UInt8} (hc:¬ dig c):pv (pre++c :: w)=none:=by
 match pre,w with
 | [],[]=>simp only[y24,pv]; rw[ya]; intro h; exact hc ⟨om,h.2⟩
 | [],[b]=>simp only[y24,pv]; rw[ya]; intro h; exact hc ⟨om,h.1.2⟩
 | [],b :: d :: w=>rfl
 | [a],[]=>simp only[y37,y24,pv]; rw[ya]; intro h; exact hc h.2
 | [a],b :: w=>rfl
 | [a,b],w=>rfl
 | a :: b :: d :: pre,w=>rfl
theorem zcn {c:UInt8} (hc:c.toNat=48):pv (c :: w)=none:=by
 match w with
 | []=>simp only[pv]; rw[ya]; omega
 | [b]=>simp only[pv]; rw[ya]; omega
 | b :: d :: w=>rfl
theorem z7j:∀ (l pre p0:Y8) (ps:List Y8) (p:Nat),preOk pre->pieces l=p0 :: ps->goodR l pre.length p=cntOk ((pre++p0) :: ps) p
 | [],pre,p0,ps,p,hp,he=>by
  cases he
  rw[y3m,z59]
  simp only[goodR]
  match pre,hp with
  | [],_=>rfl
  | a :: pre,hp =>
   obtain⟨n,hn⟩:=z8m hp sj
   rw[hn]
   simp[cntOk,nums]
 | c :: l,pre,p0,ps,p,hp,he=>by
  rw[z1l] at he
  simp only[goodR]
  by_cases hc:c.toNat=46
  ·rw[yb (by rw[show c=46 from UInt8.toNat_inj.mp hc]; rfl)] at he
   cases he
   rw[yb hc,y3m,z59]
   match pre,hp with
   | [],_=>rfl
   | a :: pre,hp =>
    obtain⟨n,hn⟩:=z8m hp sj
    rw[hn,ya sj]
    simp only
    cases hl:pieces l with
    | nil=>exact absurd hl (z14 l)
    | cons q qs =>
     have:=z7j l [] q qs (p+1) trivial hl
     simpa using this
  ·rw[ya (by intro h; rw[eq_of_beq h] at hc; exact hc rfl)] at he
   rw[ya hc]
   cases hl:pieces l with
   | nil=>exact absurd hl (z14 l)
   | cons q qs =>
    rw[hl] at he
    injection he with e1 e2
    subst e1
    subst e2
    have ih:=z7j l (pre++[c]) q qs p
    by_cases hd:dig c
    ·match pre,hp with
     | [],_ =>
      by_cases h0:c.toNat=48
      ·rw[yb (by right; right; left; exact⟨rfl,h0⟩),z59,y24,zcn h0]
      ·rw[ya (by have:=hd.1; have:=hd.2; simp; omega)]
       exact ih ⟨hd,h0⟩ hl
     | [a],hp =>
      rw[ya (by have:=hd.1; have:=hd.2; simp; omega)]
      have:=ih ⟨hp.1,hp.2,hd⟩ hl
      simpa using this
     | [a,b],hp =>
      rw[yb (by right; right; right; rfl),z59]
      rfl
     | _ :: _ :: _ :: _,hp=>exact hp.elim
    ·rw[yb (by unfold dig at hd; omega),z59,zek hd]
theorem z3s:∀ {ws:List Y8} {ns:List Int},nums ws=some ns->ns.length=ws.length
 | [],ns,h=>by cases h; rfl
 | w :: ws,ns,h=>by
  simp only[nums] at h
  split at h
  ·cases h
  ·cases hn:nums ws with
   | none=>rw[hn] at h; cases h
   | some ms =>
    rw[hn] at h
    cases h
    simp[z3s hn]
def good (l:Y8):Bool:=goodR l 0 1
theorem z4l (l:Y8):decide ((parts l).length>0)=good l:=by
 unfold good
 cases hl:pieces l with
 | nil=>exact absurd hl (z14 l)
 | cons q qs =>
  have:=z7j l [] q qs 1 trivial hl
  simp only[y1t,y24] at this
  rw[this]
  unfold parts cntOk
  rw[hl]
  cases hn:nums (q :: qs) with
  | none=>rfl
  | some ns =>
   have h1:=z3s hn
   simp only[y19] at h1
   simp only
   by_cases h4:ns.length>4
   ·simp only[yb h4]; simp; omega
   ·simp only[ya h4]; rw[y2t]; simp; omega
theorem z5z {l:Y8} (hl:l.length<4611686018427387904):F_qp l=some (good l):=by
 simp only[F_qp,S_qp,Scr.den,zx]
 generalize hF:(fun s=>(S_qp_b1 l s).den)=F
 have key:∀ (k i d p:Nat),i+k=l.length->d<=i->p<=i+1->outM (iterM F ((d:Int),(p:Int),(i:Int))) (fun s=>some (decide (s.1>0)&&decide (s.2.1<=4))) (fun x=>some (id x))=some (goodR (l.drop i) d p):=by
  intro k
  induction k with
  | zero =>
   intro i d p hk hd hp
   rw[z1q,y1i om,<- hF]
   simp only[S_qp_b1,Scr.den]
   rw[ya sk]
   simp only[outM,goodR]
   congr 1
   rw[y2t]; simp; omega
  | succ k ih =>
   intro i d p hk hd hp
   have hi:i<l.length:=om
   have ei:l.getD i 0=l[i]:=by simp[List.getD_eq_getElem?_getD,List.getElem?_eq_getElem hi]
   rw[z1q,y1m hi,<- y40 hF]
   simp only[S_qp_b1,Scr.den,yp,ei,zx,zj]
   generalize hcc:l[i]=c
   rw[yb sk,za ⟨om,hi,trivial⟩]
   have w1:i64.wrap ((p:Int)+1)=((p+1:Nat):Int):=by rw[wrapId om om]; omega
   have w2:i64.wrap ((i:Int)+1)=((i+1:Nat):Int):=by rw[wrapId om om]; omega
   have w3:i64.wrap ((d:Int)+1)=((d+1:Nat):Int):=by rw[wrapId om om]; omega
   simp only[w1,w2,w3,goodR]
   by_cases hc:c.toNat=46
   ·rw[yb (by simp[hc]),yb hc]
    by_cases h0:d=0
    ·rw[yb (by simp[h0]),yb h0]; rfl
    ·rw[ya (by simpa using h0),ya h0]
     have h:=ih (i+1) 0 (p+1) om om om
     rw[show ((0:Nat):Int)=0 from rfl] at h
     exact h
   ·rw[ya sk,ya hc,za ⟨fun _=>om,fun _=>hi,fun _=>om,fun _=>hi,trivial⟩]
    by_cases hb:c.toNat<48\/57<c.toNat\/(d=0/\c.toNat=48)\/d=2
    ·rw[yb sk,yb hb]; rfl
    ·rw[ya sk,ya hb]
     exact ih (i+1) (d+1) p om om om
 exact key l.length 0 0 1 om om om
theorem z5a {l:Y8} (hl:l.length<=1099511627776):F_q2v l=some (parts l):=by
 unfold F_q2v
 exact zb7 hl rfl
def lexC:List Int->List Int->Int
 | [],[]=>0
 | [],_ :: _=>-1
 | _ :: _,[]=>1
 | a :: x,b :: y=>if a<b then -1 else if a>b then 1 else lexC x y
theorem zb8:∀ x,lexC x x=0
 | []=>rfl
 | a :: x=>by simp[lexC,zb8 x]
theorem z4w:∀ {x y:List Int},lexC x y=0->x=y
 | [],[],_=>rfl
 | [],_ :: _,h=>by simp[lexC] at h
 | _ :: _,[],h=>by simp[lexC] at h
 | a :: x,b :: y,h=>by
  simp only[lexC] at h
  split at h
  ·omega
  ·split at h
   ·omega
   ·rw[z4w h,show a=b from om]
theorem zb9:∀ x y:List Int,lexC y x=-lexC x y
 | [],[]=>rfl
 | [],_ :: _=>rfl
 | _ :: _,[]=>rfl
 | a :: x,b :: y=>by
  simp only[lexC]
  by_cases h1:a<b
  ·rw[yb h1,ya om,yb om]; rfl
  ·by_cases h2:a>b
   ·rw[yb om,ya h1,yb h2]
   ·rw[ya h1,ya h2,ya om,ya om,zb9 x y]
theorem z9o:∀ {x y z:List Int},lexC x y<0->lexC y z<0->lexC x z<0
 | [],_,[],h,h'=>by
  rename_i y
  cases y with
  | nil=>simp[lexC] at h
  | cons b y=>simp[lexC] at h'
 | [],_,c :: z,_,_=>by simp[lexC]
 | a :: x,[],_,h,_=>by simp[lexC] at h
 | a :: x,b :: y,[],_,h'=>by simp[lexC] at h'
 | a :: x,b :: y,c :: z,h,h'=>by
  simp only[lexC] at h h' |-
  by_cases h1:a<b
  ·by_cases h2:b<c
   ·rw[yb om]; omega
   ·rw[ya h2] at h'
    by_cases h3:b>c
    ·rw[yb h3] at h'; omega
    ·rw[yb om]; omega
  ·rw[ya h1] at h
   by_cases h2:a>b
   ·rw[yb h2] at h; omega
   ·rw[ya h2] at h
    by_cases h3:b<c
    ·rw[yb om]; omega
    ·rw[ya h3] at h'
     by_cases h4:b>c
     ·rw[yb h4] at h'; omega
     ·rw[ya h4] at h'
      rw[ya om,ya om]
      exact z9o h h'
theorem zje:∀ {w w':Y8} {n:Int},pv w=some n->pv w'=some n->w=w'
 | [],_,_,h,_=>by simp[pv] at h
 | [a],[],_,_,h=>by simp[pv] at h
 | [a,b],[],_,_,h=>by simp[pv] at h
 | [a],[c],n,h,h'=>by
  simp only[pv] at h h'
  split at h <;> split at h' <;> simp at h h'
  have:a.toNat=c.toNat:=om
  rw[y4a.1 this]
 | [a],[c,d],n,h,h'=>by
  simp only[pv] at h h'
  split at h <;> split at h' <;> simp at h h'
  omega
 | [a,b],[c],n,h,h'=>by
  simp only[pv] at h h'
  split at h <;> split at h' <;> simp at h h'
  omega
 | [a,b],[c,d],n,h,h'=>by
  simp only[pv] at h h'
  split at h <;> split at h' <;> simp at h h'
  have h1:a.toNat=c.toNat:=om
  have h2:b.toNat=d.toNat:=om
  rw[y4a.1 h1,y4a.1 h2]
 | _ :: _ :: _ :: _,_,_,h,_=>by simp[pv] at h
 | _,_ :: _ :: _ :: _,_,_,h=>by simp[pv] at h
theorem zco:∀ {ws ws':List Y8} {ns:List Int},nums ws=some ns->nums ws'=some ns->ws=ws'
 | [],[],_,_,_=>rfl
 | [],w :: ws,ns,h,h'=>by
  have h1:=z3s h; have h2:=z3s h'; simp only[y1t,y19] at h1 h2; omega
 | w :: ws,[],ns,h,h'=>by
  have h1:=z3s h; have h2:=z3s h'; simp only[y1t,y19] at h1 h2; omega
 | w :: ws,w' :: ws',ns,h,h'=>by
  simp only[nums] at h h'
  split at h
  ·cases h
  ·rename_i n hn
   split at h'
   ·cases h'
   ·rename_i n' hn'
    cases hm:nums ws with
    | none=>rw[hm] at h; cases h
    | some ms =>
     cases hm':nums ws' with
     | none=>rw[hm'] at h'; cases h'
     | some ms' =>
      rw[hm] at h; rw[hm'] at h'
      simp only[y1n,yx] at h h'
      rw[<- h] at h'
      simp only[y30] at h'
      obtain⟨rfl,rfl⟩:=h'
      rw[zje hn hn',zco hm hm']
theorem z6n:∀ {l l':Y8},pieces l=pieces l'->l=l'
 | [],[],_=>rfl
 | [],b :: m,h=>by
  rw[z1l] at h
  split at h
  ·simp[pieces] at h; first | exact absurd h (z14 m) | exact absurd h.symm (z14 m)
  ·split at h <;> simp[pieces] at h
 | b :: m,[],h=>by
  rw[z1l] at h
  split at h
  ·simp[pieces] at h; first | exact absurd h (z14 m) | exact absurd h.symm (z14 m)
  ·split at h <;> simp[pieces] at h
 | b :: l,c :: m,h=>by
  rw[z1l,z1l] at h
  cases hl:pieces l with
  | nil=>exact absurd hl (z14 l)
  | cons p ps =>
   cases hm:pieces m with
   | nil=>exact absurd hm (z14 m)
   | cons q qs =>
    rw[hl,hm] at h
    by_cases hb:(b==46)=true
    ·by_cases hc:(c==46)=true
     ·rw[yb hb,yb hc] at h
      have e:pieces l=pieces m:=by rw[hl,hm]; simpa using h
      rw[z6n e,show b=c by rw[eq_of_beq hb,eq_of_beq hc]]
     ·rw[yb hb,ya hc] at h; simp at h
    ·by_cases hc:(c==46)=true
     ·rw[ya hb,yb hc] at h; simp at h
     ·rw[ya hb,ya hc] at h
      simp only[y30] at h
      obtain⟨⟨rfl,rfl⟩,rfl⟩:=h
      rw[z6n (hl.trans hm.symm)]
theorem z23 {l:Y8} (h:good l=true):nums (pieces l)=some (parts l)/\0<(parts l).length/\(parts l).length<=4:=by
 rw[<- z4l] at h
 have h0:0<(parts l).length:=by simpa using h
 unfold parts at h0 |-
 split at h0
 ·simp at h0
 ·rename_i ns hn
  split at h0
  ·simp at h0
  ·rename_i h4
   rw[hn]
   simp only[ya h4]
   exact⟨trivial,h0,om⟩
theorem zba {l l':Y8} (h:good l=true) (h':good l'=true) (e:parts l=parts l'):l=l' :=
 z6n (zco (z23 h).1 (e▸(z23 h').1))
def valW (w:Y8):Int:=w.foldl (fun n c=>10 * n+((c.toNat:Int)-48)) 0
theorem zcp:∀ {w:Y8} {n:Int},pv w=some n->valW w=n/\1<=w.length/\w.length<=2/\(w.getD 0 0).toNat≠48/\∀ c∈w,48<=c.toNat/\c.toNat<=57
 | [],_,h=>by simp[pv] at h
 | [a],n,h=>by
  simp only[pv] at h
  split at h <;> simp at h
  rename_i h1
  refine⟨by simp[valW]; omega,sj,sj,sk,fun c hc=>by simp at hc; subst hc; omega⟩
 | [a,b],n,h=>by
  simp only[pv] at h
  split at h <;> simp at h
  rename_i h1
  refine⟨by simp[valW]; omega,sj,sj,sk,fun c hc=>?_⟩
  simp at hc
  rcases hc with rfl | rfl <;> omega
 | _ :: _ :: _ :: _,_,h=>by simp[pv] at h
theorem z6o {l:Y8} (h:good l=true):l.length<=11:=by
 have key:∀ (l:Y8) (ns:List Int),nums (pieces l)=some ns->l.length+1<=3 * ns.length:=by
  intro l
  suffices H:∀ (l p0:Y8) (ps:List Y8),pieces l=p0 :: ps->l.length=p0.length+(ps.map fun q=>q.length+1).sum by
   intro ns hn
   cases hp:pieces l with
   | nil=>exact absurd hp (z14 l)
   | cons p0 ps =>
    rw[hp] at hn
    rw[H l p0 ps hp]
    have hall:∀ (ws:List Y8) (ms:List Int),nums ws=some ms->(ws.map fun q=>q.length+1).sum<=3 * ms.length:=by
     intro ws
     induction ws with
     | nil=>intro ms hm; simp
     | cons w ws ih =>
      intro ms hm
      simp only[nums] at hm
      split at hm
      ·cases hm
      ·rename_i n hpv
       cases hw:nums ws with
       | none=>rw[hw] at hm; cases hm
       | some ks =>
        rw[hw] at hm; cases hm
        have:=ih ks hw
        have:=(zcp hpv).2.2.1
        simp only[y2q,y2k,y19]
        omega
    have:=hall _ _ hn
    simp only[y2q,y2k] at this
    omega
  intro l
  induction l with
  | nil=>intro p0 ps hp; simp[pieces] at hp; obtain⟨rfl,rfl⟩:=hp; simp
  | cons b l ih =>
   intro p0 ps hp
   rw[z1l] at hp
   cases hl:pieces l with
   | nil=>exact absurd hl (z14 l)
   | cons q qs =>
    have:=ih q qs hl
    rw[hl] at hp
    split at hp
    ·simp only[y30] at hp
     obtain⟨rfl,rfl⟩:=hp
     simp only[y19,y1t,y2q,y2k]; omega
    ·simp only[y30] at hp
     obtain⟨rfl,rfl⟩:=hp
     simp only[y19]; omega
 obtain⟨h1,h2,h3⟩:=z23 h
 have:=key l _ h1
 omega
def cmpI (a b:Int):Int:=if a<b then -1 else if a>b then 1 else 0
theorem zdq (a b:Int):F_q1r a b=some (cmpI a b):=by
 simp only[F_q1r,S_q1r,F_q28,S_q28,Scr.den,obind,cmpI,bne_self_eq_false,y1a,yz,yf]
 by_cases h1:a<b
 ·rw[yb h1,yb h1]
 ·rw[ya h1,ya h1]
  by_cases h2:a>b
  ·rw[yb h2,yb h2]
  ·rw[ya h2,ya h2]
variable {i:Nat}
theorem z1p {l:List Int} (hi:i<l.length):l.getD i dF=l[i]:=by simp[List.getD_eq_getElem?_getD,List.getElem?_eq_getElem hi]
theorem z93 (x y:List Int):F_qv x y=some (lexC x y):=by
 simp only[F_qv,S_qv,Scr.den]
 generalize hB:(fun i s=>(S_qv_b1 x y i s).den)=B
 have key:∀ (k i:Nat),i+k=x.length->i<=y.length->outM (rangeM B k i ()) (fun _=>if decide ((x.length:Int)<(y.length:Int))=true then some (-1) else some 0) (fun r=>some (id r))=some (lexC (x.drop i) (y.drop i)):=by
  intro k
  induction k with
  | zero =>
   intro i hk hy
   rw[y1i om]
   by_cases h:y.length<=i
   ·rw[y1i h]
    simp only[rangeM,outM]
    rw[ya sk]
    rfl
   ·rw[y1m (by omega:i<y.length)]
    simp only[rangeM,outM]
    rw[yb sk]
    rfl
  | succ k ih =>
   intro i hk hy
   have hi:i<x.length:=om
   rw[y1m hi]
   simp only[rangeM]
   rw[<- y40 (y40 hB i) ()]
   simp only[S_qv_b1,Scr.den]
   by_cases h:y.length<=i
   ·rw[yb sk,y1i h]
    rfl
   ·have hj:i<y.length:=om
    rw[ya sk,za ⟨hj,trivial⟩,y1m hj]
    simp only[zdq,obind,z1p hi,z1p hj,lexC,cmpI]
    by_cases h1:x[i]<y[i]
    ·simp only[yb h1]; rfl
    ·simp only[ya h1]
     by_cases h2:x[i]>y[i]
     ·simp only[yb h2]; rfl
     ·simp only[ya h2]
      exact ih (i+1) om om
 have:=key x.length 0 om om
 simpa using this
def strC (a b:Y8):Int:=if Op.bytesLess a b=true then -1 else if (!(Op.bytesLess a b||a==b))=true then 1 else 0
def cmpC (a b:Y8):Int:=if (parts a).length=0/\(parts b).length=0 then strC a b else lexC (parts a) (parts b)
theorem zel {a b:Y8} (ha:a.length<=1000000) (hb:b.length<=1000000):F_q29 a b=some (cmpC a b):=by
 simp only[F_q29,S_q29,Scr.den,z5a (show a.length<=1099511627776 from om),z5a (show b.length<=1099511627776 from om),obind,zx,cmpC,z93]
 by_cases h:(parts a).length=0/\(parts b).length=0
 ·rw[yb (by simp[h]),yb h]
  simp only[F_q2m,S_q2m,F_q27,S_q27,Scr.den,obind,beq_self_eq_true,y31,y1a,yz,strC]
  by_cases h1:Op.bytesLess a b=true
  ·rw[yb h1,yb h1]; rfl
  ·rw[ya h1,ya h1]
   by_cases h2:(!(Op.bytesLess a b||a==b))=true
   ·rw[yb h2,yb h2]; rfl
   ·rw[ya h2,ya h2]; rfl
 ·rw[ya (by simpa using h),ya h]
theorem z4a {a b:Y8} (h:good a=true\/good b=true):cmpC a b=lexC (parts a) (parts b):=by
 unfold cmpC
 rw[ya]
 rintro⟨h1,h2⟩
 rcases h with h | h
 ·have:=(z23 h).2.1; omega
 ·have:=(z23 h).2.1; omega
theorem z7k {l:Y8} (hg:good l=true):F_qg l=some (parts l):=by
 obtain⟨hn,h0,h4⟩:=z23 hg
 have hlen:=z6o hg
 simp only[F_qg,S_qg,Scr.den]
 rw[ya sk]
 generalize hF:(fun s=>(S_qg_b1 l s).den)=F
 have w1:∀ i:Nat,i<=11->i64.wrap ((i:Int)+1)=((i+1:Nat):Int):=fun i hi=>by rw[wrapId om om]; omega
 have flush:∀ (i:Nat) (w:Y8) (out:List Int) (n:Int),i<=l.length->w.length<=i->(∀ j,j<w.length->l.getD (i-w.length+j) 0=w.getD j 0)->pv w=some n->(i=l.length\/(l.getD i 0).toNat=46)->out.length<=4 ->
   F (out,valW w,(w.length:Int),(i:Int))=some (.cont (out++[n],0,0,((i+1:Nat):Int))):=by
  intro i w out n hi hw hg hpv hor ho
  obtain⟨e1,e2,e3,e4,e5⟩:=zcp hpv
  have hk:i64.wrap ((i:Int)-(w.length:Int))=((i-w.length:Nat):Int):=by rw[wrapId om om]; omega
  have h0:=hg 0 om
  rw[y36] at h0
  rw[<- y40 hF]
  simp only[S_qg_b1,Scr.den,yp,zj,hk,h0]
  rw[yb sk,za ⟨fun _=>om,fun h=>by have h:=h.1; simp at h; omega,trivial⟩,yb (by
   rcases hor with rfl | h
   ·simp
   ·simp only[yv,y1j]; right; omega),za ⟨fun _=>om,fun _=>om,trivial⟩,ya (by
    simp only[yv,y1j,yf]; omega),za ⟨om,trivial⟩,w1 i om,e1]
 have digit:∀ (i:Nat) (w:Y8) (out:List Int),i<l.length->(l.getD i 0).toNat≠46->48<=(l.getD i 0).toNat/\(l.getD i 0).toNat<=57->w.length<=1->(∀ c∈w,48<=c.toNat/\c.toNat<=57) ->
   F (out,valW w,(w.length:Int),(i:Int))=some (.cont (out,valW (w++[l.getD i 0]),((w++[l.getD i 0]).length:Int),((i+1:Nat):Int))):=by
  intro i w out hi h46 hd hw hall
  have hv:0<=valW w/\valW w<=9:=by
   match w,hw with
   | [],_=>simp[valW]
   | [a],_=>have:=hall a sj; simp[valW]; omega
  have e1:valW (w++[l.getD i 0])=10 * valW w+(((l.getD i 0).toNat:Int)-48):=by simp[valW]
  have e2:IntKind.u8.wrap (((l.getD i 0).toNat:Int)-48)=((l.getD i 0).toNat:Int)-48:=by
   generalize (l.getD i 0).toNat=m at hd
   simp only[IntKind.wrap,IntKind.bits,IntKind.signed]
   simp
   omega
  rw[<- y40 hF]
  simp only[S_qg_b1,Scr.den,yp,zj,e1,e2]
  rw[yb sk,za ⟨fun _=>om,fun _=>om,trivial⟩,ya (by simp only[yv,y1j]; omega),za ⟨om,hi,fun _=>om,fun _=>hi,trivial⟩,ya (by simp only[yv,yf]; omega),w1 i om,w1 w.length om,
   wrapId (n:=10 * valW w) om om,wrapId (n:=((l.getD i 0).toNat:Int)-48) om om,wrapId om om]
  simp
 have key:∀ (k i:Nat) (w p0:Y8) (ps:List Y8) (out ns:List Int),i+k=l.length->w.length<=i->(∀ j,j<w.length->l.getD (i-w.length+j) 0=w.getD j 0)->pieces (l.drop i)=p0 :: ps->nums ((w++p0) :: ps)=some ns->out.length+ns.length<=4 ->
   iterM F (out,valW w,(w.length:Int),(i:Int))=some (.next (out++ns,0,0,((l.length+1:Nat):Int))):=by
  intro k
  induction k with
  | zero =>
   intro i w p0 ps out ns hk hw hgd hpc hnm ho
   obtain rfl:i=l.length:=om
   rw[y1i (ye _)] at hpc
   simp only[pieces,y30] at hpc
   obtain⟨rfl,rfl⟩:=hpc
   simp only[y3m,nums] at hnm
   split at hnm
   ·cases hnm
   ·rename_i n hpv
    simp only[y1n,yx] at hnm
    subst hnm
    rw[z1q,flush l.length w out n (ye _) hw hgd hpv (.inl rfl) (by simp at ho; omega)]
    simp only
    rw[z1q,<- y40 hF]
    simp only[S_qg_b1,Scr.den]
    rw[ya sk]
  | succ k ih =>
   intro i w p0 ps out ns hk hw hgd hpc hnm ho
   have hi:i<l.length:=om
   have ei:l.getD i 0=l[i]:=by simp[List.getD_eq_getElem?_getD,List.getElem?_eq_getElem hi]
   rw[y1m hi,z1l] at hpc
   cases hq:pieces (l.drop (i+1)) with
   | nil=>exact absurd hq (z14 _)
   | cons q qs =>
    rw[hq] at hpc
    by_cases hc:(l[i]==46)=true
    ·rw[yb hc] at hpc
     simp only[y30] at hpc
     obtain⟨rfl,rfl⟩:=hpc
     simp only[y3m,nums] at hnm
     split at hnm
     ·cases hnm
     ·rename_i n hpv
      cases hm:nums (q :: qs) with
      | none=>simp only[nums] at hm; rw[hm] at hnm; cases hnm
      | some ms =>
       have hm':=hm
       simp only[nums] at hm'
       rw[hm'] at hnm
       simp only[y1n,yx] at hnm
       subst hnm
       simp only[y19] at ho
       have h46:(l.getD i 0).toNat=46:=by rw[ei,eq_of_beq hc]; rfl
       rw[z1q,flush i w out n om hw hgd hpv (.inr h46) om]
       simp only
       have:=ih (i+1) [] q qs (out++[n]) ms om sj sj hq (by simpa using hm) sk
       simpa [valW] using this
    ·rw[ya hc] at hpc
     simp only[y30] at hpc
     obtain⟨rfl,rfl⟩:=hpc
     have hpv:∃ n,pv (w++l[i] :: q)=some n:=by
      simp only[nums] at hnm
      split at hnm
      ·cases hnm
      ·rename_i n h; exact⟨n,h⟩
     obtain⟨n,hpv⟩:=hpv
     obtain⟨_,_,g3,_,g5⟩:=zcp hpv
     simp only[y1p,y19] at g3
     have hne:(l.getD i 0).toNat≠46:=by
      rw[ei]; intro h; exact hc (by rw[y4a.1 (show l[i].toNat=(46:UInt8).toNat from h)]; rfl)
     rw[z1q,digit i w out hi hne (by rw[ei]; exact g5 l[i] sj) om (fun c hc=>g5 c (by simp[hc]))]
     simp only
     refine ih (i+1) (w++[l.getD i 0]) q qs out ns om sk (fun j hj=>?_) hq (by rw[ei]; simpa using hnm) ho
     simp only[y1p,y19,y1t] at hj |-
     by_cases hjw:j<w.length
     ·have:=hgd j hjw
      rw[show i+1-(w.length+(0+1))+j=i-w.length+j from om,this]
      simp[List.getD_eq_getElem?_getD,List.getElem?_append_left hjw]
     ·obtain rfl:j=w.length:=om
      rw[show i+1-(w.length+(0+1))+w.length=i from om]
      simp[List.getD_eq_getElem?_getD]
 cases hp:pieces l with
 | nil=>exact absurd hp (z14 l)
 | cons p0 ps =>
  rw[hp] at hn
  have h:=key l.length 0 [] p0 ps [] (parts l) om sj sj (by simpa using hp) (by simpa using hn) sk
  have h':iterM F (([]:List Int),(0:Int),(0:Int),(0:Int))=some (.next (parts l,0,0,((l.length+1:Nat):Int))):=by simpa [valW] using h
  rw[h']
  simp only[outM]
  rw[ya sk,za ⟨om,trivial⟩]
theorem z63 {a b:Y8} (ha:good a=true) (hb:good b=true):F_qs a b=some (lexC (parts a) (parts b)):=by
 have h1:=(z23 ha).2
 have h2:=(z23 hb).2
 simp only[F_qs,S_qs,Scr.den,z7k ha,z7k hb,obind,zj]
 rw[ya (by simp only[yv,y1j]; omega)]
 generalize parts a=x at h1
 generalize parts b=y at h2
 generalize hF:(fun s=>(S_qs_b1 x y s).den)=F
 have key:∀ (k i:Nat),i+k=x.length->i<=y.length->outM (iterM F (i:Int)) (fun _=>if decide ((x.length:Int)<(y.length:Int))=true then some (-1) else if decide ((x.length:Int)>(y.length:Int))=true then some 1 else some 0) (fun r=>some (id r))=some (lexC (x.drop i) (y.drop i)):=by
  intro k
  induction k with
  | zero =>
   intro i hk hy
   rw[z1q,<- y40 hF]
   simp only[S_qs_b1,Scr.den,zx]
   rw[ya (by simp only[yq,yf]; omega),y1i om]
   simp only[outM]
   by_cases h:y.length<=i
   ·rw[y1i h,ya sk,ya sk]; rfl
   ·rw[y1m (by omega:i<y.length),yb sk]; rfl
  | succ k ih =>
   intro i hk hy
   have hi:i<x.length:=om
   rw[z1q,<- y40 hF,y1m hi]
   simp only[S_qs_b1,Scr.den,zx]
   by_cases h:y.length<=i
   ·rw[ya (by simp only[yq,yf]; omega),y1i h]
    simp only[outM]
    rw[ya sk,yb sk]; rfl
   ·have hj:i<y.length:=om
    have w1:i64.wrap ((i:Int)+1)=((i+1:Nat):Int):=by rw[wrapId om om]; omega
    rw[yb (by simp only[yq,yf]; omega),za ⟨om,om,om,trivial⟩,y1m hj]
    simp only[yp,z1p hi,z1p hj,lexC]
    by_cases h1:x[i]<y[i]
    ·rw[yb (yc h1),yb h1]; rfl
    ·rw[ya (by simpa using h1),ya h1]
     by_cases h2:x[i]>y[i]
     ·rw[yb (yc h2),yb h2]; rfl
     ·rw[ya (by simpa using h2),ya h2,w1]
      exact ih (i+1) om om
 have:=key x.length 0 om om
 simpa using this
theorem zq (n a b:Int):F_q6 n a b=some (decide (a<=n/\n<=b)):=by
 simp only[F_q6,S_q6,Scr.den,zx,ge_iff_le,Bool.decide_and]
theorem z5q (n:Int):F_qr n=some (decide (0<=n/\n<=1000000000000000)):=by
 simp only[F_qr,S_qr,Scr.den,zq,obind]
variable {α ρ:Type}
theorem z6p [Inhabited α] (l:List α) (p:α->Bool) (v:Nat->ρ) {body:Nat->Unit->Option (Step Unit ρ)} (hs:∀ i,i<l.length->body i ()=some (if p (l.getD i dF)=true then .ret (v i) else .cont ())) :
  rangeM body l.length 0 ()=some (if l.any p=true then .ret (v (l.findIdx p)) else .next ()):=by
 have key:∀ (k i:Nat),i+k=l.length->rangeM body k i ()=some (if (l.drop i).any p=true then .ret (v (i+(l.drop i).findIdx p)) else .next ()):=by
  intro k
  induction k with
  | zero=>intro i hk; rw[y1i om]; rfl
  | succ k ih =>
   intro i hk
   have hi:i<l.length:=om
   have e:l.getD i dF=l[i]:=by simp[List.getD_eq_getElem?_getD,List.getElem?_eq_getElem hi]
   rw[y1m hi]
   simp only[rangeM,hs i hi,e,List.any_cons,List.findIdx_cons]
   cases hp:p l[i] with
   | true=>simp
   | false =>
    simp only[y1a,yz,y3v,cond_false]
    rw[ih (i+1) om,show i+1+(l.drop (i+1)).findIdx p=i+((l.drop (i+1)).findIdx p+1) from om]
 have:=key l.length 0 om
 simpa using this
def tot (n:Int):Prop:=0<=n/\n<=1000000000000000
instance (n:Int):Decidable (tot n):=by unfold tot; infer_instance
theorem z9p (l:List Int) (a:Int):l.foldl (fun s x=>i64.wrap (s+x)) (i64.wrap a)=i64.wrap (a+l.sum):=by
 induction l generalizing a with
 | nil=>simp
 | cons x l ih=>rw[y3k,z7f,ih,y2k,Int.add_assoc]
theorem z5r:i64.wrap 0=0:=wrapId om om
theorem zcq (l:List Int):F_qb l=some (i64.wrap l.sum):=by
 have e:=z9p l 0
 rw[z5r,Int.zero_add] at e
 simp only[F_qb,S_qb,Scr.den]
 rw[z8k (ρ:=Int) (body:=fun i s=>(S_qb_b1 l i s).den) l (fun (s:Int) x=>i64.wrap (s+x)) (fun i s hi=>rfl)]
 simp only[outM,e]
variable {c:Y8}
theorem zcr (hc:c.length<=1000000) (y:Int):F_q14 c y=some (good c&&decide (0<=y/\y<=99)):=by
 have hg:=z4l c
 simp only[F_q14,S_q14,Scr.den,z5a (l:=c) om,obind,zx]
 have e:decide (((parts c).length:Int)>0)=good c:=by rw[<- hg]; simp
 rw[e]
 cases good c with
 | true=>rw[zh (by simp[AllP])]; simp[zq]
 | false=>rw[z1e (by simp[AllP])]; simp
theorem z43 (n:Int):F_qr n=some (decide (tot n)):=by rw[z5q]; rfl
theorem z3e (n:Int):F_qc n=some (decide (tot n)):=by
 simp only[F_qc,S_qc,Scr.den,zx]
 congr 1
 by_cases h:tot n
 ·rw[yc h,yc h.1,yc h.2]; rfl
 ·rw[yj h]
  unfold tot at h
  simp only[Bool.and_eq_false_iff,y1k,ge_iff_le]
  omega
def rowT (l:List Int):Bool:=l.all fun x=>decide (tot x)
theorem zcs (l:List Int):F_qz l=some (if rowT l=true then -1 else ((l.findIdx fun x=>!decide (tot x):Nat):Int)):=by
 simp only[F_qz,S_qz,Scr.den]
 rw[z6p l (fun x=>!decide (tot x)) (fun i=>(i:Int)) (fun i hi=>by
  simp only[S_qz_b1,F_q2l,S_q2l,Scr.den,z43,obind]
  split <;> rfl)]
 have e:(l.any fun x=>!decide (tot x))=!rowT l:=by rw[rowT,List.all_eq_not_any_not,Bool.not_not]
 rw[e]
 cases rowT l <;> rfl
theorem zdb (l:List Int):F_q26 l=some (!rowT l):=by
 simp only[F_q26,S_q26,Scr.den,zcs,obind]
 congr 1
 cases rowT l with
 | true=>rfl
 | false=>simp
theorem z3t {l:List Int}:rowT l=true↔∀ x∈l,tot x:=by simp[rowT]
def rowOk (n:Int) (l:List Int):Prop:=(l.length:Int)=n/\∀ x∈l,tot x
instance (n:Int) (l:List Int):Decidable (rowOk n l):=by unfold rowOk; infer_instance
def leRow (a b:List Int):Prop:=∀ i,i<b.length->a.getD i dF<=b.getD i dF
instance (a b:List Int):Decidable (leRow a b):=by unfold leRow; infer_instance
def PotOk (n:Int) (p:TPo):Prop:=good p.F=true/\(0<=p.G/\p.G<=99)/\(-1000000000000000<=p.H/\p.H<=1000000000000000) /\
 (rowOk n p.A/\rowOk n p.D/\rowOk n p.C/\rowOk n p.E)/\(leRow p.D p.A/\leRow p.C p.A)/\p.A.sum<=1000000000000000
instance (n:Int) (p:TPo):Decidable (PotOk n p):=by unfold PotOk; infer_instance
theorem z36 {l:List Int} (h:∀ x∈l,tot x):0<=l.sum/\l.sum<=l.length * 1000000000000000:=by
 induction l with
 | nil=>simp
 | cons x l ih =>
  have h1:=h x sj
  have h2:=ih fun y hy=>h y (by simp[hy])
  unfold tot at h1
  simp only[y2k,y19]
  omega
variable {n:Int}
theorem zct {l:List Int} (h:rowOk n l) (hn:n<=6):i64.wrap l.sum=l.sum:=by
 have:=z36 h.2
 have:=h.1
 exact wrapId om om
theorem zg0 (p:TPo) (n:Int):rangeM (fun i s=>(S_q7_b1 p n i s).den) 4 0 () =
  some (if rowOk n p.A/\rowOk n p.D/\rowOk n p.C/\rowOk n p.E then .next () else .ret false):=by
 have one:∀ i (l:List Int),([p.A,p.D,p.C,p.E]:List (List Int)).getD i dF=l->(S_q7_b1 p n i ()).den=some (if rowOk n l then .cont () else .ret false):=fun i l hl=>by
  simp only[S_q7_b1,Scr.den,hl,zj]
  by_cases h1:(l.length:Int)=n
  ·rw[zh (by simp[AllP,h1]),zdb]
   simp only[obind,h1,bne_self_eq_false,y3v]
   by_cases h2:rowT l=true
   ·rw[h2,ya sj,yb ⟨h1,z3t.1 h2⟩]
   ·rw[yb (by simpa using h2),ya fun h=>h2 (z3t.2 h.2)]
  ·rw[z1e (by simp[AllP,h1])]
   simp only[obind]
   rw[yb (by simp[h1]),ya fun h=>h1 h.1]
 rw[show (4:Nat)=0+1+1+1+1 from rfl]
 simp only[rangeM,one 0 p.A rfl,one (0+1) p.D rfl,one (0+1+1) p.C rfl,one (0+1+1+1) p.E rfl]
 by_cases h1:rowOk n p.A <;> by_cases h2:rowOk n p.D <;> by_cases h3:rowOk n p.C <;> by_cases h4:rowOk n p.E <;> simp[h1,h2,h3,h4]
variable {p:TPo}
theorem zh8 (hc:p.F.length<=1000000) (hn:n<=6):F_q7 p n=some (decide (PotOk n p)):=by
 simp only[F_q7,S_q7,Scr.den,zcr hc,obind,zj]
 by_cases h1:(good p.F&&decide (0<=p.G/\p.G<=99))=true
 ·rw[zh (by rw[h1]; exact⟨rfl,trivial⟩),zq]
  simp only[obind,h1,y31,y3v]
  by_cases h2:-1000000000000000<=p.H/\p.H<=1000000000000000
  ·rw[ya (by simpa using h2),zg0]
   by_cases h3:rowOk n p.A/\rowOk n p.D/\rowOk n p.C/\rowOk n p.E
   ·rw[yb h3]
    simp only[outM]
    have l1:=h3.1.1; have l2:=h3.2.1.1; have l3:=h3.2.2.1.1
    have ra:=z3d (ρ:=Bool) (n:=p.A.length) (c:=false) (body:=fun i s=>(S_q7_b2 p i s).den) (fun i=>p.D.getD i dF<=p.A.getD i dF/\p.C.getD i dF<=p.A.getD i dF) (fun i hi hp=>by
     simp only[S_q7_b2,Scr.den,zj]
     rw[za (by simp only[AllP,yh]; exact⟨om,fun _=>om⟩),ya (by simp only[yv,yf]; omega)]) (fun i hi hp=>by
     simp only[S_q7_b2,Scr.den,zj]
     rw[za (by simp only[AllP,yh]; exact⟨om,fun _=>om⟩),yb (by simp only[yv,yf]; omega)])
    by_cases h4:∀ j,j<p.A.length->p.D.getD j dF<=p.A.getD j dF/\p.C.getD j dF<=p.A.getD j dF
    ·rw[ra.1 h4]
     simp only[zcq,obind,zct h3.1 hn]
     congr 1
     refine decide_eq_decide.2 ⟨fun h=>?_,fun h=>h.2.2.2.2.2⟩
     simp only[yq,yf] at h1
     exact⟨h1.1,h1.2,h2,h3,⟨fun i hi=>(h4 i hi).1,fun i hi=>(h4 i hi).2⟩,h⟩
    ·rw[ra.2 h4]
     show some false=_
     rw[yj fun h=>h4 fun j hj=>⟨h.2.2.2.2.1.1 j hj,h.2.2.2.2.1.2 j hj⟩]
   ·rw[ya h3]
    simp only[outM]
    rw[yj fun h=>h3 h.2.2.2.1]
    rfl
  ·rw[yb (by simp only[y20,y1k]; exact h2),yj fun h=>h2 h.2.2.1]
 ·rw[z1e (by rw[y41] at h1; rw[h1]; simp[AllP])]
  simp only[obind]
  rw[yb (by rw[y41] at h1; rw[h1]; rfl),yj fun h=>h1 (by simp[h.1,h.2.1])]
variable {σ:Type}
theorem z9q [Inhabited α] {body:Nat->σ->Option (Step σ ρ)} (l:List α) (ok:Nat->Prop) [DecidablePred ok] (g:σ->α->σ) {c:ρ} {s0:σ} (hs:∀ i s,i<l.length->body i s=some (if ok i then .cont (g s (l.getD i dF)) else .ret c)) :
  rangeM body l.length 0 s0=some (if (∀ i,i<l.length->ok i) then .next (l.foldl g s0) else .ret c):=by
 by_cases h:∀ i,i<l.length->ok i
 ·rw[yb h]
  exact z8k l g fun i s hi=>by rw[hs i s hi,yb (h i hi)]
 ·rw[ya h]
  have key:∀ (k i:Nat) (s:σ),i+k=l.length->(¬ ∀ j,i<=j->j<l.length->ok j)->rangeM body k i s=some (.ret c):=by
   intro k
   induction k with
   | zero=>intro i s hk hn; exact absurd (fun j h1 h2=>om) hn
   | succ k ih =>
    intro i s hk hn
    simp only[rangeM,hs i s om]
    by_cases ho:ok i
    ·rw[yb ho]
     refine ih (i+1) _ om fun hall=>hn fun j h1 h2=>?_
     by_cases hj:j=i
     ·subst hj; exact ho
     ·exact hall j om h2
    ·rw[ya ho]
  exact key l.length 0 s0 om fun hall=>h fun i hi=>hall i om hi
def okP (g h a u:Int):Prop:=tot g/\tot h/\tot a/\tot u/\h<=g/\a<=g
instance (g h a u:Int):Decidable (okP g h a u):=by unfold okP; infer_instance
theorem zh9 {s:Int} (h1:i<p.D.length) (h2:i<p.C.length) (h3:i<p.E.length) :
  (S_qt_b1 p i s).den=some (if okP (p.A.getD i dF) (p.D.getD i dF) (p.C.getD i dF) (p.E.getD i dF) then .cont (i64.wrap (s+p.A.getD i dF)) else .ret false):=by
 simp only[S_qt_b1,Scr.den,z3e,obind,zj]
 simp only[h1,h2,h3,implies_true]
 generalize p.A.getD i dF=g
 generalize p.D.getD i dF=h
 generalize p.C.getD i dF=a
 generalize p.E.getD i dF=u
 by_cases hA:tot g
 ·by_cases hB:tot h
  ·by_cases hC:tot a
   ·by_cases hD:tot u
    ·by_cases hE:h<=g
     ·by_cases hF:a<=g
      ·rw[yb ⟨hA,hB,hC,hD,hE,hF⟩]
       simp[optD,AllP,hA,hB,hC,hD,guardP,Int.not_lt.2 hE,Int.not_lt.2 hF]
      ·rw[ya fun h=>hF h.2.2.2.2.2]
       simp[optD,AllP,hA,hB,hC,hD,guardP,Int.not_lt.2 hE,Int.not_le.1 hF]
     ·rw[ya fun h=>hE h.2.2.2.2.1]
      simp[optD,AllP,hA,hB,hC,hD,guardP,Int.not_le.1 hE]
    ·rw[ya fun h=>hD h.2.2.2.1]
     simp[optD,AllP,hA,hB,hC,hD,guardP]
   ·rw[ya fun h=>hC h.2.2.1]
    simp[optD,AllP,hA,hB,hC,guardP]
  ·rw[ya fun h=>hB h.2.1]
   simp[optD,AllP,hA,hB,guardP]
 ·rw[ya fun h=>hA h.1]
  simp[optD,AllP,hA,guardP]
theorem z2g {l:List Int}:(∀ i,i<l.length->tot (l.getD i dF))↔∀ x∈l,tot x :=
 ⟨fun h x hx=>by obtain⟨i,hi,rfl⟩:=z58 hx; exact h i hi,fun h i hi=>h _ (zk hi)⟩
theorem zem (hc:p.F.length<=1000000) (h6:n<=6):F_qt p n=some (decide (PotOk n p)):=by
 simp only[F_qt,S_qt,Scr.den,z5z (l:=p.F) om,obind,zj]
 by_cases h1:good p.F=true/\(0<=p.G/\p.G<=99)/\(-1000000000000000<=p.H/\p.H<=1000000000000000)
 ·rw[ya (by simp only[yv,y20,yf,h1.1,Bool.true_eq_false,false_or]; omega)]
  by_cases h2:(p.A.length:Int)=n/\(p.D.length:Int)=n/\(p.C.length:Int)=n/\(p.E.length:Int)=n
  ·obtain⟨l1,l2,l3,l4⟩:=h2
   rw[ya (by simp[l1,l2,l3,l4]),za (by simp only[AllP,yh]; omega)]
   rw[z9q (body:=fun i s=>(S_qt_b1 p i s).den) p.A (fun i=>okP (p.A.getD i dF) (p.D.getD i dF) (p.C.getD i dF) (p.E.getD i dF)) (fun (s:Int) x=>i64.wrap (s+x))
    (fun i s hi=>zh9 om om om)]
   by_cases h3:∀ i,i<p.A.length->okP (p.A.getD i dF) (p.D.getD i dF) (p.C.getD i dF) (p.E.getD i dF)
   ·rw[yb h3]
    have g1:rowOk n p.A:=⟨l1,z2g.1 fun i hi=>(h3 i hi).1⟩
    have g2:rowOk n p.D:=⟨l2,z2g.1 fun i hi=>(h3 i om).2.1⟩
    have g3:rowOk n p.C:=⟨l3,z2g.1 fun i hi=>(h3 i om).2.2.1⟩
    have g4:rowOk n p.E:=⟨l4,z2g.1 fun i hi=>(h3 i om).2.2.2.1⟩
    have e:=z9p p.A 0
    rw[z5r,Int.zero_add,zct g1 h6] at e
    show some (decide (_<=_))=_
    rw[e]
    congr 1
    exact decide_eq_decide.2 ⟨fun h=>⟨h1.1,h1.2.1,h1.2.2,⟨g1,g2,g3,g4⟩,⟨fun i hi=>(h3 i hi).2.2.2.2.1,fun i hi=>(h3 i hi).2.2.2.2.2⟩,h⟩,fun h=>h.2.2.2.2.2⟩
   ·rw[ya h3]
    show some false=_
    rw[yj fun h=>h3 fun i hi=>⟨z2g.2 h.2.2.2.1.1.2 i hi,z2g.2 h.2.2.2.1.2.1.2 i om,z2g.2 h.2.2.2.1.2.2.1.2 i om,z2g.2 h.2.2.2.1.2.2.2.2 i om,h.2.2.2.2.1.1 i hi,h.2.2.2.2.1.2 i hi⟩]
  ·rw[yb (by simp only[yv,bne_iff_ne]; omega),yj fun h=>h2 ⟨h.2.2.2.1.1.1,h.2.2.2.1.2.1.1,h.2.2.2.1.2.2.1.1,h.2.2.2.1.2.2.2.1⟩]
 ·rw[yb (by
   simp only[yv,y20,yf]
   by_cases hg:good p.F=true
   ·have:¬ ((0<=p.G/\p.G<=99)/\(-1000000000000000<=p.H/\p.H<=1000000000000000)):=fun h=>h1 ⟨hg,h⟩
    omega
   ·simp[Bool.not_eq_true] at hg; simp[hg]),yj fun h=>h1 ⟨h.1,h.2.1,h.2.2.1⟩]
def cmpP (a b:TPo):Int:=if cmpC a.F b.F≠0 then cmpC a.F b.F else cmpI a.G b.G
variable {b:TPo}
theorem z9r {a:TPo} (ha:a.F.length<=1000000) (hb:b.F.length<=1000000):F_q1a a b=some (cmpP a b):=by
 simp only[F_q1a,S_q1a,Scr.den,zel ha hb,zdq,obind,F_q15,S_q15,S_q15_b1,cmpP]
 by_cases h:cmpC a.F b.F=0
 ·rw[ya (by simpa using h)]
  by_cases h2:cmpI a.G b.G=0
  ·simp[rangeM,h,h2,outM]
  ·simp[rangeM,h,h2,outM]
 ·rw[yb h]
  simp[rangeM,h,outM]
def Small (t:TTr):Prop:=∀ p∈t.B,p.F.length<=1000000
def PotsOk (n:Int) (l:List TPo):Prop:=∀ i,i<l.length->PotOk n (l.getD i dF)/\(0<i->cmpP (l.getD (i-1) dF) (l.getD i dF)<0)
instance (n:Int) (l:List TPo):Decidable (PotsOk n l):=by unfold PotsOk; infer_instance
def TOk (t:TTr):Prop:=(1<=t.I/\t.I<=6)/\t.B.length<=60/\PotsOk t.I t.B
instance (t:TTr):Decidable (TOk t):=by unfold TOk; infer_instance
variable {t:TTr}
theorem z5b (h:Small t) (hi:i<t.B.length):(t.B.getD i dF).F.length<=1000000:=h _ (zk hi)
theorem wrapPred (h0:0<i) (h:i<9223372036854775808):i64.wrap ((i:Int)-1)=((i-1:Nat):Int):=by rw[wrapId om om]; omega
theorem z33 (hs:Small t):F_q8 t=some (decide (TOk t)):=by
 simp only[F_q8,S_q8,Scr.den,zq,obind,zj]
 by_cases h1:(1<=t.I/\t.I<=6)/\t.B.length<=60
 ·rw[ya (by simp only[yv,y20,y1k,yf]; omega)]
  have step:∀ i,i<t.B.length->(S_q8_b1 t i ()).den=some (if PotOk t.I (t.B.getD i dF)/\(0<i->cmpP (t.B.getD (i-1) dF) (t.B.getD i dF)<0) then .cont () else .ret false):=fun i hi=>by
   simp only[S_q8_b1,Scr.den,zh8 (z5b hs hi) h1.1.2,obind,zj,zx]
   by_cases h0:0<i
   ·rw[wrapPred h0 om,yp,z9r (z5b hs om) (z5b hs hi)]
    have hgu:∀ a:Prop,AllP [a->(0:Int)<=((i-1:Nat):Int),a->i-1<t.B.length]:=fun a=>⟨fun _=>om,fun _=>om,trivial⟩
    have e0:decide ((i:Int)>0)=true:=yc om
    by_cases h2:PotOk t.I (t.B.getD i dF)
    ·rw[zh (by simp only[AllP,e0,yc h2,y31,yh])]
     simp only[obind]
     rw[za (hgu _)]
     simp only[e0,yc h2,y31,y3v,Bool.true_and,yf]
     by_cases h3:cmpP (t.B.getD (i-1) dF) (t.B.getD i dF)<0
     ·rw[ya (Int.not_le.2 h3),yb ⟨h2,fun _=>h3⟩]
     ·rw[yb (y4b.1 h3),ya fun h=>h3 (h.2 h0)]
    ·rw[z1e (by simp only[AllP,yj h2,y3r,Bool.true_eq_false,and_false,y43,ym])]
     simp only[obind]
     rw[za (hgu _)]
     simp only[yj h2,y3r,Bool.true_or,y1c]
     rw[ya fun h=>h2 h.1]
   ·have hi0:i=0:=om
    subst hi0
    have e0:decide (((0:Nat):Int)>0)=false:=rfl
    rw[z1e (by simp only[AllP,e0,y1a,y43,ym])]
    simp only[obind,e0,Bool.false_and,Bool.or_false]
    rw[za (by simp only[AllP,y1a,y43,false_implies,yh])]
    by_cases h2:PotOk t.I (t.B.getD 0 dF)
    ·rw[ya (by simp only[yc h2,y31,y1a,ym]),yb ⟨h2,fun h=>absurd h om⟩]
    ·rw[yb (by simp only[yj h2,y3r]),ya fun h=>h2 h.1]
  have ra:=z3d (ρ:=Bool) (n:=t.B.length) (c:=false) (body:=fun i s=>(S_q8_b1 t i s).den) (fun i=>PotOk t.I (t.B.getD i dF)/\(0<i->cmpP (t.B.getD (i-1) dF) (t.B.getD i dF)<0))
   (fun i hi hp=>by rw[step i hi,yb hp]) (fun i hi hp=>by rw[step i hi,ya hp])
  by_cases h4:PotsOk t.I t.B
  ·rw[ra.1 h4,yc (show TOk t from ⟨h1.1,h1.2,h4⟩)]; rfl
  ·rw[ra.2 h4,yj fun h:TOk t=>h4 h.2.2]; rfl
 ·rw[yb (by simp only[yv,y20,y1k,yf]; omega),yj fun h:TOk t=>h1 ⟨h.1,h.2.1⟩]
theorem zg1 {a:TPo} (ha:good a.F=true):cmpP a b<0↔lexC (parts a.F) (parts b.F)<0\/(lexC (parts a.F) (parts b.F)=0/\a.G<b.G):=by
 unfold cmpP
 rw[z4a (.inl ha)]
 unfold cmpI
 split
 ·omega
 ·split
  ·omega
  ·split <;> omega
theorem chk (c y y':Int):((decide (c>0)||(c==0&&decide (y>=y')))=true)↔¬ (c<0\/(c=0/\y<y')):=by
 simp only[yv,yq,yf,y1j]; omega
theorem z3f (hs:Small t):F_qi t=some (decide (TOk t)):=by
 simp only[F_qi,S_qi,Scr.den,zj]
 by_cases h1:(1<=t.I/\t.I<=6)/\t.B.length<=60
 ·rw[ya (by simp only[yv,yf]; omega)]
  have step:∀ i,i<t.B.length->(0<i->PotOk t.I (t.B.getD (i-1) dF))->(S_qi_b1 t i ()).den =
    some (if PotOk t.I (t.B.getD i dF)/\(0<i->cmpP (t.B.getD (i-1) dF) (t.B.getD i dF)<0) then .cont () else .ret false):=fun i hi hp=>by
   simp only[S_qi_b1,Scr.den,zem (z5b hs hi) h1.1.2,obind,zx,zj]
   by_cases h2:PotOk t.I (t.B.getD i dF)
   ·rw[ya (by simp only[yc h2,y31,y1a,ym])]
    by_cases h0:0<i
    ·have hp:=hp h0
     rw[yb (yc om),wrapPred h0 om,yp,z63 hp.1 h2.1]
     simp only[obind]
     rw[za (by simp only[AllP,yh]; omega),za (by simp only[AllP,yh]; exact⟨fun _=>om,fun _=>om⟩)]
     have hc:=zg1 (a:=t.B.getD (i-1) dF) (b:=t.B.getD i dF) hp.1
     by_cases h3:cmpP (t.B.getD (i-1) dF) (t.B.getD i dF)<0
     ·rw[ya fun h=>(chk _ _ _).1 h (hc.1 h3),yb ⟨h2,fun _=>h3⟩]
     ·rw[yb ((chk _ _ _).2 fun h=>h3 (hc.2 h)),ya fun h=>h3 (h.2 h0)]
    ·rw[ya (by simp only[yf]; omega),yb ⟨h2,fun h=>absurd h h0⟩]
   ·rw[yb (by simp only[yj h2,y3r]),ya fun h=>h2 h.1]
  have key:∀ (k i:Nat),i+k=t.B.length->(∀ j,j<i->PotOk t.I (t.B.getD j dF)/\(0<j->cmpP (t.B.getD (j-1) dF) (t.B.getD j dF)<0))->rangeM (fun i s=>(S_qi_b1 t i s).den) k i ()=some (if PotsOk t.I t.B then .next () else .ret false):=by
   intro k
   induction k with
   | zero =>
    intro i hk hj
    rw[yb (show PotsOk t.I t.B from fun j h=>hj j om)]
    rfl
   | succ k ih =>
    intro i hk hj
    have hi:i<t.B.length:=om
    simp only[rangeM,step i hi fun h0=>(hj (i-1) om).1]
    by_cases h2:PotOk t.I (t.B.getD i dF)/\(0<i->cmpP (t.B.getD (i-1) dF) (t.B.getD i dF)<0)
    ·rw[yb h2]
     exact ih (i+1) om fun j hj'=>by
      by_cases e:j=i
      ·subst e; exact h2
      ·exact hj j om
    ·rw[ya h2,ya fun hp:PotsOk t.I t.B=>h2 (hp i hi)]
  rw[key t.B.length 0 om (fun j h=>absurd h om)]
  by_cases h4:PotsOk t.I t.B
  ·rw[yb h4,yc (show TOk t from ⟨h1.1,h1.2,h4⟩)]; rfl
  ·rw[ya h4,yj fun h:TOk t=>h4 h.2.2]; rfl
 ·rw[yb (by simp only[yv,yf]; omega),yj fun h:TOk t=>h1 ⟨h.1,h.2.1⟩]
def isP (c:Y8) (y:Int) (p:TPo):Bool:=p.F==c&&p.G==y
variable {y:Int}
theorem zam:isP c y p=true↔p.F=c/\p.G=y:=by simp[isP]
def hasP (l:List TPo) (c:Y8) (y:Int):Bool:=l.any (isP c y)
def pix (l:List TPo) (c:Y8) (y:Int):Nat:=l.findIdx (isP c y)
variable {l:List TPo}
theorem z1h (h:hasP l c y=true):pix l c y<l.length/\(l.getD (pix l c y) dF).F=c/\(l.getD (pix l c y) dF).G=y:=by
 unfold hasP at h
 obtain⟨x,hx,hp⟩:=List.any_eq_true.1 h
 have hlt:l.findIdx (isP c y)<l.length:=List.findIdx_lt_length_of_exists ⟨x,hx,hp⟩
 have h1:=List.findIdx_getElem (w:=hlt)
 have e:l.getD (l.findIdx (isP c y)) dF=l[l.findIdx (isP c y)]:=by simp[List.getD_eq_getElem?_getD,List.getElem?_eq_getElem hlt]
 exact⟨hlt,by unfold pix; rw[e]; exact zam.1 h1⟩
theorem z64 (t:TTr) (c:Y8) (y:Int):F_q11 t c y=some (if hasP t.B c y=true then (pix t.B c y:Int) else -1):=by
 simp only[F_q11,S_q11,F_q16,S_q16,Scr.den]
 rw[z6p t.B (isP c y) (fun i=>(i:Int))]
 ·unfold hasP
  by_cases h:t.B.any (isP c y)=true
  ·rw[yb h,yb h]; rfl
  ·rw[ya h,ya h]; rfl
 ·intro i hi
  simp only[S_q16_b1,F_q2n,S_q2n,Scr.den,obind,zx]
  unfold isP
  split <;> rfl
theorem zen (t:TTr) (c:Y8) (y:Int):F_qu t c y=some (if hasP t.B c y=true then (pix t.B c y:Int) else -1):=by
 simp only[F_qu,S_qu,Scr.den]
 rw[z6p t.B (isP c y) (fun i=>(i:Int))]
 ·unfold hasP
  by_cases h:t.B.any (isP c y)=true
  ·rw[yb h,yb h]; rfl
  ·rw[ya h,ya h]; rfl
 ·intro i hi
  simp only[S_qu_b1,Scr.den,zx]
  unfold isP
  split <;> rfl
def outV (p:TPo):Int:=(p.A.take (min p.A.length p.D.length)).sum-(p.D.take (min p.A.length p.D.length)).sum
theorem z9s (p:TPo):F_q1g p=some (i64.wrap (outV p)):=by
 have e:(if (p.D.length:Int)<(p.A.length:Int) then (p.D.length:Int) else (p.A.length:Int))=((min p.A.length p.D.length:Nat):Int):=by split <;> omega
 simp only[F_q1g,S_q1g,Scr.den,e,yp,zcq,obind]
 rw[za (by simp only[AllP,yh]; omega),z7g,z7h]
 rfl
theorem z6q (hl:p.A.length<4611686018427387904):F_qh p=some (i64.wrap (outV p)):=by
 simp only[F_qh,S_qh,Scr.den]
 let m:=min p.A.length p.D.length
 let S:Nat->Int:=fun k=>(p.A.take k).sum-(p.D.take k).sum
 have hS:∀ k,k<m->S (k+1)=S k+(p.A.getD k dF-p.D.getD k dF):=fun k hk=>by
  have h1:k<p.A.length:=om
  have h2:k<p.D.length:=om
  simp only[S]
  rw[y38 h1,y38 h2,List.sum_append,List.sum_append,z1p h1,z1p h2]
  simp only[y2k,List.sum_nil]
  omega
 have stepT:∀ (i:Nat) (s:Int),i<m->(S_qh_b1 p (s,(i:Int))).den=some (.cont (i64.wrap (s+(p.A.getD i dF-p.D.getD i dF)),((i+1:Nat):Int))):=fun i s hi=>by
  simp only[S_qh_b1,Scr.den,zx]
  rw[yb (by simp only[yq,yf]; omega),za (by simp only[AllP,yp,yh]; omega)]
  simp only[yp]
  rw[zfz,wrapId (n:=(i:Int)+1) om om]
  rfl
 have stepF:∀ s:Int,(S_qh_b1 p (s,(m:Int))).den=some (.brk (s,(m:Int))):=fun s=>by
  simp only[S_qh_b1,Scr.den,zx]
  rw[ya (by simp only[yq,yf]; omega)]
 have key:∀ (k i:Nat),i+k=m->iterM (fun s=>(S_qh_b1 p s).den) (i64.wrap (S i),(i:Int))=some (.next (i64.wrap (S m),(m:Int))):=by
  intro k
  induction k with
  | zero =>
   intro i hk
   obtain rfl:i=m:=om
   rw[z1q]
   simp only[stepF]
  | succ k ih =>
   intro i hk
   rw[z1q]
   simp only[stepT i _ (show i<m from om)]
   rw[z7f,<- hS i om]
   exact ih (i+1) om
 have h0:=key m 0 om
 rw[show S 0=0 by simp[S],z5r] at h0
 rw[show ((0:Int),(0:Int))=(0,((0:Nat):Int)) from rfl,h0]
 rfl
theorem zdr (p:TPo):F_q1m p=some (i64.wrap (p.H-outV p)):=by
 simp only[F_q1m,S_q1m,Scr.den,z9s,obind,z7h]
theorem z8n (hl:p.A.length<4611686018427387904):F_q1o p=some (i64.wrap (p.H-outV p)):=by
 simp only[F_q1o,S_q1o,Scr.den,z6q hl,obind,z7h]
theorem maxw (n:Int):(if 0>n then 0 else n)=max n 0:=by split <;> omega
theorem z5c (p:TPo):F_q1n p=some (max (i64.wrap (outV p-p.H)) 0):=by
 simp only[F_q1n,S_q1n,Scr.den,z9s,obind,z7g]
 congr 1
 exact maxw _
theorem z6r {l:List Int} (h:l.length<=1000000):F_q1b l=some l:=by
 simp only[F_q1b,S_q1b,Scr.den]
 rw[za (by simp only[AllP,yh]; omega)]
theorem z4m {l:List Int} (h:l.length<=1000000):F_q1e l=some l:=by
 simp only[F_q1e,S_q1e,Scr.den]
 rw[za (by simp only[AllP,yh]; omega)]
def PSmall (p:TPo):Prop:=p.A.length<=1000000/\p.D.length<=1000000/\p.C.length<=1000000/\p.E.length<=1000000
theorem PotOk.small (h:PotOk n p) (hn:n<=6):PSmall p:=by
 obtain⟨_,_,_,⟨⟨h1,_⟩,⟨h2,_⟩,⟨h3,_⟩,⟨h4,_⟩⟩,_⟩:=h
 exact⟨om,om,om,om⟩
theorem z7l (h:PSmall p):F_q1c p=some p:=by
 obtain⟨h1,h2,h3,h4⟩:=h
 simp only[F_q1c,S_q1c,Scr.den,z6r h1,z6r h2,z6r h3,z6r h4,obind]
theorem zdc (h:PSmall p):F_q2a p=some (p.F,p.G,p.H,p.A,p.D,p.C,p.E):=by
 obtain⟨h1,h2,h3,h4⟩:=h
 simp only[F_q2a,S_q2a,Scr.den,z4m h1,z4m h2,z4m h3,z4m h4,obind]
def TSmall (t:TTr):Prop:=t.B.length<=1000000/\∀ i,i<t.B.length->PSmall (t.B.getD i dF)
theorem z4b {body:Nat->Int×List TPo->Option (Step (Int×List TPo) ρ)} (hs:∀ i (l:List TPo),i<t.B.length->l.length=i->body i (t.I,l)=some (.cont (t.I,l++[t.B.getD i dF]))) :
  rangeM body t.B.length 0 (t.I,[])=some (.next (t.I,t.B)):=by
 obtain⟨s,h1,h2⟩:=z3c (ρ:=ρ) (body:=body) (n:=t.B.length) (fun i s=>s=(t.I,t.B.take i)) (s0:=(t.I,[])) sj (fun i s hi hI=>by
  subst hI
  refine⟨_,hs i _ hi sk,?_⟩
  rw[y38 hi]
  simp[List.getD_eq_getElem?_getD,List.getElem?_eq_getElem hi])
 rw[h1,h2,List.take_length]
theorem zeo (h:TSmall t):F_q10 t=some (t.I,t.B):=by
 simp only[F_q10,S_q10,Scr.den]
 rw[z4b (fun i l hi hl=>by
  simp only[S_q10_b1,Scr.den,z7l (h.2 i hi),obind]
  rw[za (by have:=h.1; simp only[AllP,yh,y19,y1t]; omega)])]
 rfl
variable {i0:Nat}
theorem z4n (h:TSmall t) (hi0:i0<t.B.length) (hpos:0<(t.B.getD i0 dF).A.length/\0<(t.B.getD i0 dF).D.length/\0<(t.B.getD i0 dF).C.length/\0<(t.B.getD i0 dF).E.length) :
  F_qn t i0=some (t.I,t.B):=by
 simp only[F_qn,S_qn,Scr.den]
 rw[z4b (fun i l hi hl=>by
  obtain⟨q1,q2,q3,q4⟩:=h.2 i hi
  simp only[S_qn_b1,Scr.den,zdc (h.2 i hi),obind]
  rw[za (by have:=h.1; simp only[AllP,yh]; omega),za (by
   simp only[AllP,yh]
   exact⟨fun e=>by rw[hl] at e; subst e; exact hpos,om,om,om,om⟩)])]
 simp only[outM]
 rw[za (by simp only[AllP,yh]; exact hi0)]
theorem z9t (h:TSmall t):F_qx t=some (t.I,t.B):=by
 simp only[F_qx,S_qx,Scr.den]
 rw[z4b (fun i l hi hl=>by
  obtain⟨q1,q2,q3,q4⟩:=h.2 i hi
  simp only[S_qx_b1,Scr.den]
  iterate 4 rw[za (by have:=h.1; simp only[AllP,yh]; omega)]
  rw[za (by have:=h.1; simp only[AllP,yh,y19,y1t]; omega)])]
 rfl
theorem z3g (h:TSmall t) (hi0:i0<t.B.length) (hpos:0<(t.B.getD i0 dF).A.length/\0<(t.B.getD i0 dF).D.length/\0<(t.B.getD i0 dF).C.length/\0<(t.B.getD i0 dF).E.length) :
  F_qk t i0=some (t.I,t.B):=by
 simp only[F_qk,S_qk,Scr.den]
 rw[z4b (fun i l hi hl=>by
  obtain⟨q1,q2,q3,q4⟩:=h.2 i hi
  simp only[S_qk_b1,Scr.den]
  iterate 5 rw[za (by have:=h.1; simp only[AllP,yh]; omega)]
  rw[za (by
   simp only[AllP,yh]
   exact⟨fun e=>by rw[hl] at e; subst e; exact hpos,om,om,om,om⟩)])]
 simp only[outM]
 rw[za (by simp only[AllP,yh]; exact hi0)]
def addN (G a:List Int) (i:Nat):List Int:=(List.range G.length).map fun j=>if j<i then G.getD j dF+a.getD j dF else G.getD j dF
variable {a G:List Int}
theorem zy:(addN G a i).length=G.length:=by simp[addN]
variable {j:Nat}
theorem z2n (hj:j<G.length):(addN G a i).getD j dF=if j<i then G.getD j dF+a.getD j dF else G.getD j dF:=by
 simp only[addN]
 rw[yd (l:=List.map _ _),y1w,y3i hj,y1n,Option.getD_some]
theorem z94 {l l':List Int} (h:l.length=l'.length) (he:∀ j,j<l.length->l.getD j dF=l'.getD j dF):l=l':=by
 apply List.ext_getElem h
 intro j h1 h2
 have:=he j h1
 rw[z1p h1,z1p h2] at this
 exact this
theorem zg2:addN G a 0=G:=z94 zy fun j hj=>by
 rw[z2n (by simpa [zy] using hj),ya om]
variable {x:Int}
theorem z7m {l:List Int} (hj:j<l.length):(l.set i x).getD j dF=if j=i then x else l.getD j dF:=by
 rw[yd,List.getElem?_set]
 by_cases h:i=j
 ·subst h; simp[hj]
 ·rw[ya h,ya fun e=>h e.symm,yd]
theorem zg3 (hi:i<G.length):(addN G a i).set i ((addN G a i).getD i dF+a.getD i dF)=addN G a (i+1):=by
 refine z94 (by simp[zy]) fun j hj=>?_
 have hj':j<G.length:=by simpa [zy] using hj
 rw[z7m (by rw[zy]; exact hj'),z2n hj',z2n hi,z2n hj',ya (y4k i)]
 by_cases h:j=i
 ·subst h; rw[yb rfl,yb om]
 ·rw[ya h]
  by_cases h2:j<i
  ·rw[yb h2,yb om]
  ·rw[ya h2,ya om]
theorem zcu {body:Nat->List Int->Option (Step (List Int) ρ)} (hl:a.length=G.length) (hs:∀ i (s:List Int),i<G.length->s.length=G.length->body i s=some (.cont (s.set (0+i) (i64.wrap (s.getD (0+i) dF+a.getD i dF))))) (hG:∀ x∈G,tot x) (ha:∀ x∈a,tot x):rangeM body a.length 0 G=some (.next (addN G a a.length)):=by
 obtain⟨s,h1,h2⟩:=z3c (ρ:=ρ) (body:=body) (n:=a.length) (fun i s=>s=addN G a i) (s0:=G) zg2.symm (fun i s hi hI=>by
  subst hI
  have hi':i<G.length:=om
  refine⟨_,hs i _ hi' zy,?_⟩
  have t1:=hG _ (zk hi')
  have t2:=ha _ (zk hi)
  unfold tot at t1 t2
  rw[y12,wrapId (by rw[z2n hi',ya (y4k i)]; omega) (by rw[z2n hi',ya (y4k i)]; omega),zg3 hi'])
 rw[h1,h2]
def giveV (total:Int) (p:TPo) (a:List Int):Int×List Int :=
 if total-outV p<a.sum then (15,p.A) else if 1000000000000000<p.A.sum+a.sum then (3,p.A) else (0,addN p.A a a.length)
theorem zbb (h:PotOk n p) (hn:n<=6):-6000000000000000<=outV p/\outV p<=6000000000000000:=by
 obtain⟨_,_,_,⟨h1,h2,_,_⟩,_⟩:=h
 have b1:=z36 (l:=p.A.take (min p.A.length p.D.length)) fun x hx=>h1.2 x (y34 hx)
 have b2:=z36 (l:=p.D.take (min p.A.length p.D.length)) fun x hx=>h2.2 x (y34 hx)
 have l1:=h1.1
 have l2:=h2.1
 simp only[y2w] at b1 b2
 unfold outV
 have e1:(min (min p.A.length p.D.length) p.A.length:Nat)<=6:=om
 have e2:(min (min p.A.length p.D.length) p.D.length:Nat)<=6:=om
 omega
theorem zds (h:PotOk n p) (hn:n<=6) (ha:∀ x∈a,tot x) (hl:a.length=p.A.length) (hi:i<l.length) :
  F_q9 a i l p.F p.G p.H p.A p.D p.C p.E=some (giveV p.H p a):=by
 have ho:=zbb h hn
 obtain⟨_,_,ht,⟨h1,h2,h3,h4⟩,_,hsum⟩:=h
 have l1:=h1.1; have l2:=h2.1; have l3:=h3.1; have l4:=h4.1
 have s1:=z36 ha
 have s2:=z36 h1.2
 simp only[F_q9,S_q9,Scr.den,zcq,obind,zdr]
 rw[za ⟨om,om,om,om⟩]
 simp only[obind]
 rw[za (by simp only[AllP,yh]; exact hi),wrapId (n:=a.sum) om om,wrapId (n:=p.H-_) (by show _<=p.H-outV p; omega) (by show p.H-outV p<_; omega)]
 unfold giveV
 by_cases c1:p.H-outV p<a.sum
 ·rw[yb (yc c1),yb c1]
 ·rw[ya (by rw[yj c1]; simp),ya c1,za om,wrapId (n:=p.A.sum) om om]
  simp only[obind]
  rw[wrapId (n:=p.A.sum+a.sum) om om]
  by_cases c2:1000000000000000<p.A.sum+a.sum
  ·rw[yb (yc c2),yb c2]
  ·rw[ya (by rw[yj c2]; simp),ya c2]
   rw[zcu (ρ:=R_q9) (G:=p.A) (a:=a) (body:=fun i' s=>(S_q9_b1 a i l p.A i' s).den) hl (fun j s hj hs=>by
    simp only[S_q9_b1,Scr.den]
    rw[za (by simp only[AllP,yh]; omega)]) h1.2 ha]
   rfl
abbrev zT:TTr:=⟨0,[]⟩
def withG (p:TPo) (g:List Int):TPo:=⟨p.F,p.G,p.H,g,p.D,p.C,p.E⟩
def oneHot (n k:Nat) (x:Int):List Int:=(List.replicate n (0:Int)).set k x
def potAt (t:TTr) (c:Y8) (y:Int):TPo:=t.B.getD (pix t.B c y) dF
def putP (t:TTr) (c:Y8) (y:Int) (p:TPo):TTr:=⟨t.I,t.B.set (pix t.B c y) p⟩
def grantM (t:TTr) (k:Int) (c:Y8) (y x:Int):TTr×Int :=
 if ¬ TOk t then (zT,1) else if ¬ hasP t.B c y=true then (zT,6) else if ¬ (1<=k/\k<=t.I) then (zT,6) else if ¬ (1<=x/\x<=1000000000000000) then (zT,2) else
  if (giveV (potAt t c y).H (potAt t c y) (oneHot (potAt t c y).A.length (k-1).toNat x)).1≠0 then (zT,(giveV (potAt t c y).H (potAt t c y) (oneHot (potAt t c y).A.length (k-1).toNat x)).1)
  else (putP t c y (withG (potAt t c y) (giveV (potAt t c y).H (potAt t c y) (oneHot (potAt t c y).A.length (k-1).toNat x)).2),0)
theorem z4o {n k:Nat} (hx:1<=x/\x<=1000000000000000):∀ y∈oneHot n k x,tot y:=fun y hy=>by
 rcases y3n hy with h | h
 ·rw[List.eq_of_mem_replicate h]; exact⟨om,om⟩
 ·subst h; exact⟨om,om⟩
theorem z2b {n k:Nat}:(oneHot n k x).length=n:=by simp[oneHot]
theorem TOk.potAt {t:TTr} (h:TOk t) {c:Y8} {y:Int} (hp:hasP t.B c y=true):PotOk t.I (potAt t c y):=(h.2.2 _ (z1h hp).1).1
theorem TOk.small (h:TOk t):TSmall t:=⟨by have:=h.2.1; omega,fun i hi=>(h.2.2 i hi).1.small h.1.2⟩
theorem TOk.pos (h:TOk t) (hp:hasP t.B c y=true) :
  0<(t.B.getD (pix t.B c y) dF).A.length/\0<(t.B.getD (pix t.B c y) dF).D.length/\0<(t.B.getD (pix t.B c y) dF).C.length/\0<(t.B.getD (pix t.B c y) dF).E.length:=by
 obtain⟨_,_,_,⟨⟨h1,_⟩,⟨h2,_⟩,⟨h3,_⟩,⟨h4,_⟩⟩,_⟩:=h.potAt hp
 have:=h.1
 exact⟨by show 0<(Go.Proofs.YtcfloplnjicomaaGreatDoor.potAt t c y).A.length; omega,by show 0<(Go.Proofs.YtcfloplnjicomaaGreatDoor.potAt t c y).D.length; omega,by show 0<(Go.Proofs.YtcfloplnjicomaaGreatDoor.potAt t c y).C.length; omega,by show 0<(Go.Proofs.YtcfloplnjicomaaGreatDoor.potAt t c y).E.length; omega⟩
theorem zbc {total:Int}:(giveV total p a).2.length=p.A.length:=by
 unfold giveV
 split
 ·rfl
 ·split
  ·rfl
  ·exact zy
theorem zg4 (h:PotOk n p) (hn:n<=6) (hi:i<l.length) (k x:Int) :
  F_q24 i l p.F p.G p.H k x p.A p.D p.C p.E =
   some (if ¬ (1<=k/\k<=n) then (6,p.A) else if ¬ (1<=x/\x<=1000000000000000) then (2,p.A) else giveV p.H p (oneHot p.A.length (k-1).toNat x)):=by
 have l1:=h.2.2.2.1.1.1
 simp only[F_q24,S_q24,Scr.den,zq,obind,l1]
 rw[za (by simp only[AllP,yh]; exact hi)]
 by_cases c1:1<=k/\k<=n
 ·rw[ya (show ¬ (!decide (1<=k/\k<=n))=true by rw[yc c1]; simp),ya (show ¬ ¬ (1<=k/\k<=n) from fun h=>h c1)]
  by_cases c2:1<=x/\x<=1000000000000000
  ·have e1:i64.wrap (k-1)=(((k-1).toNat:Nat):Int):=by rw[wrapId om om]; omega
   have e2:n.toNat=p.A.length:=om
   rw[ya (show ¬ (!decide (1<=x/\x<=1000000000000000))=true by rw[yc c2]; simp),ya (show ¬ ¬ (1<=x/\x<=1000000000000000) from fun h=>h c2),e1,e2,yp,za (by simp only[AllP,yh]; omega),za (by simp only[AllP,yh,y2a]; omega),
    za (by simp only[AllP,yh,yi,y2a]; omega),y12]
   show (F_q9 (oneHot p.A.length (k-1).toNat x) i l p.F p.G p.H p.A p.D p.C p.E).bind _=_
   rw[zds h hn (z4o c2) z2b hi]
   rfl
  ·rw[yb (show (!decide (1<=x/\x<=1000000000000000))=true by rw[yj c2]; simp),yb c2]
 ·rw[yb (show (!decide (1<=k/\k<=n))=true by rw[yj c1]; simp),yb c1]
theorem zha (hs:Small t) (k:Int) (c:Y8) (y x:Int):F_q2e t k c y x=some (grantM t k c y x):=by
 simp only[F_q2e,S_q2e,Scr.den,F_q2q,S_q2q,z33 hs,z64,obind]
 unfold grantM
 by_cases h1:TOk t
 ·rw[ya (show ¬ (!decide (TOk t))=true by rw[yc h1]; simp),ya (show ¬ ¬ TOk t from fun h=>h h1)]
  by_cases h2:hasP t.B c y=true
  ·have hlt:=(z1h h2).1
   have hp:=h1.potAt h2
   have l0:=h1.2.1
   rw[yb (show hasP t.B c y=true from h2),ya (show ¬ ¬ hasP t.B c y=true from fun h=>h h2),ya (show ¬ decide (((pix t.B c y:Nat):Int)<0)=true by rw[yf]; omega),yp,z4n h1.small hlt (h1.pos h2)]
   simp only[obind]
   show ((F_q24 (pix t.B c y) t.B (potAt t c y).F (potAt t c y).G (potAt t c y).H k x (potAt t c y).A (potAt t c y).D (potAt t c y).C (potAt t c y).E).bind _).bind _=_
   rw[zg4 hp h1.1.2 hlt]
   simp only[obind]
   rw[za (by simp only[AllP,yh]; exact⟨om,hlt⟩)]
   by_cases h3:1<=k/\k<=t.I
   ·simp only[show ¬ ¬ (1<=k/\k<=t.I) from fun h=>h h3,yz]
    by_cases h4:1<=x/\x<=1000000000000000
    ·simp only[show ¬ ¬ (1<=x/\x<=1000000000000000) from fun h=>h h4,yz]
     have hlen:=zbc (total:=(potAt t c y).H) (p:=potAt t c y) (a:=oneHot (potAt t c y).A.length (k-1).toNat x)
     generalize giveV (potAt t c y).H (potAt t c y) (oneHot (potAt t c y).A.length (k-1).toNat x)=gv at hlen
     by_cases h5:gv.1=0
     ·rw[ya (show ¬ (gv.1 != 0)=true by simp[h5]),ya (show ¬ gv.1≠0 from fun h=>h h5)]
      obtain⟨q1,q2,q3,q4⟩:=hp.small h1.1.2
      rw[za (by simp only[AllP,yh]; exact hlen),za (by simp only[AllP,yh]; exact⟨by rw[hlen]; omega,y1l q2 om,y1l q3 om,y1l q4 om⟩),za (by simp only[AllP,yh,yi]; omega)]
      rfl
     ·rw[yb (show (gv.1 != 0)=true by simp[h5]),yb (show gv.1≠0 from h5)]; rfl
    ·simp only[h4,ym,y1c]; rfl
   ·simp only[h3,ym,y1c]; rfl
  ·simp only[h2,ya,ym,y1c,y1a]; rfl
 ·rw[yb (show (!decide (TOk t))=true by rw[yj h1]; simp),yb (show ¬ TOk t from h1)]; rfl
def withA (p:TPo) (a:List Int):TPo:=⟨p.F,p.G,p.H,p.A,p.D,a,p.E⟩
def withH (p:TPo) (h u:List Int):TPo:=⟨p.F,p.G,p.H,p.A,h,p.C,u⟩
def nth (l:List Int) (k:Int):Int:=l.getD (k-1).toNat dF
def upd (l:List Int) (k x:Int):List Int:=l.set (k-1).toNat x
def askM (t:TTr) (k:Int) (c:Y8) (y x:Int):TTr×Int :=
 if ¬ TOk t then (zT,1) else if ¬ hasP t.B c y=true then (zT,6) else if ¬ (1<=k/\k<=t.I) then (zT,6) else if ¬ (1<=x/\x<=1000000000000000) then (zT,2) else
  if nth (potAt t c y).A k<nth (potAt t c y).C k+x then (zT,15)
  else (putP t c y (withA (potAt t c y) (upd (potAt t c y).C k (nth (potAt t c y).C k+x))),0)
def hearM (t:TTr) (m:TMe):TTr×Int :=
 if m.L≠0 then (zT,1) else if ¬ TOk t then (zT,1) else if ¬ hasP t.B m.F m.G=true then (zT,6) else if ¬ (1<=m.K/\m.K<=t.I) then (zT,6) else
  if ¬ ((0<=m.J/\m.J<=nth (potAt t m.F m.G).A m.K)/\tot m.E) then (zT,2)
  else (putP t m.F m.G (withH (potAt t m.F m.G) (upd (potAt t m.F m.G).D m.K (max (nth (potAt t m.F m.G).D m.K) m.J)) (upd (potAt t m.F m.G).E m.K m.E)),0)
variable {k:Int}
theorem z3u {l:List Int} (h:rowOk n l) (hk:1<=k/\k<=n):tot (nth l k):=by
 have:=h.1
 exact h.2 _ (zk om)
theorem wrapK (hk:1<=k/\k<=6):i64.wrap (k-1)=(((k-1).toNat:Nat):Int):=by rw[wrapId om om]; omega
theorem zil (h:PotOk n p) (hn:n<=6) (hi:i<l.length) (k x:Int) :
  F_q1u i l p.F p.G p.H k x p.A p.D p.C p.E =
   some (if ¬ (1<=k/\k<=n) then (6,p.C) else if ¬ (1<=x/\x<=1000000000000000) then (2,p.C) else if nth p.A k<nth p.C k+x then (15,p.C) else (0,upd p.C k (nth p.C k+x))):=by
 have l1:=h.2.2.2.1.1.1
 have l3:=h.2.2.2.1.2.2.1.1
 simp only[F_q1u,S_q1u,Scr.den,zq,obind,l3]
 rw[za (by simp only[AllP,yh]; exact hi)]
 by_cases c1:1<=k/\k<=n
 ·rw[ya (show ¬ (!decide (1<=k/\k<=n))=true by rw[yc c1]; simp),ya (show ¬ ¬ (1<=k/\k<=n) from fun h=>h c1)]
  by_cases c2:1<=x/\x<=1000000000000000
  ·have t1:=z3u h.2.2.2.1.2.2.1 c1
   unfold tot at t1
   rw[ya (show ¬ (!decide (1<=x/\x<=1000000000000000))=true by rw[yc c2]; simp),ya (show ¬ ¬ (1<=x/\x<=1000000000000000) from fun h=>h c2),wrapK (k:=k) om,yp,y12,
    za (by simp only[AllP,yh]; omega)]
   rw[show p.C.getD (k-1).toNat dF=nth p.C k from rfl,show p.A.getD (k-1).toNat dF=nth p.A k from rfl,wrapId (n:=nth p.C k+x) om om]
   by_cases c3:nth p.A k<nth p.C k+x
   ·rw[yb (show decide (nth p.C k+x>nth p.A k)=true from yc c3),yb c3]
   ·rw[ya (show ¬ decide (nth p.C k+x>nth p.A k)=true by rw[yf]; exact c3),ya c3]
    rfl
  ·rw[yb (show (!decide (1<=x/\x<=1000000000000000))=true by rw[yj c2]; simp),yb c2]
 ·rw[yb (show (!decide (1<=k/\k<=n))=true by rw[yj c1]; simp),yb c1]
theorem z28 {l:List Int}:(upd l k x).length=l.length:=by simp[upd]
theorem zg5 (hs:Small t) (k:Int) (c:Y8) (y x:Int):F_q1h t k c y x=some (askM t k c y x):=by
 simp only[F_q1h,S_q1h,Scr.den,F_q2o,S_q2o,z33 hs,z64,obind]
 unfold askM
 by_cases h1:TOk t
 ·rw[ya (show ¬ (!decide (TOk t))=true by rw[yc h1]; simp),ya (show ¬ ¬ TOk t from fun h=>h h1)]
  by_cases h2:hasP t.B c y=true
  ·have hlt:=(z1h h2).1
   have hp:=h1.potAt h2
   have l0:=h1.2.1
   rw[yb (show hasP t.B c y=true from h2),ya (show ¬ ¬ hasP t.B c y=true from fun h=>h h2),ya (show ¬ decide (((pix t.B c y:Nat):Int)<0)=true by rw[yf]; omega),yp,z4n h1.small hlt (h1.pos h2)]
   simp only[obind]
   show ((F_q1u (pix t.B c y) t.B (potAt t c y).F (potAt t c y).G (potAt t c y).H k x (potAt t c y).A (potAt t c y).D (potAt t c y).C (potAt t c y).E).bind _).bind _=_
   rw[zil hp h1.1.2 hlt]
   simp only[obind]
   rw[za (by simp only[AllP,yh]; exact⟨om,hlt⟩)]
   obtain⟨q1,q2,q3,q4⟩:=hp.small h1.1.2
   by_cases h3:1<=k/\k<=t.I
   ·simp only[show ¬ ¬ (1<=k/\k<=t.I) from fun h=>h h3,yz]
    by_cases h4:1<=x/\x<=1000000000000000
    ·simp only[show ¬ ¬ (1<=x/\x<=1000000000000000) from fun h=>h h4,yz]
     by_cases h5:nth (potAt t c y).A k<nth (potAt t c y).C k+x
     ·simp only[h5,y1c]; rfl
     ·simp only[h5,yz]
      rw[ya sj,za (by simp only[AllP,yh]; exact z28),za (by simp only[AllP,yh]; exact⟨y1l q1 om,y1l q2 om,by rw[z28]; exact y1l q3 om,y1l q4 om⟩),za (by simp only[AllP,yh,yi]; omega)]
      rfl
    ·simp only[h4,ym,y1c]; rfl
   ·simp only[h3,ym,y1c]; rfl
  ·simp only[h2,ya,ym,y1c,y1a]; rfl
 ·rw[yb (show (!decide (TOk t))=true by rw[yj h1]; simp),yb (show ¬ TOk t from h1)]; rfl
theorem maxE (a b:Int):(if a>b then a else b)=max b a:=by split <;> omega
theorem zhb (h:PotOk n p) (hn:n<=6) (hi:i<l.length) (m:TMe) :
  F_q1y i l p.F p.G p.H m p.A p.D p.C p.E =
   some (if ¬ (1<=m.K/\m.K<=n) then (6,p.D,p.E) else if ¬ ((0<=m.J/\m.J<=nth p.A m.K)/\tot m.E) then (2,p.D,p.E) else
    (0,upd p.D m.K (max (nth p.D m.K) m.J),upd p.E m.K m.E)):=by
 have l1:=h.2.2.2.1.1.1
 have l2:=h.2.2.2.1.2.1.1
 have l4:=h.2.2.2.1.2.2.2.1
 simp only[F_q1y,S_q1y,Scr.den,zq,z43,obind,l2,zj]
 rw[za (by simp only[AllP,yh]; exact hi)]
 by_cases c1:1<=m.K/\m.K<=n
 ·rw[ya (show ¬ (!decide (1<=m.K/\m.K<=n))=true by rw[yc c1]; simp),ya (show ¬ ¬ (1<=m.K/\m.K<=n) from fun h=>h c1),wrapK (k:=m.K) om,yp,y12]
  rw[show p.A.getD (m.K-1).toNat dF=nth p.A m.K from rfl,show p.D.getD (m.K-1).toNat dF=nth p.D m.K from rfl]
  by_cases c2:0<=m.J/\m.J<=nth p.A m.K
  ·rw[zh (by rw[yc c2]; exact⟨rfl,trivial⟩)]
   simp only[obind]
   rw[za (by simp only[AllP,yh]; omega)]
   by_cases c3:tot m.E
   ·rw[ya (by rw[yc c2,yc c3]; simp),ya (show ¬ ¬ ((0<=m.J/\m.J<=nth p.A m.K)/\tot m.E) from fun h=>h ⟨c2,c3⟩),za (by simp only[AllP,yh]; omega),maxE]
    rfl
   ·rw[yb (by rw[yj c3]; simp),yb fun h=>c3 h.2]
  ·rw[z1e (by rw[yj c2]; simp[AllP])]
   simp only[obind]
   rw[za (by simp only[AllP,yh]; omega),yb (by rw[yj c2]; simp),yb fun h=>c2 h.1]
 ·rw[yb (show (!decide (1<=m.K/\m.K<=n))=true by rw[yj c1]; simp),yb c1]
theorem zdt (hs:Small t) (m:TMe):F_q1z t m=some (hearM t m):=by
 simp only[F_q1z,S_q1z,Scr.den,F_q2p,S_q2p,z33 hs,z64,obind]
 unfold hearM
 by_cases h0:m.L=0
 ·rw[ya (show ¬ (m.L != 0)=true by simp[h0]),ya (show ¬ m.L≠0 from fun h=>h h0)]
  by_cases h1:TOk t
  ·rw[ya (show ¬ (!decide (TOk t))=true by rw[yc h1]; simp),ya (show ¬ ¬ TOk t from fun h=>h h1)]
   by_cases h2:hasP t.B m.F m.G=true
   ·have hlt:=(z1h h2).1
    have hp:=h1.potAt h2
    have l0:=h1.2.1
    rw[yb (show hasP t.B m.F m.G=true from h2),ya (show ¬ ¬ hasP t.B m.F m.G=true from fun h=>h h2),ya (show ¬ decide (((pix t.B m.F m.G:Nat):Int)<0)=true by rw[yf]; omega),yp,z4n h1.small hlt (h1.pos h2)]
    simp only[obind]
    show ((F_q1y (pix t.B m.F m.G) t.B (potAt t m.F m.G).F (potAt t m.F m.G).G (potAt t m.F m.G).H m (potAt t m.F m.G).A (potAt t m.F m.G).D (potAt t m.F m.G).C (potAt t m.F m.G).E).bind _).bind _=_
    rw[zhb hp h1.1.2 hlt]
    simp only[obind]
    rw[za (by simp only[AllP,yh]; exact⟨om,hlt⟩)]
    obtain⟨q1,q2,q3,q4⟩:=hp.small h1.1.2
    by_cases h3:1<=m.K/\m.K<=t.I
    ·simp only[show ¬ ¬ (1<=m.K/\m.K<=t.I) from fun h=>h h3,yz]
     by_cases h4:(0<=m.J/\m.J<=nth (potAt t m.F m.G).A m.K)/\tot m.E
     ·simp only[show ¬ ¬ ((0<=m.J/\m.J<=nth (potAt t m.F m.G).A m.K)/\tot m.E) from fun h=>h h4,yz]
      rw[ya sj,za (by simp only[AllP,yh]; exact⟨z28,z28⟩),za (by simp only[AllP,yh]; exact⟨y1l q1 om,by rw[z28]; exact y1l q2 om,y1l q3 om,by rw[z28]; exact y1l q4 om⟩),za (by simp only[AllP,yh,yi]; omega)]
      rfl
     ·simp only[h4,ym,y1c]; rfl
    ·simp only[h3,ym,y1c]; rfl
   ·simp only[h2,ya,ym,y1c,y1a]; rfl
  ·rw[yb (show (!decide (TOk t))=true by rw[yj h1]; simp),yb (show ¬ TOk t from h1)]; rfl
 ·rw[yb (show (m.L != 0)=true by simp[h0]),yb (show m.L≠0 from h0)]
def potM (t:TTr) (c:Y8) (y:Int):TPo×Bool:=if hasP t.B c y=true then (potAt t c y,true) else (⟨[],0,0,[],[],[],[]⟩,false)
theorem z9u (hs:TSmall t) (c:Y8) (y:Int):F_q12 t c y=some (potM t c y):=by
 simp only[F_q12,S_q12,Scr.den,z64,obind]
 unfold potM
 by_cases h2:hasP t.B c y=true
 ·have hlt:=(z1h h2).1
  have l0:=hs.1
  rw[yb (show hasP t.B c y=true from h2),yb (show hasP t.B c y=true from h2),ya (show ¬ decide (((pix t.B c y:Nat):Int)<0)=true by rw[yf]; omega),yp,z7l (hs.2 _ hlt)]
  simp only[obind]
  rw[za (by simp only[AllP,yh]; exact⟨om,hlt⟩)]
  rfl
 ·rw[ya h2,ya h2]; rfl
def tellM (t:TTr) (k:Int) (c:Y8) (y:Int):TMe×Int :=
 if ¬ TOk t then (⟨0,0,[],0,0,0,0,0⟩,1) else if ¬ (hasP t.B c y=true/\1<=k/\k<=t.I) then (⟨0,0,[],0,0,0,0,0⟩,6)
 else (⟨0,k,c,y,nth (potAt t c y).A k,nth (potAt t c y).C k,0,0⟩,0)
theorem zdu (hs:Small t) (k:Int) (c:Y8) (y:Int):F_q1i t k c y=some (tellM t k c y):=by
 simp only[F_q1i,S_q1i,Scr.den,z33 hs,obind,zj]
 unfold tellM
 by_cases h1:TOk t
 ·rw[ya (show ¬ (!decide (TOk t))=true by rw[yc h1]; simp),ya (show ¬ ¬ TOk t from fun h=>h h1),z9u h1.small]
  simp only[obind,zq]
  unfold potM
  by_cases h2:hasP t.B c y=true
  ·rw[yb h2]
   rw[zh (gs:=[(!true)=false]) ⟨rfl,trivial⟩]
   simp only[obind,y31,y3v]
   obtain⟨_,_,_,⟨g1,_,g3,_⟩,_⟩:=h1.potAt h2
   have e1:=g1.1
   have e3:=g3.1
   have e0:=h1.1
   by_cases h3:1<=k/\k<=t.I
   ·rw[ya (by rw[yc h3]; simp),ya (show ¬ ¬ (hasP t.B c y=true/\1<=k/\k<=t.I) from fun h=>h ⟨h2,h3⟩),wrapK (k:=k) om,yp,za (by simp only[AllP,yh]; omega)]
    rfl
   ·rw[yb (by rw[yj h3]; rfl),yb fun h=>h3 h.2]
  ·rw[ya h2,z1e (by simp[AllP])]
   simp only[obind]
   rw[yb (by rfl),yb fun h=>h2 h.1]
 ·rw[yb (show (!decide (TOk t))=true by rw[yj h1]; simp),yb h1]
def findM (t:TTr) (k:Int) (c:Y8) (y:Int):Int×Int :=
 if ¬ TOk t then (0,1) else if ¬ (hasP t.B c y=true/\1<=k/\k<=t.I) then (0,6) else ((pix t.B c y:Int),0)
theorem z2y (hs:Small t) (k:Int) (c:Y8) (y:Int):F_qq t k c y=some (findM t k c y):=by
 simp only[F_qq,S_qq,Scr.den,z3f hs,zen,obind,zj]
 unfold findM
 by_cases h1:TOk t
 ·rw[ya (show ¬ (!decide (TOk t))=true by rw[yc h1]; simp),ya (show ¬ ¬ TOk t from fun h=>h h1)]
  by_cases h2:hasP t.B c y=true
  ·rw[yb (show hasP t.B c y=true from h2)]
   by_cases h3:1<=k/\k<=t.I
   ·have hb:(decide (((pix t.B c y:Nat):Int)<0)||decide (k<1)||decide (k>t.I))=false:=by
     simp only[y3e,y1k]; omega
    rw[ya (by rw[hb]; simp),ya (show ¬ ¬ (hasP t.B c y=true/\1<=k/\k<=t.I) from fun h=>h ⟨h2,h3⟩)]
   ·rw[yb (by simp only[yv,yf]; omega),yb fun h=>h3 h.2]
  ·rw[ya (show ¬ hasP t.B c y=true from h2),yb (by rfl),yb fun h=>h2 h.1]
 ·rw[yb (show (!decide (TOk t))=true by rw[yj h1]; simp),yb h1]
theorem z9v (hs:Small t) (k:Int) (c:Y8) (y x:Int):F_q1k t k c y x=some (askM t k c y x):=by
 simp only[F_q1k,S_q1k,Scr.den,z2y hs,obind,zj]
 unfold askM findM
 by_cases h1:TOk t
 ·simp only[show ¬ ¬ TOk t from fun h=>h h1,yz]
  by_cases h2:hasP t.B c y=true
  ·have hlt:=(z1h h2).1
   have hp:=h1.potAt h2
   have l0:=h1.2.1
   obtain⟨q1,q2,q3,q4⟩:=hp.small h1.1.2
   have l1:=hp.2.2.2.1.1.1
   have l3:=hp.2.2.2.1.2.2.1.1
   have e0:=h1.1
   simp only[show ¬ ¬ hasP t.B c y=true from fun h=>h h2,yz]
   by_cases h3:1<=k/\k<=t.I
   ·simp only[show ¬ ¬ (1<=k/\k<=t.I) from fun h=>h h3,show ¬ ¬ (hasP t.B c y=true/\1<=k/\k<=t.I) from fun h=>h ⟨h2,h3⟩,yz]
    rw[ya (show ¬ ((0:Int) != 0)=true from sj)]
    by_cases h4:1<=x/\x<=1000000000000000
    ·have t1:=z3u hp.2.2.2.1.2.2.1 h3
     unfold tot at t1
     rw[ya (by simp only[yv,yf]; omega)]
     simp only[show ¬ ¬ (1<=x/\x<=1000000000000000) from fun h=>h h4,yz,wrapK (k:=k) om,yp]
     rw[z3g h1.small hlt (h1.pos h2)]
     simp only[obind,show t.B.getD (pix t.B c y) dF=potAt t c y from rfl,y12,show (potAt t c y).C.getD (k-1).toNat dF=nth (potAt t c y).C k from rfl,show (potAt t c y).A.getD (k-1).toNat dF=nth (potAt t c y).A k from rfl]
     rw[za (by simp only[AllP,yh]; omega),wrapId (n:=nth (potAt t c y).C k+x) om om]
     by_cases h5:nth (potAt t c y).A k<nth (potAt t c y).C k+x
     ·rw[yb (show decide (nth (potAt t c y).C k+x>nth (potAt t c y).A k)=true from yc h5),yb h5]
     ·rw[ya (show ¬ decide (nth (potAt t c y).C k+x>nth (potAt t c y).A k)=true by rw[yf]; exact h5),ya h5]
      rw[za (by simp only[AllP,yh]; omega),za (by simp only[AllP,yh,yi]),za (by simp only[AllP,yh,yi]; omega),za (by simp only[AllP,yh,yi]; omega)]
      rfl
    ·rw[yb (by simp only[yv,yf]; omega)]
     simp only[h4,ym,y1c]
   ·simp only[h3,and_false,ym,y1c]; rfl
  ·simp only[h2,y43,ym,y1c,y1a]; rfl
 ·simp only[h1,ym,y1c]; rfl
theorem z8o (hs:Small t) (m:TMe):F_q21 t m=some (hearM t m):=by
 simp only[F_q21,S_q21,Scr.den,z3f hs,z2y hs,obind,zj]
 unfold hearM findM
 by_cases h0:m.L=0
 ·rw[ya (show ¬ m.L≠0 from fun h=>h h0)]
  by_cases h1:TOk t
  ·rw[ya (by rw[yc h1]; simp[h0])]
   simp only[show ¬ ¬ TOk t from fun h=>h h1,yz]
   by_cases h2:hasP t.B m.F m.G=true
   ·have hlt:=(z1h h2).1
    have hp:=h1.potAt h2
    have l0:=h1.2.1
    obtain⟨q1,q2,q3,q4⟩:=hp.small h1.1.2
    have l1:=hp.2.2.2.1.1.1
    have l2:=hp.2.2.2.1.2.1.1
    have l4:=hp.2.2.2.1.2.2.2.1
    have e0:=h1.1
    simp only[show ¬ ¬ hasP t.B m.F m.G=true from fun h=>h h2,yz]
    by_cases h3:1<=m.K/\m.K<=t.I
    ·simp only[show ¬ ¬ (1<=m.K/\m.K<=t.I) from fun h=>h h3,show ¬ ¬ (hasP t.B m.F m.G=true/\1<=m.K/\m.K<=t.I) from fun h=>h ⟨h2,h3⟩,yz]
     rw[ya (show ¬ ((0:Int) != 0)=true from sj)]
     simp only[wrapK (k:=m.K) om,yp,z3e,show t.B.getD (pix t.B m.F m.G) dF=potAt t m.F m.G from rfl,show (potAt t m.F m.G).A.getD (m.K-1).toNat dF=nth (potAt t m.F m.G).A m.K from rfl]
     have hgu:∀ a:Prop,AllP [a->(0:Int)<=((pix t.B m.F m.G:Nat):Int),a->pix t.B m.F m.G<t.B.length,a->(0:Int)<=(((m.K-1).toNat:Nat):Int),a->(m.K-1).toNat<(potAt t m.F m.G).A.length] :=
      fun a=>⟨fun _=>om,fun _=>hlt,fun _=>om,fun _=>om,trivial⟩
     by_cases h4:0<=m.J/\m.J<=nth (potAt t m.F m.G).A m.K
     ·rw[zh (by rw[yj (show ¬ m.J<0 from om),yj (show ¬ m.J>nth (potAt t m.F m.G).A m.K from om)]; exact⟨rfl,trivial⟩)]
      simp only[obind]
      rw[za (hgu _)]
      by_cases h5:tot m.E
      ·rw[ya (by rw[yj (show ¬ m.J<0 from om),yj (show ¬ m.J>nth (potAt t m.F m.G).A m.K from om),yc h5]; simp),ya (show ¬ ¬ ((0<=m.J/\m.J<=nth (potAt t m.F m.G).A m.K)/\tot m.E) from fun h=>h ⟨h4,h5⟩)]
       rw[z3g h1.small hlt (h1.pos h2)]
       simp only[obind,show t.B.getD (pix t.B m.F m.G) dF=potAt t m.F m.G from rfl,y12,show (potAt t m.F m.G).D.getD (m.K-1).toNat dF=nth (potAt t m.F m.G).D m.K from rfl,maxE]
       rw[za (by simp only[AllP,yh]; omega),za (by simp only[AllP,yh]; omega),za (by simp only[AllP,yi,and_self]),za (by simp only[AllP,yh,yi]; omega),za (by simp only[AllP,yh,yi]; omega)]
       rfl
      ·rw[yb (by rw[yj h5]; simp),yb (show ¬ ((0<=m.J/\m.J<=nth (potAt t m.F m.G).A m.K)/\tot m.E) from fun h=>h5 h.2)]
     ·have hb:(decide (m.J<0)||decide (m.J>nth (potAt t m.F m.G).A m.K))=true:=by
       simp only[yv,yf]; omega
      rw[z1e (by rw[hb]; simp[AllP])]
      simp only[obind]
      rw[za (hgu _),yb (by rw[hb]; rfl),yb (show ¬ ((0<=m.J/\m.J<=nth (potAt t m.F m.G).A m.K)/\tot m.E) from fun h=>h4 h.1)]
    ·simp only[h3,and_false,ym,y1c]; rfl
   ·simp only[h2,y43,ym,y1c,y1a]; rfl
  ·rw[yb (by rw[yj h1]; rfl)]
   simp only[h1,ym,y1c]
 ·rw[yb (by simp[h0]),yb (show m.L≠0 from h0)]
def divideM (t:TTr) (c:Y8) (y:Int) (a:List Int):TTr×Int :=
 if ¬ TOk t then (zT,1) else if ¬ hasP t.B c y=true then (zT,6) else if ¬ (a.length:Int)=t.I then (zT,6) else if ¬ rowT a=true then (zT,2) else
  if (giveV (potAt t c y).H (potAt t c y) a).1≠0 then (zT,(giveV (potAt t c y).H (potAt t c y) a).1)
  else (putP t c y (withG (potAt t c y) (giveV (potAt t c y).H (potAt t c y) a).2),0)
theorem zcv:∀ (a b:List Int) (u v:Int),a.length=b.length ->
  (a.zip b).foldl (fun (s:Int×Int) x=>(i64.wrap (s.1+x.1),i64.wrap (s.2+x.2))) (i64.wrap u,i64.wrap v)=(i64.wrap (u+a.sum),i64.wrap (v+b.sum))
 | [],[],u,v,_=>sj
 | x :: a,y :: b,u,v,h=>by
  simp only[List.zip_cons_cons,y3k,z7f,y2k]
  rw[zcv a b (u+x) (v+y) (by simpa using h),Int.add_assoc,Int.add_assoc]
 | [],_ :: _,_,_,h=>by simp at h
 | _ :: _,[],_,_,h=>by simp at h
theorem zhc {b:List Int} (h:a.length=b.length) (hi:i<a.length):(a.zip b).getD i dF=(a.getD i dF,b.getD i dF):=by
 rw[yd,yk sk,List.getElem_zip,z1p hi,z1p om]
 rfl
theorem z4e (hs:Small t) (c:Y8) (y:Int) (a:List Int):F_q2 t c y a=some (divideM t c y a):=by
 simp only[F_q2,S_q2,Scr.den,z2y hs,obind]
 unfold divideM
 by_cases h1:TOk t
 ·simp only[findM,show ¬ ¬ TOk t from fun h=>h h1,yz]
  by_cases h2:hasP t.B c y=true
  ·have hlt:=(z1h h2).1
   have hp:=h1.potAt h2
   have l0:=h1.2.1
   obtain⟨q1,q2,q3,q4⟩:=hp.small h1.1.2
   have l1:=hp.2.2.2.1.1.1
   have e0:=h1.1
   have ho:=zbb hp h1.1.2
   have ht:=hp.2.2.1
   simp only[show ¬ ¬ hasP t.B c y=true from fun h=>h h2,show ¬ ¬ (hasP t.B c y=true/\(1:Int)<=1/\1<=t.I) from fun h=>h ⟨h2,om,om⟩,yz]
   rw[ya (show ¬ ((0:Int) != 0)=true from sj)]
   by_cases h3:(a.length:Int)=t.I
   ·rw[ya (show ¬ ((a.length:Int) != t.I)=true by simp[h3]),ya (show ¬ ¬ (a.length:Int)=t.I from fun h=>h h3)]
    simp only[yp]
    have hl:a.length=(potAt t c y).A.length:=om
    have hz:(a.zip (potAt t c y).A).length=a.length:=sk
    have hch:=z9q (ρ:=R_q2) (body:=fun i s=>(S_q2_b1 t a ((pix t.B c y:Int),0) i s).den) (a.zip (potAt t c y).A) (fun i=>tot (a.getD i dF))
     (fun (s:Int×Int) x=>(i64.wrap (s.1+x.1),i64.wrap (s.2+x.2))) (c:=(zT,2)) (s0:=(0,0)) (fun i s hi=>by
      rw[hz] at hi
      simp only[S_q2_b1,Scr.den,z3e,obind,yp,show t.B.getD (pix t.B c y) dF=potAt t c y from rfl,zhc hl hi]
      by_cases c1:tot (a.getD i dF)
      ·rw[ya (by rw[yc c1]; simp),yb c1,za (by simp only[AllP,yh]; omega)]
      ·rw[yb (by rw[yj c1]; rfl),ya c1])
    rw[hz] at hch
    rw[hch]
    by_cases h4:rowT a=true
    ·have ha:=z3t.1 h4
     have s1:=z36 ha
     have s2:=z36 hp.2.2.2.1.1.2
     have hf:=zcv a (potAt t c y).A 0 0 hl
     rw[z5r,Int.zero_add,Int.zero_add,wrapId (n:=a.sum) om om,wrapId (n:=(potAt t c y).A.sum) om om] at hf
     rw[yb (z2g.2 ha),hf,ya (show ¬ ¬ rowT a=true from fun h=>h h4)]
     simp only[outM,show t.B.getD (pix t.B c y) dF=potAt t c y from rfl]
     rw[z8n om]
     simp only[obind]
     rw[za (by simp only[AllP,yh]; omega),wrapId (n:=(potAt t c y).H-outV (potAt t c y)) om om,wrapId (n:=a.sum+(potAt t c y).A.sum) om om]
     unfold giveV
     by_cases c1:(potAt t c y).H-outV (potAt t c y)<a.sum
     ·rw[yb (show decide (a.sum>(potAt t c y).H-outV (potAt t c y))=true from yc c1),yb c1]
      rfl
     ·rw[ya (show ¬ decide (a.sum>(potAt t c y).H-outV (potAt t c y))=true by rw[yf]; exact c1),ya c1]
      by_cases c2:1000000000000000<(potAt t c y).A.sum+a.sum
      ·rw[yb (yc om),yb c2]
       rfl
      ·rw[ya (by rw[yf]; omega),ya c2,z3g h1.small hlt (h1.pos h2)]
       simp only[obind,show t.B.getD (pix t.B c y) dF=potAt t c y from rfl]
       rw[zcu (ρ:=R_q2) (G:=(potAt t c y).A) (a:=a) (body:=fun i s=>(S_q2_b2 a ((pix t.B c y:Int),0) (t.I,t.B) i s).den) hl (fun j s hj hs'=>by
        simp only[S_q2_b2,Scr.den,yp,show t.B.getD (pix t.B c y) dF=potAt t c y from rfl]
        rw[za (by simp only[AllP,yh]; omega)]) hp.2.2.2.1.1.2 ha]
       simp only
       rw[za (by simp only[AllP,yh]; exact zy),za (by simp only[AllP,yh]; exact⟨by rw[zy]; omega,om,om,om⟩),za (by simp only[AllP,yh,yi]; omega)]
       rfl
    ·rw[ya fun h=>h4 (z3t.2 (z2g.1 h)),yb (show ¬ rowT a=true from h4)]
     rfl
   ·rw[yb (show ((a.length:Int) != t.I)=true by simp[h3]),yb (show ¬ (a.length:Int)=t.I from h3)]
  ·simp only[h2,y43,ym,y1c,y1a]; rfl
 ·simp only[findM,h1,ym,y1c]; rfl
theorem z7n (hs:Small t) (k:Int) (c:Y8) (y x:Int):F_q22 t k c y x=some (grantM t k c y x):=by
 simp only[F_q22,S_q22,Scr.den,z2y hs,obind,zj]
 unfold grantM
 by_cases h1:TOk t
 ·simp only[findM,show ¬ ¬ TOk t from fun h=>h h1,yz]
  by_cases h2:hasP t.B c y=true
  ·have hp:=h1.potAt h2
   have l1:=hp.2.2.2.1.1.1
   have e0:=h1.1
   simp only[show ¬ ¬ hasP t.B c y=true from fun h=>h h2,yz]
   by_cases h3:1<=k/\k<=t.I
   ·simp only[show ¬ ¬ (1<=k/\k<=t.I) from fun h=>h h3,show ¬ ¬ (hasP t.B c y=true/\1<=k/\k<=t.I) from fun h=>h ⟨h2,h3⟩,yz]
    rw[ya (show ¬ ((0:Int) != 0)=true from sj)]
    by_cases h4:1<=x/\x<=1000000000000000
    ·rw[ya (by simp only[yv,yf]; omega)]
     simp only[show ¬ ¬ (1<=x/\x<=1000000000000000) from fun h=>h h4,yz,wrapK (k:=k) om,yp,y12]
     have e2:t.I.toNat=(potAt t c y).A.length:=om
     rw[e2,za (by simp only[AllP,yh]; omega),za (by simp only[AllP,yh,y2a]; omega),za (by simp only[AllP,yh,yi,y2a]; omega)]
     show (F_q2 t c y (oneHot (potAt t c y).A.length (k-1).toNat x)).bind _=_
     rw[z4e hs]
     unfold divideM
     simp only[show ¬ ¬ TOk t from fun h=>h h1,show ¬ ¬ hasP t.B c y=true from fun h=>h h2,show ¬ ¬ (((oneHot (potAt t c y).A.length (k-1).toNat x).length:Int)=t.I) from fun h=>h (by rw[z2b]; exact l1),
      show ¬ ¬ rowT (oneHot (potAt t c y).A.length (k-1).toNat x)=true from fun h=>h (z3t.2 (z4o h4)),yz]
     rfl
    ·rw[yb (by simp only[yv,yf]; omega)]
     simp only[h4,ym,y1c]
   ·simp only[h3,and_false,ym,y1c]; rfl
  ·simp only[h2,y43,ym,y1c,y1a]; rfl
 ·simp only[findM,h1,ym,y1c]; rfl
def PGood (p:TPo):Prop:=good p.F=true/\True
theorem zan:hasP l c y=true↔∃ x∈l,x.F=c/\x.G=y:=by
 unfold hasP
 rw[List.any_eq_true]
 exact⟨fun⟨x,h1,h2⟩=>⟨x,h1,zam.1 h2⟩,fun⟨x,h1,h2⟩=>⟨x,h1,zam.2 h2⟩⟩
def Srt (l:List TPo):Prop:=∀ i,i<l.length->i=0\/cmpP (l.getD (i-1) dF) (l.getD i dF)<0
theorem z86 {a:TPo} (h:good a.F=true\/good b.F=true):cmpP a b<0↔lexC (parts a.F) (parts b.F)<0\/(lexC (parts a.F) (parts b.F)=0/\a.G<b.G):=by
 unfold cmpP
 rw[z4a h]
 generalize lexC (parts a.F) (parts b.F)=c
 by_cases hc:c=0
 ·rw[ya (by simpa using hc)]
  unfold cmpI
  by_cases h1:a.G<b.G
  ·rw[yb h1]; simp[hc,h1]
  ·rw[ya h1]
   split <;> simp[hc,h1]
 ·rw[yb hc]; simp[hc]
theorem z87 {a:TPo} (ha:good a.F=true) (hb:good b.F=true):cmpP a b=0↔a.F=b.F/\a.G=b.G:=by
 unfold cmpP
 rw[z4a (.inl ha)]
 by_cases hc:lexC (parts a.F) (parts b.F)=0
 ·rw[ya (by simpa using hc)]
  have e:=zba ha hb (z4w hc)
  unfold cmpI
  by_cases h1:a.G<b.G
  ·rw[yb h1]; simp; omega
  ·rw[ya h1]
   by_cases h2:a.G>b.G
   ·rw[yb h2]; simp; omega
   ·rw[ya h2]; simp[e]; omega
 ·rw[yb hc]
  constructor
  ·intro h; exact absurd h hc
  ·rintro⟨h1,_⟩
   exact absurd (by rw[h1]; exact zb8 _) hc
theorem z9w {a c:TPo} (ha:good a.F=true) (hb:good b.F=true) (h:cmpP a b<0) (h':cmpP b c<0):cmpP a c<0:=by
 rw[z86 (.inl ha)] at h |-
 rw[z86 (.inl hb)] at h'
 rcases h with h | ⟨h,h2⟩
 ·rcases h' with h' | ⟨h',_⟩
  ·exact .inl (z9o h h')
  ·rw[<- z4w h']; exact .inl h
 ·rcases h' with h' | ⟨h',h3⟩
  ·rw[z4w h]; exact .inl h'
  ·rw[z4w h]; exact .inr ⟨h',om⟩
theorem zg6 {a:TPo} (ha:good a.F=true):cmpP b a=-cmpP a b:=by
 unfold cmpP
 rw[z4a (.inl ha),z4a (.inr ha),zb9 (parts a.F) (parts b.F)]
 by_cases h:lexC (parts a.F) (parts b.F)=0
 ·rw[ya om,ya om]
  unfold cmpI
  by_cases h1:a.G<b.G
  ·rw[ya om,yb om,yb h1]; rfl
  ·by_cases h2:b.G<a.G
   ·rw[yb h2,ya h1,yb om]
   ·rw[ya h2,ya om,ya h1,ya om]; rfl
 ·rw[yb om,yb h]
theorem Srt.lt (h:Srt l) (hg:∀ r∈l,PGood r):∀ {i j:Nat},i<j->j<l.length->cmpP (l.getD i dF) (l.getD j dF)<0:=by
 intro i j hij
 induction j with
 | zero=>omega
 | succ j ih =>
  intro hj
  have h1:=(h (j+1) hj).resolve_left om
  rw[show j+1-1=j from om] at h1
  by_cases e:i=j
  ·subst e; exact h1
  ·exact z9w (hg _ (zk om)).1 (hg _ (zk om)).1 (ih om om) h1
def posP (l:List TPo) (r:TPo):Nat:=l.findIdx (fun x=>decide (0<=cmpP x r))
theorem z4x [Inhabited α] {l:List α} (hi:i<l.length):l.getD i dF=l[i]:=by simp[List.getD_eq_getElem?_getD,List.getElem?_eq_getElem hi]
theorem z3v (l:List TPo) (r:TPo):posP l r<=l.length:=List.findIdx_le_length
variable {r:TPo}
theorem z88 (hi:i<posP l r):cmpP (l.getD i dF) r<0:=by
 have hl:i<l.length:=y16 hi (z3v l r)
 have:=List.not_of_lt_findIdx hi
 rw[z4x hl]
 simpa using this
theorem z89 (hi:posP l r<l.length):0<=cmpP (l.getD (posP l r) dF) r:=by
 have:=List.findIdx_getElem (xs:=l) (p:=fun x=>decide (0<=cmpP x r)) (w:=hi)
 rw[z4x hi]
 exact y28 this
theorem zim (hS:Srt l) (hg:∀ x∈l,PGood x) (hi:i<l.length) (hp:posP l r<=i):0<=cmpP (l.getD i dF) r:=by
 have h0:=z89 (l:=l) (r:=r) om
 by_cases e:posP l r=i
 ·rwa [e] at h0
 ·have h1:=hS.lt hg (show posP l r<i from om) hi
  by_cases h:cmpP (l.getD i dF) r<0
  ·have:=z9w (hg _ (zk om)).1 (hg _ (zk hi)).1 h1 h
   omega
  ·omega
theorem zin (h:i+j<4611686018427387904):i64.wrap ((IntKind.u64.wrap (i64.wrap ((i:Int)+(j:Int)))).fdiv (2 ^ (min (1:Int).toNat IntKind.u64.bits)))=(((i+j) / 2:Nat):Int):=by
 rw[wrapId (n:=(i:Int)+(j:Int)) om om]
 have e:IntKind.u64.wrap ((i:Int)+(j:Int))=(i:Int)+(j:Int):=by
  simp only[IntKind.wrap,IntKind.bits,IntKind.signed]
  simp
  omega
 rw[e]
 have e2:(2:Int) ^ (min (1:Int).toNat IntKind.u64.bits)=2:=dk
 rw[e2,Int.fdiv_eq_ediv_of_nonneg _ om,wrapId om om]
 omega
theorem PGood.len (h:PGood r):r.F.length<=1000000:=by have:=z6o h.1; omega
theorem zhd (hg:∀ x∈l,PGood x) (k:Nat):(l.getD k dF).F.length<=1000000:=by
 by_cases h:k<l.length
 ·exact (hg _ (zk h)).len
 ·rw[yd,yg om]; exact y3t _
theorem zep (hl:l.length<=1000000) (hS:Srt l) (hg:∀ x∈l,PGood x) (hr:PGood r) :
  F_qw r l=some ((posP l r:Int),decide (posP l r<l.length)&&(cmpP (l.getD (posP l r) dF) r==0)):=by
 have hc:∀ k,F_q1a (l.getD k dF) r=some (cmpP (l.getD k dF) r):=fun k=>z9r (zhd hg k) hr.len
 have hp:=z3v l r
 simp only[F_qw,S_qw,Scr.den]
 obtain⟨s,e,hJ⟩:=z49 (step:=fun s=>(S_qw_b1 r l s).den) (fun s=>(s.2-s.1).toNat) (fun s=>∃ i j:Nat,s=((i:Int),(j:Int))/\i<=posP l r/\posP l r<=j/\j<=l.length) (fun s=>s.1=(posP l r:Int)) (fun s hI=>by
  obtain⟨i,j,rfl,h1,h2,h3⟩:=hI
  simp only[S_qw_b1,Scr.den,zin (show i+j<4611686018427387904 from om),hc,obind,yp]
  by_cases hij:i<j
  ·left
   rw[yb (by simpa using hij),za ⟨om,om,om,trivial⟩,y12]
   by_cases hlt:cmpP (l.getD ((i+j) / 2) dF) r<0
   ·rw[yb (by simpa using hlt),wrapId om om]
    have:(i+j) / 2<posP l r:=by
     by_cases h:(i+j) / 2<posP l r
     ·exact h
     ·have:=zim (r:=r) hS hg (show (i+j) / 2<l.length from om) om
      omega
    exact⟨_,rfl,⟨(i+j) / 2+1,j,sj,om,h2,h3⟩,by simp only; omega⟩
   ·rw[ya (by simpa using hlt)]
    have:posP l r<=(i+j) / 2:=by
     by_cases h:posP l r<=(i+j) / 2
     ·exact h
     ·have:=z88 (show (i+j) / 2<posP l r from om)
      omega
    exact⟨_,rfl,⟨i,(i+j) / 2,rfl,h1,this,om⟩,by simp only; omega⟩
  ·right
   rw[ya (by simpa using hij)]
   exact⟨_,rfl,by simp only; omega⟩) _ (0,(l.length:Int)) (y42 _) ⟨0,l.length,rfl,om,hp,om⟩
 rw[e]
 simp only[outM,hJ,yp,hc,zx,y12]
 by_cases h:posP l r<l.length
 ·rw[zh (by exact⟨sk,trivial⟩),obind,za ⟨fun _=>om,fun _=>h,fun _=>h,trivial⟩]
  simp[h]
 ·rw[z1e (by simp[AllP]; omega),obind,za ⟨fun _=>om,fun h'=>absurd h (by simp[AllP] at h'; omega),fun h'=>absurd h (by simp[AllP] at h'; omega),trivial⟩]
  simp[h]
theorem zio (hS:Srt l) (hg:∀ x∈l,PGood x) (hr:PGood r) :
  (decide (posP l r<l.length)&&(cmpP (l.getD (posP l r) dF) r==0))=hasP l r.F r.G/\(hasP l r.F r.G=true->pix l r.F r.G=posP l r):=by
 have key:hasP l r.F r.G=true->pix l r.F r.G=posP l r:=fun h=>by
  obtain⟨h1,h2,h3⟩:=z1h h
  have h4:=hg _ (zk h1)
  have h5:cmpP (l.getD (pix l r.F r.G) dF) r=0:=(z87 h4.1 hr.1).2 ⟨h2,h3⟩
  rcases Nat.lt_trichotomy (pix l r.F r.G) (posP l r) with h | h | h
  ·have:=z88 h; omega
  ·exact h
  ·have h6:=hS.lt hg h h1
   have h7:=z89 (l:=l) (r:=r) om
   have h8:=hg _ (zk (show posP l r<l.length from om))
   have:cmpP (l.getD (posP l r) dF) r<0:=by
    rw[z86 (.inl h8.1)] at h6 |-
    rw[h2,h3] at h6
    exact h6
   omega
 refine⟨?_,key⟩
 rw[y2t]
 simp only[yq,yf,y1j]
 constructor
 ·rintro⟨h1,h2⟩
  obtain⟨h3,h4⟩:=(z87 (hg _ (zk h1)).1 hr.1).1 h2
  exact zan.2 ⟨_,zk h1,h3,h4⟩
 ·intro h
  obtain⟨h1,h2,h3⟩:=z1h h
  rw[key h] at h1 h2 h3
  exact⟨h1,(z87 (hg _ (zk h1)).1 hr.1).2 ⟨h2,h3⟩⟩
theorem zhe (l:List TPo) (p:Nat) (hp:p<=l.length) (z r:TPo) :
  (copyL (l++[z]) (0+(p+1)) (min ((l++[z]).length-p) ((l++[z]).length-(p+1))) (fun i=>(l++[z]).getD ((0+p)+i) dF)).set (0+p) r=insL l p r:=by
 refine List.ext_getElem (by simp[copyL,insL]; omega) fun i h1 h2=>?_
 have hi:i<l.length+1:=by rw[zt] at h2; exact h2
 rw[<- z4x h2,z1w hp,List.getElem_set]
 by_cases e:i<p
 ·rw[ya om,yb e]
  simp only[copyL,List.getElem_map,List.getElem_range]
  rw[ya om,yd,yd,yl om]
 ·by_cases e2:i=p
  ·rw[yb om,ya e,yb e2]
  ·rw[ya om,ya e,ya e2]
   simp only[copyL,List.getElem_map,List.getElem_range,y1p,y2s]
   rw[yb om,show 0+p+(i-(0+(p+1)))=i-1 from om,yd,yd,yl om]
def withT (p:TPo) (x:Int):TPo:=⟨p.F,p.G,x,p.A,p.D,p.C,p.E⟩
def zeros (n:Int):List Int:=List.replicate n.toNat (0:Int)
def newP (n:Int) (c:Y8) (y x:Int):TPo:=⟨c,y,x,zeros n,zeros n,zeros n,zeros n⟩
def setM (t:TTr) (c:Y8) (y x:Int):TTr×Int :=
 if ¬ TOk t then (zT,1) else if ¬ good c=true then (zT,5) else if ¬ ((0<=y/\y<=99)/\-1000000000000000<=x/\x<=1000000000000000) then (zT,2) else
  if hasP t.B c y=true then (putP t c y (withT (potAt t c y) x),0) else if t.B.length=60 then (zT,3)
  else (⟨t.I,insL t.B (posP t.B (newP t.I c y x)) (newP t.I c y x)⟩,0)
variable {z:TPo}
theorem zdv {p:Nat} (hp:p<=l.length):(insL l p z).getD p dF=z:=by
 rw[z1w hp,ya (y4k p),yb rfl]
theorem zhf {p:Nat} (hp:p<=l.length):(insL l p z).set p r=insL l p r:=by
 refine List.ext_getElem (by simp[zt]) fun i h1 h2=>?_
 have hi:i<l.length+1:=by rw[zt] at h2; exact h2
 rw[List.getElem_set]
 by_cases e:p=i
 ·subst e; rw[yb rfl,<- z4x h2,zdv hp]
 ·rw[ya e,<- z4x h2,<- z4x (by rw[zt]; omega),z1w hp,z1w hp]
  split
  ·rfl
  ·rw[ya fun h=>e h.symm,ya fun h=>e h.symm]
theorem TOk.srt (h:TOk t):Srt t.B:=fun i hi=>by
 rcases y2y i with h0 | h0
 ·exact .inl h0
 ·exact .inr ((h.2.2 i hi).2 h0)
theorem TOk.good (h:TOk t):∀ p∈t.B,PGood p:=fun p hp=>by
 obtain⟨i,hi,rfl⟩:=z58 hp
 exact⟨(h.2.2 i hi).1.1,trivial⟩
theorem z9x (hs:Small t) (hc:c.length<=1000000) (y x:Int):F_q1d t c y x=some (setM t c y x):=by
 simp only[F_q1d,S_q1d,Scr.den,z33 hs,z5a (l:=c) om,zcr hc,zq,obind,zj]
 unfold setM
 by_cases h1:TOk t
 ·rw[ya (show ¬ (!decide (TOk t))=true by rw[yc h1]; simp),ya (show ¬ ¬ TOk t from fun h=>h h1)]
  have hg:=z4l c
  by_cases h2:good c=true
  ·rw[h2,yf] at hg
   rw[ya (show ¬ (((parts c).length:Int)==0)=true by simp only[y1j]; omega),ya (show ¬ ¬ good c=true from fun h=>h h2)]
   by_cases h3:0<=y/\y<=99
   ·rw[h2,yc h3,zh (by exact⟨rfl,trivial⟩)]
    simp only[obind]
    by_cases h4:-1000000000000000<=x/\x<=1000000000000000
    ·rw[ya (by rw[yc h4]; simp),ya (show ¬ ¬ ((0<=y/\y<=99)/\-1000000000000000<=x/\x<=1000000000000000) from fun h=>h ⟨h3,h4⟩)]
     have l0:=h1.2.1
     have e0:=h1.1
     have hr:PGood (⟨c,y,0,[],[],[],[]⟩:TPo):=⟨h2,trivial⟩
     obtain⟨k1,k2⟩:=zio h1.srt h1.good hr
     have hp:=z3v t.B (⟨c,y,0,[],[],[],[]⟩:TPo)
     rw[zeo h1.small]
     simp only[obind,zep (show t.B.length<=1000000 from om) h1.srt h1.good hr,k1,yp,y12]
     by_cases h5:hasP t.B c y=true
     ·have hlt:=(z1h h5).1
      have e:=k2 h5
      rw[ya (show ¬ (!hasP t.B c y)=true by rw[h5]; simp),yb (show hasP t.B c y=true from h5)]
      simp only[outM]
      rw[<- e,za (by simp only[AllP,yh]; exact⟨om,hlt,hlt⟩),za (by simp only[AllP,yh,yi]; omega)]
      rfl
     ·rw[yb (show (!hasP t.B c y)=true by simpa using h5),ya (show ¬ hasP t.B c y=true from h5)]
      by_cases h6:t.B.length=60
      ·rw[yb (show ((t.B.length:Int)==60)=true from sk),yb h6]
       rfl
      ·rw[ya (show ¬ ((t.B.length:Int)==60)=true from sk),ya h6]
       have hz:PSmall (newP t.I c y 0):=by
        have:(zeros t.I).length<=1000000:=by simp[zeros]; omega
        exact⟨this,this,this,this⟩
       rw[za (by simp only[AllP,yh]; omega),za (by simp only[AllP,yh,y2a]; omega)]
       show outM ((F_q1c (newP t.I c y 0)).bind _) _ _=_
       rw[z7l hz]
       simp only[obind,F_q2t,yp]
       rw[za ⟨om,hp,om⟩]
       simp only[obind,outM]
       rw[za (by simp only[AllP,yh,zt]; omega),za (by simp only[AllP,yh,yi,zt]; omega),zdv hp,zhf hp]
       rfl
    ·rw[yb (by rw[yj h4]; simp),yb (show ¬ ((0<=y/\y<=99)/\-1000000000000000<=x/\x<=1000000000000000) from fun h=>h4 h.2)]
   ·rw[h2,yj h3,z1e (by simp[AllP])]
    simp only[obind]
    rw[yb (by rfl),yb (show ¬ ((0<=y/\y<=99)/\-1000000000000000<=x/\x<=1000000000000000) from fun h=>h3 h.1)]
  ·rw[y41] at h2
   rw[h2,y1k] at hg
   rw[yb (show (((parts c).length:Int)==0)=true by simp only[y1j]; omega),yb (show ¬ good c=true by simp[h2])]
 ·rw[yb (show (!decide (TOk t))=true by rw[yj h1]; simp),yb (show ¬ TOk t from h1)]
theorem zjf (c y y':Int):((decide (c>0)||(c==0&&decide (y>y')))=true)↔¬ (c<0\/(c=0/\y<=y')):=by
 simp only[yv,yq,yf,y1j]; omega
theorem zg7 (h1:TOk t) (hc:good c=true) (hn:¬ hasP t.B c y=true) :
  iterM (fun s=>(S_qj_b1 c y (t.I,t.B) s).den) 0=some (.next (posP t.B (newP t.I c y x):Int)):=by
 have hl:=h1.2.1
 have hp:=z3v t.B (newP t.I c y x)
 obtain⟨s,e,hJ⟩:=z49 (step:=fun s=>(S_qj_b1 c y (t.I,t.B) s).den) (fun s=>(61-s).toNat) (fun s=>0<=s/\s<=(posP t.B (newP t.I c y x):Int)) (fun s=>s=(posP t.B (newP t.I c y x):Int)) (fun s hI=>by
  obtain⟨i,rfl⟩:=Int.eq_ofNat_of_zero_le hI.1
  have hi:i<=posP t.B (newP t.I c y x):=om
  simp only[S_qj_b1,Scr.den,yp,y12,zj,zx]
  by_cases h:i<t.B.length
  ·have hg:=(h1.good _ (zk h)).1
   rw[yb sk,z63 hg hc,obind,za ⟨om,h,h,trivial⟩,za ⟨fun _=>om,fun _=>h,fun _=>h,trivial⟩]
   have hcm:cmpP (t.B.getD i dF) (newP t.I c y x)<0↔lexC (parts (t.B.getD i dF).F) (parts c)<0\/(lexC (parts (t.B.getD i dF).F) (parts c)=0/\(t.B.getD i dF).G<y):=z86 (a:=t.B.getD i dF) (b:=newP t.I c y x) (.inl hg)
   have hne:¬ (lexC (parts (t.B.getD i dF).F) (parts c)=0/\(t.B.getD i dF).G=y):=fun k =>
    hn (zan.2 ⟨_,zk h,zba hg hc (z4w k.1),k.2⟩)
   by_cases hip:i<posP t.B (newP t.I c y x)
   ·left
    have hlt:=hcm.1 (z88 hip)
    rw[ya fun k=>(zjf _ _ _).1 k (hlt.imp id fun k=>⟨k.1,Int.le_of_lt k.2⟩),wrapId om om]
    exact⟨_,rfl,⟨om,om⟩,om⟩
   ·right
    have hge:¬ cmpP (t.B.getD i dF) (newP t.I c y x)<0:=by
     have:i=posP t.B (newP t.I c y x):=om
     subst this; exact y4b.2 (z89 h)
    rw[yb ((zjf _ _ _).2 fun k=>hge (hcm.2 (k.imp id fun k=>⟨k.1,Int.lt_iff_le_and_ne.2 ⟨k.2,fun e=>hne ⟨k.1,e⟩⟩⟩)))]
    exact⟨_,rfl,om⟩
  ·right
   rw[ya (by simpa using h)]
   exact⟨_,rfl,om⟩) _ 0 (y42 _) ⟨om,om⟩
 rw[e,hJ]
theorem z4p (hs:Small t) (hc:c.length<=1000000) (y x:Int):F_qj t c y x=some (setM t c y x):=by
 simp only[F_qj,S_qj,Scr.den,z3f hs,z5z (l:=c) om,zen,obind,zj]
 unfold setM
 by_cases h1:TOk t
 ·rw[ya (show ¬ (!decide (TOk t))=true by rw[yc h1]; simp),ya (show ¬ ¬ TOk t from fun h=>h h1)]
  by_cases h2:good c=true
  ·rw[ya (show ¬ (!good c)=true by rw[h2]; simp),ya (show ¬ ¬ good c=true from fun h=>h h2)]
   by_cases h3:(0<=y/\y<=99)/\-1000000000000000<=x/\x<=1000000000000000
   ·have hb:(decide (y<0)||decide (y>99)||decide (x < -1000000000000000)||decide (x>1000000000000000))=false:=by
     simp only[y3e,y1k]; omega
    rw[ya (by rw[hb]; simp),ya (show ¬ ¬ ((0<=y/\y<=99)/\-1000000000000000<=x/\x<=1000000000000000) from fun h=>h h3),z9t h1.small]
    simp only[obind]
    have l0:=h1.2.1
    have e0:=h1.1
    by_cases h5:hasP t.B c y=true
    ·have hlt:=(z1h h5).1
     simp only[h5,y1c,yp,y12]
     rw[yb (yc (y25 _)),za (by simp only[AllP,yh]; exact⟨om,hlt,hlt⟩),za (by simp only[AllP,yh,yi]; omega)]
     rfl
    ·simp only[h5,yz,y1a]
     rw[ya dk]
     by_cases h6:t.B.length=60
     ·rw[yb (show ((t.B.length:Int)==60)=true from sk),yb h6]
     ·rw[ya (show ¬ ((t.B.length:Int)==60)=true from sk),ya h6,za (by simp only[AllP,yh]; omega),zg7 (x:=x) h1 h2 h5]
      have hp:=z3v t.B (newP t.I c y x)
      simp only[outM,yp]
      have hw:i64.wrap ((posP t.B (newP t.I c y x):Int)+1)=((posP t.B (newP t.I c y x)+1:Nat):Int):=by rw[wrapId om om]; rfl
      rw[hw]
      simp only[yp]
      rw[za (by simp only[AllP,yh]; omega),za (by simp only[AllP,yh,y1p,y2s]; omega),za (by simp only[AllP,yh,z2l,y1p,y2s]; omega),
       za (by simp only[AllP,yh,yi,z2l,y1p,y2s]; omega)]
      show some ((⟨t.I,(copyL (t.B++[_]) _ _ _).set _ (newP t.I c y x)⟩:TTr),(0:Int))=_
      rw[zhe t.B _ hp _ (newP t.I c y x)]
   ·have hb:(decide (y<0)||decide (y>99)||decide (x < -1000000000000000)||decide (x>1000000000000000))=true:=by
     simp only[yv,yf]; omega
    rw[yb hb,yb (show ¬ ((0<=y/\y<=99)/\-1000000000000000<=x/\x<=1000000000000000) from h3)]
  ·rw[yb (show (!good c)=true by simpa using h2),yb (show ¬ good c=true from h2)]
 ·rw[yb (show (!decide (TOk t))=true by rw[yj h1]; simp),yb (show ¬ TOk t from h1)]
theorem z7o {x:TPo} (hj:j<l.length):(l.set i x).getD j dF=if j=i then x else l.getD j dF:=by
 rw[yd,List.getElem?_set]
 by_cases h:i=j
 ·subst h; simp[hj]
 ·rw[ya h,ya fun e=>h e.symm,yd]
theorem zg8 {a a' b':TPo} (h1:a.F=a'.F) (h2:a.G=a'.G) (h3:b.F=b'.F) (h4:b.G=b'.G):cmpP a b=cmpP a' b':=by
 simp only[cmpP,h1,h2,h3,h4]
theorem z9y (h:TOk t) (hp:hasP t.B c y=true) (hk:PotOk t.I p) (hc:p.F=c) (hy:p.G=y):TOk (putP t c y p):=by
 obtain⟨k1,k2,k3⟩:=z1h hp
 refine⟨h.1,by simpa [putP] using h.2.1,fun i hi=>?_⟩
 have hi':i<t.B.length:=by simpa [putP] using hi
 have same:∀ j,j<t.B.length->((t.B.set (pix t.B c y) p).getD j dF).F=(t.B.getD j dF).F/\((t.B.set (pix t.B c y) p).getD j dF).G=(t.B.getD j dF).G:=fun j hj=>by
  rw[z7o hj]
  by_cases e:j=pix t.B c y
  ·subst e; rw[yb rfl]; exact⟨hc.trans k2.symm,hy.trans k3.symm⟩
  ·rw[ya e]; exact⟨rfl,rfl⟩
 constructor
 ·show PotOk t.I ((t.B.set (pix t.B c y) p).getD i dF)
  rw[z7o hi']
  split
  ·exact hk
  ·exact (h.2.2 i hi').1
 ·intro h0
  show cmpP ((t.B.set (pix t.B c y) p).getD (i-1) dF) ((t.B.set (pix t.B c y) p).getD i dF)<0
  rw[zg8 (same (i-1) om).1 (same (i-1) om).2 (same i hi').1 (same i hi').2]
  exact (h.2.2 i hi').2 h0
theorem z6s (hp:hasP t.B c y=true):(potAt t c y).F=c/\(potAt t c y).G=y:=(z1h hp).2
theorem zhg:tot 0:=⟨om,om⟩
theorem zg9 (h:0<=n):rowOk n (zeros n):=⟨by simp[zeros]; omega,fun x hx=>by rw[List.eq_of_mem_replicate hx]; exact zhg⟩
theorem zao {l:List Int} (h:rowOk n l) (hx:tot x):rowOk n (upd l k x) :=
 ⟨by rw[z28]; exact h.1,fun z hz=>by
  rcases y3n hz with h1 | h1
  ·exact h.2 z h1
  ·subst h1; exact hx⟩
theorem zdw {l:List Int} (hj:j<l.length):(upd l k x).getD j dF=if j=(k-1).toNat then x else l.getD j dF:=z7m hj
theorem zjg (h:(askM t k c y x).2=0):TOk t/\TOk (askM t k c y x).1:=by
 unfold askM at h |-
 by_cases h1:TOk t
 ·simp only[show ¬ ¬ TOk t from fun h=>h h1,yz] at h |-
  by_cases h2:hasP t.B c y=true
  ·simp only[show ¬ ¬ hasP t.B c y=true from fun h=>h h2,yz] at h |-
   by_cases h3:1<=k/\k<=t.I
   ·simp only[show ¬ ¬ (1<=k/\k<=t.I) from fun h=>h h3,yz] at h |-
    by_cases h4:1<=x/\x<=1000000000000000
    ·simp only[show ¬ ¬ (1<=x/\x<=1000000000000000) from fun h=>h h4,yz] at h |-
     by_cases h5:nth (potAt t c y).A k<nth (potAt t c y).C k+x
     ·rw[yb h5] at h; cases h
     ·rw[ya h5]
      have hp:=h1.potAt h2
      have hcy:=z6s h2
      obtain⟨g1,g2,g3,⟨r1,r2,r3,r4⟩,⟨o1,o2⟩,g6⟩:=hp
      have a1:=z3u r3 h3
      have a2:=z3u r1 h3
      unfold tot at a1 a2
      refine⟨h1,z9y h1 h2 (p:=withA (potAt t c y) (upd (potAt t c y).C k (nth (potAt t c y).C k+x))) ⟨g1,g2,g3,⟨r1,r2,zao r3 ⟨om,om⟩,r4⟩,⟨o1,fun i hi=>?_⟩,g6⟩ hcy.1 hcy.2⟩
      have hi':i<(potAt t c y).C.length:=by have:=r1.1; have:=r3.1; have:i<(potAt t c y).A.length:=hi; omega
      show (upd (potAt t c y).C k (nth (potAt t c y).C k+x)).getD i dF<=(potAt t c y).A.getD i dF
      rw[zdw hi']
      split
      ·rename_i e
       subst e
       exact y4b.1 h5
      ·exact o2 i hi
    ·simp only[h4,ym,y1c] at h; cases h
   ·simp only[h3,ym,y1c] at h; cases h
  ·simp only[h2,ym,y1c,y1a] at h; cases h
 ·simp only[h1,ym,y1c] at h; cases h
variable {m:TMe}
theorem ziq (h:(hearM t m).2=0):TOk t/\TOk (hearM t m).1:=by
 unfold hearM at h |-
 by_cases h0:m.L=0
 ·simp only[show ¬ m.L≠0 from fun h=>h h0,yz] at h |-
  by_cases h1:TOk t
  ·simp only[show ¬ ¬ TOk t from fun h=>h h1,yz] at h |-
   by_cases h2:hasP t.B m.F m.G=true
   ·simp only[show ¬ ¬ hasP t.B m.F m.G=true from fun h=>h h2,yz] at h |-
    by_cases h3:1<=m.K/\m.K<=t.I
    ·simp only[show ¬ ¬ (1<=m.K/\m.K<=t.I) from fun h=>h h3,yz] at h |-
     by_cases h4:(0<=m.J/\m.J<=nth (potAt t m.F m.G).A m.K)/\tot m.E
     ·simp only[show ¬ ¬ ((0<=m.J/\m.J<=nth (potAt t m.F m.G).A m.K)/\tot m.E) from fun h=>h h4,yz] at h |-
      have hp:=h1.potAt h2
      have hcy:=z6s h2
      obtain⟨g1,g2,g3,⟨r1,r2,r3,r4⟩,⟨o1,o2⟩,g6⟩:=hp
      have a1:=z3u r2 h3
      have a2:=z3u r1 h3
      have l1:=r1.1
      have l2:=r2.1
      unfold tot at a1 a2
      have hle:nth (potAt t m.F m.G).D m.K<=nth (potAt t m.F m.G).A m.K:=o1 _ om
      refine⟨h1,z9y h1 h2 (p:=withH (potAt t m.F m.G) (upd (potAt t m.F m.G).D m.K (max (nth (potAt t m.F m.G).D m.K) m.J)) (upd (potAt t m.F m.G).E m.K m.E))
       ⟨g1,g2,g3,⟨r1,zao r2 ⟨om,om⟩,r3,zao r4 h4.2⟩,⟨fun i hi=>?_,o2⟩,g6⟩ hcy.1 hcy.2⟩
      have hi':i<(potAt t m.F m.G).D.length:=by have:i<(potAt t m.F m.G).A.length:=hi; omega
      show (upd (potAt t m.F m.G).D m.K _).getD i dF<=(potAt t m.F m.G).A.getD i dF
      rw[zdw hi']
      split
      ·rename_i e
       subst e
       show max (nth (potAt t m.F m.G).D m.K) m.J<=nth (potAt t m.F m.G).A m.K
       omega
      ·exact o1 i hi
     ·simp only[h4,ym,y1c] at h; cases h
    ·simp only[h3,ym,y1c] at h; cases h
   ·simp only[h2,ym,y1c,y1a] at h; cases h
  ·simp only[h1,ym,y1c] at h; cases h
 ·rw[yb (show m.L≠0 from h0)] at h; cases h
theorem ins_ok (h:TOk t) (hr:PotOk t.I r) (hn:¬ hasP t.B r.F r.G=true) (hl:t.B.length≠60):TOk ⟨t.I,insL t.B (posP t.B r) r⟩:=by
 have hp:=z3v t.B r
 have l0:=h.2.1
 refine⟨h.1,by show (insL t.B (posP t.B r) r).length<=60; rw[zt]; omega,fun i hi=>?_⟩
 have hi':i<t.B.length+1:=by have:i<(insL t.B (posP t.B r) r).length:=hi; rwa [zt] at this
 show PotOk t.I ((insL t.B (posP t.B r) r).getD i dF)/\(0<i->cmpP ((insL t.B (posP t.B r) r).getD (i-1) dF) ((insL t.B (posP t.B r) r).getD i dF)<0)
 rw[z1w hp,z1w hp]
 by_cases c1:i<posP t.B r
 ·rw[yb c1,yb (show i-1<posP t.B r from om)]
  exact h.2.2 i om
 ·by_cases c2:i=posP t.B r
  ·rw[ya c1,yb c2]
   refine⟨hr,fun h0=>?_⟩
   rw[yb (show i-1<posP t.B r from om)]
   exact z88 om
  ·rw[ya c1,ya c2]
   have hi2:i-1<t.B.length:=om
   refine⟨(h.2.2 (i-1) hi2).1,fun h0=>?_⟩
   by_cases c3:i-1=posP t.B r
   ·rw[ya (show ¬ i-1<posP t.B r from om),yb c3]
    have hg:=(h.good _ (zk hi2)).1
    have h1:0<=cmpP (t.B.getD (i-1) dF) r:=by rw[c3]; exact z89 om
    have h2:cmpP (t.B.getD (i-1) dF) r≠0:=fun e=>hn (zan.2 ⟨_,zk hi2,(z87 hg hr.1).1 e⟩)
    rw[zg6 hg]
    omega
   ·rw[ya (show ¬ i-1<posP t.B r from om),ya c3]
    exact (h.2.2 (i-1) hi2).2 om
theorem zir (hn:1<=n) (hc:good c=true) (hy:0<=y/\y<=99) (hx:-1000000000000000<=x/\x<=1000000000000000):PotOk n (newP n c y x):=by
 have hz:=zg9 (n:=n) om
 refine⟨hc,hy,hx,⟨hz,hz,hz,hz⟩,⟨fun i _=>y1y _,fun i _=>y1y _⟩,?_⟩
 have:=z36 (l:=zeros n) hz.2
 have e:(zeros n).sum=0:=by simp[zeros]
 show (zeros n).sum<=_
 omega
theorem zga (h:(setM t c y x).2=0):TOk t/\TOk (setM t c y x).1:=by
 unfold setM at h |-
 by_cases h1:TOk t
 ·simp only[show ¬ ¬ TOk t from fun h=>h h1,yz] at h |-
  by_cases h2:good c=true
  ·simp only[show ¬ ¬ good c=true from fun h=>h h2,yz] at h |-
   by_cases h3:(0<=y/\y<=99)/\-1000000000000000<=x/\x<=1000000000000000
   ·simp only[show ¬ ¬ ((0<=y/\y<=99)/\-1000000000000000<=x/\x<=1000000000000000) from fun h=>h h3,yz] at h |-
    by_cases h5:hasP t.B c y=true
    ·rw[yb h5]
     have hcy:=z6s h5
     obtain⟨g1,g2,g3,g4,g5,g6⟩:=h1.potAt h5
     exact⟨h1,z9y h1 h5 (p:=withT (potAt t c y) x) ⟨g1,g2,h3.2,g4,g5,g6⟩ hcy.1 hcy.2⟩
    ·rw[ya h5] at h |-
     by_cases h6:t.B.length=60
     ·rw[yb h6] at h; cases h
     ·rw[ya h6]
      exact⟨h1,ins_ok h1 (zir h1.1.1 h2 h3.1 h3.2) h5 h6⟩
   ·rw[yb h3] at h; cases h
  ·rw[yb (show ¬ good c=true from h2)] at h; cases h
 ·rw[yb h1] at h; cases h
theorem zcw (hl:a.length=G.length):(addN G a a.length).sum=G.sum+a.sum:=by
 have e:addN G a a.length=List.zipWith (· + ·) G a:=z94 (by simp[zy]; omega) fun j hj=>by
  have hj':j<G.length:=by simpa [zy] using hj
  rw[z2n hj',yb om,z1p (show j<(List.zipWith (· + ·) G a).length by rw[List.length_zipWith]; omega),List.getElem_zipWith,z1p hj',z1p om]
 rw[e]
 clear e
 induction G generalizing a with
 | nil=>cases a with | nil=>rfl | cons _ _=>simp at hl
 | cons x G ih=>cases a with
  | nil=>simp at hl
  | cons z a =>
   simp only[List.zipWith_cons_cons,y2k]
   rw[ih (by simpa using hl)]
   omega
theorem zeq {l:List Int} (h:∀ x∈l,0<=x):∀ x∈l,x<=l.sum:=by
 induction l with
 | nil=>simp
 | cons z l ih =>
  have h0:0<=l.sum:=by
   clear ih
   induction l with
   | nil=>simp
   | cons w l ih2 =>
    have:=h w sj
    have:=ih2 fun x hx=>h x (by rcases yy.1 hx with e | e <;> simp[e])
    simp only[y2k]; omega
  intro x hx
  have hz:=h z sj
  simp only[y2k]
  rcases yy.1 hx with rfl | hx
  ·omega
  ·have:=ih (fun y hy=>h y (by simp[hy])) x hx
   omega
theorem zdx (h:PotOk n p) (ha:∀ x∈a,tot x) (hl:a.length=p.A.length) (h0:(giveV p.H p a).1=0) :
  (giveV p.H p a).2=addN p.A a a.length/\PotOk n (withG p (giveV p.H p a).2)/\a.sum<=p.H-outV p:=by
 unfold giveV at h0 |-
 by_cases c1:p.H-outV p<a.sum
 ·rw[yb c1] at h0; cases h0
 ·rw[ya c1] at h0 |-
  by_cases c2:1000000000000000<p.A.sum+a.sum
  ·rw[yb c2] at h0; cases h0
  ·rw[ya c2]
   obtain⟨g1,g2,g3,⟨r1,r2,r3,r4⟩,⟨o1,o2⟩,g6⟩:=h
   have hs:=zcw (G:=p.A) hl
   have hge:∀ j,j<p.A.length->p.A.getD j dF<=(addN p.A a a.length).getD j dF/\0<=(addN p.A a a.length).getD j dF:=fun j hj=>by
    have t1:=r1.2 _ (zk hj)
    have t2:=ha _ (zk (show j<a.length from om))
    unfold tot at t1 t2
    rw[z2n hj,yb om]
    omega
   have hpos:∀ x∈addN p.A a a.length,0<=x:=fun x hx=>by
    obtain⟨j,hj,rfl⟩:=z58 hx
    exact (hge j (by rwa [zy] at hj)).2
   refine⟨rfl,⟨g1,g2,g3,⟨⟨by show ((addN p.A a a.length).length:Int)=n; rw[zy]; exact r1.1,fun x hx=>⟨hpos x hx,?_⟩⟩,r2,r3,r4⟩,⟨fun i hi=>?_,fun i hi=>?_⟩,?_⟩,om⟩
   ·have:=zeq hpos x hx
    omega
   ·have hi':i<p.A.length:=by have:i<(addN p.A a a.length).length:=hi; rwa [zy] at this
    exact Int.le_trans (o1 i hi') (hge i hi').1
   ·have hi':i<p.A.length:=by have:i<(addN p.A a a.length).length:=hi; rwa [zy] at this
    exact Int.le_trans (o2 i hi') (hge i hi').1
   ·show (addN p.A a a.length).sum<=_
    omega
theorem zhh (h:(grantM t k c y x).2=0):TOk t/\TOk (grantM t k c y x).1:=by
 unfold grantM at h |-
 by_cases h1:TOk t
 ·simp only[show ¬ ¬ TOk t from fun h=>h h1,yz] at h |-
  by_cases h2:hasP t.B c y=true
  ·simp only[show ¬ ¬ hasP t.B c y=true from fun h=>h h2,yz] at h |-
   by_cases h3:1<=k/\k<=t.I
   ·simp only[show ¬ ¬ (1<=k/\k<=t.I) from fun h=>h h3,yz] at h |-
    by_cases h4:1<=x/\x<=1000000000000000
    ·simp only[show ¬ ¬ (1<=x/\x<=1000000000000000) from fun h=>h h4,yz] at h |-
     by_cases h5:(giveV (potAt t c y).H (potAt t c y) (oneHot (potAt t c y).A.length (k-1).toNat x)).1=0
     ·rw[ya (show ¬ _≠_ from fun h=>h h5)]
      have hcy:=z6s h2
      exact⟨h1,z9y h1 h2 (zdx (h1.potAt h2) (z4o h4) z2b h5).2.1 hcy.1 hcy.2⟩
     ·rw[yb h5] at h; exact absurd h h5
    ·simp only[h4,ym,y1c] at h; cases h
   ·simp only[h3,ym,y1c] at h; cases h
  ·simp only[h2,ym,y1c,y1a] at h; cases h
 ·simp only[h1,ym,y1c] at h; cases h
theorem zcx (l:List Int):F_q1f l=some (!rowT l):=by
 have h:F_qo l=some (if rowT l=true then -1 else ((l.findIdx fun x=>!decide (tot x):Nat):Int)):=by
  simp only[F_qo,S_qo,Scr.den]
  rw[z6p l (fun x=>!decide (tot x)) (fun i=>(i:Int)) (fun i hi=>by
   simp only[S_qo_b1,F_q1s,S_q1s,Scr.den,z43,obind]
   split <;> rfl)]
  have e:(l.any fun x=>!decide (tot x))=!rowT l:=by rw[rowT,List.all_eq_not_any_not,Bool.not_not]
  rw[e]
  cases rowT l <;> rfl
 simp only[F_q1f,S_q1f,Scr.den,h,obind]
 congr 1
 cases rowT l with
 | true=>rfl
 | false=>simp
theorem zer (h:PotOk n p) (hn:n<=6) (hi:i<l.length) (a:List Int) :
  F_q17 i l p.F p.G p.H a p.A p.D p.C p.E =
   some (if ¬ (a.length:Int)=n then (6,p.A) else if ¬ rowT a=true then (2,p.A) else giveV p.H p a):=by
 have l1:=h.2.2.2.1.1.1
 simp only[F_q17,S_q17,Scr.den,zcx,obind,l1]
 rw[za (by simp only[AllP,yh]; exact hi)]
 by_cases c1:(a.length:Int)=n
 ·rw[ya (show ¬ ((a.length:Int) != n)=true by simp[c1]),ya (show ¬ ¬ (a.length:Int)=n from fun h=>h c1)]
  by_cases c2:rowT a=true
  ·rw[ya (show ¬ (!rowT a)=true by rw[c2]; simp),ya (show ¬ ¬ rowT a=true from fun h=>h c2),zds h hn (z3t.1 c2) om hi]
   rfl
  ·rw[yb (show (!rowT a)=true by simpa using c2),yb c2]
 ·rw[yb (show ((a.length:Int) != n)=true by simp[c1]),yb c1]
theorem z7p (hs:Small t) (c:Y8) (y:Int) (a:List Int):F_q18 t c y a=some (divideM t c y a):=by
 simp only[F_q18,S_q18,Scr.den,F_q1t,S_q1t,z33 hs,z64,obind]
 unfold divideM
 by_cases h1:TOk t
 ·rw[ya (show ¬ (!decide (TOk t))=true by rw[yc h1]; simp),ya (show ¬ ¬ TOk t from fun h=>h h1)]
  by_cases h2:hasP t.B c y=true
  ·have hlt:=(z1h h2).1
   have hp:=h1.potAt h2
   have l0:=h1.2.1
   rw[yb (show hasP t.B c y=true from h2),ya (show ¬ ¬ hasP t.B c y=true from fun h=>h h2),ya (show ¬ decide (((pix t.B c y:Nat):Int)<0)=true by rw[yf]; omega),yp,z4n h1.small hlt (h1.pos h2)]
   simp only[obind]
   show ((F_q17 (pix t.B c y) t.B (potAt t c y).F (potAt t c y).G (potAt t c y).H a (potAt t c y).A (potAt t c y).D (potAt t c y).C (potAt t c y).E).bind _).bind _=_
   rw[zer hp h1.1.2 hlt]
   simp only[obind]
   rw[za (by simp only[AllP,yh]; exact⟨om,hlt⟩)]
   by_cases h3:(a.length:Int)=t.I
   ·simp only[show ¬ ¬ (a.length:Int)=t.I from fun h=>h h3,yz]
    by_cases h4:rowT a=true
    ·simp only[show ¬ ¬ rowT a=true from fun h=>h h4,yz]
     have hlen:=zbc (total:=(potAt t c y).H) (p:=potAt t c y) (a:=a)
     generalize giveV (potAt t c y).H (potAt t c y) a=gv at hlen
     by_cases h5:gv.1=0
     ·rw[ya (show ¬ (gv.1 != 0)=true by simp[h5]),ya (show ¬ gv.1≠0 from fun h=>h h5)]
      obtain⟨q1,q2,q3,q4⟩:=hp.small h1.1.2
      rw[za (by simp only[AllP,yh]; exact hlen),za (by simp only[AllP,yh]; exact⟨by rw[hlen]; omega,y1l q2 om,y1l q3 om,y1l q4 om⟩),za (by simp only[AllP,yh,yi]; omega)]
      rfl
     ·rw[yb (show (gv.1 != 0)=true by simp[h5]),yb (show gv.1≠0 from h5)]; rfl
    ·rw[yb h4,yb h4]; rfl
   ·rw[yb h3,yb h3]; rfl
  ·simp only[h2,ya,ym,y1c,y1a]; rfl
 ·rw[yb (show (!decide (TOk t))=true by rw[yj h1]; simp),yb (show ¬ TOk t from h1)]; rfl
theorem z3w (gs:List Prop) (x d:α) [Decidable (AllP gs)]:optD gs (some x) d=some (if AllP gs then x else d):=by
 unfold optD
 by_cases h:AllP gs
 ·rw[yb h,yb h]
 ·rw[ya h,ya h]
theorem z9z (a x d:Bool) [Decidable (AllP [a=false])]:(a||!(if AllP [a=false] then x else d))=(a||!x):=by
 cases a <;> simp[AllP]
theorem zbd (a x d:Bool) [Decidable (AllP [a=true])]:(a&&(if AllP [a=true] then x else d))=(a&&x):=by
 cases a <;> simp[AllP]
theorem st {c:Bool} {P:Prop} {_:Decidable P} {x y:Option α} {a b:α} (h:c=true↔P) (hx:P->x=some a) (hy:¬ P->y=some b):(if c=true then x else y)=some (if P then a else b):=by
 by_cases hp:P
 ·rw[yb (h.mpr hp),yb hp,hx hp]
 ·rw[ya (fun hc=>hp (h.mp hc)),ya hp,hy hp]
def RtOk (r:TRi):Prop:=good r.F=true/\(0<=r.G/\r.G<=99)/\(0<=r.A/\r.A<=1000000000000000)/\(0<=r.C/\r.C<=1000000000000000)/\(0<=r.J/\r.J<=r.A)
instance (r:TRi):Decidable (RtOk r):=inferInstanceAs (Decidable (_/\_))
theorem z2i {r:TRi} (h:r.F.length<=1000000):F_q1j r=some (decide (RtOk r)):=by
 open Classical in simp only[F_q1j,S_q1j,F_q14,S_q14,Scr.den,z5a (show r.F.length<=1099511627776 from om),zq,z5q,z3w,obind,zx,zbd]
 refine y15 some ?_
 have e:decide (((parts r.F).length:Int)>0)=good r.F:=by rw[<- z4l]; rw[y2t]; simp
 rw[e,y2t]
 simp only[RtOk,yq,yf,and_assoc]
def noR:TRi:=⟨[],0,0,0,0⟩
def learnS (r:TRi) (m:TMe):TRi×Int :=
 if ¬ (RtOk r/\m.K=0/\m.F=r.F/\m.G=r.G) then (noR,1) else
 if ¬ (tot m.A/\tot m.C) then (noR,2) else
 (⟨r.F,r.G,if m.A>r.A then m.A else r.A,if m.C>r.C then m.C else r.C,r.J⟩,0)
def returnS (r:TRi) (u n:Int):TRi×Int :=
 if ¬ (RtOk r/\(0<=u/\u<=i64.wrap (r.A-r.J))) then (noR,1) else
 if ¬ (1<=n/\n<=1000000000000000) then (noR,2) else
 if n>i64.wrap (i64.wrap (r.A-r.J)-u) then (noR,15) else
 (⟨r.F,r.G,r.A,r.C,i64.wrap (r.J+n)⟩,0)
theorem z95 (n:Int):F_qr n=some (decide (tot n)):=z43 n
theorem z5s {r:TRi} (h:r.F.length<=1000000) (m:TMe):F_q1v r m=some (learnS r m):=by
 open Classical in simp only[F_q1v,S_q1v,Scr.den,z2i h,z95,z3w,obind,zj,z9z]
 unfold learnS
 refine st (by by_cases hR:RtOk r <;> by_cases h2:m.K=0 <;> by_cases h3:m.F=r.F <;> by_cases h4:m.G=r.G <;> simp[hR,h2,h3,h4]) (fun _=>rfl) fun _=>?_
 refine st (by by_cases h2:tot m.A <;> by_cases h3:tot m.C <;> simp[h2,h3]) (fun _=>rfl) fun _=>rfl
theorem z5d {r:TRi} (h:r.F.length<=1000000) (u n:Int):F_q1x r u n=some (returnS r u n):=by
 open Classical in simp only[F_q1x,S_q1x,Scr.den,z2i h,zq,z3w,obind,zj,z9z]
 unfold returnS
 refine st (by by_cases h2:RtOk r <;> by_cases h3:0<=u/\u<=i64.wrap (r.A-r.J) <;> simp[h2,h3]) (fun _=>rfl) fun _=>?_
 refine st (by simp only[y20,y1k]) (fun _=>rfl) fun _=>?_
 refine st (by simp only[yf]) (fun _=>rfl) fun _=>rfl
def wantedS (r:TRi) (u:Int):Int :=
 if RtOk r/\(0<=u/\u<=r.A-r.J) then (if r.A-u<r.C then (if r.A-u-r.J>0 then r.A-u-r.J else 0) else (if r.C-r.J>0 then r.C-r.J else 0)) else 0
theorem wn1:(if 0>x then 0 else x)=(if x>0 then x else 0):=by split <;> split <;> omega
theorem wn2 (h:x=y):(if x>0 then x else 0)=(if y>0 then y else 0):=by rw[h]
variable {u:Int}
theorem z5e {r:TRi} (h:r.F.length<=1000000):F_q1w r u=some (wantedS r u):=by
 open Classical in simp only[F_q1w,S_q1w,Scr.den,z2i h,zq,z3w,obind,zj,z9z]
 unfold wantedS
 by_cases hR:RtOk r
 ·have hR':=hR
  unfold RtOk at hR'
  have w1:i64.wrap (r.A-r.J)=r.A-r.J:=wrapId om om
  rw[w1]
  by_cases hu:0<=u/\u<=r.A-r.J
  ·rw[yb (show RtOk r/\(0<=u/\u<=r.A-r.J) from ⟨hR,hu⟩),ya (by simp[hR,hu]),wrapId (n:=r.A-u) om om]
   refine y15 some ?_
   by_cases k:r.A-u<r.C
   ·simp only[yb k]
    rw[wrapId om om]
    exact wn1
   ·simp only[ya k]
    rw[wrapId om om]
    exact wn1
  ·rw[yb (by simp[hR]; omega),ya (fun k=>hu k.2)]
 ·rw[yb (by simp[hR]),ya (fun k=>hR k.1)]
def TapeOk (s:TTape):Prop:=0<=s.at_/\s.l.length<=500/\s.at_<=s.l.length
theorem zhi (t:List Int):∃ s,F_q2b t=some s/\TapeOk s:=by
 simp only[F_q2b,S_q2b,Scr.den]
 refine⟨_,zb7 ⟨?_,?_,trivial⟩ rfl,sj,?_,sj⟩
 ·split <;> omega
 ·split <;> omega
 ·simp only[y2w]
  split <;> omega
variable {s:TTape}
theorem zo (hs:TapeOk s) (h1:1<=n) (hn:n<=4611686018427387904):∃ v s',F_q0 n s=some (v,s')/\TapeOk s'/\0<=v/\v<n:=by
 obtain⟨a1,a2,a3⟩:=hs
 simp only[F_q0,S_q0,Scr.den]
 by_cases hc:s.at_>=(s.l.length:Int)
 ·rw[yb (by simp[hc])]
  exact⟨0,s,rfl,⟨a1,a2,a3⟩,om,om⟩
 ·rw[ya sk]
  have e1:i64.wrap (s.at_+1)=s.at_+1:=wrapId om om
  rw[e1,za ⟨om,om,om,trivial⟩]
  generalize s.l.getD s.at_.toNat dF=x
  have t1:x.tmod n<n:=Int.tmod_lt_of_pos x om
  have t2:-n<x.tmod n:=Int.lt_tmod_of_pos x om
  have e3:i64.wrap (x.tmod n+n)=x.tmod n+n:=wrapId om om
  rw[e3]
  have ht:TapeOk ⟨s.l,s.at_+1⟩:=⟨by simp only; omega,a2,by simp only; omega⟩
  split
  ·rename_i h
   simp only[yf] at h
   exact⟨_,_,rfl,ht,om,om⟩
  ·rename_i h
   simp only[yf] at h
   exact⟨_,_,rfl,ht,om,om⟩
theorem z2v {lo hi:Int} (hs:TapeOk s) (h0:-1000000000000000<=lo) (h1:lo<=hi) (h2:hi<=1000000000000000):∃ v s',F_qe lo hi s=some (v,s')/\TapeOk s'/\lo<=v/\v<=hi:=by
 simp only[F_qe,S_qe,Scr.den]
 rw[wrapId (n:=hi-lo) om om,wrapId (n:=hi-lo+1) om om]
 obtain⟨v,s',h3,h4,h5,h6⟩:=zo (n:=hi-lo+1) hs om om
 refine⟨lo+v,s',?_,h4,om,om⟩
 rw[h3,obind]
 simp only
 rw[wrapId (n:=lo+v) om om]
theorem z1m {l:List Int} (hs:TapeOk s) (h0:1<=l.length) (h1:l.length<=100):∃ v s',F_q4 l s=some (v,s')/\TapeOk s'/\v∈l:=by
 simp only[F_q4,S_q4,Scr.den]
 obtain⟨v,s',h3,h4,h5,h6⟩:=zo (n:=(l.length:Int)) hs om om
 refine⟨_,s',?_,h4,zk (show v.toNat<l.length from om)⟩
 rw[h3,obind,za ⟨by simpa using h5,by simp only; omega,trivial⟩]
theorem z5f (hs:TapeOk s):∃ c s',F_qf s=some (c,s')/\TapeOk s'/\c.length<=60/\good c=true:=by
 simp only[F_qf,S_qf,Scr.den]
 obtain⟨v,s',h3,h4,h5,h6⟩:=zo (n:=3) hs om om
 have h:∀ c∈([[49],[49,46,50],[50]]:List Y8),c.length<=60/\good c=true:=dk
 refine⟨_,s',?_,h4,h _ (zk (show v.toNat<3 from om))⟩
 rw[h3,obind,za ⟨by simpa using h5,by simp only; omega,trivial⟩]
def xP (n:Int) (g h a u:List Int):TPo:=⟨[49],12,n,g,h,a,u⟩
def xT (p:TPo):TTr:=⟨2,[p]⟩
def xR (g a r:Int):TRi:=⟨[49],12,g,a,r⟩
theorem a1:setM ⟨2,[]⟩ [49] 12 100=(xT (xP 100 [0,0] [0,0] [0,0] [0,0]),0):=kj
theorem a2:divideM (xT (xP 100 [0,0] [0,0] [0,0] [0,0])) [49] 12 [60,40]=(xT (xP 100 [60,40] [0,0] [0,0] [0,0]),0):=kj
theorem a3:setM (xT (xP 100 [60,40] [0,0] [0,0] [0,0])) [49] 12 90=(xT (xP 90 [60,40] [0,0] [0,0] [0,0]),0):=kj
theorem a4:potM (xT (xP 90 [60,40] [0,0] [0,0] [0,0])) [49] 12=(xP 90 [60,40] [0,0] [0,0] [0,0],true):=kj
theorem a5:askM (xT (xP 90 [60,40] [0,0] [0,0] [0,0])) 1 [49] 12 10=(xT (xP 90 [60,40] [0,0] [10,0] [0,0]),0):=kj
theorem a6:tellM (xT (xP 90 [60,40] [0,0] [10,0] [0,0])) 1 [49] 12=(⟨0,1,[49],12,60,10,0,0⟩,0):=kj
theorem a7:learnS (xR 0 0 0) ⟨0,1,[49],12,60,10,0,0⟩=(xR 60 10 0,0):=kj
theorem a8:wantedS (xR 60 10 0) 20=10:=kj
theorem a9:returnS (xR 60 10 0) 20 10=(xR 60 10 10,0):=kj
theorem a10:hearM (xT (xP 90 [60,40] [0,0] [10,0] [0,0])) ⟨1,0,[49],12,0,0,10,20⟩=(xT (xP 90 [60,40] [10,0] [10,0] [20,0]),0):=kj
theorem a11:potM (xT (xP 90 [60,40] [10,0] [10,0] [20,0])) [49] 12=(xP 90 [60,40] [10,0] [10,0] [20,0],true):=kj
theorem a12:max (i64.wrap (outV (xP 90 [60,40] [0,0] [0,0] [0,0])-90)) 0=10:=kj
theorem a13:max (i64.wrap (outV (xP 90 [60,40] [10,0] [10,0] [20,0])-90)) 0=0:=kj
theorem a14:i64.wrap (outV (xP 90 [60,40] [10,0] [10,0] [20,0]))=90:=kj
theorem xs (p:TPo) (h:p.F=[49]):Small (xT p):=fun q hq=>by
 obtain rfl:q=p:=by simpa [xT] using hq
 rw[h]; simp
theorem xsm {g h u:List Int} (h1:g.length<=1000000) (h2:h.length<=1000000) (h3:a.length<=1000000) (h4:u.length<=1000000):TSmall (xT (xP n g h a u)) :=
 ⟨by simp[xT],fun i hi=>by
  obtain rfl:i=0:=by simpa [xT] using hi
  exact⟨h1,h2,h3,h4⟩⟩
theorem z96:F_q20=some true:=by
 have hl:([49]:Y8).length<=1000000:=sj
 simp only[F_q20,S_q20,Scr.den]
 rw[z9x (t:=⟨2,[]⟩) (fun p hp=>by cases hp) hl,a1]
 simp only[obind]
 rw[z7p (xs _ rfl),a2]
 simp only[obind]
 rw[z9x (xs _ rfl) hl,a3]
 simp only[obind]
 rw[z9u (xsm sj sj sj sj),a4]
 simp only[obind]
 rw[zh (by exact⟨rfl,trivial⟩),z5c]
 simp only[obind]
 rw[show max (i64.wrap (outV (xP 90 [60,40] [0,0] [0,0] [0,0])-(xP 90 [60,40] [0,0] [0,0] [0,0]).H)) 0=10 from a12]
 rw[ya dk,zg5 (xs _ rfl),a5]
 simp only[obind]
 rw[zdu (xs _ rfl),a6]
 simp only[obind]
 rw[show (⟨[49],12,0,0,0⟩:TRi)=xR 0 0 0 from rfl,z5s (show (xR 0 0 0).F.length<=1000000 from hl),a7]
 simp only[obind]
 rw[z5e (show (xR 60 10 0).F.length<=1000000 from hl),a8]
 simp only[obind]
 rw[z5d (show (xR 60 10 0).F.length<=1000000 from hl),a9]
 simp only[obind]
 rw[zdt (xs _ rfl),show hearM (xT (xP 90 [60,40] [0,0] [10,0] [0,0])) ⟨1,0,[49],12,0,0,(xR 60 10 10).J,20⟩=_ from a10]
 simp only[obind]
 rw[z9u (xsm sj sj sj sj),a11]
 simp only[obind]
 rw[zh (by exact⟨rfl,trivial⟩),z5c]
 simp only[obind]
 rw[show max (i64.wrap (outV (xP 90 [60,40] [10,0] [10,0] [20,0])-(xP 90 [60,40] [10,0] [10,0] [20,0]).H)) 0=0 from a13,zh (by exact⟨rfl,trivial⟩),z9s,a14]
 rfl
def Lim (t:TTr) (B:Int):Prop:=∀ i,i<t.B.length->(t.B.getD i dF).H<=2000/\(t.B.getD i dF).A.sum<=B
variable {B:Int}
theorem Lim.at (h:Lim t B) (hp:hasP t.B c y=true):(potAt t c y).H<=2000/\(potAt t c y).A.sum<=B:=h _ (z1h hp).1
variable {B':Int}
theorem Lim.put (h:Lim t B) (hB:B<=B') (hp:p.H<=2000/\p.A.sum<=B'):Lim (putP t c y p) B':=fun i hi=>by
 have hi':i<t.B.length:=by simpa [putP] using hi
 show ((t.B.set (pix t.B c y) p).getD i dF).H<=2000/\((t.B.set (pix t.B c y) p).getD i dF).A.sum<=B'
 rw[z7o hi']
 split
 ·exact hp
 ·have:=h i hi'; omega
theorem Lim.mono (h:Lim t B) (hB:B<=B'):Lim t B':=fun i hi=>by have:=h i hi; omega
theorem TOk.small' (h:TOk t):Small t:=fun p hp=>by
 have:=z6o (h.good p hp).1
 omega
theorem zap (hB:0<=B) (hl:Lim t B) (hx:x<=2000) (h:(setM t c y x).2=0) :
  Lim (setM t c y x).1 B/\(setM t c y x).1.I=t.I/\(setM t c y x).1.B.length<=t.B.length+1:=by
 unfold setM at h |-
 by_cases h1:TOk t
 ·simp only[show ¬ ¬ TOk t from fun h=>h h1,yz] at h |-
  by_cases h2:good c=true
  ·simp only[show ¬ ¬ good c=true from fun h=>h h2,yz] at h |-
   by_cases h3:(0<=y/\y<=99)/\-1000000000000000<=x/\x<=1000000000000000
   ·simp only[show ¬ ¬ ((0<=y/\y<=99)/\-1000000000000000<=x/\x<=1000000000000000) from fun h=>h h3,yz] at h |-
    by_cases h5:hasP t.B c y=true
    ·rw[yb h5]
     exact⟨hl.put (y1y _) ⟨hx,(hl.at h5).2⟩,rfl,by simp[putP]⟩
    ·rw[ya h5] at h |-
     by_cases h6:t.B.length=60
     ·rw[yb h6] at h; cases h
     ·rw[ya h6]
      have hp:=z3v t.B (newP t.I c y x)
      refine⟨fun i hi=>?_,rfl,by show (insL _ _ _).length<=_; rw[zt]; exact ye _⟩
      have hi':i<t.B.length+1:=by have:i<(insL t.B (posP t.B (newP t.I c y x)) (newP t.I c y x)).length:=hi; rwa [zt] at this
      show ((insL t.B (posP t.B (newP t.I c y x)) (newP t.I c y x)).getD i dF).H<=2000/\((insL t.B (posP t.B (newP t.I c y x)) (newP t.I c y x)).getD i dF).A.sum<=B
      rw[z1w hp]
      split
      ·exact hl i om
      ·split
       ·have e:(zeros t.I).sum=0:=by simp[zeros]
        exact⟨hx,by show (zeros t.I).sum<=B; omega⟩
       ·exact hl (i-1) om
   ·rw[yb h3] at h; cases h
  ·rw[yb (show ¬ good c=true from h2)] at h; cases h
 ·rw[yb h1] at h; cases h
theorem zhj (h:TOk t) (hl:t.B.length<60) (hc:good c=true) (hy:0<=y/\y<=99) (hx:-1000000000000000<=x/\x<=1000000000000000):(setM t c y x).2=0:=by
 unfold setM
 rw[ya (show ¬ ¬ TOk t from fun k=>k h),ya (show ¬ ¬ good c=true from fun k=>k hc),ya (show ¬ ¬ ((0<=y/\y<=99)/\-1000000000000000<=x/\x<=1000000000000000) from fun k=>k ⟨hy,hx⟩)]
 split
 ·rfl
 ·rw[ya om]
theorem zdy (hl:Lim t B) (h:(askM t k c y x).2=0):Lim (askM t k c y x).1 B/\(askM t k c y x).1.I=t.I/\(askM t k c y x).1.B.length=t.B.length:=by
 unfold askM at h |-
 by_cases h1:TOk t
 ·simp only[show ¬ ¬ TOk t from fun h=>h h1,yz] at h |-
  by_cases h2:hasP t.B c y=true
  ·simp only[show ¬ ¬ hasP t.B c y=true from fun h=>h h2,yz] at h |-
   by_cases h3:1<=k/\k<=t.I
   ·simp only[show ¬ ¬ (1<=k/\k<=t.I) from fun h=>h h3,yz] at h |-
    by_cases h4:1<=x/\x<=1000000000000000
    ·simp only[show ¬ ¬ (1<=x/\x<=1000000000000000) from fun h=>h h4,yz] at h |-
     by_cases h5:nth (potAt t c y).A k<nth (potAt t c y).C k+x
     ·rw[yb h5] at h; cases h
     ·rw[ya h5]
      exact⟨hl.put (y1y _) (hl.at h2),rfl,by simp[putP]⟩
    ·rw[yb h4] at h; cases h
   ·rw[yb h3] at h; cases h
  ·rw[yb (show ¬ hasP t.B c y=true from h2)] at h; cases h
 ·rw[yb h1] at h; cases h
theorem zcy (hl:Lim t B) (h:(hearM t m).2=0):Lim (hearM t m).1 B/\(hearM t m).1.I=t.I/\(hearM t m).1.B.length=t.B.length:=by
 unfold hearM at h |-
 by_cases h0:m.L=0
 ·rw[ya (show ¬ m.L≠0 from fun h=>h h0)] at h |-
  by_cases h1:TOk t
  ·rw[ya (show ¬ ¬ TOk t from fun h=>h h1)] at h |-
   by_cases h2:hasP t.B m.F m.G=true
   ·rw[ya (show ¬ ¬ hasP t.B m.F m.G=true from fun h=>h h2)] at h |-
    split at h
    ·cases h
    ·rename_i h3
     rw[ya h3]
     split at h
     ·cases h
     ·rename_i h4
      rw[ya h4]
      exact⟨hl.put (y1y _) (hl.at h2),rfl,by simp[putP]⟩
   ·rw[yb (show ¬ hasP t.B m.F m.G=true from h2)] at h; cases h
  ·rw[yb h1] at h; cases h
 ·rw[yb (show m.L≠0 from h0)] at h; cases h
theorem za0:∀ {n k:Nat} {x:Int},k<n->(oneHot n k x).sum=x
 | 0,_,_,h=>om
 | n+1,0,x,_=>by simp[oneHot,List.replicate_succ]
 | n+1,k+1,x,h=>by
  have:=za0 (n:=n) (k:=k) (x:=x) om
  simp only[oneHot] at this |-
  rw[y4d,y4h,y2k,this]
  omega
theorem zbe (hl:Lim t B) (h:(grantM t k c y x).2=0):Lim (grantM t k c y x).1 (B+x)/\(grantM t k c y x).1.I=t.I/\(grantM t k c y x).1.B.length=t.B.length:=by
 unfold grantM at h |-
 by_cases h1:TOk t
 ·simp only[show ¬ ¬ TOk t from fun h=>h h1,yz] at h |-
  by_cases h2:hasP t.B c y=true
  ·simp only[show ¬ ¬ hasP t.B c y=true from fun h=>h h2,yz] at h |-
   by_cases h3:1<=k/\k<=t.I
   ·simp only[show ¬ ¬ (1<=k/\k<=t.I) from fun h=>h h3,yz] at h |-
    by_cases h4:1<=x/\x<=1000000000000000
    ·simp only[show ¬ ¬ (1<=x/\x<=1000000000000000) from fun h=>h h4,yz] at h |-
     by_cases h5:(giveV (potAt t c y).H (potAt t c y) (oneHot (potAt t c y).A.length (k-1).toNat x)).1=0
     ·rw[ya (show ¬ _≠_ from fun h=>h h5)]
      have hg:=zdx (h1.potAt h2) (z4o h4) z2b h5
      have l1:=(h1.potAt h2).2.2.2.1.1.1
      have e:=zcw (G:=(potAt t c y).A) (a:=oneHot (potAt t c y).A.length (k-1).toNat x) z2b
      rw[za0 (show (k-1).toNat<(potAt t c y).A.length from om)] at e
      have hat:=hl.at h2
      refine⟨hl.put om ⟨hat.1,?_⟩,rfl,by simp[putP]⟩
      show (giveV _ _ _).2.sum<=B+x
      rw[hg.1,e]
      omega
     ·rw[yb h5] at h; exact absurd h h5
    ·rw[yb h4] at h; cases h
   ·rw[yb h3] at h; cases h
  ·rw[yb (show ¬ hasP t.B c y=true from h2)] at h; cases h
 ·rw[yb h1] at h; cases h
theorem zhk (hs:TapeOk s) (hk:1<=k/\k<=4) (hn:0<=n/\n<=3) :
  ∃ s' x,iterM (fun s=>(S_q3_b1 s).den) (s,(⟨k,[]⟩:TTr),n)=some (.next (s',x,0))/\TapeOk s'/\TOk x/\x.I=k/\Lim x 0:=by
 obtain⟨r,e,hJ⟩:=z49 (step:=fun s=>(S_q3_b1 s).den) (fun s:TTape×TTr×Int=>s.2.2.toNat)
  (fun s=>TapeOk s.1/\TOk s.2.1/\s.2.1.I=k/\Lim s.2.1 0/\0<=s.2.2/\(s.2.1.B.length:Int)+s.2.2<=3)
  (fun s=>s.2.2=0/\TapeOk s.1/\TOk s.2.1/\s.2.1.I=k/\Lim s.2.1 0) (fun st hI=>by
  obtain⟨s,x,i⟩:=st
  obtain⟨i1,i2,i3,i4,i5,i6⟩:=hI
  simp only at i1 i2 i3 i4 i5 i6
  simp only[S_q3_b1,Scr.den]
  by_cases hi:0<i
  ·left
   obtain⟨c,s1,q1,q2,q3,q4⟩:=z5f i1
   obtain⟨v2,s2,p1,p2,p3,p4⟩:=zo (n:=2) q2 om om
   obtain⟨v3,s3,u1,u2,u3,u4⟩:=zo (n:=2000) p2 om om
   obtain⟨v4,s4,w1,w2,w3,w4⟩:=zo (n:=50) u2 om om
   obtain⟨v5,s5,z1,z2,z3⟩:=z1m (l:=[100,500,v3,i64.wrap (0-v4)]) w2 sj sj
   have hv5:-50<=v5/\v5<=2000:=by
    rw[wrapId (n:=0-v4) om om] at z3
    simp only[yy,y26,y3c] at z3
    omega
   have hf:=zhj i2 (show x.B.length<60 from om) (x:=v5) q4 (y:=12+v2) om om
   obtain⟨l1,l2,l3⟩:=zap (y1y 0) i4 (show v5<=2000 from om) hf
   rw[yb (show decide (i>0)=true from yc hi),q1]
   simp only[obind]
   rw[p1]
   simp only[obind]
   rw[u1]
   simp only[obind]
   rw[w1]
   simp only[obind]
   rw[z1]
   simp only[obind]
   rw[wrapId (n:=12+v2) om om,z4p i2.small' om]
   simp only[obind]
   rw[wrapId (n:=i-1) om om]
   exact⟨_,rfl,⟨z2,(zga hf).2,l2.trans i3,l1,by show 0<=i-1; omega,by show ((setM x c (12+v2) v5).1.B.length:Int)+(i-1)<=3; omega⟩,by show (i-1).toNat<i.toNat; omega⟩
  ·right
   rw[ya (show ¬ decide (i>0)=true by rw[yf]; exact hi)]
   exact⟨_,rfl,by show i=0; omega,i1,i2,i3,i4⟩) _ (s,(⟨k,[]⟩:TTr),n) (y42 _)
  ⟨hs,⟨⟨hk.1,by show k<=6; omega⟩,sj,fun i hi=>by simp at hi⟩,rfl,fun i hi=>by simp at hi,hn.1,sk⟩
 obtain⟨s',x,i⟩:=r
 obtain⟨h0,h1,h2,h3,h4⟩:=hJ
 simp only at h0
 subst h0
 exact⟨s',x,e,h1,h2,h3,h4⟩
theorem zis {x:TTr} {i:Int} (hs:TapeOk s) (hx:TOk x) (hk:1<=k/\k<=4) (ho:x.I=k) (hl:Lim x B) (hB:0<=B) (hi:0<i) (hi5:i<=5) (hn:0<x.B.length) :
  ∃ s' x',(S_q3_b2 k (s,x,i)).den=some (.cont (s',x',i-1))/\TapeOk s'/\TOk x'/\x'.I=k/\Lim x' (B+300):=by
 have h60:=hx.2.1
 simp only[S_q3_b2,Scr.den,zx]
 obtain⟨v9,s1,q1,q2,q3,q4⟩:=zo (n:=(x.B.length:Int)) hs om om
 obtain⟨v10,s2,p1,p2,p3⟩:=z2v (lo:=1) (hi:=k) q2 om om om
 obtain⟨v11,s3,u1,u2,u3,u4⟩:=zo (n:=4) p2 om om
 rw[yb (by simp only[yq,yf]; omega),q1]
 simp only[obind]
 rw[za (by simp only[AllP,yh]; omega),p1]
 simp only[obind]
 rw[u1]
 simp only[obind]
 have hv:v9.toNat<x.B.length:=om
 have hpk:=(hx.2.2 _ hv).1
 have hcl:=z5b hx.small' hv
 generalize x.B.getD v9.toNat dF=p at hpk hcl
 have hK:∀ s' y e,TapeOk s'->(e=0->TOk y/\y.I=k/\Lim y (B+300))->∃ s'' x',(if ((e:Int)==0)=true then some (Step.cont (s',y,i64.wrap (i-1))) else some (Step.cont (s',x,i64.wrap (i-1))):Option (Step (TTape×TTr×Int) R_q3))=some (.cont (s'',x',i-1))/\TapeOk s''/\TOk x'/\x'.I=k/\Lim x' (B+300):=fun s' y e h1 h2=>by
  by_cases he:e=0
  ·subst he
   obtain⟨k1,k2,k3⟩:=h2 rfl
   rw[yb (show ((0:Int)==0)=true from rfl),wrapId (n:=i-1) om om]
   exact⟨_,_,rfl,h1,k1,k2,k3⟩
  ·rw[ya (show ¬ (e==0)=true by simpa using he),wrapId (n:=i-1) om om]
   exact⟨_,_,rfl,h1,hx,ho,hl.mono om⟩
 by_cases c0:v11=0
 ·rw[yb (show (v11==0)=true by simp[c0])]
  obtain⟨a,s4,w1,w2,w3⟩:=z2v (lo:=1) (hi:=100) u2 om om om
  rw[w1]
  simp only[obind]
  rw[z9v hx.small']
  simp only[obind,outM]
  exact hK _ _ _ w2 fun h=>⟨(zjg h).2,(zdy hl h).2.1.trans ho,(zdy hl h).1.mono om⟩
 ·rw[ya (show ¬ (v11==0)=true by simpa using c0)]
  by_cases c1:v11=1
  ·rw[yb (show (v11==1)=true by simp[c1])]
   have hv10:1<=v10/\v10<=6:=om
   have g:=z3u hpk.2.2.2.1.1 (k:=v10) om
   have l1:=hpk.2.2.2.1.1.1
   unfold tot at g
   rw[wrapK hv10]
   simp only[yp,show p.A.getD (v10-1).toNat dF=nth p.A v10 from rfl]
   rw[wrapId (n:=nth p.A v10+1) om om]
   obtain⟨a,s4,w1,w2,w3,w4⟩:=zo (n:=nth p.A v10+1) u2 om om
   obtain⟨b,s5,z1,z2,z3,z4⟩:=zo (n:=200) w2 om om
   rw[w1]
   simp only[obind]
   rw[z1]
   simp only[obind]
   rw[z8o hx.small']
   simp only[obind]
   rw[za (by simp only[AllP,yh]; omega)]
   simp only[outM]
   exact hK _ _ _ z2 fun h=>⟨(ziq h).2,(zcy hl h).2.1.trans ho,(zcy hl h).1.mono om⟩
  ·rw[ya (show ¬ (v11==1)=true by simpa using c1)]
   by_cases c2:v11=2
   ·rw[yb (show (v11==2)=true by simp[c2])]
    obtain⟨a,s4,w1,w2,w3,w4⟩:=zo (n:=1000) u2 om om
    obtain⟨b,s5,z1,z2,z3⟩:=z1m (l:=[0,200,a]) w2 sj sj
    have hb:b<=2000:=by
     simp only[yy,y26,y3c] at z3
     omega
    rw[w1]
    simp only[obind]
    rw[z1]
    simp only[obind]
    rw[z4p hx.small' hcl]
    simp only[obind,outM]
    exact hK _ _ _ z2 fun h=>⟨(zga h).2,(zap hB hl hb h).2.1.trans ho,(zap hB hl hb h).1.mono om⟩
   ·rw[ya (show ¬ (v11==2)=true by simpa using c2)]
    obtain⟨a,s4,w1,w2,w3⟩:=z2v (lo:=1) (hi:=300) u2 om om om
    rw[w1]
    simp only[obind]
    rw[z7n hx.small']
    simp only[obind,outM]
    exact hK _ _ _ w2 fun h=>⟨(zhh h).2,(zbe hl h).2.1.trans ho,(zbe hl h).1.mono om⟩
theorem z97 (hs:TapeOk s) (hk:1<=k/\k<=4):∃ x s',F_q3 k s=some (x,s')/\TapeOk s'/\TOk x/\x.I=k/\Lim x 1500:=by
 simp only[F_q3,S_q3,Scr.den]
 obtain⟨n,s1,q1,q2,q3,q4⟩:=zo (n:=4) hs om om
 obtain⟨s2,x,p1,p2,p3,p4,p5⟩:=zhk (n:=n) q2 hk om
 obtain⟨m,s3,u1,u2,u3,u4⟩:=zo (n:=6) p2 om om
 obtain⟨r,e,hJ⟩:=z49 (step:=fun s=>(S_q3_b2 k s).den) (fun s:TTape×TTr×Int=>s.2.2.toNat)
  (fun s=>TapeOk s.1/\TOk s.2.1/\s.2.1.I=k/\Lim s.2.1 (300 * (5-s.2.2))/\0<=s.2.2/\s.2.2<=5)
  (fun s=>TapeOk s.1/\TOk s.2.1/\s.2.1.I=k/\Lim s.2.1 1500) (fun st hI=>by
  obtain⟨s,x,i⟩:=st
  obtain⟨i1,i2,i3,i4,i5,i6⟩:=hI
  simp only at i1 i2 i3 i4 i5 i6
  by_cases hc:0<i/\0<x.B.length
  ·left
   obtain⟨s',x',h1,h2,h3,h4,h5⟩:=zis i1 i2 hk i3 i4 om hc.1 i6 hc.2
   exact⟨_,h1,⟨h2,h3,h4,h5.mono (by show 300 * (5-i)+300<=300 * (5-(i-1)); omega),by show 0<=i-1; omega,by show i-1<=5; omega⟩,by show (i-1).toNat<i.toNat; omega⟩
  ·right
   simp only[S_q3_b2,Scr.den,zx]
   rw[ya (by simp only[yq,yf]; omega)]
   exact⟨_,rfl,i1,i2,i3,i4.mono om⟩) _ (s3,x,m) (y42 _) ⟨u2,p3,p4,p5.mono (by show 0<=300 * (5-m); omega),u3,by show m<=5; omega⟩
 obtain⟨s',x',i'⟩:=r
 obtain⟨h1,h2,h3,h4⟩:=hJ
 refine⟨x',s',?_,h1,h2,h3,h4⟩
 rw[q1]
 simp only[obind]
 rw[p1]
 simp only[outM]
 rw[u1]
 simp only[obind]
 rw[e]
theorem zgb (l:List Int):F_ql l l=some true:=by
 simp only[F_ql,S_ql,Scr.den]
 rw[ya sj]
 have ra:=z3d (ρ:=Bool) (n:=l.length) (c:=false) (body:=fun i s=>(S_ql_b1 l l i s).den) (fun _=>True) (fun i hi _=>by
  simp only[S_ql_b1,Scr.den]
  rw[za (by simp only[AllP,yh]; exact hi),ya sj]) (fun i hi h=>absurd trivial h)
 rw[ra.1 fun _ _=>trivial]
 rfl
theorem z7q (p:TPo):F_q23 p p=some true:=by
 simp only[F_q23,S_q23,Scr.den,zgb,beq_self_eq_true,zx,y3w]
 rw[zh (by exact⟨trivial,trivial⟩)]
 simp only[obind,y3w]
 rw[zh (by exact⟨trivial,trivial⟩)]
 simp only[obind,y3w]
 rw[zh (by exact⟨trivial,trivial⟩)]
 simp only[obind,y3w]
 rw[zh (by exact⟨trivial,trivial⟩)]
 simp only[obind,y3w]
theorem zgc (h:t.B.length<=1000000):F_qa t t=some true:=by
 simp only[F_qa,S_qa,Scr.den,zj]
 rw[ya sj,za (by simp only[AllP,yh]; omega)]
 have ra:=z3d (ρ:=Bool) (n:=t.B.length) (c:=false) (body:=fun i s=>(S_qa_b1 t t i s).den) (fun _=>True) (fun i hi _=>by
  simp only[S_qa_b1,Scr.den,z7q,obind]
  rw[za (by simp only[AllP,yh]; exact hi),ya sj]) (fun i hi h=>absurd trivial h)
 rw[ra.1 fun _ _=>trivial]
 rfl
def gP (p:TPo) (k:Nat) (n:Int):TPo:=withG p (p.A.set k (p.A.getD k dF+n))
theorem zes (t:TTr) (c:Y8) (y:Int):F_q1p t c y=some (potM t c y):=by
 simp only[F_q1p,S_q1p,Scr.den,zen,obind]
 unfold potM
 by_cases h:hasP t.B c y=true
 ·have hlt:=(z1h h).1
  rw[yb h,yb h,yb sj,yp,za ⟨om,hlt,trivial⟩]
  rfl
 ·rw[ya h,ya h,ya dk]
theorem zdd (hs:Small t) (k:Int) (c:Y8) (y:Int):F_q1q t k c y=some (tellM t k c y):=by
 simp only[F_q1q,S_q1q,Scr.den,z2y hs,obind]
 unfold tellM findM
 by_cases h1:TOk t
 ·simp only[show ¬ ¬ TOk t from fun h=>h h1,yz]
  by_cases h2:hasP t.B c y=true/\1<=k/\k<=t.I
  ·have hlt:=(z1h h2.1).1
   have hp:=h1.potAt h2.1
   have l1:=hp.2.2.2.1.1.1
   have l3:=hp.2.2.2.1.2.2.1.1
   have e0:=h1.1
   have h3:=h2.2
   simp only[show ¬ ¬ (hasP t.B c y=true/\1<=k/\k<=t.I) from fun h=>h h2,yz]
   rw[ya (show ¬ ((0:Int) != 0)=true from sj),wrapId (n:=k-1) om om,yp,show t.B.getD (pix t.B c y) dF=potAt t c y from rfl,za ⟨om,hlt,om,om,om,trivial⟩]
   rfl
  ·simp only[h2,ym,y1c]; rfl
 ·simp only[h1,ym,y1c]; rfl
theorem z3h {r:TRi} (h:r.F.length<=1000000):F_q1l r=some (decide (RtOk r)):=by
 open Classical in simp only[F_q1l,S_q1l,F_qc,S_qc,Scr.den,z5z (show r.F.length<4611686018427387904 from om),z3w,obind,zx,zbd]
 refine y15 some ?_
 rw[y2t]
 simp only[RtOk,yq,yf,and_assoc,ge_iff_le]
theorem zcz {r:TRi} (h:r.F.length<=1000000) (m:TMe):F_q2i r m=some (learnS r m):=by
 open Classical in simp only[F_q2i,S_q2i,Scr.den,z3h h,z3e,z3w,obind,zj,z9z]
 unfold learnS
 refine st (by by_cases hR:RtOk r <;> by_cases h2:m.K=0 <;> by_cases h3:m.F=r.F <;> by_cases h4:m.G=r.G <;> simp[hR,h2,h3,h4]) (fun _=>rfl) fun _=>?_
 refine st (by by_cases h2:tot m.A <;> by_cases h3:tot m.C <;> simp[h2,h3]) (fun _=>rfl) fun _=>rfl
theorem zbm {r:TRi} (h:r.F.length<=1000000) (u n:Int):F_q2j r u n=some (returnS r u n):=by
 open Classical in simp only[F_q2j,S_q2j,Scr.den,z3h h,obind,zj]
 unfold returnS
 refine st (by
   simp only[yv,y20,y1k,yf,gt_iff_lt]
   constructor
   ·rintro ((h | h) | h) <;> intro k
    ·exact h k.1
    ·omega
    ·omega
   ·intro h; by_cases hR:RtOk r
    ·by_cases hu:u<0
     ·exact .inl (.inr hu)
     ·exact .inr (by have:¬ (0<=u/\u<=_):=fun k=>h ⟨hR,k⟩; omega)
    ·exact .inl (.inl hR)) (fun _=>rfl) fun _=>?_
 refine st (by simp only[yv,yf]; omega) (fun _=>rfl) fun _=>?_
 refine st (by simp only[yf]) (fun _=>rfl) fun _=>rfl
theorem zbn {r:TRi} (h:r.F.length<=1000000):F_q2k r u=some (wantedS r u):=by
 simp only[F_q2k,S_q2k,Scr.den,z3h h,obind,zj]
 unfold wantedS
 by_cases hR:RtOk r
 ·have hR':=hR
  unfold RtOk at hR'
  have w1:i64.wrap (r.A-r.J)=r.A-r.J:=wrapId om om
  rw[w1]
  by_cases hu:0<=u/\u<=r.A-r.J
  ·rw[yb (show RtOk r/\(0<=u/\u<=r.A-r.J) from ⟨hR,hu⟩),ya (by simp[hR]; omega),wrapId (n:=r.A-r.J-u) om om,wrapId (n:=r.C-r.J) om om]
   refine y15 some ?_
   by_cases k:r.A-u<r.C
   ·rw[yb k]
    simp only[yb (show r.A-r.J-u<r.C-r.J from om)]
    exact wn2 om
   ·rw[ya k]
    simp only[ya (show ¬ (r.A-r.J-u<r.C-r.J) from om)]
  ·rw[yb (by simp[hR]; omega),ya (fun k=>hu k.2)]
 ·rw[yb (by simp[hR]),ya (fun k=>hR k.1)]
theorem zjh (x:Int):(if x>0 then x else 0)=max x 0:=by split <;> omega
theorem zde (hl:p.A.length<4611686018427387904):F_q2d p=some (max (i64.wrap (outV p-p.H)) 0):=by
 simp only[F_q2d,S_q2d,Scr.den,z6q hl,obind,z7g,zjh]
theorem z6x {σ ρ:Type} {b1 b2:Nat->σ->Option (Step σ ρ)} {n:Nat} (h:∀ i s,i<n->b1 i s=b2 i s):∀ (k i:Nat) (s:σ),i+k=n->rangeM b1 k i s=rangeM b2 k i s
 | 0,_,_,_=>rfl
 | k+1,i,s,e=>by
  simp only[rangeM,h i s om]
  split
  ·rfl
  ·exact z6x h k (i+1) _ om
  ·rfl
  ·rfl
theorem z3i {b1 b2:Nat->σ->Option (Step σ ρ)} {n:Nat} (h:∀ i s,i<n->b1 i s=b2 i s) (s:σ):rangeM b1 n 0 s=rangeM b2 n 0 s:=z6x h n 0 s om
section
variable {a:List Int} (ha:a.length<9223372036854775808)
include ha
theorem gdT (k:Option α):guardP (AllP [a.length<2 ^ 63]) k=k:=za ⟨ha,trivial⟩
theorem gdT' (k:Option α):guardP (a.length<2 ^ 63) k=k:=za ha
theorem za1 (t:TTr) (c:Y8) (y:Int):F_qd t c y a=F_q2 t c y a:=by
 have b1:∀ rv1 s,rangeM (fun i s=>(S_qd_b1 t a rv1 i s).den) a.length 0 s=rangeM (fun i s=>(S_q2_b1 t a rv1 i s).den) a.length 0 s:=fun rv1 s=>z3i (fun i s hi=>by
  simp only[S_qd_b1,S_q2_b1,Scr.den]
  rw[za ⟨om,trivial⟩,y12]) s
 have b2:∀ rv1 rv5 s,rangeM (fun i s=>(S_qd_b2 a rv1 rv5 i s).den) a.length 0 s=rangeM (fun i s=>(S_q2_b2 a rv1 rv5 i s).den) a.length 0 s:=fun rv1 rv5 s=>z3i (fun i s hi=>by
  simp only[S_qd_b2,S_q2_b2,Scr.den]
  rw[za ⟨om,trivial⟩,y12]) s
 simp only[F_qd,S_qd,F_q2,S_q2,Scr.den,gdT ha,b1,b2]
theorem zaq:F_q2f a=F_q1f a:=by
 have b1:rangeM (fun i s=>(S_q13_b1 a i s).den) a.length 0 ()=rangeM (fun i s=>(S_qo_b1 a i s).den) a.length 0 ():=z3i (fun i s hi=>by
  simp only[S_q13_b1,S_qo_b1,Scr.den,y12]
  cases F_q1s (a.getD i dF) with
  | none=>rfl
  | some r =>
   simp only[obind]
   rw[za ⟨om,trivial⟩]) ()
 simp only[F_q2f,S_q2f,F_q1f,S_q1f,
  F_q13,S_q13,F_qo,S_qo,Scr.den,gdT ha,b1]
theorem zgd (i:Nat) (l:List TPo) (c:Y8) (y T:Int) (g h k u:List Int):F_qy i l c y T a g h k u=F_q9 a i l c y T g h k u:=by
 have b1:∀ s,rangeM (fun j s=>(S_qy_b1 i l a g j s).den) a.length 0 s=rangeM (fun j s=>(S_q9_b1 a i l g j s).den) a.length 0 s:=fun s=>z3i (fun j s hi=>by
  simp only[S_qy_b1,S_q9_b1,Scr.den]
  rw[za (p:=AllP [0+j<a.length]) ⟨om,trivial⟩,y12]) s
 simp only[F_qy,S_qy,F_q9,S_q9,Scr.den,gdT ha,gdT' ha,b1]
theorem zd0 (i:Nat) (l:List TPo) (c:Y8) (y T:Int) (g h k u:List Int):F_q2g i l c y T g h k u a=F_q17 i l c y T a g h k u:=by
 simp only[F_q2g,S_q2g,F_q17,S_q17,Scr.den,zaq ha,zgd ha]
theorem zdf (t:TTr) (c:Y8) (y:Int):F_q2h t c y a=F_q18 t c y a:=by
 simp only[F_q2h,S_q2h,F_q18,S_q18,F_q2r,S_q2r,F_q1t,S_q1t,Scr.den,zd0 ha]
end
end Go.Proofs.YtcfloplnjicomaaGreatDoor
