/- A part of the proof: plain laws of what the functions compute. No condition. -/
import Derived.Test.YtdmddkbngmhepaaGreatDoorG8
import Derived.Test.YtdmddkbngmhepaaGreatDoorT9
import Derived.Test.YtdmddkbngmhepaaGreatDoorT5
namespace Go.Proofs.YtdmddkbngmhepaaGreatDoor
open Go Go.TA
open Go.IntKind (i64)
def dayP (d:Int):Prop:=0<=d/\d<=35990
def amtP (n:Int):Prop:=1<=n/\n<=1000000000000
instance (d:Int):Decidable (dayP d):=inferInstanceAs (Decidable (_/\_))
instance (d:Int):Decidable (amtP d):=inferInstanceAs (Decidable (_/\_))
def yr (d:Int):Int:=if 0<=d/\d<=36000 then d / 360 else -1
variable {d:Int}
theorem zje (h:0<=d/\d<=36000):i64.wrap (d.tdiv 360)=d / 360:=by
 rw[Int.tdiv_eq_ediv_of_nonneg h.1,wrapId om om]
theorem z2l (d:Int):F_q12 d=some (decide (dayP d)):=by
 simp only[F_q12,S_q12,Scr.den,zb]
 exact yk some (Bool.eq_iff_iff.mpr (by rw[decide_eq_true_iff (p:=dayP d)]; simp[dayP]))
theorem z1p (d:Int):F_q1j d=some (decide (amtP d)):=by
 simp only[F_q1j,S_q1j,Scr.den,zb]
 exact yk some (Bool.eq_iff_iff.mpr (by rw[decide_eq_true_iff (p:=amtP d)]; simp[amtP]))
theorem z1r (n a b:Int):F_q7 n a b=some (decide (a<=n/\n<=b)):=by
 simp only[F_q7,S_q7,Scr.den,zb,y3v,Bool.decide_and]
theorem z60 (d:Int):F_q14 d=some (decide (dayP d)):=by
 simp only[F_q14,S_q14,Scr.den,z1r,obind]
 rfl
theorem z2z (d:Int):F_q1u d=some (decide (amtP d)):=by
 simp only[F_q1u,S_q1u,Scr.den,z1r,obind]
 rfl
theorem z29 (d:Int):F_q1i d=some (yr d):=by
 simp only[F_q1i,S_q1i,F_q6e,S_q6e,Scr.den,obind,zb,yr]
 by_cases h:0<=d/\d<=36000
 ·rw[y5 (by simp[h]),y6 h,zje h]
 ·rw[y6 (by simp only[yg,y3o,y9,y3v]; omega),y5 h]
theorem z4o (d:Int):F_q1t d=some (yr d):=by
 simp only[F_q1t,S_q1t,F_q6r,S_q6r,Scr.den,obind,zb,yr]
 by_cases h:0<=d/\d<=36000
 ·rw[y5 (by simp[h]),y6 h,zje h]
 ·rw[y6 (by simp only[yg,y3o,y9,y3v]; omega),y5 h]
def cmt (b:TBo) (n:Int):Int:=sm b.F (fun c=>c.X==n) (·.S)
def rel (b:TBo) (n:Int):Int:=sm b.F (fun c=>c.X==n) (·.Ac)
def ver (b:TBo) (n:Int):Int:=sm b.G (fun v=>v.Ab==n) (·.S)
def leftV (b:TBo) (r:TRe):Int:=i64.wrap (r.S-r.Ac-cmt b r.L)
def restV (b:TBo) (c:TCo):Int:=i64.wrap (c.S-c.Ac-ver b c.L)
def leftN (b:TBo) (n:Int):Int:=match b.B.find? (fun r=>r.L==n) with
 | some r=>leftV b r
 | none=>0
def usedV (b:TBo) (code:List UInt8) (y:Int):Int:=i64.wrap (sm b.B (fun r=>r.C==code&&r.E==y) (fun r=>r.S-r.Ac-rel b r.L))
theorem zac (b:TBo) (n:Int):F_q2e b n=some (i64.wrap (cmt b n),i64.wrap (rel b n)):=by
 simp only[F_q2e,S_q2e,Scr.den]
 rw[z1k b.F (fun (s:Int×Int) c=>if (c.X==n)=true then (i64.wrap (s.1+c.S),i64.wrap (s.2+c.Ac)) else s)]
 ·simp only[outM]
  have key:∀ (l:List TCo) (x y:Int),l.foldl (fun (s:Int×Int) c=>if (c.X==n)=true then (i64.wrap (s.1+c.S),i64.wrap (s.2+c.Ac)) else s) (i64.wrap x,i64.wrap y)=(i64.wrap (x+sm l (fun c=>c.X==n) (·.S)),i64.wrap (y+sm l (fun c=>c.X==n) (·.Ac))):=by
   intro l
   induction l with
   | nil=>intro x y; simp[sm]
   | cons c l ih =>
    intro x y
    rw[y2v,z12,z12]
    split
    ·simp only[z5z]; rw[ih]; simp only[y5k]
    ·rw[ih]; simp
  have e0:i64.wrap 0=0:=wrapId om om
  have:=key b.F 0 0
  rw[e0] at this
  rw[this]
  simp[cmt,rel]
 ·intro i s hi
  simp only[S_q2e_b1,Scr.den]
  split <;> rfl
theorem z83 (b:TBo) (r:TRe):F_q3n b r=some (leftV b r):=by
 simp only[F_q3n,S_q3n,Scr.den,zac,obind]
 rw[z2y,z4n]
 rfl
theorem zia (b:TBo) (n:Int):F_q2n b n=some (i64.wrap (ver b n)):=by
 simp only[F_q2n,S_q2n,Scr.den]
 rw[z1k b.G (fun (s:Int) v=>if (v.Ab==n)=true then i64.wrap (s+v.S) else s)]
 ·have e0:i64.wrap 0=0:=wrapId om om
  have:=zaa b.G (fun v=>v.Ab==n) (·.S) 0
  rw[e0] at this
  simp only[outM,this]
  simp[ver]
 ·intro i s hi
  simp only[S_q2n_b1,Scr.den]
  split <;> rfl
theorem zdw (b:TBo) (c:TCo):F_q3o b c=some (restV b c):=by
 simp only[F_q3o,S_q3o,Scr.den,zia,obind]
 rw[z2y,z4n]
 rfl
theorem z84 (b:TBo) (c:TCo):F_q1l b c=some (restV b c):=by
 simp only[F_q1l,S_q1l,Scr.den]
 rw[z1k b.G (fun (s:Int) v=>if (v.Ab==c.L)=true then i64.wrap (s-v.S) else s)]
 ·have:=zab b.G (fun v=>v.Ab==c.L) (·.S) (c.S-c.Ac)
  simp only[outM,this]
  rfl
 ·intro i s hi
  simp only[S_q1l_b1,Scr.den]
  split <;> rfl
variable {α ρ:Type} {body:Nat->Unit->Option (Step Unit ρ)}
theorem zcz [Inhabited α] (l:List α) (p:α->Bool) (v:α->ρ) (hs:∀ i,i<l.length->body i ()=some (if p (l.getD i default)=true then .ret (v (l.getD i default)) else .cont ())) :
  rangeM body l.length 0 ()=some (match l.find? p with | some x=>.ret (v x) | none=>.next ()):=by
 have key:∀ (k i:Nat),i+k=l.length->rangeM body k i ()=some (match (l.drop i).find? p with | some x=>.ret (v x) | none=>.next ()):=by
  intro k
  induction k with
  | zero=>intro i hk; rw[y1i om]; rfl
  | succ k ih =>
   intro i hk
   have hi:i<l.length:=om
   have e:l.getD i default=l[i]:=by simp[List.getD_eq_getElem?_getD,List.getElem?_eq_getElem hi]
   rw[y1l hi]
   simp only[rangeM,hs i hi,List.find?_cons,e]
   cases hp:p l[i] with
   | true=>simp
   | false=>simp only[yp,yn]; exact ih (i+1) om
 have:=key l.length 0 om
 simpa using this
theorem zqx (b:TBo) (n:Int):F_q2p b n=some (leftN b n):=by
 simp only[F_q2p,S_q2p,Scr.den]
 rw[zcz b.B (fun r=>r.L==n) (leftV b)]
 ·unfold leftN
  cases b.B.find? (fun r=>r.L==n) <;> rfl
 ·intro i hi
  simp only[S_q2p_b1,Scr.den,z83,obind]
  split <;> rfl
theorem z86 (b:TBo) (n:Int):F_qm b n=some (leftN b n):=by
 simp only[F_qm,S_qm,Scr.den]
 rw[zcz b.B (fun r=>r.L==n) (leftV b)]
 ·unfold leftN
  cases b.B.find? (fun r=>r.L==n) <;> rfl
 ·intro i hi
  simp only[S_qm_b2,Scr.den]
  split
  ·rename_i hn
   rw[z1k b.F (fun (s:Int) c=>if (c.X==n)=true then i64.wrap (s-c.S) else s)]
   ·have:=zab b.F (fun c=>c.X==n) (·.S) ((b.B.getD i default).S-(b.B.getD i default).Ac)
    simp only[outM,this]
    unfold leftV cmt
    rw[eq_of_beq hn]
   ·intro j s hj
    simp only[S_qm_b1,Scr.den]
    split <;> rfl
  ·rfl
theorem zdx (b:TBo) (code:List UInt8) (y:Int):F_q1s b code y=some (usedV b code y):=by
 simp only[F_q1s,S_q1s,Scr.den]
 rw[z1k b.B (fun (s:Int) r=>if (r.C==code&&r.E==y)=true then i64.wrap (s+(r.S-r.Ac-rel b r.L)) else s)]
 ·have e0:i64.wrap 0=0:=wrapId om om
  have:=zaa b.B (fun r=>r.C==code&&r.E==y) (fun r=>r.S-r.Ac-rel b r.L) 0
  rw[e0] at this
  simp only[outM,this]
  simp[usedV]
 ·intro i s hi
  simp only[S_q1s_b1,Scr.den,zac,obind,zb]
  split
  ·rw[z2y,z4n,za8]
  ·rfl
def goodR:List UInt8->Nat->Nat->Bool
 | [],d,p=>decide (0<d)&&decide (p<=4)
 | c :: l,d,p=>if c.toNat=46 then (if d=0 then false else goodR l 0 (p+1)) else
  if c.toNat<48\/57<c.toNat\/(d=0/\c.toNat=48)\/d=2 then false else goodR l (d+1) p
def dig (c:UInt8):Prop:=48<=c.toNat/\c.toNat<=57
def preOk:List UInt8->Prop
 | []=>True
 | [a]=>dig a/\a.toNat≠48
 | [a,b]=>dig a/\a.toNat≠48/\dig b
 | _=>False
def cntOk (ws:List (List UInt8)) (p:Nat):Bool:=match nums ws with
 | none=>false
 | some ns=>decide (ns.length+p<=5)
theorem z71 (w:List UInt8) (ws:List (List UInt8)) (p:Nat):cntOk (w :: ws) p=match pv w with
  | none=>false
  | some _=>cntOk ws (p+1):=by
 unfold cntOk
 simp only[nums]
 cases pv w with
 | none=>rfl
 | some n =>
  cases nums ws with
  | none=>rfl
  | some ns =>
   simp only[y1o,yx]
   congr 1
   rw[eq_iff_iff]; omega
theorem zbs:∀ {w:List UInt8},preOk w->w≠[]->∃ n,pv w=some n
 | [a],h,_=>⟨_,by simp only[pv]; rw[y6 ⟨by have:=h.1.1; have:=h.2; omega,h.1.2⟩]⟩
 | [a,b],h,_=>⟨_,by simp only[pv]; rw[y6 ⟨⟨by have:=h.1.1; have:=h.2.1; omega,h.1.2⟩,h.2.2⟩]⟩
 | [],_,h=>absurd rfl h
 | _ :: _ :: _ :: _,h,_=>h.elim
variable {w:List UInt8}
theorem zki {pre:List UInt8} {c:UInt8} (hc:¬ dig c):pv (pre++c :: w)=none:=by
 match pre,w with
 | [],[]=>simp only[y2c,pv]; rw[y5]; intro h; exact hc ⟨om,h.2⟩
 | [],[b]=>simp only[y2c,pv]; rw[y5]; intro h; exact hc ⟨om,h.1.2⟩
 | [],b :: d :: w=>rfl
 | [a],[]=>simp only[y39,y2c,pv]; rw[y5]; intro h; exact hc h.2
 | [a],b :: w=>rfl
 | [a,b],w=>rfl
 | a :: b :: d :: pre,w=>rfl
theorem zgz {c:UInt8} (hc:c.toNat=48):pv (c :: w)=none:=by
 match w with
 | []=>simp only[pv]; rw[y5]; omega
 | [b]=>simp only[pv]; rw[y5]; omega
 | b :: d :: w=>rfl
theorem zad:∀ (l pre p0:List UInt8) (ps:List (List UInt8)) (p:Nat),preOk pre->pieces l=p0 :: ps->goodR l pre.length p=cntOk ((pre++p0) :: ps) p
 | [],pre,p0,ps,p,hp,he=>by
  cases he
  rw[y43,z71]
  simp only[goodR]
  match pre,hp with
  | [],_=>rfl
  | a :: pre,hp =>
   obtain⟨n,hn⟩:=zbs hp sj
   rw[hn]
   simp[cntOk,nums]
 | c :: l,pre,p0,ps,p,hp,he=>by
  rw[z1u] at he
  simp only[goodR]
  by_cases hc:c.toNat=46
  ·rw[y6 (by rw[show c=46 from UInt8.toNat_inj.mp hc]; rfl)] at he
   cases he
   rw[y6 hc,y43,z71]
   match pre,hp with
   | [],_=>rfl
   | a :: pre,hp =>
    obtain⟨n,hn⟩:=zbs hp sj
    rw[hn,y5 sj]
    simp only
    cases hl:pieces l with
    | nil=>exact absurd hl (z1b l)
    | cons q qs =>
     have:=zad l [] q qs (p+1) trivial hl
     simpa using this
  ·rw[y5 (by intro h; rw[eq_of_beq h] at hc; exact hc rfl)] at he
   rw[y5 hc]
   cases hl:pieces l with
   | nil=>exact absurd hl (z1b l)
   | cons q qs =>
    rw[hl] at he
    injection he with e1 e2
    subst e1
    subst e2
    have ih:=zad l (pre++[c]) q qs p
    by_cases hd:dig c
    ·match pre,hp with
     | [],_ =>
      by_cases h0:c.toNat=48
      ·rw[y6 (by right; right; left; exact⟨rfl,h0⟩),z71,y2c,zgz h0]
      ·rw[y5 (by have:=hd.1; have:=hd.2; simp; omega)]
       exact ih ⟨hd,h0⟩ hl
     | [a],hp =>
      rw[y5 (by have:=hd.1; have:=hd.2; simp; omega)]
      have:=ih ⟨hp.1,hp.2,hd⟩ hl
      simpa using this
     | [a,b],hp =>
      rw[y6 (by right; right; right; rfl),z71]
      rfl
     | _ :: _ :: _ :: _,hp=>exact hp.elim
    ·rw[y6 (by unfold dig at hd; omega),z71,zki hd]
theorem z5d:∀ {ws:List (List UInt8)} {ns:List Int},nums ws=some ns->ns.length=ws.length
 | [],ns,h=>by cases h; rfl
 | w :: ws,ns,h=>by
  simp only[nums] at h
  split at h
  ·cases h
  ·cases hn:nums ws with
   | none=>rw[hn] at h; cases h
   | some ms =>
    rw[hn] at h
    cases h
    simp[z5d hn]
def good (l:List UInt8):Bool:=goodR l 0 1
theorem z2m (l:List UInt8):decide ((parts l).length>0)=good l:=by
 unfold good
 cases hl:pieces l with
 | nil=>exact absurd hl (z1b l)
 | cons q qs =>
  have:=zad l [] q qs 1 trivial hl
  simp only[y1p,y2c] at this
  rw[this]
  unfold parts cntOk
  rw[hl]
  cases hn:nums (q :: qs) with
  | none=>rfl
  | some ns =>
   have h1:=z5d hn
   simp only[yx] at h1
   simp only
   by_cases h4:ns.length>4
   ·simp only[y6 h4]; simp; omega
   ·simp only[y5 h4]; rw[y1k]; simp; omega
theorem z2q {l:List UInt8} (hl:l.length<4611686018427387904):F_qj l=some (good l):=by
 simp only[F_qj,S_qj,Scr.den,zb]
 generalize hF:(fun s=>(S_qj_b1 l s).den)=F
 have key:∀ (k i d p:Nat),i+k=l.length->d<=i->p<=i+1->outM (iterM F ((d:Int),(p:Int),(i:Int))) (fun s=>some (decide (s.1>0)&&decide (s.2.1<=4))) (fun x=>some (id x))=some (goodR (l.drop i) d p):=by
  intro k
  induction k with
  | zero =>
   intro i d p hk hd hp
   rw[z2d,y1i om,<- hF]
   simp only[S_qj_b1,Scr.den]
   rw[y5 sk]
   simp only[outM,goodR]
   congr 1
   rw[y1k]; simp; omega
  | succ k ih =>
   intro i d p hk hd hp
   have hi:i<l.length:=om
   have ei:l.getD i 0=l[i]:=by simp[List.getD_eq_getElem?_getD,List.getElem?_eq_getElem hi]
   rw[z2d,y1l hi,<- y48 hF]
   simp only[S_qj_b1,Scr.den,yh,ei,zb,z8]
   generalize hcc:l[i]=c
   rw[y6 sk,z6 ⟨om,hi,trivial⟩]
   have w1:i64.wrap ((p:Int)+1)=((p+1:Nat):Int):=by rw[wrapId om om]; omega
   have w2:i64.wrap ((i:Int)+1)=((i+1:Nat):Int):=by rw[wrapId om om]; omega
   have w3:i64.wrap ((d:Int)+1)=((d+1:Nat):Int):=by rw[wrapId om om]; omega
   simp only[w1,w2,w3,goodR]
   by_cases hc:c.toNat=46
   ·rw[y6 (by simp[hc]),y6 hc]
    by_cases h0:d=0
    ·rw[y6 (by simp[h0]),y6 h0]; rfl
    ·rw[y5 (by simpa using h0),y5 h0]
     have h:=ih (i+1) 0 (p+1) om om om
     rw[show ((0:Nat):Int)=0 from rfl] at h
     exact h
   ·rw[y5 sk,y5 hc,z6 ⟨fun _=>om,fun _=>hi,fun _=>om,fun _=>hi,trivial⟩]
    by_cases hb:c.toNat<48\/57<c.toNat\/(d=0/\c.toNat=48)\/d=2
    ·rw[y6 sk,y6 hb]; rfl
    ·rw[y5 sk,y5 hb]
     exact ih (i+1) (d+1) p om om om
 exact key l.length 0 0 1 om om om
theorem z2r {l:List UInt8} (hl:l.length<=1099511627776):F_q74 l=some (parts l):=by
 unfold F_q74
 exact za6 hl rfl
def lexC:List Int->List Int->Int
 | [],[]=>0
 | [],_ :: _=>-1
 | _ :: _,[]=>1
 | a :: x,b :: y=>if a<b then -1 else if a>b then 1 else lexC x y
theorem zae:∀ x,lexC x x=0
 | []=>rfl
 | a :: x=>by simp[lexC,zae x]
theorem z2u:∀ {x y:List Int},lexC x y=0->x=y
 | [],[],_=>rfl
 | [],_ :: _,h=>by simp[lexC] at h
 | _ :: _,[],h=>by simp[lexC] at h
 | a :: x,b :: y,h=>by
  simp only[lexC] at h
  split at h
  ·omega
  ·split at h
   ·omega
   ·rw[z2u h,show a=b from om]
theorem zaf:∀ x y:List Int,lexC y x=-lexC x y
 | [],[]=>rfl
 | [],_ :: _=>rfl
 | _ :: _,[]=>rfl
 | a :: x,b :: y=>by
  simp only[lexC]
  by_cases h1:a<b
  ·rw[y6 h1,y5 om,y6 om]; rfl
  ·by_cases h2:a>b
   ·rw[y6 om,y5 h1,y6 h2]
   ·rw[y5 h1,y5 h2,y5 om,y5 om,zaf x y]
theorem z93:∀ {x y z:List Int},lexC x y<0->lexC y z<0->lexC x z<0
 | [],_,[],h,h'=>by
  rename_i y
  cases y with
  | nil=>simp[lexC] at h
  | cons b y=>simp[lexC] at h'
 | [],_,c :: z,_,_=>by simp[lexC]
 | a :: x,[],_,h,_=>by simp[lexC] at h
 | a :: x,b :: y,[],_,h'=>by simp[lexC] at h'
 | a :: x,b :: y,c :: z,h,h'=>by
  simp only[lexC] at h h' |-
  by_cases h1:a<b
  ·by_cases h2:b<c
   ·rw[y6 om]; omega
   ·rw[y5 h2] at h'
    by_cases h3:b>c
    ·rw[y6 h3] at h'; omega
    ·rw[y6 om]; omega
  ·rw[y5 h1] at h
   by_cases h2:a>b
   ·rw[y6 h2] at h; omega
   ·rw[y5 h2] at h
    by_cases h3:b<c
    ·rw[y6 om]; omega
    ·rw[y5 h3] at h'
     by_cases h4:b>c
     ·rw[y6 h4] at h'; omega
     ·rw[y5 h4] at h'
      rw[y5 om,y5 om]
      exact z93 h h'
theorem zsl:∀ {w w':List UInt8} {n:Int},pv w=some n->pv w'=some n->w=w'
 | [],_,_,h,_=>by simp[pv] at h
 | [a],[],_,_,h=>by simp[pv] at h
 | [a,b],[],_,_,h=>by simp[pv] at h
 | [a],[c],n,h,h'=>by
  simp only[pv] at h h'
  split at h <;> split at h' <;> simp at h h'
  have:a.toNat=c.toNat:=om
  rw[y57.1 this]
 | [a],[c,d],n,h,h'=>by
  simp only[pv] at h h'
  split at h <;> split at h' <;> simp at h h'
  omega
 | [a,b],[c],n,h,h'=>by
  simp only[pv] at h h'
  split at h <;> split at h' <;> simp at h h'
  omega
 | [a,b],[c,d],n,h,h'=>by
  simp only[pv] at h h'
  split at h <;> split at h' <;> simp at h h'
  have h1:a.toNat=c.toNat:=om
  have h2:b.toNat=d.toNat:=om
  rw[y57.1 h1,y57.1 h2]
 | _ :: _ :: _ :: _,_,_,h,_=>by simp[pv] at h
 | _,_ :: _ :: _ :: _,_,_,h=>by simp[pv] at h
theorem zh0:∀ {ws ws':List (List UInt8)} {ns:List Int},nums ws=some ns->nums ws'=some ns->ws=ws'
 | [],[],_,_,_=>rfl
 | [],w :: ws,ns,h,h'=>by
  have h1:=z5d h; have h2:=z5d h'; simp only[y1p,yx] at h1 h2; omega
 | w :: ws,[],ns,h,h'=>by
  have h1:=z5d h; have h2:=z5d h'; simp only[y1p,yx] at h1 h2; omega
 | w :: ws,w' :: ws',ns,h,h'=>by
  simp only[nums] at h h'
  split at h
  ·cases h
  ·rename_i n hn
   split at h'
   ·cases h'
   ·rename_i n' hn'
    cases hm:nums ws with
    | none=>rw[hm] at h; cases h
    | some ms =>
     cases hm':nums ws' with
     | none=>rw[hm'] at h'; cases h'
     | some ms' =>
      rw[hm] at h; rw[hm'] at h'
      simp only[y1o,y17] at h h'
      rw[<- h] at h'
      simp only[y3p] at h'
      obtain⟨rfl,rfl⟩:=h'
      rw[zsl hn hn',zh0 hm hm']
theorem z94:∀ {l l':List UInt8},pieces l=pieces l'->l=l'
 | [],[],_=>rfl
 | [],b :: m,h=>by
  rw[z1u] at h
  split at h
  ·simp[pieces] at h; first | exact absurd h (z1b m) | exact absurd h.symm (z1b m)
  ·split at h <;> simp[pieces] at h
 | b :: m,[],h=>by
  rw[z1u] at h
  split at h
  ·simp[pieces] at h; first | exact absurd h (z1b m) | exact absurd h.symm (z1b m)
  ·split at h <;> simp[pieces] at h
 | b :: l,c :: m,h=>by
  rw[z1u,z1u] at h
  cases hl:pieces l with
  | nil=>exact absurd hl (z1b l)
  | cons p ps =>
   cases hm:pieces m with
   | nil=>exact absurd hm (z1b m)
   | cons q qs =>
    rw[hl,hm] at h
    by_cases hb:(b==46)=true
    ·by_cases hc:(c==46)=true
     ·rw[y6 hb,y6 hc] at h
      have e:pieces l=pieces m:=by rw[hl,hm]; simpa using h
      rw[z94 e,show b=c by rw[eq_of_beq hb,eq_of_beq hc]]
     ·rw[y6 hb,y5 hc] at h; simp at h
    ·by_cases hc:(c==46)=true
     ·rw[y5 hb,y6 hc] at h; simp at h
     ·rw[y5 hb,y5 hc] at h
      simp only[y3p] at h
      obtain⟨⟨rfl,rfl⟩,rfl⟩:=h
      rw[z94 (hl.trans hm.symm)]
theorem z30 {l:List UInt8} (h:good l=true):nums (pieces l)=some (parts l)/\0<(parts l).length/\(parts l).length<=4:=by
 rw[<- z2m] at h
 have h0:0<(parts l).length:=by simpa using h
 unfold parts at h0 |-
 split at h0
 ·simp at h0
 ·rename_i ns hn
  split at h0
  ·simp at h0
  ·rename_i h4
   rw[hn]
   simp only[y5 h4]
   exact⟨trivial,h0,om⟩
theorem z7o {l l':List UInt8} (h:good l=true) (h':good l'=true) (e:parts l=parts l'):l=l' :=
 z94 (zh0 (z30 h).1 (e▸(z30 h').1))
def valW (w:List UInt8):Int:=w.foldl (fun n c=>10 * n+((c.toNat:Int)-48)) 0
theorem zh1:∀ {w:List UInt8} {n:Int},pv w=some n->valW w=n/\1<=w.length/\w.length<=2/\(w.getD 0 0).toNat≠48/\∀ c∈w,48<=c.toNat/\c.toNat<=57
 | [],_,h=>by simp[pv] at h
 | [a],n,h=>by
  simp only[pv] at h
  split at h <;> simp at h
  rename_i h1
  refine⟨by simp[valW]; omega,sj,sj,sk,fun c hc=>by simp at hc; subst hc; omega⟩
 | [a,b],n,h=>by
  simp only[pv] at h
  split at h <;> simp at h
  rename_i h1
  refine⟨by simp[valW]; omega,sj,sj,sk,fun c hc=>?_⟩
  simp at hc
  rcases hc with rfl | rfl <;> omega
 | _ :: _ :: _ :: _,_,h=>by simp[pv] at h
theorem z4h {l:List UInt8} (h:good l=true):l.length<=11:=by
 have key:∀ (l:List UInt8) (ns:List Int),nums (pieces l)=some ns->l.length+1<=3 * ns.length:=by
  intro l
  suffices H:∀ (l p0:List UInt8) (ps:List (List UInt8)),pieces l=p0 :: ps->l.length=p0.length+(ps.map fun q=>q.length+1).sum by
   intro ns hn
   cases hp:pieces l with
   | nil=>exact absurd hp (z1b l)
   | cons p0 ps =>
    rw[hp] at hn
    rw[H l p0 ps hp]
    have hall:∀ (ws:List (List UInt8)) (ms:List Int),nums ws=some ms->(ws.map fun q=>q.length+1).sum<=3 * ms.length:=by
     intro ws
     induction ws with
     | nil=>intro ms hm; simp
     | cons w ws ih =>
      intro ms hm
      simp only[nums] at hm
      split at hm
      ·cases hm
      ·rename_i n hpv
       cases hw:nums ws with
       | none=>rw[hw] at hm; cases hm
       | some ks =>
        rw[hw] at hm; cases hm
        have:=ih ks hw
        have:=(zh1 hpv).2.2.1
        simp only[y3h,y37,yx]
        omega
    have:=hall _ _ hn
    simp only[y3h,y37] at this
    omega
  intro l
  induction l with
  | nil=>intro p0 ps hp; simp[pieces] at hp; obtain⟨rfl,rfl⟩:=hp; simp
  | cons b l ih =>
   intro p0 ps hp
   rw[z1u] at hp
   cases hl:pieces l with
   | nil=>exact absurd hl (z1b l)
   | cons q qs =>
    have:=ih q qs hl
    rw[hl] at hp
    split at hp
    ·simp only[y3p] at hp
     obtain⟨rfl,rfl⟩:=hp
     simp only[yx,y1p,y3h,y37]; omega
    ·simp only[y3p] at hp
     obtain⟨rfl,rfl⟩:=hp
     simp only[yx]; omega
 obtain⟨h1,h2,h3⟩:=z30 h
 have:=key l _ h1
 omega
def cmpI (a b:Int):Int:=if a<b then -1 else if a>b then 1 else 0
theorem zdy (a b:Int):F_q3m a b=some (cmpI a b):=by
 simp only[F_q3m,S_q3m,F_q5d,S_q5d,Scr.den,obind,cmpI,bne_self_eq_false,yp,yn,y7]
 by_cases h1:a<b
 ·rw[y6 h1,y6 h1]
 ·rw[y5 h1,y5 h1]
  by_cases h2:a>b
  ·rw[y6 h2,y6 h2]
  ·rw[y5 h2,y5 h2]
variable {i:Nat}
theorem z2b {l:List Int} (hi:i<l.length):l.getD i default=l[i]:=by simp[List.getD_eq_getElem?_getD,List.getElem?_eq_getElem hi]
theorem zcb (x y:List Int):F_q2b x y=some (lexC x y):=by
 simp only[F_q2b,S_q2b,Scr.den]
 generalize hB:(fun i s=>(S_q2b_b1 x y i s).den)=B
 have key:∀ (k i:Nat),i+k=x.length->i<=y.length->outM (rangeM B k i ()) (fun _=>if decide ((x.length:Int)<(y.length:Int))=true then some (-1) else some 0) (fun r=>some (id r))=some (lexC (x.drop i) (y.drop i)):=by
  intro k
  induction k with
  | zero =>
   intro i hk hy
   rw[y1i om]
   by_cases h:y.length<=i
   ·rw[y1i h]
    simp only[rangeM,outM]
    rw[y5 sk]
    rfl
   ·rw[y1l (by omega:i<y.length)]
    simp only[rangeM,outM]
    rw[y6 sk]
    rfl
  | succ k ih =>
   intro i hk hy
   have hi:i<x.length:=om
   rw[y1l hi]
   simp only[rangeM]
   rw[<- y48 (y48 hB i) ()]
   simp only[S_q2b_b1,Scr.den]
   by_cases h:y.length<=i
   ·rw[y6 sk,y1i h]
    rfl
   ·have hj:i<y.length:=om
    rw[y5 sk,z6 ⟨hj,trivial⟩,y1l hj]
    simp only[zdy,obind,z2b hi,z2b hj,lexC,cmpI]
    by_cases h1:x[i]<y[i]
    ·simp only[y6 h1]; rfl
    ·simp only[y5 h1]
     by_cases h2:x[i]>y[i]
     ·simp only[y6 h2]; rfl
     ·simp only[y5 h2]
      exact ih (i+1) om om
 have:=key x.length 0 om om
 simpa using this
def strC (a b:List UInt8):Int:=if Op.bytesLess a b=true then -1 else if (!(Op.bytesLess a b||a==b))=true then 1 else 0
def cmpC (a b:List UInt8):Int:=if (parts a).length=0/\(parts b).length=0 then strC a b else lexC (parts a) (parts b)
theorem zd0 {a b:List UInt8} (ha:a.length<=1000000) (hb:b.length<=1000000):F_q44 a b=some (cmpC a b):=by
 simp only[F_q44,S_q44,Scr.den,z2r (show a.length<=1099511627776 from om),z2r (show b.length<=1099511627776 from om),obind,zb,cmpC,zcb]
 by_cases h:(parts a).length=0/\(parts b).length=0
 ·rw[y6 (by simp[h]),y6 h]
  simp only[F_q6g,S_q6g,F_q5c,S_q5c,Scr.den,obind,beq_self_eq_true,y2r,yp,yn,strC]
  by_cases h1:Op.bytesLess a b=true
  ·rw[y6 h1,y6 h1]; rfl
  ·rw[y5 h1,y5 h1]
   by_cases h2:(!(Op.bytesLess a b||a==b))=true
   ·rw[y6 h2,y6 h2]; rfl
   ·rw[y5 h2,y5 h2]; rfl
 ·rw[y5 (by simpa using h),y5 h]
theorem z2n {a b:List UInt8} (h:good a=true\/good b=true):cmpC a b=lexC (parts a) (parts b):=by
 unfold cmpC
 rw[y5]
 rintro⟨h1,h2⟩
 rcases h with h | h
 ·have:=(z30 h).2.1; omega
 ·have:=(z30 h).2.1; omega
def cmpR (a b:TRi):Int:=if cmpC a.C b.C≠0 then cmpC a.C b.C else cmpI a.E b.E
variable {a:TRi}
theorem z73 {b:TRi} (ha:a.C.length<=1000000) (hb:b.C.length<=1000000):F_q33 a b=some (cmpR a b):=by
 simp only[F_q33,S_q33,Scr.den,zd0 ha hb,zdy,obind,F_q1c,S_q1c,S_q1c_b1,cmpR]
 by_cases h:cmpC a.C b.C=0
 ·rw[y5 (by simpa using h)]
  by_cases h2:cmpI a.E b.E=0
  ·simp[rangeM,h,h2,outM]
  ·simp[rangeM,h,h2,outM]
 ·rw[y6 h]
  simp[rangeM,h,outM]
theorem zag {l:List UInt8} (hg:good l=true):F_qq l=some (parts l):=by
 obtain⟨hn,h0,h4⟩:=z30 hg
 have hlen:=z4h hg
 simp only[F_qq,S_qq,Scr.den]
 rw[y5 sk]
 generalize hF:(fun s=>(S_qq_b1 l s).den)=F
 have w1:∀ i:Nat,i<=11->i64.wrap ((i:Int)+1)=((i+1:Nat):Int):=fun i hi=>by rw[wrapId om om]; omega
 have flush:∀ (i:Nat) (w:List UInt8) (out:List Int) (n:Int),i<=l.length->w.length<=i->(∀ j,j<w.length->l.getD (i-w.length+j) 0=w.getD j 0)->pv w=some n->(i=l.length\/(l.getD i 0).toNat=46)->out.length<=4 ->
   F (out,valW w,(w.length:Int),(i:Int))=some (.cont (out++[n],0,0,((i+1:Nat):Int))):=by
  intro i w out n hi hw hg hpv hor ho
  obtain⟨e1,e2,e3,e4,e5⟩:=zh1 hpv
  have hk:i64.wrap ((i:Int)-(w.length:Int))=((i-w.length:Nat):Int):=by rw[wrapId om om]; omega
  have h0:=hg 0 om
  rw[y3e] at h0
  rw[<- y48 hF]
  simp only[S_qq_b1,Scr.den,yh,z8,hk,h0]
  rw[y6 sk,z6 ⟨fun _=>om,fun h=>by have h:=h.1; simp at h; omega,trivial⟩,y6 (by
   rcases hor with rfl | h
   ·simp
   ·simp only[yc,y13]; right; omega),z6 ⟨fun _=>om,fun _=>om,trivial⟩,y5 (by
    simp only[yc,y13,y7]; omega),z6 ⟨om,trivial⟩,w1 i om,e1]
 have digit:∀ (i:Nat) (w:List UInt8) (out:List Int),i<l.length->(l.getD i 0).toNat≠46->48<=(l.getD i 0).toNat/\(l.getD i 0).toNat<=57->w.length<=1->(∀ c∈w,48<=c.toNat/\c.toNat<=57) ->
   F (out,valW w,(w.length:Int),(i:Int))=some (.cont (out,valW (w++[l.getD i 0]),((w++[l.getD i 0]).length:Int),((i+1:Nat):Int))):=by
  intro i w out hi h46 hd hw hall
  have hv:0<=valW w/\valW w<=9:=by
   match w,hw with
   | [],_=>simp[valW]
   | [a],_=>have:=hall a sj; simp[valW]; omega
  have e1:valW (w++[l.getD i 0])=10 * valW w+(((l.getD i 0).toNat:Int)-48):=by simp[valW]
  have e2:IntKind.u8.wrap (((l.getD i 0).toNat:Int)-48)=((l.getD i 0).toNat:Int)-48:=by
   generalize (l.getD i 0).toNat=m at hd
   simp only[IntKind.wrap,IntKind.bits,IntKind.signed]
   simp
   omega
  rw[<- y48 hF]
  simp only[S_qq_b1,Scr.den,yh,z8,e1,e2]
  rw[y6 sk,z6 ⟨fun _=>om,fun _=>om,trivial⟩,y5 (by simp only[yc,y13]; omega),z6 ⟨om,hi,fun _=>om,fun _=>hi,trivial⟩,y5 (by simp only[yc,y7]; omega),w1 i om,w1 w.length om,
   wrapId (n:=10 * valW w) om om,wrapId (n:=((l.getD i 0).toNat:Int)-48) om om,wrapId om om]
  simp
 have key:∀ (k i:Nat) (w p0:List UInt8) (ps:List (List UInt8)) (out ns:List Int),i+k=l.length->w.length<=i->(∀ j,j<w.length->l.getD (i-w.length+j) 0=w.getD j 0)->pieces (l.drop i)=p0 :: ps->nums ((w++p0) :: ps)=some ns->out.length+ns.length<=4 ->
   iterM F (out,valW w,(w.length:Int),(i:Int))=some (.next (out++ns,0,0,((l.length+1:Nat):Int))):=by
  intro k
  induction k with
  | zero =>
   intro i w p0 ps out ns hk hw hgd hpc hnm ho
   obtain rfl:i=l.length:=om
   rw[y1i (yf _)] at hpc
   simp only[pieces,y3p] at hpc
   obtain⟨rfl,rfl⟩:=hpc
   simp only[y43,nums] at hnm
   split at hnm
   ·cases hnm
   ·rename_i n hpv
    simp only[y1o,y17] at hnm
    subst hnm
    rw[z2d,flush l.length w out n (yf _) hw hgd hpv (.inl rfl) (by simp at ho; omega)]
    simp only
    rw[z2d,<- y48 hF]
    simp only[S_qq_b1,Scr.den]
    rw[y5 sk]
  | succ k ih =>
   intro i w p0 ps out ns hk hw hgd hpc hnm ho
   have hi:i<l.length:=om
   have ei:l.getD i 0=l[i]:=by simp[List.getD_eq_getElem?_getD,List.getElem?_eq_getElem hi]
   rw[y1l hi,z1u] at hpc
   cases hq:pieces (l.drop (i+1)) with
   | nil=>exact absurd hq (z1b _)
   | cons q qs =>
    rw[hq] at hpc
    by_cases hc:(l[i]==46)=true
    ·rw[y6 hc] at hpc
     simp only[y3p] at hpc
     obtain⟨rfl,rfl⟩:=hpc
     simp only[y43,nums] at hnm
     split at hnm
     ·cases hnm
     ·rename_i n hpv
      cases hm:nums (q :: qs) with
      | none=>simp only[nums] at hm; rw[hm] at hnm; cases hnm
      | some ms =>
       have hm':=hm
       simp only[nums] at hm'
       rw[hm'] at hnm
       simp only[y1o,y17] at hnm
       subst hnm
       simp only[yx] at ho
       have h46:(l.getD i 0).toNat=46:=by rw[ei,eq_of_beq hc]; rfl
       rw[z2d,flush i w out n om hw hgd hpv (.inr h46) om]
       simp only
       have:=ih (i+1) [] q qs (out++[n]) ms om sj sj hq (by simpa using hm) sk
       simpa [valW] using this
    ·rw[y5 hc] at hpc
     simp only[y3p] at hpc
     obtain⟨rfl,rfl⟩:=hpc
     have hpv:∃ n,pv (w++l[i] :: q)=some n:=by
      simp only[nums] at hnm
      split at hnm
      ·cases hnm
      ·rename_i n h; exact⟨n,h⟩
     obtain⟨n,hpv⟩:=hpv
     obtain⟨_,_,g3,_,g5⟩:=zh1 hpv
     simp only[yo,yx] at g3
     have hne:(l.getD i 0).toNat≠46:=by
      rw[ei]; intro h; exact hc (by rw[y57.1 (show l[i].toNat=(46:UInt8).toNat from h)]; rfl)
     rw[z2d,digit i w out hi hne (by rw[ei]; exact g5 l[i] sj) om (fun c hc=>g5 c (by simp[hc]))]
     simp only
     refine ih (i+1) (w++[l.getD i 0]) q qs out ns om sk (fun j hj=>?_) hq (by rw[ei]; simpa using hnm) ho
     simp only[yo,yx,y1p] at hj |-
     by_cases hjw:j<w.length
     ·have:=hgd j hjw
      rw[show i+1-(w.length+(0+1))+j=i-w.length+j from om,this]
      simp[List.getD_eq_getElem?_getD,List.getElem?_append_left hjw]
     ·obtain rfl:j=w.length:=om
      rw[show i+1-(w.length+(0+1))+w.length=i from om]
      simp[List.getD_eq_getElem?_getD]
 cases hp:pieces l with
 | nil=>exact absurd hp (z1b l)
 | cons p0 ps =>
  rw[hp] at hn
  have h:=key l.length 0 [] p0 ps [] (parts l) om sj sj (by simpa using hp) (by simpa using hn) sk
  have h':iterM F (([]:List Int),(0:Int),(0:Int),(0:Int))=some (.next (parts l,0,0,((l.length+1:Nat):Int))):=by simpa [valW] using h
  rw[h']
  simp only[outM]
  rw[y5 sk,z6 ⟨om,trivial⟩]
def ordersOf (l:List TOr) (v:Int):List TOr:=l.filter (fun o=>o.U==v)
theorem zcc [Inhabited α] (l:List α) (p:α->Bool) (v:Nat->ρ) (hs:∀ i,i<l.length->body i ()=some (if p (l.getD i default)=true then .ret (v i) else .cont ())) :
  (rangeM body l.length 0 ()=some (.next ())/\∀ x∈l,p x=false)\/∃ i,i<l.length/\p (l.getD i default)=true/\(∀ x∈l.take i,p x=false)/\rangeM body l.length 0 ()=some (.ret (v i)):=by
 have key:∀ (k i:Nat),i+k=l.length->(∀ x∈l.take i,p x=false)->(rangeM body k i ()=some (.next ())/\∀ x∈l,p x=false)\/∃ i,i<l.length/\p (l.getD i default)=true/\(∀ x∈l.take i,p x=false)/\rangeM body k (l.length-k) ()=some (.ret (v i)):=by
  intro k
  induction k with
  | zero =>
   intro i hk h
   left
   rw[y1x om] at h
   exact⟨rfl,h⟩
  | succ k ih =>
   intro i hk h
   have hi:i<l.length:=om
   have e:l.length-(k+1)=i:=om
   have e':l.length-k=i+1:=om
   rw[e]
   simp only[rangeM,hs i hi]
   cases hp:p (l.getD i default) with
   | true =>
    right
    exact⟨i,hi,hp,h,sj⟩
   | false =>
    simp only[yp,yn]
    rw[e'] at ih
    refine ih (i+1) om fun x hx=>?_
    rw[y35,y1j] at hx
    rcases hx with hx | hx
    ·exact h x hx
    ·rw[ya hi] at hx
     simp only[Option.toList_some,y2z] at hx
     rw[hx]
     simpa [List.getD_eq_getElem?_getD,List.getElem?_eq_getElem hi] using hp
 have:=key l.length 0 om sj
 simpa using this
theorem zkj (l:List α) (i n:Nat) (z:α):(clearL l (0+i) n z).take i=l.take i:=by
 apply y2t
 intro k
 simp only[y5h,clearL,List.getElem?_mapIdx]
 split
 ·cases l[k]? with
  | none=>rfl
  | some x=>simp only[y1o]; rw[y5 om]
 ·rfl
theorem zbt {l:List α} {q:α->Bool} (h:∀ x∈l,q x=true):l.filter q=l:=List.filter_eq_self.mpr h
theorem zmi {l:List TOr} (v:Int) (hl:l.length<4611686018427387904):F_q1x l v=some (ordersOf l v):=by
 have hI:(F_q1w l v=some (-1)/\∀ x∈l,(x.U==v)=true)\/∃ i:Nat,i<l.length/\((l.getD i default).U==v)=false/\(∀ x∈l.take i,(x.U==v)=true)/\F_q1w l v=some (i:Int):=by
  simp only[F_q1w,S_q1w,Scr.den]
  rw[z6 ⟨om,trivial⟩]
  have:=zcc l (fun x=>x.U != v) (fun i=>(i:Int)) (body:=fun i s=>(S_q1w_b1 l v i s).den) fun i hi=>by
   simp only[S_q1w_b1,F_q3p,S_q3p,Scr.den,obind,yu]
   rw[z6 ⟨hi,trivial⟩]
   split <;> rfl
  rcases this with ⟨h1,h2⟩ | ⟨i,h1,h2,h3,h4⟩
  ·left
   rw[h1]
   exact⟨rfl,fun x hx=>by simpa using h2 x hx⟩
  ·right
   refine⟨i,h1,by simpa [bne] using h2,fun x hx=>by simpa using h3 x hx,?_⟩
   rw[h4]
   rfl
 simp only[F_q1x,S_q1x,Scr.den]
 rcases hI with ⟨h1,h2⟩ | ⟨i0,h1,h2,h3,h4⟩
 ·rw[h1,obind,y6 (show ((-1:Int)==-1)=true from rfl),z6 ⟨om,trivial⟩]
  unfold ordersOf
  rw[zbt h2]
 ·rw[h4,obind,y5 sj]
  obtain⟨s,h5,h6⟩:=z2k (step:=fun s=>(S_q1x_b1 v s).den) (fun s=>l.length-s.2.2.toNat)
   (fun s=>s.1.length=l.length/\0<=s.2.1/\s.2.1<=s.2.2/\s.2.2<=l.length/\s.1.take s.2.1.toNat=ordersOf (l.take s.2.2.toNat) v/\s.1.drop s.2.2.toNat=l.drop s.2.2.toNat)
   (fun s=>s.1.length=l.length/\0<=s.2.1/\s.2.1<=l.length/\s.1.take s.2.1.toNat=ordersOf l v) (fun s hs=>by
    obtain⟨sl,i,j⟩:=s
    obtain⟨a1,a2,a3,a4,a5,a6⟩:=hs
    simp only at a1 a2 a3 a4 a5 a6
    by_cases hj:j<(l.length:Int)
    ·left
     have hjn:j.toNat<sl.length:=om
     have hjl:j.toNat<l.length:=om
     have ex:sl.getD j.toNat default=l.getD j.toNat default:=by
      have:=yk (fun t=>t[0]?) a6
      simp only[y2g,y3e] at this
      rw[y8,y8,this]
     have et:ordersOf (l.take (j.toNat+1)) v=ordersOf (l.take j.toNat) v++if ((l.getD j.toNat default).U==v)=true then [l.getD j.toNat default] else []:=by
      unfold ordersOf
      rw[y35,List.filter_append,ya hjl]
      simp only[Option.toList_some,y8,ya hjl,y3w,y30,List.filter_nil]
     have w1:i64.wrap (i+1)=i+1:=wrapId om om
     have w2:i64.wrap (j+1)=j+1:=wrapId om om
     have en:(j+1).toNat=j.toNat+1:=om
     have em:(i+1).toNat=i.toNat+1:=om
     have dj:sl.drop (j.toNat+1)=l.drop (j.toNat+1):=by
      have:=yk (List.drop 1) a6
      simpa [List.drop_drop] using this
     simp only[S_q1x_b1,F_q3p,S_q3p,Scr.den,obind,yu,ex,w1,w2]
     rw[y6 sk,z6 ⟨om,om,om,trivial⟩]
     by_cases hv:((l.getD j.toNat default).U==v)=true
     ·rw[y6 (by simp only[bne,hv]; rfl),z6 ⟨om,om,om,trivial⟩]
      refine⟨_,rfl,⟨by simpa using a1,by simp only; omega,by simp only; omega,by simp only; omega,?_,?_⟩,by simp only; omega⟩
      ·simp only[en,em]
       rw[et,y6 hv,<- a5,y35,y5d om,y12 om]
       rfl
      ·simp only[en]
       rw[List.drop_set_of_lt om,dj]
     ·rw[y5 (by simp only[bne,hv]; simp)]
      refine⟨_,rfl,⟨a1,a2,by simp only; omega,by simp only; omega,?_,?_⟩,by simp only; omega⟩
      ·simp only[en]
       rw[et,y5 hv,y43,a5]
      ·simp only[en]
       exact dj
    ·right
     simp only[S_q1x_b1,Scr.den]
     rw[y5 sk]
     refine⟨_,rfl,a1,a2,by simp only; omega,?_⟩
     simp only
     rw[a5,y1x om]) _ (l,(i0:Int),i64.wrap ((i0:Int)+1)) (y49 _) (by
    have w2:i64.wrap ((i0:Int)+1)=i0+1:=wrapId om om
    have en:((i0:Int)+1).toNat=i0+1:=om
    simp only[w2,en,yh]
    refine⟨trivial,om,om,om,?_,trivial⟩
    unfold ordersOf
    rw[y35,List.filter_append,zbt h3,ya h1]
    simp only[y8,ya h1,y3w] at h2
    simp[h2])
  obtain⟨b1,b2,b3,b4⟩:=h6
  rw[h5]
  simp only[outM]
  rw[z6 ⟨b2,om,trivial⟩,z6 ⟨by rw[z1g]; omega,trivial⟩,z6 ⟨by rw[z1g]; omega,trivial⟩,zkj,b4]
def Few (b:TBo):Prop:=b.B.length<=1000000/\b.F.length<=1000000/\b.G.length<=1000000/\b.Q.length<=1000000
theorem zf4 {l:List TOr} (hl:l.length<=1000000):F_q4c l=some l:=by
 simp only[F_q4c,S_q4c,Scr.den]
 rw[z6 ⟨om,trivial⟩]
theorem zmj {l:List TRe} (hl:l.length<=1000000):F_q5i l=some l:=by
 simp only[F_q5i,S_q5i,Scr.den]
 rw[z6 ⟨om,trivial⟩]
theorem zmk {l:List TCo} (hl:l.length<=1000000):F_q5j l=some l:=by
 simp only[F_q5j,S_q5j,Scr.den]
 rw[z6 ⟨om,trivial⟩]
theorem zml {l:List TVe} (hl:l.length<=1000000):F_q5k l=some l:=by
 simp only[F_q5k,S_q5k,Scr.den]
 rw[z6 ⟨om,trivial⟩]
variable {b:TBo}
theorem z1x (h:Few b):F_q1z b=some (b.B,b.F,b.G,b.Q):=by
 simp only[F_q1z,S_q1z,Scr.den,zmj h.1,zmk h.2.1,zml h.2.2.1,zf4 h.2.2.2,obind]
theorem z27 (h:Few b):F_q26 b=some (b.B,b.F,b.G,b.Q):=by
 obtain⟨h1,h2,h3,h4⟩:=h
 simp only[F_q26,S_q26,Scr.den]
 rw[z6 ⟨om,om,om,om,trivial⟩]
theorem zf5 (h:b.Q.length<=1000000) (v:Int):F_q4d b v=some (ordersOf b.Q v):=by
 simp only[F_q4d,S_q4d,Scr.den,zf4 h,obind,zmi v (show b.Q.length<4611686018427387904 from om)]
theorem zbg (l:List TOr) (o:TOr):F_q5h l o=some (l.any fun x=>!x.Al||decide (x.Aa>o.Aa)):=by
 simp only[F_q5h,S_q5h,F_q2o,S_q2o,Scr.den]
 rcases zcc l (fun x=>!x.Al||decide (x.Aa>o.Aa)) (fun i=>(i:Int)) (body:=fun i s=>(S_q2o_b1 l o i s).den) (fun i hi=>by
  simp only[S_q2o_b1,F_q6s,S_q6s,Scr.den,obind,z8]
  split <;> rfl) with ⟨h1,h2⟩ | ⟨i,h1,h2,h3,h4⟩
 ·rw[h1]
  simp only[outM,obind]
  rw[List.any_eq_false.mpr fun x hx=>by rw[h2 x hx]; simp]
  rfl
 ·rw[h4]
  simp only[outM,obind]
  rw[List.any_eq_true.mpr ⟨_,z7 h1,h2⟩]
  simp
def noOrder:TOr:=⟨0,0,0,0,false⟩
def lastV (b:TBo) (v:Int):TOr:=(ordersOf b.Q v).getLastD noOrder
theorem zjf (h:b.Q.length<=1000000) (v:Int):F_q27 b v=some (lastV b v,((ordersOf b.Q v).length:Int)):=by
 simp only[F_q27,S_q27,Scr.den]
 rw[z1k b.Q (fun (s:TOr×Int) o=>if (o.U==v)=true then (o,i64.wrap (s.2+1)) else s)]
 ·have key:∀ (l:List TOr) (x:TOr) (n:Nat),n+l.length<=1000000->l.foldl (fun (s:TOr×Int) o=>if (o.U==v)=true then (o,i64.wrap (s.2+1)) else s) (x,(n:Int))=((ordersOf l v).getLastD x,((n+(ordersOf l v).length:Nat):Int)):=by
   intro l
   induction l with
   | nil=>intro x n _; rfl
   | cons o l ih =>
    intro x n hn
    simp only[yx] at hn
    rw[y2v]
    unfold ordersOf
    rw[y30]
    by_cases ho:(o.U==v)=true
    ·rw[y6 ho,y6 ho]
     rw[show i64.wrap ((n:Int)+1)=((n+1:Nat):Int) by rw[wrapId om om]; omega,ih o (n+1) om]
     rw[List.getLastD_cons]
     simp only[yx,ordersOf]
     congr 2
     omega
    ·rw[y5 ho,y5 ho,ih x n om]
     rfl
  have:=key b.Q noOrder 0 om
  rw[show (((0:Nat)):Int)=0 from rfl] at this
  simp only[outM]
  unfold noOrder at this
  rw[this]
  simp[lastV,noOrder]
 ·intro i s hi
  simp only[S_q27_b1,Scr.den]
  split <;> rfl
theorem zt (gs:List Prop) (x d:α) [Decidable (AllP gs)]:optD gs (some x) d=some (if AllP gs then x else d):=by
 unfold optD
 by_cases h:AllP gs
 ·rw[y6 h,y6 h]
 ·rw[y5 h,y5 h]
variable {x:Option α}
theorem z7p {gs:List Prop} {y d:α} [Decidable (AllP gs)] (h:AllP gs->x=some y):optD gs x d=some (if AllP gs then y else d):=by
 by_cases hg:AllP gs
 ·rw[y6 hg,zf hg,h hg]
 ·rw[y5 hg,zq hg]
theorem z1c (a x d:Bool) [Decidable (AllP [a=false])]:(a||!(if AllP [a=false] then x else d))=(a||!x):=by
 cases a <;> simp[AllP]
theorem zh2 (a:Bool) (x d y:Int) [Decidable (AllP [a=false])]:(a||((if AllP [a=false] then x else d) != y))=(a||(x != y)):=by
 cases a <;> simp[AllP]
theorem zq2 (a:Bool) (x d y z:Int) [Decidable (AllP [a=false])]:(a||decide ((if AllP [a=false] then x else d)>i64.wrap ((if AllP [a=false] then y else z)+1)))=(a||decide (x>i64.wrap (y+1))):=by
 cases a <;> simp[AllP]
theorem z3l (a x d:Bool) [Decidable (AllP [a=true])]:(a&&(if AllP [a=true] then x else d))=(a&&x):=by
 cases a <;> simp[AllP]
theorem zdz (a:Bool) (x d y:Int) [Decidable (AllP [a=true])]:(a&&((if AllP [a=true] then x else d)==y))=(a&&(x==y)):=by
 cases a <;> simp[AllP]
theorem zmm (a:Bool) (x d y:Int) [Decidable (AllP [a=true])]:(a&&decide ((if AllP [a=true] then x else d)>=y))=(a&&decide (x>=y)):=by
 cases a <;> simp[AllP]
theorem zmn (a:Bool) (x d y z:Int) [Decidable (AllP [a=true])]:(a&&decide ((if AllP [a=true] then x else d)<=i64.wrap ((if AllP [a=true] then y else z)+1)))=(a&&decide (x<=i64.wrap (y+1))):=by
 cases a <;> simp[AllP]
theorem zqy (a:Bool) (x d:List α) [Decidable (AllP [a=true])]:(a&&decide (((if AllP [a=true] then x else d).length:Int)>0))=(a&&decide (x.length>0)):=by
 cases a <;> simp[AllP]
def RFld (r:TRe) (n:Int):Prop:=r.L=n/\good r.C=true/\(0<=r.E/\r.E<=99)/\dayP r.Aa/\yr r.Aa=r.E/\amtP r.S/\(0<=r.Ac/\r.Ac<=r.S)
def rAt (b:TBo) (n:Int):TRe:=b.B.getD (n-1).toNat default
def cAt (b:TBo) (n:Int):TCo:=b.F.getD (n-1).toNat default
def vAt (b:TBo) (n:Int):TVe:=b.G.getD (n-1).toNat default
def Small (b:TBo):Prop:=Few b/\∀ r∈b.B,r.C.length<=1000000
theorem z61 {n:Nat} (hi:i<n) (hn:n<=1000000):i64.wrap ((i:Int)+1)=(i:Int)+1:=wrapId om om
theorem resC (hb:Small b) (hi:i<b.B.length):∃ C:Bool,(S_q1k_b1 b i ()).den=(if C=true then some (.ret false) else some (.cont ()))/\(C=false↔RFld (b.B.getD i default) (i+1)):=by
 have hw:=z61 hi hb.1.1
 have hc:=hb.2 _ (z7 hi)
 simp only[S_q1k_b1,Scr.den]
 generalize b.B.getD i default=r at hc |-
 rw[hw,z2q om]
 open Classical in simp only[z2l,z29,z1p,zt,obind,z8,z1c,zh2]
 refine⟨_,rfl,?_⟩
 simp only[RFld,y2n,bne_eq_false_iff_eq,Bool.not_eq_false',y9,y7]
 constructor
 ·rintro⟨⟨⟨⟨⟨⟨⟨⟨h1,h2⟩,h3⟩,h4⟩,h5⟩,h6⟩,h7⟩,h8⟩,h9⟩
  exact⟨h1,h2,om,h5,h6,h7,om⟩
 ·rintro⟨h1,h2,h3,h4,h5,h6,h7⟩
  exact⟨⟨⟨⟨⟨⟨⟨⟨h1,h2⟩,om⟩,om⟩,h4⟩,h5⟩,h6⟩,om⟩,om⟩
theorem resP (hb:Small b) (hi:i<b.B.length):∃ C:Bool,F_q49 b i=some C/\(C=true↔RFld (b.B.getD i default) (i+1)/\0<=leftV b (b.B.getD i default)):=by
 have hw:=z61 hi hb.1.1
 have hc:=hb.2 _ (z7 hi)
 simp only[F_q49,S_q49,Scr.den,yh]
 rw[z6 ⟨om,hi,trivial⟩]
 generalize b.B.getD i default=r at hc |-
 rw[hw,z2r om]
 open Classical in simp only[z60,z4o,z2z,z1r,z83,zt,obind,zb,z3l,zdz,zmm,zqy]
 refine⟨_,rfl,?_⟩
 simp only[z2m,RFld,yl,y13,y7,y3v,and_assoc]
theorem z1d {x:Int} {n:Nat} (h:1<=x/\x<=(n:Int)) (hn:n<=1000000):i64.wrap (x-1)=x-1:=wrapId om om
def CFld (b:TBo) (c:TCo) (n:Int):Prop:=c.L=n/\(1<=c.X/\c.X<=b.B.length)/\dayP c.Aa/\amtP c.S/\(0<=c.Ac/\c.Ac<=c.S)/\(1<=c.Ah/\c.Ah<=1000000)/\dayP c.Aj/\(rAt b c.X).Aa<=c.Aa/\yr c.Aa=(rAt b c.X).E
theorem comC (hb:Small b) (hi:i<b.F.length):(CFld b (b.F.getD i default) (i+1)->(S_q9_b1 b i ()).den=some (.cont ()))/\(¬ CFld b (b.F.getD i default) (i+1)->(S_q9_b1 b i ()).den=some (.ret false)):=by
 have hw:=z61 hi hb.1.2.1
 simp only[S_q9_b1,Scr.den]
 generalize b.F.getD i default=c
 rw[hw]
 open Classical in simp only[z2l,z29,z1p,zt,obind,z8,z1c,zh2]
 split
 ·rename_i h
  refine⟨fun hp=>?_,fun _=>rfl⟩
  exfalso
  obtain⟨h1,h2,h3,h4,h5,h6,h7,_⟩:=hp
  simp only[yc,y1q,ne_eq,yg,y9,y7] at h
  rcases h with (((((((((h | h) | h) | h) | h) | h) | h) | h) | h) | h) <;> first | exact h h1 | exact h h3 | exact h h4 | exact h h7 | omega
 ·rename_i h
  simp only[yc,y1q,ne_eq,yg,y9,y7,y4q,y2u] at h
  obtain⟨⟨⟨⟨⟨⟨⟨⟨⟨h1,h2⟩,h3⟩,h4⟩,h5⟩,h6⟩,h7⟩,h8⟩,h9⟩,h10⟩:=h
  rw[z1d (n:=b.B.length) om hb.1.1,z6 ⟨om,om,trivial⟩]
  change (_->(if (_||_)=true then _ else _)=_)/\_
  have e:CFld b c (i+1)↔(rAt b c.X).Aa<=c.Aa/\yr c.Aa=(rAt b c.X).E :=
   ⟨fun h=>⟨h.2.2.2.2.2.2.2.1,h.2.2.2.2.2.2.2.2⟩,fun h=>⟨h1,om,h4,h5,om,om,h10,h.1,h.2⟩⟩
  rw[e]
  unfold rAt
  split
  ·rename_i h
   refine⟨fun hp=>?_,fun _=>rfl⟩
   exfalso
   simp only[yc,y1q,ne_eq,y7] at h
   rcases h with h | h
   ·omega
   ·exact h hp.2
  ·rename_i h
   refine⟨fun _=>rfl,fun hp=>?_⟩
   exfalso
   simp only[yc,y1q,ne_eq,y7,y4q,y2u] at h
   exact hp ⟨om,h.2⟩
theorem comP (hb:Small b) (hi:i<b.F.length):∃ C:Bool,F_q4a b i=some C/\(C=true↔CFld b (b.F.getD i default) (i+1)/\0<=restV b (b.F.getD i default)):=by
 have hw:=z61 hi hb.1.2.1
 obtain⟨c,hc⟩:∃ c,b.F.getD i default=c:=⟨_,rfl⟩
 simp only[F_q4a,S_q4a,Scr.den,yh]
 rw[z6 ⟨om,hi,trivial⟩]
 open Classical in simp only[hc,hw,z60,z4o,z2z,z1r,zdw,zt,obind,zb,z8,z1c]
 by_cases h:(c.L != (i:Int)+1||!decide (1<=c.X/\c.X<=b.B.length))=true
 ·rw[y6 h]
  refine⟨false,rfl,?_⟩
  simp only[yc,y1q,ne_eq,yg,y9] at h
  constructor
  ·intro h; cases h
  ·intro hp
   rcases h with h | h
   ·exact absurd hp.1.1 h
   ·exact absurd hp.1.2.1 h
 ·rw[y5 h]
  simp only[yc,y1q,ne_eq,yg,y9,y4q,y2u] at h
  rw[z1d (n:=b.B.length) h.2 hb.1.1,z6 ⟨om,om,trivial⟩]
  open Classical in simp only[z3l,zdz,zmm]
  refine⟨_,rfl,?_⟩
  simp only[CFld,yl,y13,y7,y3v]
  constructor
  ·rintro⟨⟨⟨⟨⟨⟨⟨h1,h2⟩,h3⟩,h4⟩,h5⟩,h6⟩,h7⟩,h8⟩
   exact⟨⟨h.1,h.2,h1,h4,h5,h6,h7,h2,h3⟩,h8⟩
  ·rintro⟨⟨_,_,h1,h4,h5,h6,h7,h2,h3⟩,h8⟩
   exact⟨⟨⟨⟨⟨⟨⟨h1,h2⟩,h3⟩,h4⟩,h5⟩,h6⟩,h7⟩,h8⟩
def RAll (b:TBo):Prop:=∀ i,i<b.B.length->RFld (b.B.getD i default) (i+1)
def CAll (b:TBo):Prop:=∀ i,i<b.F.length->CFld b (b.F.getD i default) (i+1)
def yearOf (b:TBo) (n:Int):Int:=(rAt b (cAt b n).X).E
theorem RAll.at {b:TBo} (h:RAll b) {n:Int} (hn:1<=n/\n<=b.B.length):RFld (rAt b n) n:=by
 have:=h (n-1).toNat om
 rwa [show (((n-1).toNat:Nat):Int)+1=n from om] at this
theorem CAll.at {b:TBo} (h:CAll b) {n:Int} (hn:1<=n/\n<=b.F.length):CFld b (cAt b n) n:=by
 have:=h (n-1).toNat om
 rwa [show (((n-1).toNat:Nat):Int)+1=n from om] at this
variable {n:Int}
theorem zqz (hR:RAll b) (hC:CAll b) (hn:1<=n/\n<=b.F.length):0<=yearOf b n/\yearOf b n<=99 :=
 (hR.at (hC.at hn).2.1).2.2.1
theorem z5u (hb:Small b) (hC:CAll b) (hn:1<=n/\n<=b.F.length):F_q25 b n=some (yearOf b n):=by
 have h:=(hC.at hn).2.1
 unfold cAt at h
 simp only[F_q25,S_q25,Scr.den]
 rw[z1d hn hb.1.2.1,z1d h hb.1.1,z6 ⟨om,om,om,om,trivial⟩]
 rfl
theorem zb1 (hb:Small b) {c:TCo} (h:1<=c.X/\c.X<=b.B.length):F_q1v b c=some (rAt b c.X).E:=by
 simp only[F_q1v,S_q1v,Scr.den]
 rw[z1d h hb.1.1,z6 ⟨om,om,trivial⟩]
 rfl
theorem z62 (hR:RAll b) (hC:CAll b) (hn:1<=n/\n<=b.F.length):i64.wrap (yearOf b n+1)=yearOf b n+1:=by
 have:=zqz hR hC hn
 exact wrapId om om
def VFld (b:TBo) (v:TVe) (n:Int):Prop:=v.L=n/\(1<=v.Ab/\v.Ab<=b.F.length)/\dayP v.Aa/\amtP v.S/\(cAt b v.Ab).Aa<=v.Aa/\yr v.Aa<=yearOf b v.Ab+1
theorem verC (hb:Small b) (hR:RAll b) (hC:CAll b) (hi:i<b.G.length):(VFld b (b.G.getD i default) (i+1)->(S_q0_b1 b i ()).den=some (.cont ()))/\(¬ VFld b (b.G.getD i default) (i+1)->(S_q0_b1 b i ()).den=some (.ret false)):=by
 have hw:=z61 hi hb.1.2.2.1
 obtain⟨v,hv⟩:∃ v,b.G.getD i default=v:=⟨_,rfl⟩
 open Classical in simp only[S_q0_b1,Scr.den,hv,hw,z2l,z29,z1p,zt,obind,z8,z1c]
 by_cases hA:(v.L != (i:Int)+1||decide (v.Ab<1)||decide (v.Ab>b.F.length))=true
 ·rw[hA]
  simp only[Bool.true_or]
  rw[zq (by simp[AllP]),obind,z6 (by simp[AllP]),y6 trivial]
  refine⟨fun hp=>?_,fun _=>rfl⟩
  exfalso
  obtain⟨h1,h2,_⟩:=hp
  simp only[yc,y1q,ne_eq,y7] at hA
  rcases hA with (h | h) | h
  ·exact h h1
  ·omega
  ·omega
 ·simp only[yc,y1q,ne_eq,y7,y4q,y2u] at hA
  have hn:1<=v.Ab/\v.Ab<=b.F.length:=om
  open Classical in rw[z7p (y:=yearOf b v.Ab) fun _=>z5u hb hC hn]
  rw[z1d hn hb.1.2.1,obind,z6 ⟨fun _=>om,fun _=>om,trivial⟩]
  open Classical in simp only[zq2]
  rw[z62 hR hC hn]
  split
  ·rename_i h
   refine⟨fun hp=>?_,fun _=>rfl⟩
   exfalso
   obtain⟨h1,h2,h3,h4,h5,h6⟩:=hp
   unfold cAt at h5
   simp only[yc,y1q,ne_eq,yg,y9,y7] at h
   rcases h with ((((((h | h) | h) | h) | h) | h) | h) <;> first | exact h h1 | exact h h3 | exact h h4 | omega
  ·rename_i h
   refine⟨fun _=>rfl,fun hp=>?_⟩
   exfalso
   simp only[yc,y1q,ne_eq,yg,y9,y7,y4q,y2u] at h
   obtain⟨⟨⟨⟨⟨⟨h1,h2⟩,h3⟩,h4⟩,h5⟩,h6⟩,h7⟩:=h
   exact hp ⟨h1,hn,h4,h5,by unfold cAt; omega,om⟩
theorem verP (hb:Small b) (hR:RAll b) (hC:CAll b) (hi:i<b.G.length):∃ C:Bool,F_q4b b i=some C/\(C=true↔VFld b (b.G.getD i default) (i+1)):=by
 have hw:=z61 hi hb.1.2.2.1
 obtain⟨v,hv⟩:∃ v,b.G.getD i default=v:=⟨_,rfl⟩
 simp only[F_q4b,S_q4b,Scr.den,yh]
 rw[z6 ⟨om,hi,trivial⟩]
 open Classical in simp only[hv,hw,z60,z4o,z2z,z1r,zt,obind,zb,z8,z1c]
 by_cases h:(v.L != (i:Int)+1||!decide (1<=v.Ab/\v.Ab<=b.F.length))=true
 ·rw[y6 h]
  refine⟨false,rfl,?_⟩
  simp only[yc,y1q,ne_eq,yg,y9] at h
  constructor
  ·intro h; cases h
  ·intro hp
   rcases h with h | h
   ·exact absurd hp.1 h
   ·exact absurd hp.2.1 h
 ·rw[y5 h]
  simp only[yc,y1q,ne_eq,yg,y9,y4q,y2u] at h
  have hn:=h.2
  have hc:=(hC.at hn).2.1
  rw[z1d hn hb.1.2.1,z6 ⟨om,om,trivial⟩]
  change ∃ C,(optD _ (F_q1v b (cAt b v.Ab)) _).bind _=_/\_
  open Classical in rw[z7p fun _=>zb1 hb hc]
  open Classical in simp only[obind,z3l,zmn]
  refine⟨_,rfl,?_⟩
  have hy:=z62 hR hC hn
  unfold yearOf at hy
  rw[hy]
  simp only[VFld,yl,y7,y3v]
  constructor
  ·rintro⟨⟨⟨h1,h2⟩,h3⟩,h4⟩
   exact⟨h.1,h.2,h1,h4,h2,h3⟩
  ·rintro⟨_,_,h1,h4,h2,h3⟩
   exact⟨⟨⟨h1,h2⟩,h3⟩,h4⟩
def VAll (b:TBo):Prop:=∀ i,i<b.G.length->VFld b (b.G.getD i default) (i+1)
theorem VAll.at {b:TBo} (h:VAll b) {n:Int} (hn:1<=n/\n<=b.G.length):VFld b (vAt b n) n:=by
 have:=h (n-1).toNat om
 rwa [show (((n-1).toNat:Nat):Int)+1=n from om] at this
def OFld (b:TBo) (o:TOr) (bef:List TOr) (n:Int):Prop:=o.L=n/\(1<=o.U/\o.U<=b.G.length)/\dayP o.Aa/\(vAt b o.U).Aa<=o.Aa/\yr o.Aa<=yearOf b (vAt b o.U).Ab+1/\o.Ak=(ordersOf bef o.U).length+1/\(ordersOf bef o.U).any (fun x=>!x.Al||decide (x.Aa>o.Aa))=false
theorem zmo (hi:i<b.Q.length) (hb:Small b):rangeM (fun j s=>(S_q0_b3 b i j s).den) (b.Q.take i).length 0 1=some (if (ordersOf (b.Q.take i) (b.Q.getD i default).U).any (fun x=>!x.Al||decide (x.Aa>(b.Q.getD i default).Aa))=true then .ret false else .next ((ordersOf (b.Q.take i) (b.Q.getD i default).U).length+1)):=by
 have hl:=hb.1.2.2.2
 have hlt:(b.Q.take i).length<=1000000:=by rw[y1f]; omega
 simp only[S_q0_b3,Scr.den,z8]
 generalize b.Q.take i=l at hlt |-
 generalize b.Q.getD i default=o
 generalize hF:(fun (j:Nat) (s:Int)=>_)=F
 have key:∀ (k j n:Nat),j+k=l.length->n<=j+1->rangeM F k j (n:Int)=some (if (ordersOf (l.drop j) o.U).any (fun x=>!x.Al||decide (x.Aa>o.Aa))=true then .ret false else .next (((ordersOf (l.drop j) o.U).length+n:Nat):Int)):=by
  intro k
  induction k with
  | zero=>intro j n hk hn; rw[y1i om]; simp[rangeM,ordersOf]
  | succ k ih =>
   intro j n hk hn
   have hj:j<l.length:=om
   have e:l.getD j default=l[j]:=by simp[List.getD_eq_getElem?_getD,List.getElem?_eq_getElem hj]
   have w1:i64.wrap ((n:Int)+1)=((n+1:Nat):Int):=by rw[wrapId om om]; omega
   rw[y1l hj]
   unfold ordersOf
   simp only[rangeM,y30]
   rw[<- y48 (y48 hF j) (n:Int)]
   simp only[e,w1]
   generalize l[j]=x
   by_cases hv:x.U=o.U
   ·have e1:(x.U != o.U)=false:=by simp[hv]
    have e2:(x.U==o.U)=true:=by simp[hv]
    simp only[e1,e2,yp,yn,yz]
    by_cases hx:(!x.Al||decide (x.Aa>o.Aa))=true
    ·rw[y6 hx,y6 (by rw[y4s,hx]; rfl)]
    ·rw[y5 hx]
     simp only
     rw[ih (j+1) (n+1) om om]
     rw[y4s,Bool.eq_false_iff.mpr hx,y3i]
     unfold ordersOf
     simp only[yx]
     congr 3
     omega
   ·have e1:(x.U != o.U)=true:=by simp[hv]
    have e2:(x.U==o.U)=false:=by simp[hv]
    simp only[e1,e2,yp,yn,yz]
    rw[ih (j+1) n om om]
    rfl
 have:=key l.length 0 1 om om
 simpa using this
theorem ordC (hb:Small b) (hR:RAll b) (hC:CAll b) (hV:VAll b) (hi:i<b.Q.length):(OFld b (b.Q.getD i default) (b.Q.take i) (i+1)->(S_q0_b4 b i ()).den=some (.cont ()))/\(¬ OFld b (b.Q.getD i default) (b.Q.take i) (i+1)->(S_q0_b4 b i ()).den=some (.ret false)):=by
 have hw:=z61 hi hb.1.2.2.2
 have hcnt:=zmo hi hb
 obtain⟨o,ho⟩:∃ v,b.Q.getD i default=v:=⟨_,rfl⟩
 open Classical in simp only[S_q0_b4,Scr.den,hcnt,ho,hw,z2l,z29,zt,obind,z8,z1c]
 split
 ·rename_i h
  refine⟨fun hp=>?_,fun _=>rfl⟩
  exfalso
  obtain⟨h1,h2,h3,_⟩:=hp
  simp only[yc,y1q,ne_eq,yg,y9,y7] at h
  rcases h with ((h | h) | h) | h <;> first | exact h h1 | exact h h3 | omega
 ·rename_i h
  simp only[yc,y1q,ne_eq,yg,y9,y7,y4q,y2u] at h
  obtain⟨⟨⟨h1,h2⟩,h3⟩,h4⟩:=h
  have hn:1<=o.U/\o.U<=b.G.length:=om
  have hv:=(hV.at hn).2.1
  rw[z1d hn hb.1.2.2.1,z6 ⟨om,om,trivial⟩]
  change (_->(optD _ (F_q25 b (vAt b o.U).Ab) _).bind _=_)/\(_->(optD _ (F_q25 b (vAt b o.U).Ab) _).bind _=_)
  open Classical in rw[z7p fun _=>z5u hb hC hv]
  open Classical in simp only[obind,zq2]
  rw[z62 hR hC hv]
  have hle:i<=b.Q.length:=om
  rw[z6 ⟨hle,trivial⟩]
  by_cases hG:(decide (o.Aa<(b.G.getD (o.U-1).toNat default).Aa)||decide (yr o.Aa>yearOf b (vAt b o.U).Ab+1))=true
  ·rw[y6 hG]
   refine⟨fun hp=>?_,fun _=>rfl⟩
   exfalso
   obtain⟨_,_,_,h5,h6,_⟩:=hp
   change (decide (o.Aa<(vAt b o.U).Aa)||_)=true at hG
   simp only[yc,y7] at hG
   omega
  ·rw[y5 hG]
   change ¬ (decide (o.Aa<(vAt b o.U).Aa)||_)=true at hG
   simp only[yc,y7,y4q] at hG
   by_cases hx:(ordersOf (b.Q.take i) o.U).any (fun x=>!x.Al||decide (x.Aa>o.Aa))=true
   ·rw[y6 hx]
    refine⟨fun hp=>?_,fun _=>rfl⟩
    exfalso
    rw[hp.2.2.2.2.2.2] at hx
    cases hx
   ·rw[y5 hx]
    simp only[outM]
    split
    ·rename_i ha
     refine⟨fun hp=>?_,fun _=>rfl⟩
     exfalso
     simp only[y1q,ne_eq] at ha
     exact ha hp.2.2.2.2.2.1
    ·rename_i ha
     refine⟨fun _=>rfl,fun hp=>?_⟩
     exfalso
     simp only[y1q,ne_eq,y2u] at ha
     exact hp ⟨h1,hn,h4,om,om,ha,Bool.eq_false_iff.mpr hx⟩
theorem ordP (hb:Small b) (hR:RAll b) (hC:CAll b) (hV:VAll b) (hi:i<b.Q.length):∃ C:Bool,F_q4e b i=some C/\(C=true↔OFld b (b.Q.getD i default) (b.Q.take i) (i+1)):=by
 have hw:=z61 hi hb.1.2.2.2
 have hl:=hb.1.2.2.2
 obtain⟨o,ho⟩:∃ v,b.Q.getD i default=v:=⟨_,rfl⟩
 have hlt:(b.Q.take i).length<=1000000:=by rw[y1f]; omega
 have hle:i<=b.Q.length:=om
 simp only[F_q4e,S_q4e,Scr.den,yh]
 rw[z6 ⟨om,hi,trivial⟩]
 open Classical in simp only[ho,hw,z60,z4o,z1r,zt,obind,zb,z8,z1c]
 by_cases h:(o.L != (i:Int)+1||!decide (1<=o.U/\o.U<=b.G.length))=true
 ·rw[y6 h]
  refine⟨false,rfl,?_⟩
  simp only[yc,y1q,ne_eq,yg,y9] at h
  constructor
  ·intro h; cases h
  ·intro hp
   rcases h with h | h
   ·exact absurd hp.1 h
   ·exact absurd hp.2.1 h
 ·rw[y5 h]
  simp only[yc,y1q,ne_eq,yg,y9,y4q,y2u] at h
  have hn:=h.2
  have hv:=(hV.at hn).2.1
  have hc:=(hC.at hv).2.1
  rw[z1d hn hb.1.2.2.1,z6 ⟨om,om,trivial⟩,zf5 hlt,obind,z6 ⟨hle,trivial⟩]
  simp only[zbg]
  have hp:i64.wrap ((vAt b o.U).Ab-1)=(vAt b o.U).Ab-1:=z1d hv hb.1.2.1
  have hyr:F_q1v b (b.F.getD ((vAt b o.U).Ab-1).toNat default)=some (yearOf b (vAt b o.U).Ab):=zb1 hb hc
  unfold vAt at hp hyr
  open Classical in rw[hp,hyr,zt,obind,zt,obind,z6 ⟨fun _=>by unfold vAt at hv; omega,fun _=>by unfold vAt at hv; omega,trivial⟩]
  open Classical in simp only[zmn]
  have hy:=z62 hR hC hv
  unfold vAt at hy
  rw[hy]
  have e3:∀ (a x d:Bool) [Decidable (AllP [a=true])],(a&&!(if AllP [a=true] then x else d))=(a&&!x):=fun a x d _=>by cases a <;> simp[AllP]
  rw[e3]
  refine⟨_,rfl,?_⟩
  have hlw:i64.wrap (((ordersOf (b.Q.take i) o.U).length:Int)+1)=((ordersOf (b.Q.take i) o.U).length:Int)+1:=by
   have:(ordersOf (b.Q.take i) o.U).length<=(b.Q.take i).length:=y4y _ _
   exact wrapId om om
  rw[hlw]
  simp only[OFld,yl,y13,y7,y3v,yg]
  constructor
  ·rintro⟨⟨⟨⟨h1,h2⟩,h3⟩,h4⟩,h5⟩
   exact⟨h.1,h.2,h1,h2,h3,h4,h5⟩
  ·rintro⟨_,_,h1,h2,h3,h4,h5⟩
   exact⟨⟨⟨⟨h1,h2⟩,h3⟩,h4⟩,h5⟩
variable {P:Prop}
theorem noC {x:Option Bool} (h:P->False) (e:x=some false:=by rfl):∃ C:Bool,x=some C/\(C=true↔P):=⟨false,e,⟨fun h=>(y5i h).elim,fun p=>(h p).elim⟩⟩
def Val (b:TBo):Prop:=RAll b/\CAll b/\(∀ r∈b.B,0<=leftV b r)/\VAll b/\(∀ c∈b.F,0<=restV b c)/\(∀ i,i<b.Q.length->OFld b (b.Q.getD i default) (b.Q.take i) (i+1)) /\
 b.B.length<=200/\b.F.length<=200/\b.G.length<=200/\b.Q.length<=200
def OAll (b:TBo):Prop:=∀ i,i<b.Q.length->OFld b (b.Q.getD i default) (b.Q.take i) (i+1)
theorem z9t (hb:Small b):∃ C,F_q1k b=some C/\(C=true↔RAll b):=by
 simp only[F_q1k,S_q1k,Scr.den]
 obtain⟨h1,h2⟩:=zx (body:=fun i s=>(S_q1k_b1 b i s).den) (n:=b.B.length) (c:=false) (fun i=>RFld (b.B.getD i default) (i+1)) (fun i hi hp=>by
  obtain⟨C,e,hc⟩:=resC hb hi
  simp only[e,hc.mpr hp]; rfl) (fun i hi hp=>by
  obtain⟨C,e,hc⟩:=resC hb hi
  cases C with
  | true=>simp only[e]; rfl
  | false=>exact absurd (hc.mp rfl) hp)
 by_cases h:∀ j,j<b.B.length->RFld (b.B.getD j default) (j+1)
 ·rw[h1 h]; exact⟨true,rfl,fun _=>h,fun _=>rfl⟩
 ·rw[h2 h]; exact noC <| (fun h'=>absurd h' h)
theorem zah (hb:Small b) (hR:RAll b):∃ C,F_q9 b=some C/\(C=true↔CAll b/\∀ r∈b.B,0<=leftV b r):=by
 simp only[F_q9,S_q9,Scr.den]
 obtain⟨h1,h2⟩:=zx (body:=fun i s=>(S_q9_b1 b i s).den) (n:=b.F.length) (c:=false) (fun i=>CFld b (b.F.getD i default) (i+1)) (fun i hi hp=>(comC hb hi).1 hp) (fun i hi hp=>(comC hb hi).2 hp)
 by_cases h:∀ j,j<b.F.length->CFld b (b.F.getD j default) (j+1)
 ·rw[h1 h]
  simp only[outM]
  have eL:∀ i,i<b.B.length->(S_q9_b2 b i ()).den=if leftV b (b.B.getD i default)<0 then some (.ret false) else some (.cont ()):=fun i hi=>by
   simp only[S_q9_b2,Scr.den,z86,obind]
   have:leftN b (b.B.getD i default).L=leftV b (b.B.getD i default):=by
    unfold leftN
    have hf:b.B.find? (fun r=>r.L==(b.B.getD i default).L)=some (b.B.getD i default):=by
     rw[List.find?_eq_some_iff_getElem]
     refine⟨sj,i,hi,by simp[List.getD_eq_getElem?_getD,List.getElem?_eq_getElem hi],fun j hj=>?_⟩
     have e1:=(hR i hi).1
     have e2:=(hR j om).1
     have e3:b.B.getD j default=b.B[j]:=by simp[List.getD_eq_getElem?_getD,List.getElem?_eq_getElem (show j<b.B.length from om)]
     rw[e3] at e2
     rw[e1]
     simp only[yg,y40,ne_eq]
     omega
    rw[hf]
   rw[this]
   by_cases hl:leftV b (b.B.getD i default)<0 <;> simp
  obtain⟨h3,h4⟩:=zx (body:=fun i s=>(S_q9_b2 b i s).den) (n:=b.B.length) (c:=false) (fun i=>0<=leftV b (b.B.getD i default)) (fun i hi hp=>by
   simp only[eL i hi]; rw[y5 om]) (fun i hi hp=>by
   simp only[eL i hi]; rw[y6 om])
  by_cases h':∀ j,j<b.B.length->0<=leftV b (b.B.getD j default)
  ·rw[h3 h']
   refine⟨true,rfl,fun _=>⟨h,fun r hr=>?_⟩,fun _=>rfl⟩
   obtain⟨i,hi,e⟩:=z18 hr
   rw[<- e]; exact h' i hi
  ·rw[h4 h']
   exact noC <| (fun hh=>absurd (fun j hj=>hh.2 _ (z7 hj)) h')
 ·rw[h2 h]; exact noC <| (fun h'=>absurd h'.1 h)
theorem zfr (hb:Small b) (hR:RAll b) (hC:CAll b):∃ C,F_q0 b=some C/\(C=true↔VAll b/\(∀ c∈b.F,0<=restV b c)/\OAll b):=by
 simp only[F_q0,S_q0,Scr.den]
 obtain⟨h1,h2⟩:=zx (body:=fun i s=>(S_q0_b1 b i s).den) (n:=b.G.length) (c:=false) (fun i=>VFld b (b.G.getD i default) (i+1)) (fun i hi hp=>(verC hb hR hC hi).1 hp) (fun i hi hp=>(verC hb hR hC hi).2 hp)
 by_cases h:∀ j,j<b.G.length->VFld b (b.G.getD j default) (j+1)
 ·rw[h1 h]
  simp only[outM]
  have eL:∀ i,i<b.F.length->(S_q0_b2 b i ()).den=if restV b (b.F.getD i default)<0 then some (.ret false) else some (.cont ()):=fun i hi=>by
   simp only[S_q0_b2,Scr.den,z84,obind]
   by_cases hl:restV b (b.F.getD i default)<0 <;> simp
  obtain⟨h3,h4⟩:=zx (body:=fun i s=>(S_q0_b2 b i s).den) (n:=b.F.length) (c:=false) (fun i=>0<=restV b (b.F.getD i default)) (fun i hi hp=>by
   simp only[eL i hi]; rw[y5 om]) (fun i hi hp=>by
   simp only[eL i hi]; rw[y6 om])
  by_cases h':∀ j,j<b.F.length->0<=restV b (b.F.getD j default)
  ·rw[h3 h']
   skip
   obtain⟨h5,h6⟩:=zx (body:=fun i s=>(S_q0_b4 b i s).den) (n:=b.Q.length) (c:=false) (fun i=>OFld b (b.Q.getD i default) (b.Q.take i) (i+1)) (fun i hi hp=>(ordC hb hR hC h hi).1 hp) (fun i hi hp=>(ordC hb hR hC h hi).2 hp)
   by_cases ho:∀ j,j<b.Q.length->OFld b (b.Q.getD j default) (b.Q.take j) (j+1)
   ·rw[h5 ho]
    refine⟨true,rfl,fun _=>⟨h,fun r hr=>?_,ho⟩,fun _=>rfl⟩
    obtain⟨i,hi,e⟩:=z18 hr
    rw[<- e]; exact h' i hi
   ·rw[h6 ho]
    exact noC <| (fun hh=>absurd hh.2.2 ho)
  ·rw[h4 h']
   exact noC <| (fun hh=>absurd (fun j hj=>hh.2.1 _ (z7 hj)) h')
 ·rw[h2 h]; exact noC <| (fun h'=>absurd h'.1 h)
open Classical in
theorem z1y (hb:Small b):F_q1m b=some (decide (Val b)):=by
 simp only[F_q1m,S_q1m,Scr.den,z8,zb]
 by_cases hl:b.B.length<=200/\b.F.length<=200/\b.G.length<=200/\b.Q.length<=200
 ·rw[y5 (by simp only[yc,y7]; omega)]
  obtain⟨C1,e1,c1⟩:=z9t hb
  rw[e1,obind]
  by_cases hR:RAll b
  ·obtain⟨C2,e2,c2⟩:=zah hb hR
   rw[c1.mpr hR,zf (by simp[AllP]),e2,obind]
   by_cases hC:CAll b/\∀ r∈b.B,0<=leftV b r
   ·obtain⟨C3,e3,c3⟩:=zfr hb hR hC.1
    rw[c2.mpr hC,zf (by simp[AllP]),e3,obind]
    congr 1
    rw[y1k,y7]
    simp only[y42,y41]
    rw[c3]
    exact⟨fun h=>⟨hR,hC.1,hC.2,h.1,h.2.1,h.2.2,hl⟩,fun h=>⟨h.2.2.2.1,h.2.2.2.2.1,h.2.2.2.2.2.1⟩⟩
   ·have:C2=false:=Bool.eq_false_iff.mpr fun h=>hC (c2.mp h)
    rw[this,zq (by simp[AllP]),obind]
    rw[yi (fun h:Val b=>hC ⟨h.2.1,h.2.2.1⟩)]
    rfl
  ·have:C1=false:=Bool.eq_false_iff.mpr fun h=>hR (c1.mp h)
   rw[this,zq (by simp[AllP]),obind,zq (by simp[AllP]),obind]
   rw[yi (fun h:Val b=>hR h.1)]
   rfl
 ·rw[y6 (by simp only[yc,y7]; omega)]
  rw[yi (fun h:Val b=>hl h.2.2.2.2.2.2)]
theorem zd1 {n:Nat} (hn:n<=1000000) {body:Nat->Unit->Option (Step Unit Bool)} {F:Int->Option Bool} (hF:∀ (i:Nat) s,body i s=(F i).bind fun r=>if (!r)=true then some (.ret false) else some (.cont ())) (p:Nat->Prop) (h:∀ i,i<n->∃ C,F i=some C/\(C=true↔p i)) :
  ∃ C,guardP (AllP [((n:Int)).toNat<2 ^ 63]) (outM (rangeM body ((n:Int)).toNat 0 ()) (fun _=>some (decide ((n:Int)<=200))) (fun x=>some (id x)))=some C/\(C=true↔(∀ i,i<n->p i)/\n<=200):=by
 rw[yh,z6 ⟨om,trivial⟩]
 obtain⟨h1,h2⟩:=zx (body:=body) (n:=n) (c:=false) p (fun i hi hp=>by
  obtain⟨C,e,hc⟩:=h i hi
  rw[hF,e,hc.mpr hp]; rfl) (fun i hi hp=>by
  obtain⟨C,e,hc⟩:=h i hi
  rw[hF,e,Bool.eq_false_iff.mpr fun h=>hp (hc.mp h)]; rfl)
 by_cases hp:∀ i,i<n->p i
 ·rw[h1 hp]
  refine⟨_,rfl,?_⟩
  rw[y7]
  exact⟨fun h=>⟨hp,om⟩,fun h=>om⟩
 ·rw[h2 hp]
  exact noC <| (fun h=>absurd h.1 hp)
open Classical in
theorem Valid_eq (hb:Small b):F_q1y b=some (decide (Val b)):=by
 simp only[F_q1y,S_q1y,Scr.den,zb]
 obtain⟨C1,e1,c1⟩:=zd1 hb.1.1 (body:=fun i s=>(S_q35_b1 b i s).den) (F:=F_q49 b) (fun i s=>rfl) _ (fun i hi=>resP hb hi)
 have e1:F_q35 b (b.B.length:Int)=some C1:=e1
 rw[e1,obind]
 by_cases hR:(∀ i,i<b.B.length->RFld (b.B.getD i default) (i+1)/\0<=leftV b (b.B.getD i default))/\b.B.length<=200
 ·have hRA:RAll b:=fun i hi=>(hR.1 i hi).1
  obtain⟨C2,e2,c2⟩:=zd1 hb.1.2.1 (body:=fun i s=>(S_q36_b1 b i s).den) (F:=F_q4a b) (fun i s=>rfl) _ (fun i hi=>comP hb hi)
  have e2:F_q36 b (b.F.length:Int)=some C2:=e2
  rw[c1.mpr hR,zf (by simp[AllP]),e2,obind]
  by_cases hC:(∀ i,i<b.F.length->CFld b (b.F.getD i default) (i+1)/\0<=restV b (b.F.getD i default))/\b.F.length<=200
  ·have hCA:CAll b:=fun i hi=>(hC.1 i hi).1
   obtain⟨C3,e3,c3⟩:=zd1 hb.1.2.2.1 (body:=fun i s=>(S_q37_b1 b i s).den) (F:=F_q4b b) (fun i s=>rfl) _ (fun i hi=>verP hb hRA hCA hi)
   have e3:F_q37 b (b.G.length:Int)=some C3:=e3
   rw[c2.mpr hC,zf (by simp[AllP]),e3,obind]
   by_cases hV:VAll b/\b.G.length<=200
   ·obtain⟨C4,e4,c4⟩:=zd1 hb.1.2.2.2 (body:=fun i s=>(S_q38_b1 b i s).den) (F:=F_q4e b) (fun i s=>rfl) _ (fun i hi=>ordP hb hRA hCA hV.1 hi)
    have e4:F_q38 b (b.Q.length:Int)=some C4:=e4
    rw[c3.mpr hV,zf (by simp[AllP]),e4,obind]
    congr 1
    rw[y1k,y7]
    simp only[y42,y41]
    rw[c4]
    refine⟨fun h=>⟨hRA,hCA,fun r hr=>?_,hV.1,fun r hr=>?_,h.1,hR.2,hC.2,hV.2,h.2⟩,fun h=>⟨h.2.2.2.2.2.1,h.2.2.2.2.2.2.2.2.2⟩⟩
    ·obtain⟨i,hi,e⟩:=z18 hr
     rw[<- e]; exact (hR.1 i hi).2
    ·obtain⟨i,hi,e⟩:=z18 hr
     rw[<- e]; exact (hC.1 i hi).2
   ·have:C3=false:=Bool.eq_false_iff.mpr fun h=>hV (c3.mp h)
    rw[this,zq (by simp[AllP]),obind]
    rw[yi (fun h:Val b=>hV ⟨h.2.2.2.1,h.2.2.2.2.2.2.2.2.1⟩)]
    rfl
  ·have:C2=false:=Bool.eq_false_iff.mpr fun h=>hC (c2.mp h)
   rw[this,zq (by simp[AllP]),obind,zq (by simp[AllP]),obind]
   rw[yi (fun h:Val b=>hC ⟨fun i hi=>⟨h.2.1 i hi,h.2.2.2.2.1 _ (z7 hi)⟩,h.2.2.2.2.2.2.2.1⟩)]
   rfl
 ·have:C1=false:=Bool.eq_false_iff.mpr fun h=>hR (c1.mp h)
  rw[this,zq (by simp[AllP]),obind,zq (by simp[AllP]),obind,zq (by simp[AllP]),obind]
  rw[yi (fun h:Val b=>hR ⟨fun i hi=>⟨h.1 i hi,h.2.2.1 _ (z7 hi)⟩,h.2.2.2.2.2.2.1⟩)]
  rfl
theorem st {c:Bool} {_:Decidable P} {y:Option α} {a b:α} (h:c=true↔P) (hx:P->x=some a) (hy:¬ P->y=some b):(if c=true then x else y)=some (if P then a else b):=by
 by_cases hp:P
 ·rw[y6 (h.mpr hp),y6 hp,hx hp]
 ·rw[y5 (fun hc=>hp (h.mp hc)),y5 hp,hy hp]
def nb:TBo:=⟨[],[],[],[]⟩
def withR (b:TBo) (l:List TRe):TBo:=⟨l,b.F,b.G,b.Q⟩
def withC (b:TBo) (l:List TCo):TBo:=⟨b.B,l,b.G,b.Q⟩
def withV (b:TBo) (l:List TVe):TBo:=⟨b.B,b.F,l,b.Q⟩
def withO (b:TBo) (l:List TOr):TBo:=⟨b.B,b.F,b.G,l⟩
section
open Classical
noncomputable def reserveS (b:TBo) (code:List UInt8) (y d n:Int):TBo×Int :=
 if ¬ Val b then (nb,1) else
 if good code=false then (nb,5) else
 if ¬ ((0<=y/\y<=99)/\dayP d/\amtP n) then (nb,2) else
 if yr d≠y then (nb,16) else
 if (b.B.length:Int)=200 then (nb,3) else
 (withR b (b.B++[⟨b.B.length+1,code,y,d,n,0⟩]),0)
noncomputable def commitS (b:TBo) (r d n p u:Int):TBo×Int :=
 if ¬ Val b then (nb,1) else
 if ¬ (1<=r/\r<=b.B.length) then (nb,6) else
 if ¬ (dayP d/\amtP n/\(1<=p/\p<=1000000)/\dayP u) then (nb,2) else
 if yr d≠(rAt b r).E then (nb,16) else
 if d<(rAt b r).Aa then (nb,8) else
 if leftV b (rAt b r)<n then (nb,15) else
 if (b.F.length:Int)=200 then (nb,3) else
 (withC b (b.F++[⟨b.F.length+1,r,d,n,0,p,u⟩]),0)
noncomputable def verifyS (b:TBo) (c d n:Int):TBo×Int :=
 if ¬ Val b then (nb,1) else
 if ¬ (1<=c/\c<=b.F.length) then (nb,6) else
 if ¬ (dayP d/\amtP n) then (nb,2) else
 if yearOf b c+1<yr d then (nb,16) else
 if d<(cAt b c).Aa then (nb,8) else
 if restV b (cAt b c)<n then (nb,15) else
 if (b.G.length:Int)=200 then (nb,3) else
 (withV b (b.G++[⟨b.G.length+1,c,d,n⟩]),0)
noncomputable def orderS (b:TBo) (v d:Int):TBo×Int :=
 if ¬ Val b then (nb,1) else
 if ¬ (1<=v/\v<=b.G.length) then (nb,6) else
 if ¬ dayP d then (nb,2) else
 if yearOf b (vAt b v).Ab+1<yr d then (nb,16) else
 if (ordersOf b.Q v).length>0/\(lastV b v).Al=false then (nb,20) else
 if d<(vAt b v).Aa\/((ordersOf b.Q v).length>0/\d<(lastV b v).Aa) then (nb,8) else
 if (b.Q.length:Int)=200 then (nb,3) else
 (withO b (b.Q++[⟨b.Q.length+1,v,(ordersOf b.Q v).length+1,d,false⟩]),0)
noncomputable def releaseS (b:TBo) (r n:Int):TBo×Int :=
 if ¬ Val b then (nb,1) else
 if ¬ (1<=r/\r<=b.B.length) then (nb,6) else
 if ¬ amtP n then (nb,2) else
 if leftN b r<n then (nb,15) else
 (withR b (b.B.set (r-1).toNat ⟨(rAt b r).L,(rAt b r).C,(rAt b r).E,(rAt b r).Aa,(rAt b r).S,i64.wrap ((rAt b r).Ac+n)⟩),0)
noncomputable def dropS (b:TBo) (c n:Int):TBo×Int :=
 if ¬ Val b then (nb,1) else
 if ¬ (1<=c/\c<=b.F.length) then (nb,6) else
 if ¬ amtP n then (nb,2) else
 if restV b (cAt b c)<n then (nb,15) else
 (withC b (b.F.set (c-1).toNat ⟨(cAt b c).L,(cAt b c).X,(cAt b c).Aa,(cAt b c).S,i64.wrap ((cAt b c).Ac+n),(cAt b c).Ah,(cAt b c).Aj⟩),0)
noncomputable def backS (b:TBo) (v:Int):TBo×Int :=
 if ¬ Val b then (nb,1) else
 if ¬ (1<=v/\v<=b.G.length) then (nb,6) else
 if (ordersOf b.Q v).length=0\/(lastV b v).Al=true then (nb,9) else
 (withO b (b.Q.set ((lastV b v).L-1).toNat ⟨(lastV b v).L,(lastV b v).U,(lastV b v).Ak,(lastV b v).Aa,true⟩),0)
end
theorem zh3 (hR:RAll b) (hn:1<=n/\n<=b.B.length):leftN b n=leftV b (rAt b n):=by
 unfold leftN
 have hi:(n-1).toNat<b.B.length:=om
 have hf:b.B.find? (fun r=>r.L==n)=some (rAt b n):=by
  rw[List.find?_eq_some_iff_getElem]
  refine⟨by simpa using (hR.at hn).1,(n-1).toNat,hi,by unfold rAt; rw[y8,ya hi]; rfl,fun j hj=>?_⟩
  have e2:=(hR j om).1
  have e3:b.B.getD j default=b.B[j]:=by simp[List.getD_eq_getElem?_getD,List.getElem?_eq_getElem (show j<b.B.length from om)]
  rw[e3] at e2
  simp only[yg,y40,ne_eq]
  omega
 rw[hf]
variable {code:List UInt8}
theorem ze0 (hb:Small b) (hc:code.length<=1000000) (y d n:Int):F_q4m b code y d n=some (reserveS b code y d n):=by
 have h1:=hb.1.1
 have h2:=hb.1
 have hw:i64.wrap ((b.B.length:Int)+1)=b.B.length+1:=wrapId om om
 open Classical in simp only[F_q4m,S_q4m,Scr.den,z1y hb,z2q (show code.length<4611686018427387904 from om),z2l,z1p,z29,zt,obind,z8,z1c,z27 hb.1,hw]
 unfold reserveS
 refine st (by (simp only[yg,y9])) (fun _=>rfl) fun hV=>?_
 refine st (by (simp only[yg])) (fun _=>rfl) fun hg=>?_
 refine st (by (simp only[yc,yg,y7,y9,y25] <;> (try unfold dayP) <;> (try unfold amtP) <;> omega)) (fun _=>rfl) fun _=>?_
 refine st (by (simp only[y1q,ne_eq] <;> (try unfold dayP) <;> (try unfold amtP) <;> omega)) (fun _=>rfl) fun _=>?_
 refine st (by (simp only[y13] <;> (try unfold dayP) <;> (try unfold amtP) <;> omega)) (fun _=>rfl) fun _=>?_
 obtain⟨_,h3,h4,h5⟩:=h2
 simp only[yo,yx,y1p]
 rw[z6 ⟨om,trivial⟩,z6 ⟨om,trivial⟩,z6 ⟨om,trivial⟩,z6 ⟨om,trivial⟩,z6 ⟨om,trivial⟩]
 rfl
theorem zkk (hb:Small b) (hc:code.length<=1000000) (y d n:Int):F_q5l b code y d n=some (reserveS b code y d n):=by
 have h1:=hb.1.1
 have h2:=hb.1
 have hw:i64.wrap ((b.B.length:Int)+1)=b.B.length+1:=wrapId om om
 open Classical in simp only[F_q5l,S_q5l,Scr.den,Valid_eq hb,z2r (show code.length<=1099511627776 from om),z60,z2z,z1r,z4o,zt,obind,z8,z1c,z1x hb.1,hw]
 unfold reserveS
 refine st (by (simp only[yg,y9])) (fun _=>rfl) fun hV=>?_
 refine st (by rw[<- z2m]; (simp only[y9,y13,y25] <;> (try unfold dayP) <;> (try unfold amtP) <;> omega)) (fun _=>rfl) fun hg=>?_
 refine st (by (simp only[yc,yg,y9] <;> (try unfold dayP) <;> (try unfold amtP) <;> omega)) (fun _=>rfl) fun _=>?_
 refine st (by (simp only[y1q,ne_eq] <;> (try unfold dayP) <;> (try unfold amtP) <;> omega)) (fun _=>rfl) fun _=>?_
 refine st (by (simp only[y13] <;> (try unfold dayP) <;> (try unfold amtP) <;> omega)) (fun _=>rfl) fun _=>?_
 obtain⟨_,h3,h4,h5⟩:=h2
 simp only[yo,yx,y1p]
 rw[z6 ⟨om,trivial⟩,z6 ⟨om,trivial⟩,z6 ⟨om,trivial⟩,z6 ⟨om,trivial⟩,z6 ⟨om,trivial⟩]
 rfl
theorem zfs (hb:Small b) (r d n p u:Int):F_q4n b r d n p u=some (commitS b r d n p u):=by
 have h2:=hb.1
 obtain⟨h1,h3,h4,h5⟩:=h2
 have hw:i64.wrap ((b.F.length:Int)+1)=b.F.length+1:=wrapId om om
 open Classical in simp only[F_q4n,S_q4n,Scr.den,z1y hb,z2l,z1p,z29,z86,zt,obind,z8,z1c,z27 hb.1,hw]
 unfold commitS
 refine st (by (simp only[yg,y9])) (fun _=>rfl) fun hV=>?_
 refine st (by (simp only[yc,y7,y25] <;> (try unfold dayP) <;> (try unfold amtP) <;> omega)) (fun _=>rfl) fun hn=>?_
 refine st (by (simp only[yc,yg,y7,y9,y25] <;> (try unfold dayP) <;> (try unfold amtP) <;> omega)) (fun _=>rfl) fun _=>?_
 have hn:=Classical.not_not.mp hn
 have hV:=Classical.not_not.mp hV
 rw[z1d hn h1,z6 ⟨om,om,trivial⟩,zh3 hV.1 hn]
 refine st (by unfold rAt; (simp only[y1q,ne_eq] <;> (try unfold dayP) <;> (try unfold amtP) <;> omega)) (fun _=>rfl) fun _=>?_
 refine st (by unfold rAt; (simp only[y7] <;> (try unfold dayP) <;> (try unfold amtP) <;> omega)) (fun _=>rfl) fun _=>?_
 refine st (by (simp only[y7,y25] <;> (try unfold dayP) <;> (try unfold amtP) <;> omega)) (fun _=>rfl) fun _=>?_
 refine st (by (simp only[y13] <;> (try unfold dayP) <;> (try unfold amtP) <;> omega)) (fun _=>rfl) fun _=>?_
 simp only[yo,yx,y1p]
 rw[z6 ⟨om,trivial⟩,z6 ⟨om,trivial⟩,z6 ⟨om,trivial⟩,z6 ⟨om,trivial⟩,z6 ⟨om,trivial⟩]
 rfl
theorem zmp (hb:Small b) (r d n p u:Int):F_q5m b r d n p u=some (commitS b r d n p u):=by
 have h2:=hb.1
 obtain⟨h1,h3,h4,h5⟩:=h2
 have hw:i64.wrap ((b.F.length:Int)+1)=b.F.length+1:=wrapId om om
 open Classical in simp only[F_q5m,S_q5m,Scr.den,Valid_eq hb,z60,z2z,z1r,z4o,z83,zt,obind,z8,z1c,z1x hb.1,hw]
 unfold commitS
 refine st (by (simp only[yg,y9])) (fun _=>rfl) fun hV=>?_
 refine st (by (simp only[yg,y9] <;> (try unfold dayP) <;> (try unfold amtP) <;> omega)) (fun _=>rfl) fun hn=>?_
 refine st (by (simp only[yc,yg,y9] <;> (try unfold dayP) <;> (try unfold amtP) <;> omega)) (fun _=>rfl) fun _=>?_
 have hn:=Classical.not_not.mp hn
 have hV:=Classical.not_not.mp hV
 rw[z1d hn h1,z6 ⟨om,om,trivial⟩]
 refine st (by unfold rAt; (simp only[y1q,ne_eq] <;> (try unfold dayP) <;> (try unfold amtP) <;> omega)) (fun _=>rfl) fun _=>?_
 refine st (by unfold rAt; (simp only[y7] <;> (try unfold dayP) <;> (try unfold amtP) <;> omega)) (fun _=>rfl) fun _=>?_
 refine st (by unfold rAt; (simp only[y7,y25] <;> (try unfold dayP) <;> (try unfold amtP) <;> omega)) (fun _=>rfl) fun _=>?_
 refine st (by (simp only[y13] <;> (try unfold dayP) <;> (try unfold amtP) <;> omega)) (fun _=>rfl) fun _=>?_
 simp only[yo,yx,y1p]
 rw[z6 ⟨om,trivial⟩,z6 ⟨om,trivial⟩,z6 ⟨om,trivial⟩,z6 ⟨om,trivial⟩,z6 ⟨om,trivial⟩]
 rfl
theorem zft (hb:Small b) (c d n:Int):F_q4o b c d n=some (verifyS b c d n):=by
 have h2:=hb.1
 obtain⟨h1,h3,h4,h5⟩:=h2
 have hw:i64.wrap ((b.G.length:Int)+1)=b.G.length+1:=wrapId om om
 open Classical in simp only[F_q4o,S_q4o,Scr.den,z1y hb,z2l,z1p,z29,z84,zt,obind,z8,z1c,z27 hb.1,hw]
 unfold verifyS
 refine st (by (simp only[yg,y9])) (fun _=>rfl) fun hV=>?_
 refine st (by (simp only[yc,y7,y25] <;> (try unfold dayP) <;> (try unfold amtP) <;> omega)) (fun _=>rfl) fun hn=>?_
 refine st (by (simp only[yc,yg,y9] <;> (try unfold dayP) <;> (try unfold amtP) <;> omega)) (fun _=>rfl) fun _=>?_
 have hn:=Classical.not_not.mp hn
 have hV:=Classical.not_not.mp hV
 rw[z5u hb hV.2.1 hn,obind,z1d hn h3,z62 hV.1 hV.2.1 hn]
 refine st (by (simp only[y7,y25] <;> (try unfold dayP) <;> (try unfold amtP) <;> omega)) (fun _=>rfl) fun _=>?_
 rw[z6 ⟨om,om,trivial⟩]
 refine st (by unfold cAt; (simp only[y7] <;> (try unfold dayP) <;> (try unfold amtP) <;> omega)) (fun _=>rfl) fun _=>?_
 refine st (by unfold cAt; (simp only[y7,y25] <;> (try unfold dayP) <;> (try unfold amtP) <;> omega)) (fun _=>rfl) fun _=>?_
 refine st (by (simp only[y13] <;> (try unfold dayP) <;> (try unfold amtP) <;> omega)) (fun _=>rfl) fun _=>?_
 simp only[yo,yx,y1p]
 rw[z6 ⟨om,trivial⟩,z6 ⟨om,trivial⟩,z6 ⟨om,trivial⟩,z6 ⟨om,trivial⟩,z6 ⟨om,trivial⟩]
 rfl
theorem zmq (hb:Small b) (c d n:Int):F_q5n b c d n=some (verifyS b c d n):=by
 have h2:=hb.1
 obtain⟨h1,h3,h4,h5⟩:=h2
 have hw:i64.wrap ((b.G.length:Int)+1)=b.G.length+1:=wrapId om om
 open Classical in simp only[F_q5n,S_q5n,Scr.den,Valid_eq hb,z60,z2z,z1r,z4o,zdw,zt,obind,z8,z1c,z1x hb.1,hw]
 unfold verifyS
 refine st (by (simp only[yg,y9])) (fun _=>rfl) fun hV=>?_
 refine st (by (simp only[yg,y9] <;> (try unfold dayP) <;> (try unfold amtP) <;> omega)) (fun _=>rfl) fun hn=>?_
 refine st (by (simp only[yc,yg,y9] <;> (try unfold dayP) <;> (try unfold amtP) <;> omega)) (fun _=>rfl) fun _=>?_
 have hn:=Classical.not_not.mp hn
 have hV:=Classical.not_not.mp hV
 have hy:F_q1v b (b.F.getD (c-1).toNat default)=some (yearOf b c):=zb1 hb (hV.2.1.at hn).2.1
 rw[z1d hn h3,z6 ⟨om,om,trivial⟩,hy,obind,z62 hV.1 hV.2.1 hn]
 refine st (by (simp only[y7,y25] <;> (try unfold dayP) <;> (try unfold amtP) <;> omega)) (fun _=>rfl) fun _=>?_
 refine st (by unfold cAt; (simp only[y7] <;> (try unfold dayP) <;> (try unfold amtP) <;> omega)) (fun _=>rfl) fun _=>?_
 refine st (by unfold cAt; (simp only[y7,y25] <;> (try unfold dayP) <;> (try unfold amtP) <;> omega)) (fun _=>rfl) fun _=>?_
 refine st (by (simp only[y13] <;> (try unfold dayP) <;> (try unfold amtP) <;> omega)) (fun _=>rfl) fun _=>?_
 simp only[yo,yx,y1p]
 rw[z6 ⟨om,trivial⟩,z6 ⟨om,trivial⟩,z6 ⟨om,trivial⟩,z6 ⟨om,trivial⟩,z6 ⟨om,trivial⟩]
 rfl
theorem zmr (l:List TOr) (h:0<l.length) (x:TOr):l.getD (l.length-1) default=l.getLastD x:=by
 rw[y8,ya om,y4h,List.getLast?_eq_getElem?,ya om]
 rfl
theorem zh4 (hb:Small b) (v d:Int):F_q4p b v d=some (orderS b v d):=by
 have h2:=hb.1
 obtain⟨h1,h3,h4,h5⟩:=h2
 have hw:i64.wrap ((b.Q.length:Int)+1)=b.Q.length+1:=wrapId om om
 have hol:(ordersOf b.Q v).length<=b.Q.length:=y4y _ _
 have hw2:i64.wrap (((ordersOf b.Q v).length:Int)+1)=(ordersOf b.Q v).length+1:=wrapId om om
 open Classical in simp only[F_q4p,S_q4p,Scr.den,z1y hb,z2l,z29,zjf h5,obind,z8,zb,z27 hb.1,hw,hw2]
 unfold orderS
 refine st (by (simp only[yg,y9])) (fun _=>rfl) fun hV=>?_
 refine st (by (simp only[yc,y7,y25] <;> (try unfold dayP) <;> (try unfold amtP) <;> omega)) (fun _=>rfl) fun hn=>?_
 refine st (by (simp only[yg,y9] <;> (try unfold dayP) <;> (try unfold amtP) <;> omega)) (fun _=>rfl) fun _=>?_
 have hn:=Classical.not_not.mp hn
 have hV:=Classical.not_not.mp hV
 have hv:=(hV.2.2.2.1.at hn).2.1
 have hy:F_q25 b (b.G.getD (v-1).toNat default).Ab=some (yearOf b (vAt b v).Ab):=z5u hb hV.2.1 hv
 rw[z1d hn h4,z6 ⟨om,om,trivial⟩,hy,obind,z62 hV.1 hV.2.1 hv]
 refine st (by (simp only[y7,y25] <;> (try unfold dayP) <;> (try unfold amtP) <;> omega)) (fun _=>rfl) fun _=>?_
 refine st sj (fun _=>rfl) fun _=>?_
 refine st (by unfold vAt; (simp only[yc,yl,y7,y25] <;> (try unfold dayP) <;> (try unfold amtP) <;> omega)) (fun _=>rfl) fun _=>?_
 refine st (by (simp only[y13] <;> (try unfold dayP) <;> (try unfold amtP) <;> omega)) (fun _=>rfl) fun _=>?_
 simp only[yo,yx,y1p]
 rw[z6 ⟨om,trivial⟩,z6 ⟨om,trivial⟩,z6 ⟨om,trivial⟩,z6 ⟨om,trivial⟩,z6 ⟨om,trivial⟩]
 rfl
theorem zbu (l:List TOr) (hl:l.length<=1000000) (x:TOr) (f:TOr->Bool):(decide ((l.length:Int)>0)&&f (l.getD (i64.wrap ((l.length:Int)-1)).toNat default))=(decide ((l.length:Int)>0)&&f (l.getLastD x)):=by
 by_cases h:0<l.length
 ·rw[wrapId om om,show ((l.length:Int)-1).toNat=l.length-1 from om,zmr l h x]
 ·rw[yi om]; rfl
theorem zov (hb:Small b) (v d:Int):F_q5o b v d=some (orderS b v d):=by
 have h2:=hb.1
 obtain⟨h1,h3,h4,h5⟩:=h2
 have hw:i64.wrap ((b.Q.length:Int)+1)=b.Q.length+1:=wrapId om om
 have hol:(ordersOf b.Q v).length<=b.Q.length:=y4y _ _
 have hw2:i64.wrap (((ordersOf b.Q v).length:Int)+1)=(ordersOf b.Q v).length+1:=wrapId om om
 have hg:∀ P:Prop,P->((ordersOf b.Q v).length:Int)>0->(0:Int)<=i64.wrap (((ordersOf b.Q v).length:Int)-1)/\(i64.wrap (((ordersOf b.Q v).length:Int)-1)).toNat<(ordersOf b.Q v).length:=fun _ _ h=>by
  rw[wrapId om om]; omega
 have a1:=zbu (ordersOf b.Q v) om noOrder (fun o=>!o.Al)
 have a2:=zbu (ordersOf b.Q v) om noOrder (fun o=>decide (d<o.Aa))
 open Classical in simp only[F_q5o,S_q5o,Scr.den,Valid_eq hb,z60,z1r,z4o,zf5 h5,obind,z8,zb,z1x hb.1,hw,hw2,a1,a2]
 unfold orderS
 refine st (by (simp only[yg,y9])) (fun _=>rfl) fun hV=>?_
 refine st (by (simp only[yg,y9] <;> (try unfold dayP) <;> (try unfold amtP) <;> omega)) (fun _=>rfl) fun hn=>?_
 refine st (by (simp only[yg,y9] <;> (try unfold dayP) <;> (try unfold amtP) <;> omega)) (fun _=>rfl) fun _=>?_
 have hn:=Classical.not_not.mp hn
 have hV:=Classical.not_not.mp hV
 have hv:=(hV.2.2.2.1.at hn).2.1
 have hv':1<=(b.G.getD (v-1).toNat default).Ab/\(b.G.getD (v-1).toNat default).Ab<=b.F.length:=hv
 have hy:F_q1v b (b.F.getD ((b.G.getD (v-1).toNat default).Ab-1).toNat default)=some (yearOf b (vAt b v).Ab):=zb1 hb (hV.2.1.at hv).2.1
 rw[z1d hn h4,z6 ⟨om,om,trivial⟩,z1d hv' h3,hy,obind,z6 ⟨om,om,trivial⟩,z62 hV.1 hV.2.1 hv]
 refine st (by (simp only[y7,y25] <;> (try unfold dayP) <;> (try unfold amtP) <;> omega)) (fun _=>rfl) fun _=>?_
 rw[z6 ⟨fun h=>(hg True trivial (by simpa [AllP] using h)).1,fun h=>(hg True trivial (by simpa [AllP] using h)).2,trivial⟩]
 refine st (by simp[lastV]) (fun _=>rfl) fun _=>?_
 rw[z6 ⟨fun h=>(hg True trivial (y2e h.1)).1,fun h=>(hg True trivial (y2e h.1)).2,trivial⟩]
 refine st (by unfold vAt lastV; (simp only[yc,yl,y7,y25] <;> (try unfold dayP) <;> (try unfold amtP) <;> omega)) (fun _=>rfl) fun _=>?_
 refine st (by (simp only[y13] <;> (try unfold dayP) <;> (try unfold amtP) <;> omega)) (fun _=>rfl) fun _=>?_
 simp only[yo,yx,y1p]
 rw[z6 ⟨om,trivial⟩,z6 ⟨om,trivial⟩,z6 ⟨om,trivial⟩,z6 ⟨om,trivial⟩,z6 ⟨om,trivial⟩]
 rfl
theorem ze1 (hb:Small b) (r n:Int):F_q4q b r n=some (releaseS b r n):=by
 have h2:=hb.1
 obtain⟨h1,h3,h4,h5⟩:=h2
 open Classical in simp only[F_q4q,S_q4q,Scr.den,z1y hb,z1p,z86,obind,z8,z27 hb.1,yu]
 unfold releaseS
 refine st (by (simp only[yg,y9])) (fun _=>rfl) fun hV=>?_
 refine st (by (simp only[yc,y7,y25] <;> (try unfold dayP) <;> (try unfold amtP) <;> omega)) (fun _=>rfl) fun hn=>?_
 refine st (by (simp only[yg,y9] <;> (try unfold dayP) <;> (try unfold amtP) <;> omega)) (fun _=>rfl) fun _=>?_
 refine st (by (simp only[y7,y25] <;> (try unfold dayP) <;> (try unfold amtP) <;> omega)) (fun _=>rfl) fun _=>?_
 have hn:=Classical.not_not.mp hn
 rw[z1d hn h1]
 simp only[yb]
 rw[z6 ⟨om,trivial⟩,z6 ⟨om,trivial⟩,z6 ⟨om,trivial⟩,z6 ⟨om,om,om,trivial⟩,z6 ⟨om,trivial⟩]
 rfl
theorem zib (hb:Small b) (c n:Int):F_q4r b c n=some (dropS b c n):=by
 have h2:=hb.1
 obtain⟨h1,h3,h4,h5⟩:=h2
 open Classical in simp only[F_q4r,S_q4r,Scr.den,z1y hb,z1p,z84,obind,z8,z27 hb.1,yu]
 unfold dropS
 refine st (by (simp only[yg,y9])) (fun _=>rfl) fun hV=>?_
 refine st (by (simp only[yc,y7,y25] <;> (try unfold dayP) <;> (try unfold amtP) <;> omega)) (fun _=>rfl) fun hn=>?_
 refine st (by (simp only[yg,y9] <;> (try unfold dayP) <;> (try unfold amtP) <;> omega)) (fun _=>rfl) fun _=>?_
 have hn:=Classical.not_not.mp hn
 rw[z1d hn h3,z6 ⟨om,om,trivial⟩]
 refine st (by unfold cAt; (simp only[y7,y25] <;> (try unfold dayP) <;> (try unfold amtP) <;> omega)) (fun _=>rfl) fun _=>?_
 simp only[yb]
 rw[z6 ⟨om,trivial⟩,z6 ⟨om,trivial⟩,z6 ⟨om,trivial⟩,z6 ⟨om,om,trivial⟩,z6 ⟨om,trivial⟩]
 rfl
theorem zkl (hb:Small b) (r n:Int):F_q5p b r n=some (releaseS b r n):=by
 have h2:=hb.1
 obtain⟨h1,h3,h4,h5⟩:=h2
 open Classical in simp only[F_q5p,S_q5p,Scr.den,Valid_eq hb,z2z,z1r,zqx,obind,z1x hb.1,yu]
 unfold releaseS
 refine st (by (simp only[yg,y9])) (fun _=>rfl) fun hV=>?_
 refine st (by (simp only[yg,y9])) (fun _=>rfl) fun hn=>?_
 refine st (by (simp only[yg,y9])) (fun _=>rfl) fun _=>?_
 refine st (by (simp only[y7,y25] <;> (try unfold dayP) <;> (try unfold amtP) <;> omega)) (fun _=>rfl) fun _=>?_
 have hn:=Classical.not_not.mp hn
 rw[z1d hn h1]
 simp only[yb]
 rw[z6 ⟨om,trivial⟩,z6 ⟨om,trivial⟩,z6 ⟨om,trivial⟩,z6 ⟨om,om,om,trivial⟩,z6 ⟨om,trivial⟩]
 rfl
theorem zr0 (hb:Small b) (c n:Int):F_q5q b c n=some (dropS b c n):=by
 have h2:=hb.1
 obtain⟨h1,h3,h4,h5⟩:=h2
 open Classical in simp only[F_q5q,S_q5q,Scr.den,Valid_eq hb,z2z,z1r,zdw,obind,z1x hb.1,yu]
 unfold dropS
 refine st (by (simp only[yg,y9])) (fun _=>rfl) fun hV=>?_
 refine st (by (simp only[yg,y9])) (fun _=>rfl) fun hn=>?_
 refine st (by (simp only[yg,y9])) (fun _=>rfl) fun _=>?_
 have hn:=Classical.not_not.mp hn
 rw[z1d hn h3,z6 ⟨om,om,trivial⟩]
 refine st (by unfold cAt; (simp only[y7,y25] <;> (try unfold dayP) <;> (try unfold amtP) <;> omega)) (fun _=>rfl) fun _=>?_
 simp only[yb]
 rw[z6 ⟨om,trivial⟩,z6 ⟨om,trivial⟩,z6 ⟨om,trivial⟩,z6 ⟨om,om,trivial⟩,z6 ⟨om,trivial⟩]
 rfl
variable {v:Int}
theorem z8e (h:0<(ordersOf b.Q v).length):∃ i,i<b.Q.length/\b.Q.getD i default=lastV b v/\(lastV b v).U=v/\ordersOf (b.Q.drop (i+1)) v=[]:=by
 have key:∀ l:List TOr,0<(ordersOf l v).length->∃ i,i<l.length/\l.getD i default=(ordersOf l v).getLastD noOrder/\((ordersOf l v).getLastD noOrder).U=v/\ordersOf (l.drop (i+1)) v=[]:=by
  intro l
  induction l with
  | nil=>intro h; simp[ordersOf] at h
  | cons o l ih =>
   intro h
   by_cases h':0<(ordersOf l v).length
   ·obtain⟨i,h1,h2,h3,h4⟩:=ih h'
    have e:(ordersOf (o :: l) v).getLastD noOrder=(ordersOf l v).getLastD noOrder:=by
     unfold ordersOf at h' |-
     rw[y30]
     split
     ·rw[List.getLastD_cons,y4h,y4h]
      rw[List.getLast?_eq_getElem?,ya om]
      rfl
     ·rfl
    exact⟨i+1,sk,by rw[y3k,e]; exact h2,by rw[e]; exact h3,by rw[List.drop_succ_cons]; exact h4⟩
   ·have e:ordersOf l v=[]:=List.eq_nil_of_length_eq_zero om
    have e2:ordersOf (o :: l) v=if (o.U==v)=true then [o] else []:=by
     unfold ordersOf at e |-
     rw[y30,e]
    rw[e2] at h |-
    by_cases ho:(o.U==v)=true
    ·rw[y6 ho]
     exact⟨0,sj,rfl,eq_of_beq ho,by simpa using e⟩
    ·rw[y5 ho] at h; simp at h
 exact key b.Q h
theorem z3m {l:List TOr} {x:TOr}:x∈ordersOf l v↔x∈l/\x.U=v:=by
 unfold ordersOf; rw[y2h,y13]
variable {j:Nat}
theorem zbv (hO:OAll b) (hij:i<j) (hj:j<b.Q.length) (hv:(b.Q.getD i default).U=(b.Q.getD j default).U):(b.Q.getD i default).Al=true/\(b.Q.getD i default).Aa<=(b.Q.getD j default).Aa:=by
 have h:=(hO j hj).2.2.2.2.2.2
 have hm:b.Q.getD i default∈ordersOf (b.Q.take j) (b.Q.getD j default).U:=by
  rw[z3m]
  refine⟨?_,hv⟩
  have e:b.Q.getD i default=(b.Q.take j).getD i default:=by
   simp only[y8,y5h]
   rw[y6 hij]
  rw[e]
  exact z7 (by rw[y1f]; omega)
 have:=List.any_eq_false.mp h _ hm
 simp only[yc,yg,y7,y4q] at this
 exact⟨by simpa using this.1,om⟩
theorem zic (hb:Small b) (v:Int):F_q4s b v=some (backS b v):=by
 have h2:=hb.1
 obtain⟨h1,h3,h4,h5⟩:=h2
 open Classical in simp only[F_q4s,S_q4s,Scr.den,z1y hb,zjf h5,obind,z8,z27 hb.1,yu]
 unfold backS
 refine st (by (simp only[yg,y9])) (fun _=>rfl) fun hV=>?_
 refine st (by (simp only[yc,y7,y25] <;> (try unfold dayP) <;> (try unfold amtP) <;> omega)) (fun _=>rfl) fun hn=>?_
 refine st sj (fun _=>rfl) fun hl=>?_
 have hV:=Classical.not_not.mp hV
 obtain⟨i,hi,he,_,_⟩:=z8e (b:=b) (v:=v) om
 have hnum:=(hV.2.2.2.2.2.1 i hi).1
 rw[he] at hnum
 have w:i64.wrap ((lastV b v).L-1)=i:=by rw[wrapId om om]; omega
 rw[w]
 simp only[yb,yh,he]
 rw[z6 ⟨om,trivial⟩,z6 ⟨om,trivial⟩,z6 ⟨om,trivial⟩,z6 ⟨om,om,om,trivial⟩,z6 ⟨om,trivial⟩]
 rw[show ((lastV b v).L-1).toNat=i from om]
 rfl
theorem zr1 (hb:Small b) (v:Int):F_q2f b v=some (backS b v):=by
 have h2:=hb.1
 obtain⟨h1,h3,h4,h5⟩:=h2
 open Classical in simp only[F_q2f,S_q2f,Scr.den,Valid_eq hb,z1r,obind,z1x hb.1]
 unfold backS
 refine st (by (simp only[yg,y9])) (fun _=>rfl) fun hV=>?_
 refine st (by (simp only[yg,y9])) (fun _=>rfl) fun hn=>?_
 have hV:=Classical.not_not.mp hV
 rw[z6 ⟨om,trivial⟩,z6 ⟨om,trivial⟩,z6 ⟨om,trivial⟩,z6 ⟨om,trivial⟩]
 rcases zcc b.Q (fun o=>o.U==v&&!o.Al) (fun i=>(withO b (b.Q.set i ⟨(b.Q.getD i default).L,(b.Q.getD i default).U,(b.Q.getD i default).Ak,(b.Q.getD i default).Aa,true⟩),(0:Int))) (body:=fun i s=>(S_q2f_b1 v (b.B,b.F,b.G,b.Q) i s).den) (fun i hi=>by
  simp only[S_q2f_b1,Scr.den,yu,zb,yb]
  rw[z6 ⟨hi,fun _=>hi,trivial⟩,z6 ⟨om,trivial⟩]
  split <;> rfl) with ⟨e1,e2⟩ | ⟨i,e1,e2,e3,e4⟩
 ·rw[e1]
  simp only[outM]
  rw[y6]
  ·rfl
  ·by_cases hl:(ordersOf b.Q v).length=0
   ·exact .inl hl
   ·right
    obtain⟨i,hi,he,hv,_⟩:=z8e (b:=b) (v:=v) om
    have:=e2 _ (z7 hi)
    rw[he,hv] at this
    simpa using this
 ·rw[e4]
  simp only[outM]
  simp only[yl,y13,yg] at e2
  have hmem:b.Q.getD i default∈ordersOf b.Q v:=z3m.mpr ⟨z7 e1,e2.1⟩
  have hpos:0<(ordersOf b.Q v).length:=y4r hmem
  obtain⟨j,hj,he,hv,hd⟩:=z8e hpos
  have hij:i=j:=by
   rcases y3s i j with h | h | h
   ·have:=(zbv hV.2.2.2.2.2.1 h hj (by rw[he,hv]; exact e2.1)).1
    rw[e2.2] at this; cases this
   ·exact h
   ·exfalso
    have:b.Q.getD i default∈ordersOf (b.Q.drop (j+1)) v:=by
     rw[z3m]
     refine⟨?_,e2.1⟩
     have e:b.Q.getD i default=(b.Q.drop (j+1)).getD (i-(j+1)) default:=by
      simp only[y8,y2g]
      rw[show j+1+(i-(j+1))=i from om]
     rw[e]
     exact z7 (by rw[y3a]; omega)
    rw[hd] at this; cases this
  subst hij
  rw[he] at e2
  rw[y5 (by rw[e2.2]; simp; exact List.ne_nil_of_length_pos hpos),he]
  have hnum:=(hV.2.2.2.2.2.1 i hj).1
  rw[he] at hnum
  rw[show ((lastV b v).L-1).toNat=i from om]
  rfl
theorem z36 [Inhabited α] (l:List α) (x:α) (i:Nat) (hi:i<l.length):(l++[x]).getD i default=l.getD i default:=by
 simp only[y8]
 rw[ym hi]
theorem z4c [Inhabited α] (l:List α) (x:α):(l++[x]).getD l.length default=x:=by
 simp[List.getD_eq_getElem?_getD]
theorem z5e [Inhabited α] (l:List α) (x:α) (k i:Nat) (hk:k<l.length):(l.set k x).getD i default=if i=k then x else l.getD i default:=by
 simp only[y8,y4p]
 by_cases h:k=i
 ·subst h; simp[hk]
 ·rw[y5 h,y5 (fun e=>h e.symm)]
variable {c:Int} {p:α->Bool} {f:α->Int}
theorem zkm {l:List α} (h:∀ x∈l,0<=f x/\f x<=c) (hl:l.length<=200) (hc:0<=c):0<=sm l p f/\sm l p f<=200 * c:=by
 have h1:=zf3 (p:=p) fun x hx=>(h x hx).1
 have h2:=ztc (p:=p) (fun x hx=>(h x hx).2) hc
 have h3:(l.length:Int) * c<=200 * c:=Int.mul_le_mul_of_nonneg_right om hc
 omega
theorem CAll.mem (h:CAll b) {c:TCo} (hc:c∈b.F):CFld b c c.L/\c=cAt b c.L/\1<=c.L/\c.L<=b.F.length:=by
 obtain⟨i,hi,e⟩:=z18 hc
 have h1:=h i hi
 rw[e] at h1
 have hn:=h1.1
 rw[hn]
 refine⟨h1,?_,om,om⟩
 unfold cAt
 rw[<- e]
 congr 1
 omega
theorem RAll.mem (h:RAll b) {r:TRe} (hr:r∈b.B):RFld r r.L/\r=rAt b r.L/\1<=r.L/\r.L<=b.B.length:=by
 obtain⟨i,hi,e⟩:=z18 hr
 have h1:=h i hi
 rw[e] at h1
 have hn:=h1.1
 rw[hn]
 refine⟨h1,?_,om,om⟩
 unfold rAt
 rw[<- e]
 congr 1
 omega
theorem VAll.mem (h:VAll b) {v:TVe} (hv:v∈b.G):VFld b v v.L/\v=vAt b v.L/\1<=v.L/\v.L<=b.G.length:=by
 obtain⟨i,hi,e⟩:=z18 hv
 have h1:=h i hi
 rw[e] at h1
 have hn:=h1.1
 rw[hn]
 refine⟨h1,?_,om,om⟩
 unfold vAt
 rw[<- e]
 congr 1
 omega
theorem zh5 (h:Val b) (n:Int):0<=cmt b n/\cmt b n<=200000000000000:=by
 have:=zkm (l:=b.F) (p:=fun c=>c.X==n) (f:=(·.S)) (c:=1000000000000) (fun c hc=>by
  have:=(h.2.1.mem hc).1.2.2.2.1
  unfold amtP at this
  omega) h.2.2.2.2.2.2.2.1 om
 exact this
theorem zh6 (h:Val b) (n:Int):0<=ver b n/\ver b n<=200000000000000:=by
 have:=zkm (l:=b.G) (p:=fun c=>c.Ab==n) (f:=(·.S)) (c:=1000000000000) (fun c hc=>by
  have:=(h.2.2.2.1.mem hc).1.2.2.2.1
  unfold amtP at this
  omega) h.2.2.2.2.2.2.2.2.1 om
 exact this
theorem z95 (h:Val b) {r:TRe} (hr:r∈b.B):leftV b r=r.S-r.Ac-cmt b r.L/\0<=leftV b r:=by
 have h1:=zh5 h r.L
 have h2:=(h.1.mem hr).1
 have h3:=h2.2.2.2.2.2.1
 have h4:=h2.2.2.2.2.2.2
 unfold amtP at h3
 exact⟨wrapId om om,h.2.2.1 r hr⟩
theorem zh7 (h:Val b) {c:TCo} (hc:c∈b.F):restV b c=c.S-c.Ac-ver b c.L/\0<=restV b c:=by
 have h1:=zh6 h c.L
 have h2:=(h.2.1.mem hc).1
 have h3:=h2.2.2.2.1
 have h4:=h2.2.2.2.2.1
 unfold amtP at h3
 exact⟨wrapId om om,h.2.2.2.2.1 c hc⟩
theorem ze2 (hn:1<=n/\n<=b.B.length):rAt b n∈b.B:=z7 om
theorem zr2 (hn:1<=n/\n<=b.F.length):cAt b n∈b.F:=z7 om
theorem valR (h:Val b) {l:List TRe} (hl:b.B.length<=l.length) (h200:l.length<=200) (hR:∀ i,i<l.length->RFld (l.getD i default) (i+1)) (hs:∀ i,i<b.B.length->(l.getD i default).Aa=(b.B.getD i default).Aa/\(l.getD i default).E=(b.B.getD i default).E) (hL:∀ r∈l,0<=leftV b r):Val (withR b l):=by
 have hr:∀ n:Int,1<=n/\n<=b.B.length->(rAt (withR b l) n).Aa=(rAt b n).Aa/\(rAt (withR b l) n).E=(rAt b n).E:=fun n hn=>hs (n-1).toNat om
 have hy:∀ n:Int,1<=n/\n<=b.F.length->yearOf (withR b l) n=yearOf b n:=fun n hn=>(hr _ (h.2.1.at hn).2.1).2
 refine⟨hR,fun i hi=>?_,hL,fun i hi=>?_,h.2.2.2.2.1,fun i hi=>?_,h200,h.2.2.2.2.2.2.2⟩
 ·change CFld (withR b l) (b.F.getD i default) _
  obtain⟨a1,a2,a3,a4,a5,a6,a7,a8,a9⟩:=h.2.1 i hi
  obtain⟨b1,b2⟩:=hr _ a2
  exact⟨a1,⟨a2.1,y31 a2.2 (by simpa [withR] using hl)⟩,a3,a4,a5,a6,a7,by rw[b1]; exact a8,by rw[b2]; exact a9⟩
 ·change VFld (withR b l) (b.G.getD i default) _
  obtain⟨a1,a2,a3,a4,a5,a6⟩:=h.2.2.2.1 i hi
  exact⟨a1,a2,a3,a4,a5,by rw[hy _ a2]; exact a6⟩
 ·change OFld (withR b l) (b.Q.getD i default) (b.Q.take i) _
  obtain⟨a1,a2,a3,a4,a5,a6⟩:=h.2.2.2.2.2.1 i hi
  exact⟨a1,a2,a3,a4,by rw[show vAt (withR b l)=vAt b from rfl,hy _ (h.2.2.2.1.at a2).2.1]; exact a5,a6⟩
theorem valC (h:Val b) {l:List TCo} (hl:b.F.length<=l.length) (h200:l.length<=200) (hC:∀ i,i<l.length->CFld b (l.getD i default) (i+1)) (hs:∀ i,i<b.F.length->(l.getD i default).Aa=(b.F.getD i default).Aa/\(l.getD i default).X=(b.F.getD i default).X) (hL:∀ r∈b.B,0<=leftV (withC b l) r) (hV:∀ c∈l,0<=restV b c):Val (withC b l):=by
 have hr:∀ n:Int,1<=n/\n<=b.F.length->(cAt (withC b l) n).Aa=(cAt b n).Aa/\(cAt (withC b l) n).X=(cAt b n).X:=fun n hn=>hs (n-1).toNat om
 have hy:∀ n:Int,1<=n/\n<=b.F.length->yearOf (withC b l) n=yearOf b n:=fun n hn=>by
  unfold yearOf
  rw[(hr n hn).2]
  rfl
 refine⟨h.1,hC,hL,fun i hi=>?_,hV,fun i hi=>?_,h.2.2.2.2.2.2.1,h200,h.2.2.2.2.2.2.2.2⟩
 ·change VFld (withC b l) (b.G.getD i default) _
  obtain⟨a1,a2,a3,a4,a5,a6⟩:=h.2.2.2.1 i hi
  exact⟨a1,⟨a2.1,y31 a2.2 (by simpa [withC] using hl)⟩,a3,a4,by rw[(hr _ a2).1]; exact a5,by rw[hy _ a2]; exact a6⟩
 ·change OFld (withC b l) (b.Q.getD i default) (b.Q.take i) _
  obtain⟨a1,a2,a3,a4,a5,a6⟩:=h.2.2.2.2.2.1 i hi
  exact⟨a1,a2,a3,a4,by rw[show vAt (withC b l)=vAt b from rfl,hy _ (h.2.2.2.1.at a2).2.1]; exact a5,a6⟩
theorem valV (h:Val b) {l:List TVe} (hl:b.G.length<=l.length) (h200:l.length<=200) (hV:∀ i,i<l.length->VFld b (l.getD i default) (i+1)) (hs:∀ i,i<b.G.length->l.getD i default=b.G.getD i default) (hL:∀ c∈b.F,0<=restV (withV b l) c):Val (withV b l):=by
 have hr:∀ n:Int,1<=n/\n<=b.G.length->vAt (withV b l) n=vAt b n:=fun n hn=>hs (n-1).toNat om
 refine⟨h.1,h.2.1,h.2.2.1,hV,hL,fun i hi=>?_,h.2.2.2.2.2.2.1,h.2.2.2.2.2.2.2.1,h200,h.2.2.2.2.2.2.2.2.2⟩
 change OFld (withV b l) (b.Q.getD i default) (b.Q.take i) _
 obtain⟨a1,a2,a3,a4,a5,a6⟩:=h.2.2.2.2.2.1 i hi
 exact⟨a1,⟨a2.1,y31 a2.2 (by simpa [withV] using hl)⟩,a3,by rw[hr _ a2]; exact a4,by rw[hr _ a2]; exact a5,a6⟩
theorem valO (h:Val b) {l:List TOr} (h200:l.length<=200) (hO:∀ i,i<l.length->OFld b (l.getD i default) (l.take i) (i+1)):Val (withO b l) :=
 ⟨h.1,h.2.1,h.2.2.1,h.2.2.2.1,h.2.2.2.2.1,hO,h.2.2.2.2.2.2.1,h.2.2.2.2.2.2.2.1,h.2.2.2.2.2.2.2.2.1,h200⟩
theorem zh8 (h:Val b) (hn:(b.B.length:Int)<n):cmt b n=0:=by
 unfold cmt
 rw[z92 (q:=fun _=>false) (g:=fun _=>0) fun c hc=>by
  have:=(h.2.1.mem hc).1.2.1
  rw[y5 sk]; rfl]
 have:∀ l:List TCo,sm l (fun _=>false) (fun _=>0)=0:=fun l=>by induction l with
  | nil=>rfl
  | cons x l ih=>rw[z12,ih]; rfl
 exact this _
theorem zow (h:Val b) (hn:(b.F.length:Int)<n):ver b n=0:=by
 unfold ver
 rw[z92 (q:=fun _=>false) (g:=fun _=>0) fun c hc=>by
  have:=(h.2.2.2.1.mem hc).1.2.1
  rw[y5 sk]; rfl]
 have:∀ l:List TVe,sm l (fun _=>false) (fun _=>0)=0:=fun l=>by induction l with
  | nil=>rfl
  | cons x l ih=>rw[z12,ih]; rfl
 exact this _
variable {y:Int}
theorem zid (h:Val b) (hg:good code=true) (hy:0<=y/\y<=99) (hd:dayP d) (hn:amtP n) (hyr:yr d=y) (hl:(b.B.length:Int)≠200):Val (withR b (b.B++[⟨b.B.length+1,code,y,d,n,0⟩])):=by
 have h200:=h.2.2.2.2.2.2.1
 have hn':=hn
 unfold amtP at hn'
 refine valR h sj sk (fun i hi=>?_) (fun i hi=>by rw[z36 _ _ _ hi]; exact⟨rfl,rfl⟩) fun r hr=>?_
 ·by_cases hi':i<b.B.length
  ·rw[z36 _ _ _ hi']; exact h.1 i hi'
  ·have:i=b.B.length:=by simp at hi; omega
   subst this
   rw[z4c]
   exact⟨rfl,hg,hy,hd,hyr,hn,by simp only; omega⟩
 ·rw[y1j,y2z] at hr
  rcases hr with hr | rfl
  ·exact h.2.2.1 r hr
  ·unfold leftV
   simp only
   rw[zh8 h om,wrapId om om]
   omega
theorem zie (h:Val b) {r:Int} (hr:1<=r/\r<=b.B.length) (hn:amtP n) (hL:n<=leftN b r):Val (withR b (b.B.set (r-1).toNat ⟨(rAt b r).L,(rAt b r).C,(rAt b r).E,(rAt b r).Aa,(rAt b r).S,i64.wrap ((rAt b r).Ac+n)⟩)):=by
 have h200:=h.2.2.2.2.2.2.1
 have hm:=ze2 hr
 obtain⟨f1,f2,f3,f4,f5,f6,f7⟩:=h.1.at hr
 obtain⟨l1,l2⟩:=z95 h hm
 have hc:=zh5 h (rAt b r).L
 rw[zh3 h.1 hr] at hL
 unfold amtP at hn f6
 have hw:i64.wrap ((rAt b r).Ac+n)=(rAt b r).Ac+n:=wrapId om om
 rw[hw]
 have hk:(r-1).toNat<b.B.length:=om
 refine valR h sj sk (fun i hi=>?_) (fun i hi=>?_) fun x hx=>?_
 ·rw[z5e _ _ _ _ hk]
  split
  ·rename_i e
   refine⟨by simp only; omega,f2,f3,f4,f5,f6,by simp only; omega⟩
  ·exact h.1 i (by simpa using hi)
 ·rw[z5e _ _ _ _ hk]
  split
  ·rename_i e
   subst e
   exact⟨rfl,rfl⟩
  ·exact⟨rfl,rfl⟩
 ·rcases y29 hx with hx | rfl
  ·exact h.2.2.1 x hx
  ·unfold leftV
   simp only
   rw[wrapId om om]
   omega
variable {u:Int}
theorem zkn (h:Val b) {r p:Int} (hr:1<=r/\r<=b.B.length) (hd:dayP d) (hn:amtP n) (hp:1<=p/\p<=1000000) (hu:dayP u) (hy:yr d=(rAt b r).E) (hdr:(rAt b r).Aa<=d) (hL:n<=leftV b (rAt b r)) (hl:(b.F.length:Int)≠200):Val (withC b (b.F++[⟨b.F.length+1,r,d,n,0,p,u⟩])):=by
 have h200:=h.2.2.2.2.2.2.2.1
 have hn':=hn
 unfold amtP at hn'
 have hrm:=ze2 hr
 obtain⟨l1,l2⟩:=z95 h hrm
 refine valC h sj sk (fun i hi=>?_) (fun i hi=>by rw[z36 _ _ _ hi]; exact⟨rfl,rfl⟩) (fun x hx=>?_) fun c hc=>?_
 ·by_cases hi':i<b.F.length
  ·rw[z36 _ _ _ hi']; exact h.2.1 i hi'
  ·have:i=b.F.length:=by simp at hi; omega
   subst this
   rw[z4c]
   exact⟨rfl,hr,hd,hn,by simp only; omega,hp,hu,hdr,hy⟩
 ·obtain⟨x1,x2⟩:=z95 h hx
  unfold leftV
  have e:cmt (withC b (b.F++[⟨b.F.length+1,r,d,n,0,p,u⟩])) x.L=cmt b x.L+if (r==x.L)=true then n else 0:=by
   unfold cmt withC
   simp only
   rw[z7n,z12,zcy]
   simp
  have hc:=zh5 h x.L
  have hf:=(h.1.mem hx)
  have hf6:=hf.1.2.2.2.2.2.1
  have hf7:=hf.1.2.2.2.2.2.2
  unfold amtP at hf6
  rw[e]
  split
  ·rename_i er
   have er:=eq_of_beq er
   have:x=rAt b r:=by rw[er]; exact hf.2.1
   rw[<- this] at hL
   rw[wrapId om om]
   omega
  ·rw[wrapId om om]
   omega
 ·rw[y1j,y2z] at hc
  rcases hc with hc | rfl
  ·exact h.2.2.2.2.1 c hc
  ·unfold restV
   simp only
   rw[zow h om,wrapId om om]
   omega
theorem zox (h:Val b) (hc:1<=c/\c<=b.F.length) (hn:amtP n) (hL:n<=restV b (cAt b c)):Val (withC b (b.F.set (c-1).toNat ⟨(cAt b c).L,(cAt b c).X,(cAt b c).Aa,(cAt b c).S,i64.wrap ((cAt b c).Ac+n),(cAt b c).Ah,(cAt b c).Aj⟩)):=by
 have h200:=h.2.2.2.2.2.2.2.1
 have hm:=zr2 hc
 obtain⟨f1,f2,f3,f4,f5,f6,f7,f8,f9⟩:=h.2.1.at hc
 obtain⟨l1,l2⟩:=zh7 h hm
 have hv:=zh6 h (cAt b c).L
 unfold amtP at hn
 have f4':=f4
 unfold amtP at f4'
 have hw:i64.wrap ((cAt b c).Ac+n)=(cAt b c).Ac+n:=wrapId om om
 rw[hw]
 have hk:(c-1).toNat<b.F.length:=om
 refine valC h sj sk (fun i hi=>?_) (fun i hi=>?_) (fun x hx=>?_) fun x hx=>?_
 ·rw[z5e _ _ _ _ hk]
  split
  ·rename_i e
   exact⟨by simp only; omega,f2,f3,f4,by simp only; omega,f6,f7,f8,f9⟩
  ·exact h.2.1 i (by simpa using hi)
 ·rw[z5e _ _ _ _ hk]
  split
  ·rename_i e
   subst e
   exact⟨rfl,rfl⟩
  ·exact⟨rfl,rfl⟩
 ·have e:∀ m,cmt (withC b (b.F.set (c-1).toNat ⟨(cAt b c).L,(cAt b c).X,(cAt b c).Aa,(cAt b c).S,(cAt b c).Ac+n,(cAt b c).Ah,(cAt b c).Aj⟩)) m=cmt b m:=fun m=>by
   unfold cmt withC
   simp only
   rw[zgy hk _ _ _ default]
   change _-(if ((cAt b c).X==m)=true then (cAt b c).S else 0)+(if ((cAt b c).X==m)=true then (cAt b c).S else 0)=_
   omega
  unfold leftV
  rw[e]
  exact h.2.2.1 x hx
 ·rcases y29 hx with hx | rfl
  ·exact h.2.2.2.2.1 x hx
  ·unfold restV
   simp only
   rw[wrapId om om]
   omega
theorem zko (h:Val b) (hc:1<=c/\c<=b.F.length) (hd:dayP d) (hn:amtP n) (hy:yr d<=yearOf b c+1) (hdc:(cAt b c).Aa<=d) (hL:n<=restV b (cAt b c)) (hl:(b.G.length:Int)≠200):Val (withV b (b.G++[⟨b.G.length+1,c,d,n⟩])):=by
 have h200:=h.2.2.2.2.2.2.2.2.1
 have hn':=hn
 unfold amtP at hn'
 refine valV h sj sk (fun i hi=>?_) (fun i hi=>z36 _ _ _ hi) fun x hx=>?_
 ·by_cases hi':i<b.G.length
  ·rw[z36 _ _ _ hi']; exact h.2.2.2.1 i hi'
  ·have:i=b.G.length:=by simp at hi; omega
   subst this
   rw[z4c]
   exact⟨rfl,hc,hd,hn,hdc,hy⟩
 ·obtain⟨x1,x2⟩:=zh7 h hx
  unfold restV
  have e:ver (withV b (b.G++[⟨b.G.length+1,c,d,n⟩])) x.L=ver b x.L+if (c==x.L)=true then n else 0:=by
   unfold ver withV
   simp only
   rw[z7n,z12,zcy]
   simp
  have hv:=zh6 h x.L
  have hf:=(h.2.1.mem hx)
  have hf6:=hf.1.2.2.2.1
  have hf7:=hf.1.2.2.2.2.1
  unfold amtP at hf6
  rw[e]
  split
  ·rename_i er
   have er:=eq_of_beq er
   have:x=cAt b c:=by rw[er]; exact hf.2.1
   rw[<- this] at hL
   rw[wrapId om om]
   omega
  ·rw[wrapId om om]
   omega
theorem zms (h:Val b) (hv:1<=v/\v<=b.G.length) (hd:dayP d) (hy:yr d<=yearOf b (vAt b v).Ab+1) (hdv:(vAt b v).Aa<=d) (hb:0<(ordersOf b.Q v).length->(lastV b v).Al=true/\(lastV b v).Aa<=d) (hl:(b.Q.length:Int)≠200):Val (withO b (b.Q++[⟨b.Q.length+1,v,(ordersOf b.Q v).length+1,d,false⟩])):=by
 have h200:=h.2.2.2.2.2.2.2.2.2
 refine valO h sk fun i hi=>?_
 by_cases hi':i<b.Q.length
 ·rw[z36 _ _ _ hi',List.take_append_of_le_length om]; exact h.2.2.2.2.2.1 i hi'
 ·have:i=b.Q.length:=by simp at hi; omega
  subst this
  rw[z4c,List.take_left]
  refine⟨rfl,hv,hd,hdv,hy,rfl,?_⟩
  rw[List.any_eq_false]
  intro x hx
  obtain⟨hx1,hx2⟩:=z3m.mp hx
  obtain⟨j,hj,he⟩:=z18 hx1
  obtain⟨k,hk,hke,hkv,hkd⟩:=z8e (b:=b) (v:=v) (y4r hx)
  obtain⟨hb1,hb2⟩:=hb (y4r hx)
  simp only at hx2
  have:x.Al=true/\x.Aa<=d:=by
   rcases y3s j k with hjk | hjk | hjk
   ·have:=zbv h.2.2.2.2.2.1 hjk hk (by rw[he,hke,hx2,hkv])
    rw[he,hke] at this
    exact⟨this.1,om⟩
   ·subst hjk
    rw[<- he,hke]; exact⟨hb1,hb2⟩
   ·exfalso
    have hm:x∈ordersOf (b.Q.drop (k+1)) v:=by
     rw[z3m]
     refine⟨?_,hx2⟩
     have e:x=(b.Q.drop (k+1)).getD (j-(k+1)) default:=by
      rw[<- he]
      simp only[y8,y2g]
      rw[show k+1+(j-(k+1))=j from om]
     rw[e]
     exact z7 (by rw[y3a]; omega)
    rw[hkd] at hm; cases hm
  simp only[this.1,y2r,y3i,y7]
  omega
theorem zmt (l:List TOr) (i:Nat) (y:TOr) (hi:i<l.length) (hy:y.U=(l.getD i default).U/\y.Aa=(l.getD i default).Aa/\y.Al=true) (v d:Int) :
  (ordersOf (l.set i y) v).length=(ordersOf l v).length/\((ordersOf l v).any (fun x=>!x.Al||decide (x.Aa>d))=false->(ordersOf (l.set i y) v).any (fun x=>!x.Al||decide (x.Aa>d))=false):=by
 induction l generalizing i with
 | nil=>simp at hi
 | cons x l ih =>
  unfold ordersOf at ih |-
  cases i with
  | zero =>
   rw[y4i,y30,y30]
   rw[y4e] at hy
   rw[hy.1]
   split
   ·simp only[yx,y4s,hy.2.1,hy.2.2,y2r,y3i,y2n]
    exact⟨trivial,fun h=>⟨h.1.2,h.2⟩⟩
   ·exact⟨rfl,fun h=>h⟩
  | succ i =>
   rw[y3k] at hy
   have:=ih i (by simpa using hi) hy
   rw[y4j,y30,y30]
   split
   ·simp only[yx,y4s,y2n]
    exact⟨by rw[this.1],fun h=>⟨h.1,this.2 h.2⟩⟩
   ·exact this
theorem zoy (h:Val b) (hl:0<(ordersOf b.Q v).length):Val (withO b (b.Q.set ((lastV b v).L-1).toNat ⟨(lastV b v).L,(lastV b v).U,(lastV b v).Ak,(lastV b v).Aa,true⟩)):=by
 have h200:=h.2.2.2.2.2.2.2.2.2
 obtain⟨i,hi,he,hv,hd⟩:=z8e hl
 have hf:=h.2.2.2.2.2.1 i hi
 rw[he] at hf
 rw[show ((lastV b v).L-1).toNat=i by have:=hf.1; omega]
 refine valO h sk fun j hj=>?_
 rw[yb] at hj
 have hj':=h.2.2.2.2.2.1 j hj
 have key:∀ u d:Int,(ordersOf ((b.Q.set i ⟨(lastV b v).L,(lastV b v).U,(lastV b v).Ak,(lastV b v).Aa,true⟩).take j) u).length=(ordersOf (b.Q.take j) u).length/\((ordersOf (b.Q.take j) u).any (fun x=>!x.Al||decide (x.Aa>d))=false->(ordersOf ((b.Q.set i ⟨(lastV b v).L,(lastV b v).U,(lastV b v).Ak,(lastV b v).Aa,true⟩).take j) u).any (fun x=>!x.Al||decide (x.Aa>d))=false):=fun u d=>by
  rw[List.take_set]
  by_cases hij:i<j
  ·have e:(b.Q.take j).getD i default=lastV b v:=by
    rw[<- he]
    simp only[y8,y5h]
    rw[y6 hij]
   exact zmt _ i _ (by rw[y1f]; omega) (by rw[e]; exact⟨rfl,rfl,rfl⟩) u d
  ·rw[List.set_eq_of_length_le (by rw[y1f]; omega)]
   exact⟨rfl,fun h=>h⟩
 rw[z5e _ _ _ _ hi]
 split
 ·rename_i e
  subst e
  rw[he] at hj'
  obtain⟨a1,a2,a3,a4,a5,a6,a7⟩:=hj'
  exact⟨a1,a2,a3,a4,a5,by rw[(key _ 0).1]; exact a6,(key _ _).2 a7⟩
 ·obtain⟨a1,a2,a3,a4,a5,a6,a7⟩:=hj'
  exact⟨a1,a2,a3,a4,a5,by rw[(key _ 0).1]; exact a6,(key _ _).2 a7⟩
def TapeOk (s:TTape):Prop:=0<=s.at_/\s.l.length<=500/\s.at_<=s.l.length
theorem z96 (t:List Int):∃ s,F_q2k t=some s/\TapeOk s:=by
 simp only[F_q2k,S_q2k,Scr.den]
 refine⟨_,za6 ⟨?_,?_,trivial⟩ rfl,sj,?_,sj⟩
 ·split <;> omega
 ·split <;> omega
 ·simp only[y1f]
  split <;> omega
variable {s:TTape}
theorem z28 (hs:TapeOk s) (h1:1<=n) (hn:n<=4611686018427387904):∃ v s',F_q5 n s=some (v,s')/\TapeOk s'/\0<=v/\v<n:=by
 obtain⟨a1,a2,a3⟩:=hs
 simp only[F_q5,S_q5,Scr.den]
 by_cases hc:s.at_>=(s.l.length:Int)
 ·rw[y6 (by simp[hc])]
  exact⟨0,s,rfl,⟨a1,a2,a3⟩,om,om⟩
 ·rw[y5 sk]
  have e1:i64.wrap (s.at_+1)=s.at_+1:=wrapId om om
  rw[e1,z6 ⟨om,om,om,trivial⟩]
  generalize s.l.getD s.at_.toNat default=x
  have t1:x.tmod n<n:=Int.tmod_lt_of_pos x om
  have t2:-n<x.tmod n:=Int.lt_tmod_of_pos x om
  have e3:i64.wrap (x.tmod n+n)=x.tmod n+n:=wrapId om om
  rw[e3]
  have ht:TapeOk ⟨s.l,s.at_+1⟩:=⟨by simp only; omega,a2,by simp only; omega⟩
  split
  ·rename_i h
   simp only[y7] at h
   exact⟨_,_,rfl,ht,om,om⟩
  ·rename_i h
   simp only[y7] at h
   exact⟨_,_,rfl,ht,om,om⟩
theorem z1v {lo hi:Int} (hs:TapeOk s) (h0:-1000000000000000<=lo) (h1:lo<=hi) (h2:hi<=1000000000000000):∃ v s',F_ql lo hi s=some (v,s')/\TapeOk s'/\lo<=v/\v<=hi:=by
 simp only[F_ql,S_ql,Scr.den]
 rw[wrapId (n:=hi-lo) om om,wrapId (n:=hi-lo+1) om om]
 obtain⟨v,s',h3,h4,h5,h6⟩:=z28 (n:=hi-lo+1) hs om om
 refine⟨lo+v,s',?_,h4,om,om⟩
 rw[h3,obind]
 simp only
 rw[wrapId (n:=lo+v) om om]
theorem z32 {l:List Int} (hs:TapeOk s) (h0:1<=l.length) (h1:l.length<=100):∃ v s',F_qu l s=some (v,s')/\TapeOk s'/\v∈l:=by
 simp only[F_qu,S_qu,Scr.den]
 obtain⟨v,s',h3,h4,h5,h6⟩:=z28 (n:=(l.length:Int)) hs om om
 refine⟨_,s',?_,h4,z7 (show v.toNat<l.length from om)⟩
 rw[h3,obind,z6 ⟨by simpa using h5,by simp only; omega,trivial⟩]
theorem zai (hs:TapeOk s):∃ c s',F_q2w s=some (c,s')/\TapeOk s'/\c.length<=60/\good c=true:=by
 simp only[F_q2w,S_q2w,Scr.den]
 obtain⟨v,s',h3,h4,h5,h6⟩:=z28 (n:=3) hs om om
 have h:∀ c∈([[49],[49,46,50],[50]]:List (List UInt8)),c.length<=60/\good c=true:=dk
 refine⟨_,s',?_,h4,h _ (z7 (show v.toNat<3 from om))⟩
 rw[h3,obind,z6 ⟨by simpa using h5,by simp only; omega,trivial⟩]
theorem zmu:Val nb:=by
 refine⟨fun i hi=>?_,fun i hi=>?_,fun r hr=>?_,fun i hi=>?_,fun r hr=>?_,fun i hi=>?_,dk,dk,dk,dk⟩
 ·exact absurd hi (y3n _)
 ·exact absurd hi (y3n _)
 ·cases hr
 ·exact absurd hi (y3n _)
 ·cases hr
 ·exact absurd hi (y3n _)
def mt (b:TBo) (code:List UInt8) (y n:Int):Bool:=(rAt b n).C==code&&(rAt b n).E==y
theorem ztd:i64.wrap 0=0:=wrapId om om
def eV:TVe:=⟨1,1,4340,50⟩
theorem zr3 (b:TBo) (c:TCo) (m:Int):rel (withC b (b.F++[c])) m=rel b m+if (c.X==m)=true then c.Ac else 0:=by
 unfold rel withC
 simp only
 rw[z7n,z12,zcy]
 simp
theorem zoz (b:TBo) (c:TCo) (h0:c.Ac=0) (code:List UInt8) (y:Int):usedV (withC b (b.F++[c])) code y=usedV b code y:=by
 unfold usedV
 congr 1
 change sm b.B _ _=sm b.B _ _
 refine z92 fun r _=>?_
 simp only[zr3,h0]
 simp
theorem zr4 (l:List α) (p:α->Bool):sm l p (fun _=>0)=0:=by
 induction l with
 | nil=>rfl
 | cons x l ih=>rw[z12,ih]; split <;> rfl
theorem zmv {α:Type} [Inhabited α] {num:α->Int} {q:Int->Bool} {p:α->Bool} (a:Int):∀ (l:List α) (i:Nat),i<l.length->(∀ j,j<l.length->j≠i->num (l.getD j default)≠num (l.getD i default))->p (l.getD i default)=q (num (l.getD i default)) ->
  sm l p (fun x=>if (num (l.getD i default)==num x)=true then a else 0)=if q (num (l.getD i default))=true then a else 0
 | [],i,hi,_,_=>by simp at hi
 | x :: l,0,hi,hd,hp=>by
  rw[y4e] at hp hd |-
  rw[z12,hp]
  have:sm l p (fun y=>if (num x==num y)=true then a else 0)=sm l p (fun _=>0):=z92 fun y hy=>by
   obtain⟨j,hj,e⟩:=z18 hy
   have:=hd (j+1) sk om
   rw[y3k,e] at this
   have e2:(num x==num y)=false:=by simpa using fun h=>this h.symm
   rw[e2]; simp
  rw[this,zr4]
  simp
 | x :: l,i+1,hi,hd,hp=>by
  rw[y3k] at hp hd |-
  rw[z12,zmv a l i (by simpa using hi) (fun j hj hji=>by
   have:=hd (j+1) sk om
   rwa [y3k] at this) hp]
  have:=hd 0 sj om
  rw[y4e] at this
  have e2:(num (l.getD i default)==num x)=false:=by simpa using fun h=>this h.symm
  rw[e2]; simp
theorem zsm (h:Val b) (code:List UInt8) (y:Int) {r:TRe} (hr:r∈b.B):mt b code y r.L=(r.C==code&&r.E==y):=by
 unfold mt
 rw[<- (h.1.mem hr).2.1]
theorem zp {_:Decidable P} {a b:TBo×Int} (h:(if P then a else b).2=0) (ha:a.2≠0):(if P then a else b)=b/\¬ P:=by
 by_cases hp:P
 ·rw[y6 hp] at h; exact absurd h ha
 ·exact⟨y5 hp,hp⟩
theorem zh9 {r p:Int} (h0:(commitS b r d n p u).2=0) (code:List UInt8) (y:Int):usedV (commitS b r d n p u).1 code y=usedV b code y:=by
 unfold commitS at h0 |-
 obtain⟨e,_⟩:=zp h0 dk; rw[e] at h0 |-; clear e
 obtain⟨e,_⟩:=zp h0 dk; rw[e] at h0 |-; clear e
 obtain⟨e,_⟩:=zp h0 dk; rw[e] at h0 |-; clear e
 obtain⟨e,_⟩:=zp h0 dk; rw[e] at h0 |-; clear e
 obtain⟨e,_⟩:=zp h0 dk; rw[e] at h0 |-; clear e
 obtain⟨e,_⟩:=zp h0 dk; rw[e] at h0 |-; clear e
 obtain⟨e,_⟩:=zp h0 dk; rw[e] at h0 |-; clear e
 exact zoz _ _ rfl _ _
theorem zha (h0:(verifyS b c d n).2=0) (code:List UInt8) (y:Int):usedV (verifyS b c d n).1 code y=usedV b code y:=by
 unfold verifyS at h0 |-
 obtain⟨e,_⟩:=zp h0 dk; rw[e] at h0 |-; clear e
 obtain⟨e,_⟩:=zp h0 dk; rw[e] at h0 |-; clear e
 obtain⟨e,_⟩:=zp h0 dk; rw[e] at h0 |-; clear e
 obtain⟨e,_⟩:=zp h0 dk; rw[e] at h0 |-; clear e
 obtain⟨e,_⟩:=zp h0 dk; rw[e] at h0 |-; clear e
 obtain⟨e,_⟩:=zp h0 dk; rw[e] at h0 |-; clear e
 obtain⟨e,_⟩:=zp h0 dk; rw[e] at h0 |-; clear e
 rfl
theorem zif (h0:(orderS b v d).2=0) (code:List UInt8) (y:Int):usedV (orderS b v d).1 code y=usedV b code y:=by
 unfold orderS at h0 |-
 obtain⟨e,_⟩:=zp h0 dk; rw[e] at h0 |-; clear e
 obtain⟨e,_⟩:=zp h0 dk; rw[e] at h0 |-; clear e
 obtain⟨e,_⟩:=zp h0 dk; rw[e] at h0 |-; clear e
 obtain⟨e,_⟩:=zp h0 dk; rw[e] at h0 |-; clear e
 obtain⟨e,_⟩:=zp h0 dk; rw[e] at h0 |-; clear e
 obtain⟨e,_⟩:=zp h0 dk; rw[e] at h0 |-; clear e
 obtain⟨e,_⟩:=zp h0 dk; rw[e] at h0 |-; clear e
 rfl
theorem zjg {l:List α} (h:∀ x∈l,p x=false):sm l p f=0:=by
 induction l with
 | nil=>rfl
 | cons x l ih=>rw[z12,h x sj,ih fun y hy=>h y (by simp[hy])]; rfl
def ztn (b:TBo):Prop:=b.B.length<=2000000/\b.F.length<=2000000/\b.G.length<=2000000/\b.Q.length<=2000000
theorem zmw (h:ztn b):F_q3 b b=some true:=by
 obtain⟨h1,h2,h3,h4⟩:=h
 simp only[F_q3,S_q3,Scr.den,z8]
 rw[y5 sj,z6 ⟨om,trivial⟩]
 obtain⟨_,e1,_⟩:=zi (body:=fun i s=>(S_q3_b1 b b i s).den) (n:=b.B.length) (fun _ _=>True) (s0:=()) trivial (fun i s hi _=>⟨(),by
  simp only[S_q3_b1,Scr.den]; rw[z6 ⟨hi,trivial⟩,y5 sj],trivial⟩)
 rw[e1]
 simp only[outM]
 rw[z6 ⟨om,trivial⟩]
 obtain⟨_,e1,_⟩:=zi (body:=fun i s=>(S_q3_b2 b b i s).den) (n:=b.F.length) (fun _ _=>True) (s0:=()) trivial (fun i s hi _=>⟨(),by
  simp only[S_q3_b2,Scr.den]; rw[z6 ⟨hi,trivial⟩,y5 sj],trivial⟩)
 rw[e1]
 skip
 rw[z6 ⟨om,trivial⟩]
 obtain⟨_,e1,_⟩:=zi (body:=fun i s=>(S_q3_b3 b b i s).den) (n:=b.G.length) (fun _ _=>True) (s0:=()) trivial (fun i s hi _=>⟨(),by
  simp only[S_q3_b3,Scr.den]; rw[z6 ⟨hi,trivial⟩,y5 sj],trivial⟩)
 rw[e1]
 skip
 rw[z6 ⟨om,trivial⟩]
 obtain⟨_,e1,_⟩:=zi (body:=fun i s=>(S_q3_b4 b b i s).den) (n:=b.Q.length) (fun _ _=>True) (s0:=()) trivial (fun i s hi _=>⟨(),by
  simp only[S_q3_b4,Scr.den]; rw[z6 ⟨hi,trivial⟩,y5 sj],trivial⟩)
 rw[e1]
theorem z45 (b:TBo) (code:List UInt8) (y:Int):F_qd b code y=some (usedV b code y):=by
 simp only[F_qd,S_qd,Scr.den]
 rw[z1k b.B (fun (s:Int) r=>if (r.C==code&&r.E==y)=true then i64.wrap (s+(r.S-r.Ac-rel b r.L)) else s)]
 ·have:=zaa b.B (fun r=>r.C==code&&r.E==y) (fun r=>r.S-r.Ac-rel b r.L) 0
  rw[ztd] at this
  simp only[outM,this]
  simp[usedV]
 ·intro i s hi
  simp only[S_qd_b2,Scr.den,z8]
  obtain⟨r,hr⟩:∃ r,b.B.getD i default=r:=⟨_,rfl⟩
  simp only[hr]
  cases hp:(r.C==code&&r.E==y)
  ·rw[y6 (by
    cases h1:r.C==code
    ·rfl
    ·rw[h1] at hp; simpa [bne] using hp)]
   rfl
  ·simp only[yl] at hp
   rw[y5 (by simp only[bne,hp.1,hp.2]; decide),za8]
   rw[z1k b.F (fun (s:Int) c=>if (c.X==r.L)=true then i64.wrap (s-c.Ac) else s)]
   ·have:=zab b.F (fun c=>c.X==r.L) (·.Ac) (s+(r.S-r.Ac))
    simp only[outM,this,yz]
    unfold rel
    congr 3
    omega
   ·intro j s hj
    simp only[S_qd_b1,Scr.den,hr]
    split <;> rfl
theorem z3y {a b:List UInt8} (ha:good a=true) (hb:good b=true):F_qv a b=some (lexC (parts a) (parts b)):=by
 have h1:=(z30 ha).2
 have h2:=(z30 hb).2
 simp only[F_qv,S_qv,Scr.den,zag ha,zag hb,obind,z8]
 rw[y5 (by simp only[yc,y13]; omega)]
 generalize parts a=x at h1
 generalize parts b=y at h2
 generalize hF:(fun s=>(S_qv_b1 x y s).den)=F
 have key:∀ (k i:Nat),i+k=x.length->i<=y.length->outM (iterM F (i:Int)) (fun _=>if decide ((x.length:Int)<(y.length:Int))=true then some (-1) else if decide ((x.length:Int)>(y.length:Int))=true then some 1 else some 0) (fun r=>some (id r))=some (lexC (x.drop i) (y.drop i)):=by
  intro k
  induction k with
  | zero =>
   intro i hk hy
   rw[z2d,<- y48 hF]
   simp only[S_qv_b1,Scr.den,zb]
   rw[y5 (by simp only[yl,y7]; omega),y1i om]
   simp only[outM]
   by_cases h:y.length<=i
   ·rw[y1i h,y5 sk,y5 sk]; rfl
   ·rw[y1l (by omega:i<y.length),y6 sk]; rfl
  | succ k ih =>
   intro i hk hy
   have hi:i<x.length:=om
   rw[z2d,<- y48 hF,y1l hi]
   simp only[S_qv_b1,Scr.den,zb]
   by_cases h:y.length<=i
   ·rw[y5 (by simp only[yl,y7]; omega),y1i h]
    simp only[outM]
    rw[y5 sk,y6 sk]; rfl
   ·have hj:i<y.length:=om
    have w1:i64.wrap ((i:Int)+1)=((i+1:Nat):Int):=by rw[wrapId om om]; omega
    rw[y6 (by simp only[yl,y7]; omega),z6 ⟨om,om,om,trivial⟩,y1l hj]
    simp only[yh,z2b hi,z2b hj,lexC]
    by_cases h1:x[i]<y[i]
    ·rw[y6 (ye h1),y6 h1]; rfl
    ·rw[y5 (by simpa using h1),y5 h1]
     by_cases h2:x[i]>y[i]
     ·rw[y6 (ye h2),y6 h2]; rfl
     ·rw[y5 (by simpa using h2),y5 h2,w1]
      exact ih (i+1) om om
 have:=key x.length 0 om om
 simpa using this
def RtOk (r:TRi):Prop:=good r.C=true/\(0<=r.E/\r.E<=99)/\(0<=r.A/\r.A<=1000000000000000)/\(0<=r.I/\r.I<=1000000000000000)/\(0<=r.N/\r.N<=r.A)
instance (r:TRi):Decidable (RtOk r):=inferInstanceAs (Decidable (_/\_))
theorem zy (n a b:Int):F_qf n a b=some (decide (a<=n/\n<=b)):=by
 simp only[F_qf,S_qf,Scr.den,zb,y3v,Bool.decide_and]
theorem z3h (n:Int):F_q1b n=some (decide (0<=n/\n<=1000000000000000)):=by
 simp only[F_q1b,S_q1b,Scr.den,zy,obind]
variable {r:TRi}
theorem z25 (h:r.C.length<=1000000):F_q2m r=some (decide (RtOk r)):=by
 open Classical in simp only[F_q2m,S_q2m,F_q2a,S_q2a,Scr.den,z2r (show r.C.length<=1099511627776 from om),zy,z3h,zt,obind,zb,z3l]
 refine yk some ?_
 have e:decide (((parts r.C).length:Int)>0)=good r.C:=by rw[<- z2m]; rw[y1k]; simp
 rw[e,y1k]
 simp only[RtOk,yl,y7,and_assoc]
theorem z4y (h:r.C.length<=1000000):F_q2v r=some (decide (RtOk r)):=by
 open Classical in simp only[F_q2v,S_q2v,F_qc,S_qc,Scr.den,z2q (show r.C.length<4611686018427387904 from om),zt,obind,zb,z3l]
 refine yk some ?_
 rw[y1k]
 simp only[RtOk,yl,y7,and_assoc,y3v]
theorem z74 [Inhabited α] (l:List α) (p:α->Bool) (v:Nat->ρ) (hs:∀ i,i<l.length->body i ()=some (if p (l.getD i default)=true then .ret (v i) else .cont ())) :
  rangeM body l.length 0 ()=some (if l.any p=true then .ret (v (l.findIdx p)) else .next ()):=by
 have key:∀ (k i:Nat),i+k=l.length->rangeM body k i ()=some (if (l.drop i).any p=true then .ret (v (i+(l.drop i).findIdx p)) else .next ()):=by
  intro k
  induction k with
  | zero=>intro i hk; rw[y1i om]; rfl
  | succ k ih =>
   intro i hk
   have hi:i<l.length:=om
   have e:l.getD i default=l[i]:=by simp[List.getD_eq_getElem?_getD,List.getElem?_eq_getElem hi]
   rw[y1l hi]
   simp only[rangeM,hs i hi,e,y4s,List.findIdx_cons]
   cases hp:p l[i] with
   | true=>simp
   | false =>
    simp only[yp,yn,y3i,cond_false]
    rw[ih (i+1) om,show i+1+(l.drop (i+1)).findIdx p=i+((l.drop (i+1)).findIdx p+1) from om]
 have:=key l.length 0 om
 simpa using this
def isR (c:List UInt8) (y:Int) (r:TRi):Bool:=r.C==c&&r.E==y
theorem zjh {c:List UInt8}:isR c y r=true↔r.C=c/\r.E=y:=by simp[isR]
def hasR (l:List TRi) (c:List UInt8) (y:Int):Bool:=l.any (isR c y)
def rix (l:List TRi) (c:List UInt8) (y:Int):Nat:=l.findIdx (isR c y)
def rightV (l:List TRi) (c:List UInt8) (y:Int):TRi:=if hasR l c y=true then l.getD (rix l c y) default else ⟨c,y,0,0,0⟩
def unusedV (o:TOf) (c:List UInt8) (y:Int):Int:=i64.wrap (i64.wrap ((rightV o.H c y).A-(rightV o.H c y).N)-usedV o.Af c y)
variable {l:List TRi}
theorem z3c {c:List UInt8} (h:hasR l c y=true):rix l c y<l.length/\(l.getD (rix l c y) default).C=c/\(l.getD (rix l c y) default).E=y:=by
 have hlt:rix l c y<l.length:=by
  unfold rix
  rw[List.findIdx_lt_length]
  simpa [hasR] using h
 refine⟨hlt,?_⟩
 have:=y4a (xs:=l) (p:=isR c y) (w:=hlt)
 rw[zjh] at this
 rw[show l.getD (rix l c y) default=l[rix l c y] by simp[List.getD_eq_getElem?_getD,List.getElem?_eq_getElem hlt]]
 exact this
theorem z5f (o:TOf) (c:List UInt8) (y:Int):F_q47 o c y=some (if hasR o.H c y=true then (rix o.H c y:Int) else -1):=by
 simp only[F_q47,S_q47,F_q2r,S_q2r,Scr.den]
 rw[z74 o.H (isR c y) (fun i=>(i:Int))]
 ·unfold hasR
  by_cases h:o.H.any (isR c y)=true
  ·rw[y6 h,y6 h]; rfl
  ·rw[y5 h,y5 h]; rfl
 ·intro i hi
  simp only[S_q2r_b1,F_q6q,S_q6q,Scr.den,obind,zb]
  unfold isR
  split <;> rfl
theorem at_eq (o:TOf) (c:List UInt8) (y:Int):F_q13 o c y=some (if hasR o.H c y=true then (rix o.H c y:Int) else -1):=by
 simp only[F_q13,S_q13,Scr.den]
 rw[z74 o.H (isR c y) (fun i=>(i:Int))]
 ·unfold hasR
  by_cases h:o.H.any (isR c y)=true
  ·rw[y6 h,y6 h]; rfl
  ·rw[y5 h,y5 h]; rfl
 ·intro i hi
  simp only[S_q13_b1,Scr.den,zb]
  unfold isR
  split <;> rfl
theorem zd2 (o:TOf) (c:List UInt8) (y:Int):F_q31 o c y=some (hasR o.H c y):=by
 simp only[F_q31,S_q31,Scr.den,z5f,obind]
 cases h:hasR o.H c y
 ·simp
 ·simp
theorem z4i (o:TOf) (c:List UInt8) (y:Int):F_q2c o c y=some (rightV o.H c y):=by
 simp only[F_q2c,S_q2c,Scr.den,z5f,obind,rightV]
 by_cases h:hasR o.H c y=true
 ·have:=(z3c h).1
  simp only[y6 h,yh]
  rw[y6 sj,z6 ⟨om,om,trivial⟩]
 ·simp only[y5 h]
  rw[y5 dk]
theorem z1z (o:TOf) (c:List UInt8) (y:Int):F_q1n o c y=some (rightV o.H c y):=by
 simp only[F_q1n,S_q1n,Scr.den,at_eq,obind,rightV]
 by_cases h:hasR o.H c y=true
 ·have:=(z3c h).1
  simp only[y6 h,yh]
  rw[y6 sj,z6 ⟨om,om,trivial⟩]
 ·simp only[y5 h]
  rw[y5 dk]
theorem zaj (o:TOf) (c:List UInt8) (y:Int):F_q3q o c y=some (unusedV o c y):=by
 simp only[F_q3q,S_q3q,Scr.den,z4i,zdx,obind,unusedV]
theorem z9r (o:TOf) (c:List UInt8) (y:Int):F_q3y o c y=some (unusedV o c y):=by
 simp only[F_q3y,S_q3y,Scr.den,z1z,z45,obind,unusedV]
def SmO (o:TOf):Prop:=Small o.Af/\o.H.length<=1000000/\∀ r∈o.H,r.C.length<=1000000
def Srt (l:List TRi):Prop:=∀ i,i<l.length->i=0\/cmpR (l.getD (i-1) default) (l.getD i default)<0
def VO (o:TOf):Prop:=(1<=o.L/\o.L<=6)/\o.H.length<=60/\Val o.Af/\(∀ r∈o.H,RtOk r)/\Srt o.H/\∀ x∈o.Af.B,hasR o.H x.C x.E=true/\0<=unusedV o x.C x.E
theorem z8f {b:TRi} (h:good a.C=true\/good b.C=true):cmpR a b<0↔lexC (parts a.C) (parts b.C)<0\/(lexC (parts a.C) (parts b.C)=0/\a.E<b.E):=by
 unfold cmpR
 rw[z2n h]
 generalize lexC (parts a.C) (parts b.C)=c
 by_cases hc:c=0
 ·rw[y5 (by simpa using hc)]
  unfold cmpI
  by_cases h1:a.E<b.E
  ·rw[y6 h1]; simp[hc,h1]
  ·rw[y5 h1]
   split <;> simp[hc,h1]
 ·rw[y6 hc]; simp[hc]
theorem z5g {b:TRi} (ha:good a.C=true) (hb:good b.C=true):cmpR a b=0↔a.C=b.C/\a.E=b.E:=by
 unfold cmpR
 rw[z2n (.inl ha)]
 by_cases hc:lexC (parts a.C) (parts b.C)=0
 ·rw[y5 (by simpa using hc)]
  have e:=z7o ha hb (z2u hc)
  unfold cmpI
  by_cases h1:a.E<b.E
  ·rw[y6 h1]; simp; omega
  ·rw[y5 h1]
   by_cases h2:a.E>b.E
   ·rw[y6 h2]; simp; omega
   ·rw[y5 h2]; simp[e]; omega
 ·rw[y6 hc]
  constructor
  ·intro h; exact absurd h hc
  ·rintro⟨h1,_⟩
   exact absurd (by rw[h1]; exact zae _) hc
theorem zd3 {b c:TRi} (ha:good a.C=true) (hb:good b.C=true) (h:cmpR a b<0) (h':cmpR b c<0):cmpR a c<0:=by
 rw[z8f (.inl ha)] at h |-
 rw[z8f (.inl hb)] at h'
 rcases h with h | ⟨h,h2⟩
 ·rcases h' with h' | ⟨h',_⟩
  ·exact .inl (z93 h h')
  ·rw[<- z2u h']; exact .inl h
 ·rcases h' with h' | ⟨h',h3⟩
  ·rw[z2u h]; exact .inl h'
  ·rw[z2u h]; exact .inr ⟨h',om⟩
theorem zf6 {b:TRi} (ha:good a.C=true):cmpR b a=-cmpR a b:=by
 unfold cmpR
 rw[z2n (.inl ha),z2n (.inr ha),zaf (parts a.C) (parts b.C)]
 by_cases h:lexC (parts a.C) (parts b.C)=0
 ·rw[y5 om,y5 om]
  unfold cmpI
  by_cases h1:a.E<b.E
  ·rw[y5 om,y6 om,y6 h1]; rfl
  ·by_cases h2:b.E<a.E
   ·rw[y6 h2,y5 h1,y6 om]
   ·rw[y5 h2,y5 om,y5 h1,y5 om]; rfl
 ·rw[y6 om,y6 h]
theorem Srt.lt (h:Srt l) (hg:∀ r∈l,RtOk r):∀ {i j:Nat},i<j->j<l.length->cmpR (l.getD i default) (l.getD j default)<0:=by
 intro i j hij
 induction j with
 | zero=>omega
 | succ j ih =>
  intro hj
  have h1:=(h (j+1) hj).resolve_left om
  rw[show j+1-1=j from om] at h1
  by_cases e:i=j
  ·subst e; exact h1
  ·exact zd3 (hg _ (z7 om)).1 (hg _ (z7 om)).1 (ih om om) h1
theorem zig {n:Nat} {c:ρ} (p:Nat->Prop) (hy:∀ i,i<n->(∀ j,j<i->p j)->p i->body i ()=some (.cont ())) (hn:∀ i,i<n->(∀ j,j<i->p j)->¬ p i->body i ()=some (.ret c)) :
  ((∀ j,j<n->p j)->rangeM body n 0 ()=some (.next ()))/\((¬ ∀ j,j<n->p j)->rangeM body n 0 ()=some (.ret c)):=by
 have key:∀ (k i:Nat),i+k=n->(∀ j,j<i->p j)->((∀ j,j<n->p j)->rangeM body k i ()=some (.next ()))/\((¬ ∀ j,j<n->p j)->rangeM body k i ()=some (.ret c)):=by
  intro k
  induction k with
  | zero =>
   intro i hk hp
   exact⟨fun _=>rfl,fun h=>absurd (fun j hj=>hp j om) h⟩
  | succ k ih =>
   intro i hk hp
   by_cases hpi:p i
   ·have hp':∀ j,j<i+1->p j:=fun j hj=>by
     rcases y11 j i with h | h
     ·exact hp j h
     ·obtain rfl:j=i:=om
      exact hpi
    have:=ih (i+1) om hp'
    simp only[rangeM,hy i om hp hpi]
    exact this
   ·simp only[rangeM,hn i om hp hpi]
    exact⟨fun h=>absurd (h i om) hpi,fun _=>trivial⟩
 exact key n 0 om (fun j hj=>om)
theorem zhb (i:Nat) (hi:i<9223372036854775808):(i64.wrap ((i:Int)-1)).toNat=i-1:=by rw[wrapId om om]; omega
variable {o:TOf}
theorem z7q (hs:SmO o) (hi:i<o.H.length) :
  (S_qp_b1 o i ()).den=if RtOk (o.H.getD i default)/\(i=0\/cmpR (o.H.getD (i-1) default) (o.H.getD i default)<0) then some (.cont ()) else some (.ret false):=by
 have h1:=hs.2.2 _ (z7 hi)
 have h2:=hs.2.2 _ (z7 (l:=o.H) (i:=i-1) om)
 have hl:=hs.2.1
 simp only[S_qp_b1,Scr.den,zhb i (show i<9223372036854775808 from om)]
 generalize o.H.getD i default=r at h1 |-
 generalize o.H.getD (i-1) default=r' at h2 |-
 simp only[z25 h1,z73 h2 h1,obind,zb,z8]
 by_cases hR:RtOk r
 ·by_cases h0:i=0
  ·subst h0
   rw[zq (by simp[AllP]),obind,z6 ⟨fun h=>by simp[AllP] at h,fun h=>by simp[AllP] at h,trivial⟩,y5 (by simp[hR]),y6 ⟨hR,.inl rfl⟩]
  ·rw[zf (by exact⟨sk,by simp[hR],trivial⟩),obind,z6 ⟨fun _=>by rw[wrapId om om]; omega,fun _=>om,trivial⟩]
   by_cases hc:cmpR r' r<0
   ·rw[y5 (by intro h; simp[hR] at h; exact absurd hc (y2q.2 h.2)),y6 ⟨hR,.inr hc⟩]
   ·rw[y6 (by simp[hR]; exact⟨om,y2q.1 hc⟩),y5 (fun h=>h.2.elim h0 hc)]
 ·rw[zq (by simp[AllP,hR]),obind,z6 ⟨fun h=>by simp[AllP,hR] at h,fun h=>by simp[AllP,hR] at h,trivial⟩,y6 (by simp[hR]),y5 (fun h=>hR h.1)]
theorem z7r (o:TOf) (i:Nat) :
  (S_qp_b2 o i ()).den=if hasR o.H (o.Af.B.getD i default).C (o.Af.B.getD i default).E=true/\0<=unusedV o (o.Af.B.getD i default).C (o.Af.B.getD i default).E then some (.cont ()) else some (.ret false):=by
 simp only[S_qp_b2,Scr.den,zd2,zaj,obind,z8]
 generalize o.Af.B.getD i default=r
 by_cases hh:hasR o.H r.C r.E=true
 ·rw[zf (by exact⟨by simp[hh],trivial⟩),obind]
  by_cases hu:0<=unusedV o r.C r.E
  ·rw[y5 (by intro h; simp[hh] at h; exact absurd hu (y4n.2 h)),y6 ⟨hh,hu⟩]
  ·rw[y6 (by simp[hh]; exact y4n.1 hu),y5 (fun h=>hu h.2)]
 ·rw[zq (by simp[AllP,hh]),obind,y6 (by simp[hh]),y5 (fun h=>hh h.1)]
theorem z3z [Inhabited α] {l:List α} {p:α->Prop} (h:∀ i,i<l.length->p (l.getD i default)):∀ x∈l,p x:=fun x hx=>by
 obtain⟨i,hi,rfl⟩:=y3z hx
 have:=h i hi
 rwa [show l.getD i default=l[i] by simp[List.getD_eq_getElem?_getD,List.getElem?_eq_getElem hi]] at this
open Classical in
theorem ze3 (hs:SmO o):F_qp o=some (decide (VO o)):=by
 simp only[F_qp,S_qp,Scr.den,Valid_eq hs.1,zt,obind,z8,z1c]
 by_cases h0:(1<=o.L/\o.L<=6)/\o.H.length<=60/\Val o.Af
 ·obtain⟨⟨a1,a2⟩,a3,a4⟩:=h0
  rw[y5 (by simp[a4]; omega)]
  by_cases h1:∀ j,j<o.H.length->RtOk (o.H.getD j default)/\(j=0\/cmpR (o.H.getD (j-1) default) (o.H.getD j default)<0)
  ·rw[(zx _ (fun i hi h=>by rw[z7q hs hi,y6 h]) (fun i hi h=>by rw[z7q hs hi,y5 h])).1 h1]
   simp only[outM]
   by_cases h2:∀ j,j<o.Af.B.length->hasR o.H (o.Af.B.getD j default).C (o.Af.B.getD j default).E=true/\0<=unusedV o (o.Af.B.getD j default).C (o.Af.B.getD j default).E
   ·rw[(zx _ (fun i hi h=>by rw[z7r o i,y6 h]) (fun i hi h=>by rw[z7r o i,y5 h])).1 h2]
    simp only
    rw[ye ⟨⟨a1,a2⟩,a3,a4,z3z fun i hi=>(h1 i hi).1,fun i hi=>(h1 i hi).2,z3z h2⟩]
   ·rw[(zx _ (fun i hi h=>by rw[z7r o i,y6 h]) (fun i hi h=>by rw[z7r o i,y5 h])).2 h2]
    simp only
    rw[yi (fun h=>h2 fun j hj=>h.2.2.2.2.2 _ (z7 hj))]; rfl
  ·rw[(zx _ (fun i hi h=>by rw[z7q hs hi,y6 h]) (fun i hi h=>by rw[z7q hs hi,y5 h])).2 h1]
   simp only[outM]
   rw[yi (fun h=>h1 fun j hj=>⟨h.2.2.2.1 _ (z7 hj),h.2.2.2.2.1 j hj⟩)]; rfl
 ·rw[y6,yi (fun h=>h0 ⟨h.1,h.2.1,h.2.2.1⟩)]
  simp only[yc,y7,yg,y9]
  by_cases hv:Val o.Af
  ·left
   have:¬ ((1<=o.L/\o.L<=6)/\o.H.length<=60):=fun h=>h0 ⟨h.1,h.2,hv⟩
   omega
  ·exact .inr hv
theorem zmx {c:List UInt8} (h:∀ x∈b.B,¬ (x.C=c/\x.E=y)):usedV b c y=0:=by
 unfold usedV
 rw[zjg fun x hx=>by
  have:=h x hx
  simp only[y3o,y40,ne_eq]
  by_cases h1:x.C=c
  ·exact .inr fun h2=>this ⟨h1,h2⟩
  ·exact .inl h1]
 exact wrapId om om
theorem has_iff {c:List UInt8}:hasR l c y=true↔∃ r∈l,r.C=c/\r.E=y:=by
 simp only[hasR,y4u,zjh]
theorem z2o {c:List UInt8} (h:hasR l c y=true):rightV l c y∈l/\(rightV l c y).C=c/\(rightV l c y).E=y:=by
 unfold rightV
 rw[y6 h]
 obtain⟨h1,h2,h3⟩:=z3c h
 exact⟨z7 h1,h2,h3⟩
theorem zmy (hR:∀ r∈o.H,RtOk r):(∀ x∈o.Af.B,hasR o.H x.C x.E=true/\0<=unusedV o x.C x.E) ↔
  (∀ r∈o.H,0<=unusedV o r.C r.E)/\∀ x∈o.Af.B,hasR o.H x.C x.E=true:=by
 constructor
 ·intro h
  refine⟨fun r hr=>?_,fun x hx=>(h x hx).1⟩
  by_cases hx:∃ x∈o.Af.B,x.C=r.C/\x.E=r.E
  ·obtain⟨x,hx,e1,e2⟩:=hx
   rw[<- e1,<- e2]; exact (h x hx).2
  ·unfold unusedV
   rw[zmx fun x hx' e=>hx ⟨x,hx',e⟩]
   obtain⟨h1,h2,h3⟩:=z2o (has_iff.2 ⟨r,hr,rfl,rfl⟩:hasR o.H r.C r.E=true)
   have h4:=hR _ h1
   unfold RtOk at h4
   rw[wrapId (n:=(rightV o.H r.C r.E).A-(rightV o.H r.C r.E).N) om om,wrapId om om]
   omega
 ·rintro⟨h1,h2⟩ x hx
  refine⟨h2 x hx,?_⟩
  obtain⟨k1,k2,k3⟩:=z2o (h2 x hx)
  have:=h1 _ k1
  rwa [k2,k3] at this
variable {y':Int}
theorem ltr (h:c<0\/(c=0/\y<y')):¬ (c>0\/c=0/\y>=y'):=om
theorem ltr' (h:¬ (c<0\/(c=0/\y<y'))):c>0\/c=0/\y>=y':=om
theorem zji (hs:SmO o) (hi:i<o.H.length) (hp:∀ j,j<i->RtOk (o.H.getD j default)) :
  (S_qa_b1 o i ()).den=if RtOk (o.H.getD i default)/\0<=unusedV o (o.H.getD i default).C (o.H.getD i default).E/\(i=0\/cmpR (o.H.getD (i-1) default) (o.H.getD i default)<0) then some (.cont ()) else some (.ret false):=by
 have h1:=hs.2.2 _ (z7 hi)
 have hl:=hs.2.1
 have hq:i≠0->RtOk (o.H.getD (i-1) default):=fun h=>hp _ om
 have hw:i≠0->i64.wrap ((i:Int)-1)=(i:Int)-1:=fun _=>wrapId om om
 simp only[S_qa_b1,Scr.den,zhb i (show i<9223372036854775808 from om)]
 generalize o.H.getD i default=r at h1 |-
 generalize o.H.getD (i-1) default=r' at hq |-
 simp only[z4y h1,z9r,obind,z8,zb]
 by_cases hR:RtOk r
 ·rw[zf (by exact⟨by simp[hR],trivial⟩),obind]
  by_cases hu:0<=unusedV o r.C r.E
  ·rw[y5 (by simp[hR]; exact hu)]
   by_cases h0:i=0
   ·subst h0
    rw[y5 sj,y6 ⟨hR,hu,.inl rfl⟩]
   ·rw[y6 sk,z3y (hq h0).1 hR.1,obind,hw h0,z6 ⟨om,om,trivial⟩,z6 ⟨fun _=>om,fun _=>om,trivial⟩]
    have hc:=z8f (a:=r') (b:=r) (.inr hR.1)
    by_cases hc':cmpR r' r<0
    ·rw[y5 (by
      have:=hc.1 hc'
      simp only[yc,yl,y7,y13]
      exact ltr this),y6 ⟨hR,hu,.inr hc'⟩]
    ·rw[y6 (by
      simp only[yc,yl,y7,y13]
      exact ltr' fun h=>hc' (hc.2 h)),y5 (fun h=>h.2.2.elim h0 hc')]
  ·rw[y6 (by simp[hR]; exact y4n.1 hu),y5 (fun h=>hu h.2.1)]
 ·rw[zq (by simp[AllP,hR]),obind,y6 (by simp[hR]),y5 (fun h=>hR h.1)]
theorem zb2 (o:TOf) (i:Nat) :
  (S_qa_b2 o i ()).den=if hasR o.H (o.Af.B.getD i default).C (o.Af.B.getD i default).E=true then some (.cont ()) else some (.ret false):=by
 simp only[S_qa_b2,Scr.den,at_eq,obind]
 generalize o.Af.B.getD i default=r
 by_cases hh:hasR o.H r.C r.E=true
 ·rw[y6 hh,y6 hh,y5 sj]
 ·rw[y5 hh,y5 hh,y6 dk]
open Classical in
theorem z77 (hs:SmO o):F_qa o=some (decide (VO o)):=by
 simp only[F_qa,S_qa,Scr.den,z1y hs.1,zt,obind,z8,z1c]
 by_cases h0:(1<=o.L/\o.L<=6)/\o.H.length<=60/\Val o.Af
 ·obtain⟨⟨a1,a2⟩,a3,a4⟩:=h0
  rw[y5 (by simp[a4]; omega)]
  obtain⟨r1,r2⟩:=zig (body:=fun i s=>(S_qa_b1 o i s).den) (n:=o.H.length) (c:=false) (fun j=>RtOk (o.H.getD j default)/\0<=unusedV o (o.H.getD j default).C (o.H.getD j default).E/\(j=0\/cmpR (o.H.getD (j-1) default) (o.H.getD j default)<0))
   (fun i hi hp h=>by rw[zji hs hi (fun j hj=>(hp j hj).1),y6 h]) (fun i hi hp h=>by rw[zji hs hi (fun j hj=>(hp j hj).1),y5 h])
  by_cases h1:∀ j,j<o.H.length->RtOk (o.H.getD j default)/\0<=unusedV o (o.H.getD j default).C (o.H.getD j default).E/\(j=0\/cmpR (o.H.getD (j-1) default) (o.H.getD j default)<0)
  ·rw[r1 h1]
   simp only[outM]
   have hR:∀ r∈o.H,RtOk r:=z3z fun i hi=>(h1 i hi).1
   by_cases h2:∀ j,j<o.Af.B.length->hasR o.H (o.Af.B.getD j default).C (o.Af.B.getD j default).E=true
   ·rw[(zx _ (fun i hi h=>by rw[zb2 o i,y6 h]) (fun i hi h=>by rw[zb2 o i,y5 h])).1 h2]
    simp only
    rw[ye ⟨⟨a1,a2⟩,a3,a4,hR,fun i hi=>(h1 i hi).2.2,(zmy hR).2 ⟨z3z fun i hi=>(h1 i hi).2.1,z3z h2⟩⟩]
   ·rw[(zx _ (fun i hi h=>by rw[zb2 o i,y6 h]) (fun i hi h=>by rw[zb2 o i,y5 h])).2 h2]
    simp only
    rw[yi (fun h=>h2 fun j hj=>(h.2.2.2.2.2 _ (z7 hj)).1)]; rfl
  ·rw[r2 h1]
   simp only[outM]
   rw[yi (fun h=>h1 fun j hj=>⟨h.2.2.2.1 _ (z7 hj),((zmy h.2.2.2.1).1 h.2.2.2.2.2).1 _ (z7 hj),h.2.2.2.2.1 j hj⟩)]; rfl
 ·rw[y6,yi (fun h=>h0 ⟨h.1,h.2.1,h.2.2.1⟩)]
  simp only[yc,y7,yg,y9]
  by_cases hv:Val o.Af
  ·left
   have:¬ ((1<=o.L/\o.L<=6)/\o.H.length<=60):=fun h=>h0 ⟨h.1,h.2,hv⟩
   omega
  ·exact .inr hv
def noR:TRi:=⟨[],0,0,0,0⟩
def tot (n:Int):Prop:=0<=n/\n<=1000000000000000
instance (n:Int):Decidable (tot n):=inferInstanceAs (Decidable (_/\_))
def learnS (r:TRi) (m:TMe):TRi×Int :=
 if ¬ (RtOk r/\m.Y=0/\m.C=r.C/\m.E=r.E) then (noR,1) else
 if ¬ (tot m.A/\tot m.I) then (noR,2) else
 (⟨r.C,r.E,if m.A>r.A then m.A else r.A,if m.I>r.I then m.I else r.I,r.N⟩,0)
def returnS (r:TRi) (u n:Int):TRi×Int :=
 if ¬ (RtOk r/\(0<=u/\u<=i64.wrap (r.A-r.N))) then (noR,1) else
 if ¬ (1<=n/\n<=1000000000000000) then (noR,2) else
 if n>i64.wrap (i64.wrap (r.A-r.N)-u) then (noR,15) else
 (⟨r.C,r.E,r.A,r.I,i64.wrap (r.N+n)⟩,0)
theorem z3n (n:Int):F_qc n=some (decide (tot n)):=by
 simp only[F_qc,S_qc,Scr.den,zb,y3v]
 refine yk some ?_
 rw[y1k,y7]; simp[tot]
theorem z4j (n:Int):F_q1b n=some (decide (tot n)):=z3h n
theorem z7s (h:r.C.length<=1000000) (m:TMe):F_q32 r m=some (learnS r m):=by
 open Classical in simp only[F_q32,S_q32,Scr.den,z25 h,z4j,zt,obind,z8,z1c]
 unfold learnS
 refine st (by by_cases hR:RtOk r <;> by_cases h2:m.Y=0 <;> by_cases h3:m.C=r.C <;> by_cases h4:m.E=r.E <;> simp[hR,h2,h3,h4]) (fun _=>rfl) fun _=>?_
 refine st (by by_cases h2:tot m.A <;> by_cases h3:tot m.I <;> simp[h2,h3]) (fun _=>rfl) fun _=>rfl
theorem zhc (h:r.C.length<=1000000) (m:TMe):F_q3h r m=some (learnS r m):=by
 open Classical in simp only[F_q3h,S_q3h,Scr.den,z4y h,z3n,zt,obind,z8,z1c]
 unfold learnS
 refine st (by by_cases hR:RtOk r <;> by_cases h2:m.Y=0 <;> by_cases h3:m.C=r.C <;> by_cases h4:m.E=r.E <;> simp[hR,h2,h3,h4]) (fun _=>rfl) fun _=>?_
 refine st (by by_cases h2:tot m.A <;> by_cases h3:tot m.I <;> simp[h2,h3]) (fun _=>rfl) fun _=>rfl
theorem z78 (h:r.C.length<=1000000) (u n:Int):F_q34 r u n=some (returnS r u n):=by
 open Classical in simp only[F_q34,S_q34,Scr.den,z25 h,zy,zt,obind,z8,z1c]
 unfold returnS
 refine st (by by_cases h2:RtOk r <;> by_cases h3:0<=u/\u<=i64.wrap (r.A-r.N) <;> simp[h2,h3]) (fun _=>rfl) fun _=>?_
 refine st (by simp only[yg,y9]) (fun _=>rfl) fun _=>?_
 refine st (by simp only[y7]) (fun _=>rfl) fun _=>rfl
theorem zfu (h:r.C.length<=1000000) (u n:Int):F_q4t r u n=some (returnS r u n):=by
 open Classical in simp only[F_q4t,S_q4t,Scr.den,z4y h,obind,z8]
 unfold returnS
 refine st (by
   simp only[yc,yg,y9,y7,y25]
   constructor
   ·rintro ((h | h) | h) <;> intro k
    ·exact h k.1
    ·omega
    ·omega
   ·intro h; by_cases hR:RtOk r
    ·by_cases hu:u<0
     ·exact .inl (.inr hu)
     ·exact .inr (by have:¬ (0<=u/\u<=_):=fun k=>h ⟨hR,k⟩; omega)
    ·exact .inl (.inl hR)) (fun _=>rfl) fun _=>?_
 refine st (by simp only[yc,y7]; omega) (fun _=>rfl) fun _=>?_
 refine st (by simp only[y7]) (fun _=>rfl) fun _=>rfl
def posR (l:List TRi) (r:TRi):Nat:=l.findIdx (fun x=>decide (0<=cmpR x r))
def putL (l:List TRi) (r:TRi):List TRi:=if hasR l r.C r.E=true then l.set (rix l r.C r.E) r else insL l (posR l r) r
theorem z13 [Inhabited α] {l:List α} (hi:i<l.length):l.getD i default=l[i]:=by simp[List.getD_eq_getElem?_getD,List.getElem?_eq_getElem hi]
theorem z6l (l:List TRi) (r:TRi):posR l r<=l.length:=List.findIdx_le_length
theorem zb3 (hi:i<posR l r):cmpR (l.getD i default) r<0:=by
 have hl:i<l.length:=y19 hi (z6l l r)
 have:=List.not_of_lt_findIdx hi
 rw[z13 hl]
 simpa using this
theorem zb4 (hi:posR l r<l.length):0<=cmpR (l.getD (posR l r) default) r:=by
 have:=y4a (xs:=l) (p:=fun x=>decide (0<=cmpR x r)) (w:=hi)
 rw[z13 hi]
 exact y2e this
theorem zr5 (hS:Srt l) (hg:∀ x∈l,RtOk x) (hi:i<l.length) (hp:posR l r<=i):0<=cmpR (l.getD i default) r:=by
 have h0:=zb4 (l:=l) (r:=r) om
 by_cases e:posR l r=i
 ·rwa [e] at h0
 ·have h1:=hS.lt hg (show posR l r<i from om) hi
  by_cases h:cmpR (l.getD i default) r<0
  ·have:=zd3 (hg _ (z7 om)).1 (hg _ (z7 hi)).1 h1 h
   omega
  ·omega
theorem ze4 (h:i+j<4611686018427387904):i64.wrap ((IntKind.u64.wrap (i64.wrap ((i:Int)+(j:Int)))).fdiv (2 ^ (min (1:Int).toNat IntKind.u64.bits)))=(((i+j) / 2:Nat):Int):=by
 rw[wrapId (n:=(i:Int)+(j:Int)) om om]
 have e:IntKind.u64.wrap ((i:Int)+(j:Int))=(i:Int)+(j:Int):=by
  simp only[IntKind.wrap,IntKind.bits,IntKind.signed]
  simp
  omega
 rw[e]
 have e2:(2:Int) ^ (min (1:Int).toNat IntKind.u64.bits)=2:=dk
 rw[e2,Int.fdiv_eq_ediv_of_nonneg _ om,wrapId om om]
 omega
theorem RtOk.len (h:RtOk r):r.C.length<=1000000:=by have:=z4h h.1; omega
theorem zcd (hg:∀ x∈l,RtOk x) (k:Nat):(l.getD k default).C.length<=1000000:=by
 by_cases h:k<l.length
 ·exact (hg _ (z7 h)).len
 ·rw[y8,yj om]; exact y20 _
theorem z97 (hl:l.length<=1000000) (hS:Srt l) (hg:∀ x∈l,RtOk x) (hr:RtOk r) :
  F_q2d r l=some ((posR l r:Int),decide (posR l r<l.length)&&(cmpR (l.getD (posR l r) default) r==0)):=by
 have hc:∀ k,F_q33 (l.getD k default) r=some (cmpR (l.getD k default) r):=fun k=>z73 (zcd hg k) hr.len
 have hp:=z6l l r
 simp only[F_q2d,S_q2d,Scr.den]
 obtain⟨s,e,hJ⟩:=z2k (step:=fun s=>(S_q2d_b1 r l s).den) (fun s=>(s.2-s.1).toNat) (fun s=>∃ i j:Nat,s=((i:Int),(j:Int))/\i<=posR l r/\posR l r<=j/\j<=l.length) (fun s=>s.1=(posR l r:Int)) (fun s hI=>by
  obtain⟨i,j,rfl,h1,h2,h3⟩:=hI
  simp only[S_q2d_b1,Scr.den,ze4 (show i+j<4611686018427387904 from om),hc,obind,yh]
  by_cases hij:i<j
  ·left
   rw[y6 (by simpa using hij),z6 ⟨om,om,om,trivial⟩,yu]
   by_cases hlt:cmpR (l.getD ((i+j) / 2) default) r<0
   ·rw[y6 (by simpa using hlt),wrapId om om]
    have:(i+j) / 2<posR l r:=by
     by_cases h:(i+j) / 2<posR l r
     ·exact h
     ·have:=zr5 (r:=r) hS hg (show (i+j) / 2<l.length from om) om
      omega
    exact⟨_,rfl,⟨(i+j) / 2+1,j,sj,om,h2,h3⟩,by simp only; omega⟩
   ·rw[y5 (by simpa using hlt)]
    have:posR l r<=(i+j) / 2:=by
     by_cases h:posR l r<=(i+j) / 2
     ·exact h
     ·have:=zb3 (show (i+j) / 2<posR l r from om)
      omega
    exact⟨_,rfl,⟨i,(i+j) / 2,rfl,h1,this,om⟩,by simp only; omega⟩
  ·right
   rw[y5 (by simpa using hij)]
   exact⟨_,rfl,by simp only; omega⟩) _ (0,(l.length:Int)) (y49 _) ⟨0,l.length,rfl,om,hp,om⟩
 rw[e]
 simp only[outM,hJ,yh,hc,zb,yu]
 by_cases h:posR l r<l.length
 ·rw[zf (by exact⟨sk,trivial⟩),obind,z6 ⟨fun _=>om,fun _=>h,fun _=>h,trivial⟩]
  simp[h]
 ·rw[zq (by simp[AllP]; omega),obind,z6 ⟨fun _=>om,fun h'=>absurd h (by simp[AllP] at h'; omega),fun h'=>absurd h (by simp[AllP] at h'; omega),trivial⟩]
  simp[h]
theorem ze5 (hS:Srt l) (hg:∀ x∈l,RtOk x) (hr:RtOk r) :
  (decide (posR l r<l.length)&&(cmpR (l.getD (posR l r) default) r==0))=hasR l r.C r.E/\(hasR l r.C r.E=true->rix l r.C r.E=posR l r):=by
 have key:hasR l r.C r.E=true->rix l r.C r.E=posR l r:=fun h=>by
  obtain⟨h1,h2,h3⟩:=z3c h
  have h4:=hg _ (z7 h1)
  have h5:cmpR (l.getD (rix l r.C r.E) default) r=0:=(z5g h4.1 hr.1).2 ⟨h2,h3⟩
  rcases y3s (rix l r.C r.E) (posR l r) with h | h | h
  ·have:=zb3 h; omega
  ·exact h
  ·have h6:=hS.lt hg h h1
   have h7:=zb4 (l:=l) (r:=r) om
   have h8:=hg _ (z7 (show posR l r<l.length from om))
   have:cmpR (l.getD (posR l r) default) r<0:=by
    rw[z8f (.inl h8.1)] at h6 |-
    rw[h2,h3] at h6
    exact h6
   omega
 refine⟨?_,key⟩
 rw[y1k]
 simp only[yl,y7,y13]
 constructor
 ·rintro⟨h1,h2⟩
  obtain⟨h3,h4⟩:=(z5g (hg _ (z7 h1)).1 hr.1).1 h2
  exact has_iff.2 ⟨_,z7 h1,h3,h4⟩
 ·intro h
  obtain⟨h1,h2,h3⟩:=z3c h
  rw[key h] at h1 h2 h3
  exact⟨h1,(z5g (hg _ (z7 h1)).1 hr.1).2 ⟨h2,h3⟩⟩
theorem zkp (hl:l.length<=1000000):F_q5e l=some l:=by
 simp only[F_q5e,S_q5e,Scr.den]
 rw[z6 ⟨om,trivial⟩]
theorem zhd (l:List TRi) (r:TRi):(putL l r).length<=l.length+1:=by
 unfold putL
 split
 ·rw[yb]; omega
 ·rw[zo]; omega
theorem zmz (hl:o.H.length<=1000000) (hS:Srt o.H) (hg:∀ x∈o.H,RtOk x) (hr:RtOk r):F_q48 o r=some ⟨o.L,putL o.H r,o.Af⟩:=by
 obtain⟨h1,h2⟩:=ze5 hS hg hr
 have hp:=z6l o.H r
 have hlen:=zhd o.H r
 simp only[F_q48,S_q48,Scr.den,zkp hl,z97 hl hS hg hr,obind,h1,yh,yu]
 unfold putL at hlen |-
 by_cases h:hasR o.H r.C r.E=true
 ·have h3:=(z3c h).1
  rw[h2 h] at h3
  rw[y6 h] at hlen
  rw[y6 h,y6 h,z6 ⟨om,h3,h3,trivial⟩,h2 h]
  simp only[outM]
  rw[z6 ⟨by rw[yb]; omega,trivial⟩]
 ·rw[y5 h] at hlen
  rw[y5 h,y5 h]
  simp only[F_q72,yh]
  rw[z6 ⟨om,om,om⟩]
  simp only[obind,outM]
  rw[z6 ⟨om,trivial⟩]
end Go.Proofs.YtdmddkbngmhepaaGreatDoor
