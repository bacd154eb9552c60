/- A part of the proof: plain laws of what the functions compute. No condition. -/
import Derived.Test.YtlhikmklpelceaaGreatDoorG8
import Derived.Test.YtlhikmklpelceaaGreatDoorT9
import Derived.Test.YtlhikmklpelceaaGreatDoorT5
namespace Go.Proofs.YtlhikmklpelceaaGreatDoor
open Go Go.TA
open Go.IntKind (i64)
def dayP (d:Int):Prop:=0<=d/\d<=35990
def amtP (n:Int):Prop:=1<=n/\n<=1000000000000
instance (d:Int):Decidable (dayP d):=inferInstanceAs (Decidable (_/\_))
instance (d:Int):Decidable (amtP d):=inferInstanceAs (Decidable (_/\_))
def yr (d:Int):Int:=if 0<=d/\d<=36000 then d / 360 else -1
variable {d:Int}
theorem zjy (h:0<=d/\d<=36000):i64.wrap (d.tdiv 360)=d / 360:=by
 rw[Int.tdiv_eq_ediv_of_nonneg h.1,wrapId om om]
theorem z2s (d:Int):F_qy d=some (decide (dayP d)):=by
 simp only[F_qy,S_qy,Scr.den,zg]
 exact yi some (Bool.eq_iff_iff.mpr (by rw[decide_eq_true_iff (p:=dayP d)]; simp[dayP]))
theorem z1w (d:Int):F_q1d d=some (decide (amtP d)):=by
 simp only[F_q1d,S_q1d,Scr.den,zg]
 exact yi some (Bool.eq_iff_iff.mpr (by rw[decide_eq_true_iff (p:=amtP d)]; simp[amtP]))
theorem z1y (n a b:Int):F_q6 n a b=some (decide (a<=n/\n<=b)):=by
 simp only[F_q6,S_q6,Scr.den,zg,y3x,Bool.decide_and]
theorem z6g (d:Int):F_q10 d=some (decide (dayP d)):=by
 simp only[F_q10,S_q10,Scr.den,z1y,obind]
 rfl
theorem z39 (d:Int):F_q1o d=some (decide (amtP d)):=by
 simp only[F_q1o,S_q1o,Scr.den,z1y,obind]
 rfl
theorem z2h (d:Int):F_q1c d=some (yr d):=by
 simp only[F_q1c,S_q1c,F_q6m,S_q6m,Scr.den,obind,zg,yr]
 by_cases h:0<=d/\d<=36000
 ·rw[y5 (by simp[h]),y6 h,zjy h]
 ·rw[y6 (by simp only[yg,y3o,y9,y3x]; omega),y5 h]
theorem z54 (d:Int):F_q1n d=some (yr d):=by
 simp only[F_q1n,S_q1n,F_q70,S_q70,Scr.den,obind,zg,yr]
 by_cases h:0<=d/\d<=36000
 ·rw[y5 (by simp[h]),y6 h,zjy h]
 ·rw[y6 (by simp only[yg,y3o,y9,y3x]; omega),y5 h]
def cmt (b:TBo) (n:Int):Int:=sm b.G (fun c=>c.X==n) (·.S)
def rel (b:TBo) (n:Int):Int:=sm b.G (fun c=>c.X==n) (·.Ad)
def ver (b:TBo) (n:Int):Int:=sm b.I (fun v=>v.Ac==n) (·.S)
def leftV (b:TBo) (r:TRe):Int:=i64.wrap (r.S-r.Ad-cmt b r.O)
def restV (b:TBo) (c:TCo):Int:=i64.wrap (c.S-c.Ad-ver b c.O)
def leftN (b:TBo) (n:Int):Int:=match b.C.find? (fun r=>r.O==n) with
 | some r=>leftV b r
 | none=>0
def usedV (b:TBo) (code:Y8) (y:Int):Int:=i64.wrap (sm b.C (fun r=>r.D==code&&r.E==y) (fun r=>r.S-r.Ad-rel b r.O))
theorem zaw (b:TBo) (n:Int):F_q29 b n=some (i64.wrap (cmt b n),i64.wrap (rel b n)):=by
 simp only[F_q29,S_q29,Scr.den]
 rw[z1r b.G (fun (s:Int×Int) c=>if (c.X==n)=true then (i64.wrap (s.1+c.S),i64.wrap (s.2+c.Ad)) else s)]
 ·simp only[outM]
  have key:∀ (l:List TCo) (x y:Int),l.foldl (fun (s:Int×Int) c=>if (c.X==n)=true then (i64.wrap (s.1+c.S),i64.wrap (s.2+c.Ad)) else s) (i64.wrap x,i64.wrap y)=(i64.wrap (x+sm l (fun c=>c.X==n) (·.S)),i64.wrap (y+sm l (fun c=>c.X==n) (·.Ad))):=by
   intro l
   induction l with
   | nil=>intro x y; simp[sm]
   | cons c l ih =>
    intro x y
    rw[y2x,z15,z15]
    split
    ·simp only[z6f]; rw[ih]; simp only[y5q]
    ·rw[ih]; simp
  have e0:i64.wrap 0=0:=wrapId om om
  have:=key b.G 0 0
  rw[e0] at this
  rw[this]
  simp[cmt,rel]
 ·intro i s hi
  simp only[S_q29_b1,Scr.den]
  split <;> rfl
theorem z8e (b:TBo) (r:TRe):F_q3t b r=some (leftV b r):=by
 simp only[F_q3t,S_q3t,Scr.den,zaw,obind]
 rw[z38,z52]
 rfl
theorem ziu (b:TBo) (n:Int):F_q2l b n=some (i64.wrap (ver b n)):=by
 simp only[F_q2l,S_q2l,Scr.den]
 rw[z1r b.I (fun (s:Int) v=>if (v.Ac==n)=true then i64.wrap (s+v.S) else s)]
 ·have e0:i64.wrap 0=0:=wrapId om om
  have:=zau b.I (fun v=>v.Ac==n) (·.S) 0
  rw[e0] at this
  simp only[outM,this]
  simp[ver]
 ·intro i s hi
  simp only[S_q2l_b1,Scr.den]
  split <;> rfl
theorem zek (b:TBo) (c:TCo):F_q3u b c=some (restV b c):=by
 simp only[F_q3u,S_q3u,Scr.den,ziu,obind]
 rw[z38,z52]
 rfl
theorem z8f (b:TBo) (c:TCo):F_q1f b c=some (restV b c):=by
 simp only[F_q1f,S_q1f,Scr.den]
 rw[z1r b.I (fun (s:Int) v=>if (v.Ac==c.O)=true then i64.wrap (s-v.S) else s)]
 ·have:=zav b.I (fun v=>v.Ac==c.O) (·.S) (c.S-c.Ad)
  simp only[outM,this]
  rfl
 ·intro i s hi
  simp only[S_q1f_b1,Scr.den]
  split <;> rfl
variable {α ρ:Type} {body:Nat->Unit->Option (Step Unit ρ)}
theorem zdn [Inhabited α] (l:List α) (p:α->Bool) (v:α->ρ) (hs:∀ i,i<l.length->body i ()=some (if p (l.getD i dF)=true then .ret (v (l.getD i dF)) else .cont ())) :
  rangeM body l.length 0 ()=some (match l.find? p with | some x=>.ret (v x) | none=>.next ()):=by
 have key:∀ (k i:Nat),i+k=l.length->rangeM body k i ()=some (match (l.drop i).find? p with | some x=>.ret (v x) | none=>.next ()):=by
  intro k
  induction k with
  | zero=>intro i hk; rw[y1j om]; rfl
  | succ k ih =>
   intro i hk
   have hi:i<l.length:=om
   have e:l.getD i dF=l[i]:=by simp[List.getD_eq_getElem?_getD,List.getElem?_eq_getElem hi]
   rw[y1m hi]
   simp only[rangeM,hs i hi,List.find?_cons,e]
   cases hp:p l[i] with
   | true=>simp
   | false=>simp only[yv,yx]; exact ih (i+1) om
 have:=key l.length 0 om
 simpa using this
theorem zrw (b:TBo) (n:Int):F_q2n b n=some (leftN b n):=by
 simp only[F_q2n,S_q2n,Scr.den]
 rw[zdn b.C (fun r=>r.O==n) (leftV b)]
 ·unfold leftN
  cases b.C.find? (fun r=>r.O==n) <;> rfl
 ·intro i hi
  simp only[S_q2n_b1,Scr.den,z8e,obind]
  split <;> rfl
theorem z8g (b:TBo) (n:Int):F_qo b n=some (leftN b n):=by
 simp only[F_qo,S_qo,Scr.den]
 rw[zdn b.C (fun r=>r.O==n) (leftV b)]
 ·unfold leftN
  cases b.C.find? (fun r=>r.O==n) <;> rfl
 ·intro i hi
  simp only[S_qo_b2,Scr.den]
  split
  ·rename_i hn
   rw[z1r b.G (fun (s:Int) c=>if (c.X==n)=true then i64.wrap (s-c.S) else s)]
   ·have:=zav b.G (fun c=>c.X==n) (·.S) ((b.C.getD i dF).S-(b.C.getD i dF).Ad)
    simp only[outM,this]
    unfold leftV cmt
    rw[eq_of_beq hn]
   ·intro j s hj
    simp only[S_qo_b1,Scr.den]
    split <;> rfl
  ·rfl
theorem zbp (b:TBo) (code:Y8) (y:Int):F_q15 b code y=some (usedV b code y):=by
 simp only[F_q15,S_q15,Scr.den]
 rw[z1r b.C (fun (s:Int) r=>if (r.D==code&&r.E==y)=true then i64.wrap (s+(r.S-r.Ad-rel b r.O)) else s)]
 ·have e0:i64.wrap 0=0:=wrapId om om
  have:=zau b.C (fun r=>r.D==code&&r.E==y) (fun r=>r.S-r.Ad-rel b r.O) 0
  rw[e0] at this
  simp only[outM,this]
  simp[usedV]
 ·intro i s hi
  simp only[S_q15_b1,Scr.den,zaw,obind,zg]
  split
  ·rw[z38,z52,zas]
  ·rfl
def goodR:Y8->Nat->Nat->Bool
 | [],d,p=>decide (0<d)&&decide (p<=4)
 | c :: l,d,p=>if c.toNat=46 then (if d=0 then false else goodR l 0 (p+1)) else
  if c.toNat<48\/57<c.toNat\/(d=0/\c.toNat=48)\/d=2 then false else goodR l (d+1) p
def dig (c:UInt8):Prop:=48<=c.toNat/\c.toNat<=57
def preOk:Y8->Prop
 | []=>True
 | [a]=>dig a/\a.toNat≠48
 | [a,b]=>dig a/\a.toNat≠48/\dig b
 | _=>False
def cntOk (ws:List Y8) (p:Nat):Bool:=match nums ws with
 | none=>false
 | some ns=>decide (ns.length+p<=5)
theorem z7h (w:Y8) (ws:List Y8) (p:Nat):cntOk (w :: ws) p=match pv w with
  | none=>false
  | some _=>cntOk ws (p+1):=by
 unfold cntOk
 simp only[nums]
 cases pv w with
 | none=>rfl
 | some n =>
  cases nums ws with
  | none=>rfl
  | some ns =>
   simp only[y1p,yw]
   congr 1
   rw[eq_iff_iff]; omega
theorem zci:∀ {w:Y8},preOk w->w≠[]->∃ n,pv w=some n
 | [a],h,_=>⟨_,by simp only[pv]; rw[y6 ⟨by have:=h.1.1; have:=h.2; omega,h.1.2⟩]⟩
 | [a,b],h,_=>⟨_,by simp only[pv]; rw[y6 ⟨⟨by have:=h.1.1; have:=h.2.1; omega,h.1.2⟩,h.2.2⟩]⟩
 | [],_,h=>absurd rfl h
 | _ :: _ :: _ :: _,h,_=>h.elim
variable {w:Y8}
theorem zl3 {pre:Y8} {c:UInt8} (hc:¬ dig c):pv (pre++c :: w)=none:=by
 match pre,w with
 | [],[]=>simp only[y2h,pv]; rw[y5]; intro h; exact hc ⟨om,h.2⟩
 | [],[b]=>simp only[y2h,pv]; rw[y5]; intro h; exact hc ⟨om,h.1.2⟩
 | [],b :: d :: w=>rfl
 | [a],[]=>simp only[y3l,y2h,pv]; rw[y5]; intro h; exact hc h.2
 | [a],b :: w=>rfl
 | [a,b],w=>rfl
 | a :: b :: d :: pre,w=>rfl
theorem zhh {c:UInt8} (hc:c.toNat=48):pv (c :: w)=none:=by
 match w with
 | []=>simp only[pv]; rw[y5]; omega
 | [b]=>simp only[pv]; rw[y5]; omega
 | b :: d :: w=>rfl
theorem zax:∀ (l pre p0:Y8) (ps:List Y8) (p:Nat),preOk pre->pieces l=p0 :: ps->goodR l pre.length p=cntOk ((pre++p0) :: ps) p
 | [],pre,p0,ps,p,hp,he=>by
  cases he
  rw[y48,z7h]
  simp only[goodR]
  match pre,hp with
  | [],_=>rfl
  | a :: pre,hp =>
   obtain⟨n,hn⟩:=zci hp sj
   rw[hn]
   simp[cntOk,nums]
 | c :: l,pre,p0,ps,p,hp,he=>by
  rw[z22] at he
  simp only[goodR]
  by_cases hc:c.toNat=46
  ·rw[y6 (by rw[show c=46 from UInt8.toNat_inj.mp hc]; rfl)] at he
   cases he
   rw[y6 hc,y48,z7h]
   match pre,hp with
   | [],_=>rfl
   | a :: pre,hp =>
    obtain⟨n,hn⟩:=zci hp sj
    rw[hn,y5 sj]
    simp only
    cases hl:pieces l with
    | nil=>exact absurd hl (z1h l)
    | cons q qs =>
     have:=zax l [] q qs (p+1) trivial hl
     simpa using this
  ·rw[y5 (by intro h; rw[eq_of_beq h] at hc; exact hc rfl)] at he
   rw[y5 hc]
   cases hl:pieces l with
   | nil=>exact absurd hl (z1h l)
   | cons q qs =>
    rw[hl] at he
    injection he with e1 e2
    subst e1
    subst e2
    have ih:=zax l (pre++[c]) q qs p
    by_cases hd:dig c
    ·match pre,hp with
     | [],_ =>
      by_cases h0:c.toNat=48
      ·rw[y6 (by right; right; left; exact⟨rfl,h0⟩),z7h,y2h,zhh h0]
      ·rw[y5 (by have:=hd.1; have:=hd.2; simp; omega)]
       exact ih ⟨hd,h0⟩ hl
     | [a],hp =>
      rw[y5 (by have:=hd.1; have:=hd.2; simp; omega)]
      have:=ih ⟨hp.1,hp.2,hd⟩ hl
      simpa using this
     | [a,b],hp =>
      rw[y6 (by right; right; right; rfl),z7h]
      rfl
     | _ :: _ :: _ :: _,hp=>exact hp.elim
    ·rw[y6 (by unfold dig at hd; omega),z7h,zl3 hd]
theorem z60:∀ {ws:List Y8} {ns:List Int},nums ws=some ns->ns.length=ws.length
 | [],ns,h=>by cases h; rfl
 | w :: ws,ns,h=>by
  simp only[nums] at h
  split at h
  ·cases h
  ·cases hn:nums ws with
   | none=>rw[hn] at h; cases h
   | some ms =>
    rw[hn] at h
    cases h
    simp[z60 hn]
def good (l:Y8):Bool:=goodR l 0 1
theorem z2t (l:Y8):decide ((parts l).length>0)=good l:=by
 unfold good
 cases hl:pieces l with
 | nil=>exact absurd hl (z1h l)
 | cons q qs =>
  have:=zax l [] q qs 1 trivial hl
  simp only[y1q,y2h] at this
  rw[this]
  unfold parts cntOk
  rw[hl]
  cases hn:nums (q :: qs) with
  | none=>rfl
  | some ns =>
   have h1:=z60 hn
   simp only[yw] at h1
   simp only
   by_cases h4:ns.length>4
   ·simp only[y6 h4]; simp; omega
   ·simp only[y5 h4]; rw[y1l]; simp; omega
theorem z2x {l:Y8} (hl:l.length<4611686018427387904):F_qk l=some (good l):=by
 simp only[F_qk,S_qk,Scr.den,zg]
 generalize hF:(fun s=>(S_qk_b1 l s).den)=F
 have key:∀ (k i d p:Nat),i+k=l.length->d<=i->p<=i+1->outM (iterM F ((d:Int),(p:Int),(i:Int))) (fun s=>some (decide (s.1>0)&&decide (s.2.1<=4))) (fun x=>some (id x))=some (goodR (l.drop i) d p):=by
  intro k
  induction k with
  | zero =>
   intro i d p hk hd hp
   rw[z2l,y1j om,<- hF]
   simp only[S_qk_b1,Scr.den]
   rw[y5 sk]
   simp only[outM,goodR]
   congr 1
   rw[y1l]; simp; omega
  | succ k ih =>
   intro i d p hk hd hp
   have hi:i<l.length:=om
   have ei:l.getD i 0=l[i]:=by simp[List.getD_eq_getElem?_getD,List.getElem?_eq_getElem hi]
   rw[z2l,y1m hi,<- y4j hF]
   simp only[S_qk_b1,Scr.den,ye,ei,zg,zd]
   generalize hcc:l[i]=c
   rw[y6 sk,za ⟨om,hi,trivial⟩]
   have w1:i64.wrap ((p:Int)+1)=((p+1:Nat):Int):=by rw[wrapId om om]; omega
   have w2:i64.wrap ((i:Int)+1)=((i+1:Nat):Int):=by rw[wrapId om om]; omega
   have w3:i64.wrap ((d:Int)+1)=((d+1:Nat):Int):=by rw[wrapId om om]; omega
   simp only[w1,w2,w3,goodR]
   by_cases hc:c.toNat=46
   ·rw[y6 (by simp[hc]),y6 hc]
    by_cases h0:d=0
    ·rw[y6 (by simp[h0]),y6 h0]; rfl
    ·rw[y5 (by simpa using h0),y5 h0]
     have h:=ih (i+1) 0 (p+1) om om om
     rw[show ((0:Nat):Int)=0 from rfl] at h
     exact h
   ·rw[y5 sk,y5 hc,za ⟨fun _=>om,fun _=>hi,fun _=>om,fun _=>hi,trivial⟩]
    by_cases hb:c.toNat<48\/57<c.toNat\/(d=0/\c.toNat=48)\/d=2
    ·rw[y6 sk,y6 hb]; rfl
    ·rw[y5 sk,y5 hb]
     exact ih (i+1) (d+1) p om om om
 exact key l.length 0 0 1 om om om
theorem z2y {l:Y8} (hl:l.length<=1099511627776):F_q7d l=some (parts l):=by
 unfold F_q7d
 exact zaq hl rfl
def lexC:List Int->List Int->Int
 | [],[]=>0
 | [],_ :: _=>-1
 | _ :: _,[]=>1
 | a :: x,b :: y=>if a<b then -1 else if a>b then 1 else lexC x y
theorem zay:∀ x,lexC x x=0
 | []=>rfl
 | a :: x=>by simp[lexC,zay x]
theorem z34:∀ {x y:List Int},lexC x y=0->x=y
 | [],[],_=>rfl
 | [],_ :: _,h=>by simp[lexC] at h
 | _ :: _,[],h=>by simp[lexC] at h
 | a :: x,b :: y,h=>by
  simp only[lexC] at h
  split at h
  ·omega
  ·split at h
   ·omega
   ·rw[z34 h,show a=b from om]
theorem zaz:∀ x y:List Int,lexC y x=-lexC x y
 | [],[]=>rfl
 | [],_ :: _=>rfl
 | _ :: _,[]=>rfl
 | a :: x,b :: y=>by
  simp only[lexC]
  by_cases h1:a<b
  ·rw[y6 h1,y5 om,y6 om]; rfl
  ·by_cases h2:a>b
   ·rw[y6 om,y5 h1,y6 h2]
   ·rw[y5 h1,y5 h2,y5 om,y5 om,zaz x y]
theorem z9q:∀ {x y z:List Int},lexC x y<0->lexC y z<0->lexC x z<0
 | [],_,[],h,h'=>by
  rename_i y
  cases y with
  | nil=>simp[lexC] at h
  | cons b y=>simp[lexC] at h'
 | [],_,c :: z,_,_=>by simp[lexC]
 | a :: x,[],_,h,_=>by simp[lexC] at h
 | a :: x,b :: y,[],_,h'=>by simp[lexC] at h'
 | a :: x,b :: y,c :: z,h,h'=>by
  simp only[lexC] at h h' |-
  by_cases h1:a<b
  ·by_cases h2:b<c
   ·rw[y6 om]; omega
   ·rw[y5 h2] at h'
    by_cases h3:b>c
    ·rw[y6 h3] at h'; omega
    ·rw[y6 om]; omega
  ·rw[y5 h1] at h
   by_cases h2:a>b
   ·rw[y6 h2] at h; omega
   ·rw[y5 h2] at h
    by_cases h3:b<c
    ·rw[y6 om]; omega
    ·rw[y5 h3] at h'
     by_cases h4:b>c
     ·rw[y6 h4] at h'; omega
     ·rw[y5 h4] at h'
      rw[y5 om,y5 om]
      exact z9q h h'
theorem ztr:∀ {w w':Y8} {n:Int},pv w=some n->pv w'=some n->w=w'
 | [],_,_,h,_=>by simp[pv] at h
 | [a],[],_,_,h=>by simp[pv] at h
 | [a,b],[],_,_,h=>by simp[pv] at h
 | [a],[c],n,h,h'=>by
  simp only[pv] at h h'
  split at h <;> split at h' <;> simp at h h'
  have:a.toNat=c.toNat:=om
  rw[y5c.1 this]
 | [a],[c,d],n,h,h'=>by
  simp only[pv] at h h'
  split at h <;> split at h' <;> simp at h h'
  omega
 | [a,b],[c],n,h,h'=>by
  simp only[pv] at h h'
  split at h <;> split at h' <;> simp at h h'
  omega
 | [a,b],[c,d],n,h,h'=>by
  simp only[pv] at h h'
  split at h <;> split at h' <;> simp at h h'
  have h1:a.toNat=c.toNat:=om
  have h2:b.toNat=d.toNat:=om
  rw[y5c.1 h1,y5c.1 h2]
 | _ :: _ :: _ :: _,_,_,h,_=>by simp[pv] at h
 | _,_ :: _ :: _ :: _,_,_,h=>by simp[pv] at h
theorem zhi:∀ {ws ws':List Y8} {ns:List Int},nums ws=some ns->nums ws'=some ns->ws=ws'
 | [],[],_,_,_=>rfl
 | [],w :: ws,ns,h,h'=>by
  have h1:=z60 h; have h2:=z60 h'; simp only[y1q,yw] at h1 h2; omega
 | w :: ws,[],ns,h,h'=>by
  have h1:=z60 h; have h2:=z60 h'; simp only[y1q,yw] at h1 h2; omega
 | w :: ws,w' :: ws',ns,h,h'=>by
  simp only[nums] at h h'
  split at h
  ·cases h
  ·rename_i n hn
   split at h'
   ·cases h'
   ·rename_i n' hn'
    cases hm:nums ws with
    | none=>rw[hm] at h; cases h
    | some ms =>
     cases hm':nums ws' with
     | none=>rw[hm'] at h'; cases h'
     | some ms' =>
      rw[hm] at h; rw[hm'] at h'
      simp only[y1p,y14] at h h'
      rw[<- h] at h'
      simp only[y3p] at h'
      obtain⟨rfl,rfl⟩:=h'
      rw[ztr hn hn',zhi hm hm']
theorem z9r:∀ {l l':Y8},pieces l=pieces l'->l=l'
 | [],[],_=>rfl
 | [],b :: m,h=>by
  rw[z22] at h
  split at h
  ·simp[pieces] at h; first | exact absurd h (z1h m) | exact absurd h.symm (z1h m)
  ·split at h <;> simp[pieces] at h
 | b :: m,[],h=>by
  rw[z22] at h
  split at h
  ·simp[pieces] at h; first | exact absurd h (z1h m) | exact absurd h.symm (z1h m)
  ·split at h <;> simp[pieces] at h
 | b :: l,c :: m,h=>by
  rw[z22,z22] at h
  cases hl:pieces l with
  | nil=>exact absurd hl (z1h l)
  | cons p ps =>
   cases hm:pieces m with
   | nil=>exact absurd hm (z1h m)
   | cons q qs =>
    rw[hl,hm] at h
    by_cases hb:(b==46)=true
    ·by_cases hc:(c==46)=true
     ·rw[y6 hb,y6 hc] at h
      have e:pieces l=pieces m:=by rw[hl,hm]; simpa using h
      rw[z9r e,show b=c by rw[eq_of_beq hb,eq_of_beq hc]]
     ·rw[y6 hb,y5 hc] at h; simp at h
    ·by_cases hc:(c==46)=true
     ·rw[y5 hb,y6 hc] at h; simp at h
     ·rw[y5 hb,y5 hc] at h
      simp only[y3p] at h
      obtain⟨⟨rfl,rfl⟩,rfl⟩:=h
      rw[z9r (hl.trans hm.symm)]
theorem z3a {l:Y8} (h:good l=true):nums (pieces l)=some (parts l)/\0<(parts l).length/\(parts l).length<=4:=by
 rw[<- z2t] at h
 have h0:0<(parts l).length:=by simpa using h
 unfold parts at h0 |-
 split at h0
 ·simp at h0
 ·rename_i ns hn
  split at h0
  ·simp at h0
  ·rename_i h4
   rw[hn]
   simp only[y5 h4]
   exact⟨trivial,h0,om⟩
theorem z7z {l l':Y8} (h:good l=true) (h':good l'=true) (e:parts l=parts l'):l=l' :=
 z9r (zhi (z3a h).1 (e▸(z3a h').1))
def valW (w:Y8):Int:=w.foldl (fun n c=>10 * n+((c.toNat:Int)-48)) 0
theorem zhj:∀ {w:Y8} {n:Int},pv w=some n->valW w=n/\1<=w.length/\w.length<=2/\(w.getD 0 0).toNat≠48/\∀ c∈w,48<=c.toNat/\c.toNat<=57
 | [],_,h=>by simp[pv] at h
 | [a],n,h=>by
  simp only[pv] at h
  split at h <;> simp at h
  rename_i h1
  refine⟨by simp[valW]; omega,sj,sj,sk,fun c hc=>by simp at hc; subst hc; omega⟩
 | [a,b],n,h=>by
  simp only[pv] at h
  split at h <;> simp at h
  rename_i h1
  refine⟨by simp[valW]; omega,sj,sj,sk,fun c hc=>?_⟩
  simp at hc
  rcases hc with rfl | rfl <;> omega
 | _ :: _ :: _ :: _,_,h=>by simp[pv] at h
theorem z2m {l:Y8} (h:good l=true):l.length<=11:=by
 have key:∀ (l:Y8) (ns:List Int),nums (pieces l)=some ns->l.length+1<=3 * ns.length:=by
  intro l
  suffices H:∀ (l p0:Y8) (ps:List Y8),pieces l=p0 :: ps->l.length=p0.length+(ps.map fun q=>q.length+1).sum by
   intro ns hn
   cases hp:pieces l with
   | nil=>exact absurd hp (z1h l)
   | cons p0 ps =>
    rw[hp] at hn
    rw[H l p0 ps hp]
    have hall:∀ (ws:List Y8) (ms:List Int),nums ws=some ms->(ws.map fun q=>q.length+1).sum<=3 * ms.length:=by
     intro ws
     induction ws with
     | nil=>intro ms hm; simp
     | cons w ws ih =>
      intro ms hm
      simp only[nums] at hm
      split at hm
      ·cases hm
      ·rename_i n hpv
       cases hw:nums ws with
       | none=>rw[hw] at hm; cases hm
       | some ks =>
        rw[hw] at hm; cases hm
        have:=ih ks hw
        have:=(zhj hpv).2.2.1
        simp only[y3i,y25,yw]
        omega
    have:=hall _ _ hn
    simp only[y3i,y25] at this
    omega
  intro l
  induction l with
  | nil=>intro p0 ps hp; simp[pieces] at hp; obtain⟨rfl,rfl⟩:=hp; simp
  | cons b l ih =>
   intro p0 ps hp
   rw[z22] at hp
   cases hl:pieces l with
   | nil=>exact absurd hl (z1h l)
   | cons q qs =>
    have:=ih q qs hl
    rw[hl] at hp
    split at hp
    ·simp only[y3p] at hp
     obtain⟨rfl,rfl⟩:=hp
     simp only[yw,y1q,y3i,y25]; omega
    ·simp only[y3p] at hp
     obtain⟨rfl,rfl⟩:=hp
     simp only[yw]; omega
 obtain⟨h1,h2,h3⟩:=z3a h
 have:=key l _ h1
 omega
def cmpI (a b:Int):Int:=if a<b then -1 else if a>b then 1 else 0
theorem zel (a b:Int):F_q3s a b=some (cmpI a b):=by
 simp only[F_q3s,S_q3s,F_q5j,S_q5j,Scr.den,obind,cmpI,bne_self_eq_false,yv,yx,y7]
 by_cases h1:a<b
 ·rw[y6 h1,y6 h1]
 ·rw[y5 h1,y5 h1]
  by_cases h2:a>b
  ·rw[y6 h2,y6 h2]
  ·rw[y5 h2,y5 h2]
variable {i:Nat}
theorem z29 {l:List Int} (hi:i<l.length):l.getD i dF=l[i]:=by simp[List.getD_eq_getElem?_getD,List.getElem?_eq_getElem hi]
theorem zd3 (x y:List Int):F_q26 x y=some (lexC x y):=by
 simp only[F_q26,S_q26,Scr.den]
 generalize hB:(fun i s=>(S_q26_b1 x y i s).den)=B
 have key:∀ (k i:Nat),i+k=x.length->i<=y.length->outM (rangeM B k i ()) (fun _=>if decide ((x.length:Int)<(y.length:Int))=true then some (-1) else some 0) (fun r=>some (id r))=some (lexC (x.drop i) (y.drop i)):=by
  intro k
  induction k with
  | zero =>
   intro i hk hy
   rw[y1j om]
   by_cases h:y.length<=i
   ·rw[y1j h]
    simp only[rangeM,outM]
    rw[y5 sk]
    rfl
   ·rw[y1m (by omega:i<y.length)]
    simp only[rangeM,outM]
    rw[y6 sk]
    rfl
  | succ k ih =>
   intro i hk hy
   have hi:i<x.length:=om
   rw[y1m hi]
   simp only[rangeM]
   rw[<- y4j (y4j hB i) ()]
   simp only[S_q26_b1,Scr.den]
   by_cases h:y.length<=i
   ·rw[y6 sk,y1j h]
    rfl
   ·have hj:i<y.length:=om
    rw[y5 sk,za ⟨hj,trivial⟩,y1m hj]
    simp only[zel,obind,z29 hi,z29 hj,lexC,cmpI]
    by_cases h1:x[i]<y[i]
    ·simp only[y6 h1]; rfl
    ·simp only[y5 h1]
     by_cases h2:x[i]>y[i]
     ·simp only[y6 h2]; rfl
     ·simp only[y5 h2]
      exact ih (i+1) om om
 have:=key x.length 0 om om
 simpa using this
def strC (a b:Y8):Int:=if Op.bytesLess a b=true then -1 else if (!(Op.bytesLess a b||a==b))=true then 1 else 0
def cmpC (a b:Y8):Int:=if (parts a).length=0/\(parts b).length=0 then strC a b else lexC (parts a) (parts b)
theorem zdo {a b:Y8} (ha:a.length<=1000000) (hb:b.length<=1000000):F_q48 a b=some (cmpC a b):=by
 simp only[F_q48,S_q48,Scr.den,z2y (show a.length<=1099511627776 from om),z2y (show b.length<=1099511627776 from om),obind,zg,cmpC,zd3]
 by_cases h:(parts a).length=0/\(parts b).length=0
 ·rw[y6 (by simp[h]),y6 h]
  simp only[F_q6p,S_q6p,F_q5i,S_q5i,Scr.den,obind,beq_self_eq_true,y2t,yv,yx,strC]
  by_cases h1:Op.bytesLess a b=true
  ·rw[y6 h1,y6 h1]; rfl
  ·rw[y5 h1,y5 h1]
   by_cases h2:(!(Op.bytesLess a b||a==b))=true
   ·rw[y6 h2,y6 h2]; rfl
   ·rw[y5 h2,y5 h2]; rfl
 ·rw[y5 (by simpa using h),y5 h]
theorem z2u {a b:Y8} (h:good a=true\/good b=true):cmpC a b=lexC (parts a) (parts b):=by
 unfold cmpC
 rw[y5]
 rintro⟨h1,h2⟩
 rcases h with h | h
 ·have:=(z3a h).2.1; omega
 ·have:=(z3a h).2.1; omega
def cmpR (a b:TRi):Int:=if cmpC a.D b.D≠0 then cmpC a.D b.D else cmpI a.E b.E
variable {a:TRi}
theorem z7i {b:TRi} (ha:a.D.length<=1000000) (hb:b.D.length<=1000000):F_q37 a b=some (cmpR a b):=by
 simp only[F_q37,S_q37,Scr.den,zdo ha hb,zel,obind,F_q14,S_q14,S_q14_b1,cmpR]
 by_cases h:cmpC a.D b.D=0
 ·rw[y5 (by simpa using h)]
  by_cases h2:cmpI a.E b.E=0
  ·simp[rangeM,h,h2,outM]
  ·simp[rangeM,h,h2,outM]
 ·rw[y6 h]
  simp[rangeM,h,outM]
theorem zb0 {l:Y8} (hg:good l=true):F_qs l=some (parts l):=by
 obtain⟨hn,h0,h4⟩:=z3a hg
 have hlen:=z2m hg
 simp only[F_qs,S_qs,Scr.den]
 rw[y5 sk]
 generalize hF:(fun s=>(S_qs_b1 l s).den)=F
 have w1:∀ i:Nat,i<=11->i64.wrap ((i:Int)+1)=((i+1:Nat):Int):=fun i hi=>by rw[wrapId om om]; omega
 have flush:∀ (i:Nat) (w:Y8) (out:List Int) (n:Int),i<=l.length->w.length<=i->(∀ j,j<w.length->l.getD (i-w.length+j) 0=w.getD j 0)->pv w=some n->(i=l.length\/(l.getD i 0).toNat=46)->out.length<=4 ->
   F (out,valW w,(w.length:Int),(i:Int))=some (.cont (out++[n],0,0,((i+1:Nat):Int))):=by
  intro i w out n hi hw hg hpv hor ho
  obtain⟨e1,e2,e3,e4,e5⟩:=zhj hpv
  have hk:i64.wrap ((i:Int)-(w.length:Int))=((i-w.length:Nat):Int):=by rw[wrapId om om]; omega
  have h0:=hg 0 om
  rw[y3f] at h0
  rw[<- y4j hF]
  simp only[S_qs_b1,Scr.den,ye,zd,hk,h0]
  rw[y6 sk,za ⟨fun _=>om,fun h=>by have h:=h.1; simp at h; omega,trivial⟩,y6 (by
   rcases hor with rfl | h
   ·simp
   ·simp only[yc,y12]; right; omega),za ⟨fun _=>om,fun _=>om,trivial⟩,y5 (by
    simp only[yc,y12,y7]; omega),za ⟨om,trivial⟩,w1 i om,e1]
 have digit:∀ (i:Nat) (w:Y8) (out:List Int),i<l.length->(l.getD i 0).toNat≠46->48<=(l.getD i 0).toNat/\(l.getD i 0).toNat<=57->w.length<=1->(∀ c∈w,48<=c.toNat/\c.toNat<=57) ->
   F (out,valW w,(w.length:Int),(i:Int))=some (.cont (out,valW (w++[l.getD i 0]),((w++[l.getD i 0]).length:Int),((i+1:Nat):Int))):=by
  intro i w out hi h46 hd hw hall
  have hv:0<=valW w/\valW w<=9:=by
   match w,hw with
   | [],_=>simp[valW]
   | [a],_=>have:=hall a sj; simp[valW]; omega
  have e1:valW (w++[l.getD i 0])=10 * valW w+(((l.getD i 0).toNat:Int)-48):=by simp[valW]
  have e2:IntKind.u8.wrap (((l.getD i 0).toNat:Int)-48)=((l.getD i 0).toNat:Int)-48:=by
   generalize (l.getD i 0).toNat=m at hd
   simp only[IntKind.wrap,IntKind.bits,IntKind.signed]
   simp
   omega
  rw[<- y4j hF]
  simp only[S_qs_b1,Scr.den,ye,zd,e1,e2]
  rw[y6 sk,za ⟨fun _=>om,fun _=>om,trivial⟩,y5 (by simp only[yc,y12]; omega),za ⟨om,hi,fun _=>om,fun _=>hi,trivial⟩,y5 (by simp only[yc,y7]; omega),w1 i om,w1 w.length om,
   wrapId (n:=10 * valW w) om om,wrapId (n:=((l.getD i 0).toNat:Int)-48) om om,wrapId om om]
  simp
 have key:∀ (k i:Nat) (w p0:Y8) (ps:List Y8) (out ns:List Int),i+k=l.length->w.length<=i->(∀ j,j<w.length->l.getD (i-w.length+j) 0=w.getD j 0)->pieces (l.drop i)=p0 :: ps->nums ((w++p0) :: ps)=some ns->out.length+ns.length<=4 ->
   iterM F (out,valW w,(w.length:Int),(i:Int))=some (.next (out++ns,0,0,((l.length+1:Nat):Int))):=by
  intro k
  induction k with
  | zero =>
   intro i w p0 ps out ns hk hw hgd hpc hnm ho
   obtain rfl:i=l.length:=om
   rw[y1j (yf _)] at hpc
   simp only[pieces,y3p] at hpc
   obtain⟨rfl,rfl⟩:=hpc
   simp only[y48,nums] at hnm
   split at hnm
   ·cases hnm
   ·rename_i n hpv
    simp only[y1p,y14] at hnm
    subst hnm
    rw[z2l,flush l.length w out n (yf _) hw hgd hpv (.inl rfl) (by simp at ho; omega)]
    simp only
    rw[z2l,<- y4j hF]
    simp only[S_qs_b1,Scr.den]
    rw[y5 sk]
  | succ k ih =>
   intro i w p0 ps out ns hk hw hgd hpc hnm ho
   have hi:i<l.length:=om
   have ei:l.getD i 0=l[i]:=by simp[List.getD_eq_getElem?_getD,List.getElem?_eq_getElem hi]
   rw[y1m hi,z22] at hpc
   cases hq:pieces (l.drop (i+1)) with
   | nil=>exact absurd hq (z1h _)
   | cons q qs =>
    rw[hq] at hpc
    by_cases hc:(l[i]==46)=true
    ·rw[y6 hc] at hpc
     simp only[y3p] at hpc
     obtain⟨rfl,rfl⟩:=hpc
     simp only[y48,nums] at hnm
     split at hnm
     ·cases hnm
     ·rename_i n hpv
      cases hm:nums (q :: qs) with
      | none=>simp only[nums] at hm; rw[hm] at hnm; cases hnm
      | some ms =>
       have hm':=hm
       simp only[nums] at hm'
       rw[hm'] at hnm
       simp only[y1p,y14] at hnm
       subst hnm
       simp only[yw] at ho
       have h46:(l.getD i 0).toNat=46:=by rw[ei,eq_of_beq hc]; rfl
       rw[z2l,flush i w out n om hw hgd hpv (.inr h46) om]
       simp only
       have:=ih (i+1) [] q qs (out++[n]) ms om sj sj hq (by simpa using hm) sk
       simpa [valW] using this
    ·rw[y5 hc] at hpc
     simp only[y3p] at hpc
     obtain⟨rfl,rfl⟩:=hpc
     have hpv:∃ n,pv (w++l[i] :: q)=some n:=by
      simp only[nums] at hnm
      split at hnm
      ·cases hnm
      ·rename_i n h; exact⟨n,h⟩
     obtain⟨n,hpv⟩:=hpv
     obtain⟨_,_,g3,_,g5⟩:=zhj hpv
     simp only[yu,yw] at g3
     have hne:(l.getD i 0).toNat≠46:=by
      rw[ei]; intro h; exact hc (by rw[y5c.1 (show l[i].toNat=(46:UInt8).toNat from h)]; rfl)
     rw[z2l,digit i w out hi hne (by rw[ei]; exact g5 l[i] sj) om (fun c hc=>g5 c (by simp[hc]))]
     simp only
     refine ih (i+1) (w++[l.getD i 0]) q qs out ns om sk (fun j hj=>?_) hq (by rw[ei]; simpa using hnm) ho
     simp only[yu,yw,y1q] at hj |-
     by_cases hjw:j<w.length
     ·have:=hgd j hjw
      rw[show i+1-(w.length+(0+1))+j=i-w.length+j from om,this]
      simp[List.getD_eq_getElem?_getD,List.getElem?_append_left hjw]
     ·obtain rfl:j=w.length:=om
      rw[show i+1-(w.length+(0+1))+w.length=i from om]
      simp[List.getD_eq_getElem?_getD]
 cases hp:pieces l with
 | nil=>exact absurd hp (z1h l)
 | cons p0 ps =>
  rw[hp] at hn
  have h:=key l.length 0 [] p0 ps [] (parts l) om sj sj (by simpa using hp) (by simpa using hn) sk
  have h':iterM F (([]:List Int),(0:Int),(0:Int),(0:Int))=some (.next (parts l,0,0,((l.length+1:Nat):Int))):=by simpa [valW] using h
  rw[h']
  simp only[outM]
  rw[y5 sk,za ⟨om,trivial⟩]
def ordersOf (l:List TOr) (v:Int):List TOr:=l.filter (fun o=>o.U==v)
theorem zd4 [Inhabited α] (l:List α) (p:α->Bool) (v:Nat->ρ) (hs:∀ i,i<l.length->body i ()=some (if p (l.getD i dF)=true then .ret (v i) else .cont ())) :
  (rangeM body l.length 0 ()=some (.next ())/\∀ x∈l,p x=false)\/∃ i,i<l.length/\p (l.getD i dF)=true/\(∀ x∈l.take i,p x=false)/\rangeM body l.length 0 ()=some (.ret (v i)):=by
 have key:∀ (k i:Nat),i+k=l.length->(∀ x∈l.take i,p x=false)->(rangeM body k i ()=some (.next ())/\∀ x∈l,p x=false)\/∃ i,i<l.length/\p (l.getD i dF)=true/\(∀ x∈l.take i,p x=false)/\rangeM body k (l.length-k) ()=some (.ret (v i)):=by
  intro k
  induction k with
  | zero =>
   intro i hk h
   left
   rw[y1y om] at h
   exact⟨rfl,h⟩
  | succ k ih =>
   intro i hk h
   have hi:i<l.length:=om
   have e:l.length-(k+1)=i:=om
   have e':l.length-k=i+1:=om
   rw[e]
   simp only[rangeM,hs i hi]
   cases hp:p (l.getD i dF) with
   | true =>
    right
    exact⟨i,hi,hp,h,sj⟩
   | false =>
    simp only[yv,yx]
    rw[e'] at ih
    refine ih (i+1) om fun x hx=>?_
    rw[y3a,y1o] at hx
    rcases hx with hx | hx
    ·exact h x hx
    ·rw[yb hi] at hx
     simp only[Option.toList_some,y31] at hx
     rw[hx]
     simpa [List.getD_eq_getElem?_getD,List.getElem?_eq_getElem hi] using hp
 have:=key l.length 0 om sj
 simpa using this
theorem zl4 (l:List α) (i n:Nat) (z:α):(clearL l (0+i) n z).take i=l.take i:=by
 apply y2v
 intro k
 simp only[y5n,clearL,List.getElem?_mapIdx]
 split
 ·cases l[k]? with
  | none=>rfl
  | some x=>simp only[y1p]; rw[y5 om]
 ·rfl
theorem zcj {l:List α} {q:α->Bool} (h:∀ x∈l,q x=true):l.filter q=l:=List.filter_eq_self.mpr h
theorem zn8 {l:List TOr} (v:Int) (hl:l.length<4611686018427387904):F_q1r l v=some (ordersOf l v):=by
 have hI:(F_q1q l v=some (-1)/\∀ x∈l,(x.U==v)=true)\/∃ i:Nat,i<l.length/\((l.getD i dF).U==v)=false/\(∀ x∈l.take i,(x.U==v)=true)/\F_q1q l v=some (i:Int):=by
  simp only[F_q1q,S_q1q,Scr.den]
  rw[za ⟨om,trivial⟩]
  have:=zd4 l (fun x=>x.U != v) (fun i=>(i:Int)) (body:=fun i s=>(S_q1q_b1 l v i s).den) fun i hi=>by
   simp only[S_q1q_b1,F_q3v,S_q3v,Scr.den,obind,yo]
   rw[za ⟨hi,trivial⟩]
   split <;> rfl
  rcases this with ⟨h1,h2⟩ | ⟨i,h1,h2,h3,h4⟩
  ·left
   rw[h1]
   exact⟨rfl,fun x hx=>by simpa using h2 x hx⟩
  ·right
   refine⟨i,h1,by simpa [bne] using h2,fun x hx=>by simpa using h3 x hx,?_⟩
   rw[h4]
   rfl
 simp only[F_q1r,S_q1r,Scr.den]
 rcases hI with ⟨h1,h2⟩ | ⟨i0,h1,h2,h3,h4⟩
 ·rw[h1,obind,y6 (show ((-1:Int)==-1)=true from rfl),za ⟨om,trivial⟩]
  unfold ordersOf
  rw[zcj h2]
 ·rw[h4,obind,y5 sj]
  obtain⟨s,h5,h6⟩:=z1p (step:=fun s=>(S_q1r_b1 v s).den) (fun s=>l.length-s.2.2.toNat)
   (fun s=>s.1.length=l.length/\0<=s.2.1/\s.2.1<=s.2.2/\s.2.2<=l.length/\s.1.take s.2.1.toNat=ordersOf (l.take s.2.2.toNat) v/\s.1.drop s.2.2.toNat=l.drop s.2.2.toNat)
   (fun s=>s.1.length=l.length/\0<=s.2.1/\s.2.1<=l.length/\s.1.take s.2.1.toNat=ordersOf l v) (fun s hs=>by
    obtain⟨sl,i,j⟩:=s
    obtain⟨a1,a2,a3,a4,a5,a6⟩:=hs
    simp only at a1 a2 a3 a4 a5 a6
    by_cases hj:j<(l.length:Int)
    ·left
     have hjn:j.toNat<sl.length:=om
     have hjl:j.toNat<l.length:=om
     have ex:sl.getD j.toNat dF=l.getD j.toNat dF:=by
      have:=yi (fun t=>t[0]?) a6
      simp only[y2f,y3f] at this
      rw[y8,y8,this]
     have et:ordersOf (l.take (j.toNat+1)) v=ordersOf (l.take j.toNat) v++if ((l.getD j.toNat dF).U==v)=true then [l.getD j.toNat dF] else []:=by
      unfold ordersOf
      rw[y3a,List.filter_append,yb hjl]
      simp only[Option.toList_some,y8,yb hjl,y3y,y32,List.filter_nil]
     have w1:i64.wrap (i+1)=i+1:=wrapId om om
     have w2:i64.wrap (j+1)=j+1:=wrapId om om
     have en:(j+1).toNat=j.toNat+1:=om
     have em:(i+1).toNat=i.toNat+1:=om
     have dj:sl.drop (j.toNat+1)=l.drop (j.toNat+1):=by
      have:=yi (List.drop 1) a6
      simpa [List.drop_drop] using this
     simp only[S_q1r_b1,F_q3v,S_q3v,Scr.den,obind,yo,ex,w1,w2]
     rw[y6 sk,za ⟨om,om,om,trivial⟩]
     by_cases hv:((l.getD j.toNat dF).U==v)=true
     ·rw[y6 (by simp only[bne,hv]; rfl),za ⟨om,om,om,trivial⟩]
      refine⟨_,rfl,⟨by simpa using a1,by simp only; omega,by simp only; omega,by simp only; omega,?_,?_⟩,by simp only; omega⟩
      ·simp only[en,em]
       rw[et,y6 hv,<- a5,y3a,y5j om,y11 om]
       rfl
      ·simp only[en]
       rw[List.drop_set_of_lt om,dj]
     ·rw[y5 (by simp only[bne,hv]; simp)]
      refine⟨_,rfl,⟨a1,a2,by simp only; omega,by simp only; omega,?_,?_⟩,by simp only; omega⟩
      ·simp only[en]
       rw[et,y5 hv,y48,a5]
      ·simp only[en]
       exact dj
    ·right
     simp only[S_q1r_b1,Scr.den]
     rw[y5 sk]
     refine⟨_,rfl,a1,a2,by simp only; omega,?_⟩
     simp only
     rw[a5,y1y om]) _ (l,(i0:Int),i64.wrap ((i0:Int)+1)) (y2j _) (by
    have w2:i64.wrap ((i0:Int)+1)=i0+1:=wrapId om om
    have en:((i0:Int)+1).toNat=i0+1:=om
    simp only[w2,en,ye]
    refine⟨trivial,om,om,om,?_,trivial⟩
    unfold ordersOf
    rw[y3a,List.filter_append,zcj h3,yb h1]
    simp only[y8,yb h1,y3y] at h2
    simp[h2])
  obtain⟨b1,b2,b3,b4⟩:=h6
  rw[h5]
  simp only[outM]
  rw[za ⟨b2,om,trivial⟩,za ⟨by rw[z1n]; omega,trivial⟩,za ⟨by rw[z1n]; omega,trivial⟩,zl4,b4]
def Few (b:TBo):Prop:=b.C.length<=1000000/\b.G.length<=1000000/\b.I.length<=1000000/\b.T.length<=1000000
theorem zfo {l:List TOr} (hl:l.length<=1000000):F_q4g l=some l:=by
 simp only[F_q4g,S_q4g,Scr.den]
 rw[za ⟨om,trivial⟩]
theorem zn9 {l:List TRe} (hl:l.length<=1000000):F_q5o l=some l:=by
 simp only[F_q5o,S_q5o,Scr.den]
 rw[za ⟨om,trivial⟩]
theorem zna {l:List TCo} (hl:l.length<=1000000):F_q5p l=some l:=by
 simp only[F_q5p,S_q5p,Scr.den]
 rw[za ⟨om,trivial⟩]
theorem znb {l:List TVe} (hl:l.length<=1000000):F_q5q l=some l:=by
 simp only[F_q5q,S_q5q,Scr.den]
 rw[za ⟨om,trivial⟩]
variable {b:TBo}
theorem z25 (h:Few b):F_q1t b=some (b.C,b.G,b.I,b.T):=by
 simp only[F_q1t,S_q1t,Scr.den,zn9 h.1,zna h.2.1,znb h.2.2.1,zfo h.2.2.2,obind]
theorem z2c (h:Few b):F_q20 b=some (b.C,b.G,b.I,b.T):=by
 obtain⟨h1,h2,h3,h4⟩:=h
 simp only[F_q20,S_q20,Scr.den]
 rw[za ⟨om,om,om,om,trivial⟩]
theorem zfp (h:b.T.length<=1000000) (v:Int):F_q4h b v=some (ordersOf b.T v):=by
 simp only[F_q4h,S_q4h,Scr.den,zfo h,obind,zn8 v (show b.T.length<4611686018427387904 from om)]
theorem zc7 (l:List TOr) (o:TOr):F_q5n l o=some (l.any fun x=>!x.Al||decide (x.Z>o.Z)):=by
 simp only[F_q5n,S_q5n,F_q2m,S_q2m,Scr.den]
 rcases zd4 l (fun x=>!x.Al||decide (x.Z>o.Z)) (fun i=>(i:Int)) (body:=fun i s=>(S_q2m_b1 l o i s).den) (fun i hi=>by
  simp only[S_q2m_b1,F_q71,S_q71,Scr.den,obind,zd]
  split <;> rfl) with ⟨h1,h2⟩ | ⟨i,h1,h2,h3,h4⟩
 ·rw[h1]
  simp only[outM,obind]
  rw[List.any_eq_false.mpr fun x hx=>by rw[h2 x hx]; simp]
  rfl
 ·rw[h4]
  simp only[outM,obind]
  rw[List.any_eq_true.mpr ⟨_,zb h1,h2⟩]
  simp
def noOrder:TOr:=⟨0,0,0,0,false⟩
def lastV (b:TBo) (v:Int):TOr:=(ordersOf b.T v).getLastD noOrder
theorem zjz (h:b.T.length<=1000000) (v:Int):F_q21 b v=some (lastV b v,((ordersOf b.T v).length:Int)):=by
 simp only[F_q21,S_q21,Scr.den]
 rw[z1r b.T (fun (s:TOr×Int) o=>if (o.U==v)=true then (o,i64.wrap (s.2+1)) else s)]
 ·have key:∀ (l:List TOr) (x:TOr) (n:Nat),n+l.length<=1000000->l.foldl (fun (s:TOr×Int) o=>if (o.U==v)=true then (o,i64.wrap (s.2+1)) else s) (x,(n:Int))=((ordersOf l v).getLastD x,((n+(ordersOf l v).length:Nat):Int)):=by
   intro l
   induction l with
   | nil=>intro x n _; rfl
   | cons o l ih =>
    intro x n hn
    simp only[yw] at hn
    rw[y2x]
    unfold ordersOf
    rw[y32]
    by_cases ho:(o.U==v)=true
    ·rw[y6 ho,y6 ho]
     rw[show i64.wrap ((n:Int)+1)=((n+1:Nat):Int) by rw[wrapId om om]; omega,ih o (n+1) om]
     rw[List.getLastD_cons]
     simp only[yw,ordersOf]
     congr 2
     omega
    ·rw[y5 ho,y5 ho,ih x n om]
     rfl
  have:=key b.T noOrder 0 om
  rw[show (((0:Nat)):Int)=0 from rfl] at this
  simp only[outM]
  unfold noOrder at this
  rw[this]
  simp[lastV,noOrder]
 ·intro i s hi
  simp only[S_q21_b1,Scr.den]
  split <;> rfl
theorem zw (gs:List Prop) (x d:α) [Decidable (AllP gs)]:optD gs (some x) d=some (if AllP gs then x else d):=by
 unfold optD
 by_cases h:AllP gs
 ·rw[y6 h,y6 h]
 ·rw[y5 h,y5 h]
variable {x:Option α}
theorem z81 {gs:List Prop} {y d:α} [Decidable (AllP gs)] (h:AllP gs->x=some y):optD gs x d=some (if AllP gs then y else d):=by
 by_cases hg:AllP gs
 ·rw[y6 hg,zk hg,h hg]
 ·rw[y5 hg,zp hg]
theorem z1e (a x d:Bool) [Decidable (AllP [a=false])]:(a||!(if AllP [a=false] then x else d))=(a||!x):=by
 cases a <;> simp[AllP]
theorem zhk (a:Bool) (x d y:Int) [Decidable (AllP [a=false])]:(a||((if AllP [a=false] then x else d) != y))=(a||(x != y)):=by
 cases a <;> simp[AllP]
theorem zqz (a:Bool) (x d y z:Int) [Decidable (AllP [a=false])]:(a||decide ((if AllP [a=false] then x else d)>i64.wrap ((if AllP [a=false] then y else z)+1)))=(a||decide (x>i64.wrap (y+1))):=by
 cases a <;> simp[AllP]
theorem z3s (a x d:Bool) [Decidable (AllP [a=true])]:(a&&(if AllP [a=true] then x else d))=(a&&x):=by
 cases a <;> simp[AllP]
theorem zem (a:Bool) (x d y:Int) [Decidable (AllP [a=true])]:(a&&((if AllP [a=true] then x else d)==y))=(a&&(x==y)):=by
 cases a <;> simp[AllP]
theorem znc (a:Bool) (x d y:Int) [Decidable (AllP [a=true])]:(a&&decide ((if AllP [a=true] then x else d)>=y))=(a&&decide (x>=y)):=by
 cases a <;> simp[AllP]
theorem znd (a:Bool) (x d y z:Int) [Decidable (AllP [a=true])]:(a&&decide ((if AllP [a=true] then x else d)<=i64.wrap ((if AllP [a=true] then y else z)+1)))=(a&&decide (x<=i64.wrap (y+1))):=by
 cases a <;> simp[AllP]
theorem zrx (a:Bool) (x d:List α) [Decidable (AllP [a=true])]:(a&&decide (((if AllP [a=true] then x else d).length:Int)>0))=(a&&decide (x.length>0)):=by
 cases a <;> simp[AllP]
def RFld (r:TRe) (n:Int):Prop:=r.O=n/\good r.D=true/\(0<=r.E/\r.E<=99)/\dayP r.Z/\yr r.Z=r.E/\amtP r.S/\(0<=r.Ad/\r.Ad<=r.S)
def rAt (b:TBo) (n:Int):TRe:=b.C.getD (n-1).toNat dF
def cAt (b:TBo) (n:Int):TCo:=b.G.getD (n-1).toNat dF
def vAt (b:TBo) (n:Int):TVe:=b.I.getD (n-1).toNat dF
def Small (b:TBo):Prop:=Few b/\∀ r∈b.C,r.D.length<=1000000
theorem z6h {n:Nat} (hi:i<n) (hn:n<=1000000):i64.wrap ((i:Int)+1)=(i:Int)+1:=wrapId om om
theorem resC (hb:Small b) (hi:i<b.C.length):∃ C:Bool,(S_q1e_b1 b i ()).den=(if C=true then some (.ret false) else some (.cont ()))/\(C=false↔RFld (b.C.getD i dF) (i+1)):=by
 have hw:=z6h hi hb.1.1
 have hc:=hb.2 _ (zb hi)
 simp only[S_q1e_b1,Scr.den]
 generalize b.C.getD i dF=r at hc |-
 rw[hw,z2x om]
 open Classical in simp only[z2s,z2h,z1w,zw,obind,zd,z1e,zhk]
 refine⟨_,rfl,?_⟩
 simp only[RFld,y36,bne_eq_false_iff_eq,Bool.not_eq_false',y9,y7]
 constructor
 ·rintro⟨⟨⟨⟨⟨⟨⟨⟨h1,h2⟩,h3⟩,h4⟩,h5⟩,h6⟩,h7⟩,h8⟩,h9⟩
  exact⟨h1,h2,om,h5,h6,h7,om⟩
 ·rintro⟨h1,h2,h3,h4,h5,h6,h7⟩
  exact⟨⟨⟨⟨⟨⟨⟨⟨h1,h2⟩,om⟩,om⟩,h4⟩,h5⟩,h6⟩,om⟩,om⟩
theorem resP (hb:Small b) (hi:i<b.C.length):∃ C:Bool,F_q4d b i=some C/\(C=true↔RFld (b.C.getD i dF) (i+1)/\0<=leftV b (b.C.getD i dF)):=by
 have hw:=z6h hi hb.1.1
 have hc:=hb.2 _ (zb hi)
 simp only[F_q4d,S_q4d,Scr.den,ye]
 rw[za ⟨om,hi,trivial⟩]
 generalize b.C.getD i dF=r at hc |-
 rw[hw,z2y om]
 open Classical in simp only[z6g,z54,z39,z1y,z8e,zw,obind,zg,z3s,zem,znc,zrx]
 refine⟨_,rfl,?_⟩
 simp only[z2t,RFld,yl,y12,y7,y3x,and_assoc]
theorem z1k {x:Int} {n:Nat} (h:1<=x/\x<=(n:Int)) (hn:n<=1000000):i64.wrap (x-1)=x-1:=wrapId om om
def CFld (b:TBo) (c:TCo) (n:Int):Prop:=c.O=n/\(1<=c.X/\c.X<=b.C.length)/\dayP c.Z/\amtP c.S/\(0<=c.Ad/\c.Ad<=c.S)/\(1<=c.Ah/\c.Ah<=1000000)/\dayP c.Aj/\(rAt b c.X).Z<=c.Z/\yr c.Z=(rAt b c.X).E
theorem comC (hb:Small b) (hi:i<b.G.length):(CFld b (b.G.getD i dF) (i+1)->(S_q8_b1 b i ()).den=some (.cont ()))/\(¬ CFld b (b.G.getD i dF) (i+1)->(S_q8_b1 b i ()).den=some (.ret false)):=by
 have hw:=z6h hi hb.1.2.1
 simp only[S_q8_b1,Scr.den]
 generalize b.G.getD i dF=c
 rw[hw]
 open Classical in simp only[z2s,z2h,z1w,zw,obind,zd,z1e,zhk]
 split
 ·rename_i h
  refine⟨fun hp=>?_,fun _=>rfl⟩
  exfalso
  obtain⟨h1,h2,h3,h4,h5,h6,h7,_⟩:=hp
  simp only[yc,y1r,ne_eq,yg,y9,y7] at h
  rcases h with (((((((((h | h) | h) | h) | h) | h) | h) | h) | h) | h) <;> first | exact h h1 | exact h h3 | exact h h4 | exact h h7 | omega
 ·rename_i h
  simp only[yc,y1r,ne_eq,yg,y9,y7,y4x,y2w] at h
  obtain⟨⟨⟨⟨⟨⟨⟨⟨⟨h1,h2⟩,h3⟩,h4⟩,h5⟩,h6⟩,h7⟩,h8⟩,h9⟩,h10⟩:=h
  rw[z1k (n:=b.C.length) om hb.1.1,za ⟨om,om,trivial⟩]
  change (_->(if (_||_)=true then _ else _)=_)/\_
  have e:CFld b c (i+1)↔(rAt b c.X).Z<=c.Z/\yr c.Z=(rAt b c.X).E :=
   ⟨fun h=>⟨h.2.2.2.2.2.2.2.1,h.2.2.2.2.2.2.2.2⟩,fun h=>⟨h1,om,h4,h5,om,om,h10,h.1,h.2⟩⟩
  rw[e]
  unfold rAt
  split
  ·rename_i h
   refine⟨fun hp=>?_,fun _=>rfl⟩
   exfalso
   simp only[yc,y1r,ne_eq,y7] at h
   rcases h with h | h
   ·omega
   ·exact h hp.2
  ·rename_i h
   refine⟨fun _=>rfl,fun hp=>?_⟩
   exfalso
   simp only[yc,y1r,ne_eq,y7,y4x,y2w] at h
   exact hp ⟨om,h.2⟩
theorem comP (hb:Small b) (hi:i<b.G.length):∃ C:Bool,F_q4e b i=some C/\(C=true↔CFld b (b.G.getD i dF) (i+1)/\0<=restV b (b.G.getD i dF)):=by
 have hw:=z6h hi hb.1.2.1
 obtain⟨c,hc⟩:∃ c,b.G.getD i dF=c:=⟨_,rfl⟩
 simp only[F_q4e,S_q4e,Scr.den,ye]
 rw[za ⟨om,hi,trivial⟩]
 open Classical in simp only[hc,hw,z6g,z54,z39,z1y,zek,zw,obind,zg,zd,z1e]
 by_cases h:(c.O != (i:Int)+1||!decide (1<=c.X/\c.X<=b.C.length))=true
 ·rw[y6 h]
  refine⟨false,rfl,?_⟩
  simp only[yc,y1r,ne_eq,yg,y9] at h
  constructor
  ·intro h; cases h
  ·intro hp
   rcases h with h | h
   ·exact absurd hp.1.1 h
   ·exact absurd hp.1.2.1 h
 ·rw[y5 h]
  simp only[yc,y1r,ne_eq,yg,y9,y4x,y2w] at h
  rw[z1k (n:=b.C.length) h.2 hb.1.1,za ⟨om,om,trivial⟩]
  open Classical in simp only[z3s,zem,znc]
  refine⟨_,rfl,?_⟩
  simp only[CFld,yl,y12,y7,y3x]
  constructor
  ·rintro⟨⟨⟨⟨⟨⟨⟨h1,h2⟩,h3⟩,h4⟩,h5⟩,h6⟩,h7⟩,h8⟩
   exact⟨⟨h.1,h.2,h1,h4,h5,h6,h7,h2,h3⟩,h8⟩
  ·rintro⟨⟨_,_,h1,h4,h5,h6,h7,h2,h3⟩,h8⟩
   exact⟨⟨⟨⟨⟨⟨⟨h1,h2⟩,h3⟩,h4⟩,h5⟩,h6⟩,h7⟩,h8⟩
def RAll (b:TBo):Prop:=∀ i,i<b.C.length->RFld (b.C.getD i dF) (i+1)
def CAll (b:TBo):Prop:=∀ i,i<b.G.length->CFld b (b.G.getD i dF) (i+1)
def yearOf (b:TBo) (n:Int):Int:=(rAt b (cAt b n).X).E
theorem RAll.at {b:TBo} (h:RAll b) {n:Int} (hn:1<=n/\n<=b.C.length):RFld (rAt b n) n:=by
 have:=h (n-1).toNat om
 rwa [show (((n-1).toNat:Nat):Int)+1=n from om] at this
theorem CAll.at {b:TBo} (h:CAll b) {n:Int} (hn:1<=n/\n<=b.G.length):CFld b (cAt b n) n:=by
 have:=h (n-1).toNat om
 rwa [show (((n-1).toNat:Nat):Int)+1=n from om] at this
variable {n:Int}
theorem zry (hR:RAll b) (hC:CAll b) (hn:1<=n/\n<=b.G.length):0<=yearOf b n/\yearOf b n<=99 :=
 (hR.at (hC.at hn).2.1).2.2.1
theorem z6a (hb:Small b) (hC:CAll b) (hn:1<=n/\n<=b.G.length):F_q1y b n=some (yearOf b n):=by
 have h:=(hC.at hn).2.1
 unfold cAt at h
 simp only[F_q1y,S_q1y,Scr.den]
 rw[z1k hn hb.1.2.1,z1k h hb.1.1,za ⟨om,om,om,om,trivial⟩]
 rfl
theorem zbq (hb:Small b) {c:TCo} (h:1<=c.X/\c.X<=b.C.length):F_q1p b c=some (rAt b c.X).E:=by
 simp only[F_q1p,S_q1p,Scr.den]
 rw[z1k h hb.1.1,za ⟨om,om,trivial⟩]
 rfl
theorem z6i (hR:RAll b) (hC:CAll b) (hn:1<=n/\n<=b.G.length):i64.wrap (yearOf b n+1)=yearOf b n+1:=by
 have:=zry hR hC hn
 exact wrapId om om
def VFld (b:TBo) (v:TVe) (n:Int):Prop:=v.O=n/\(1<=v.Ac/\v.Ac<=b.G.length)/\dayP v.Z/\amtP v.S/\(cAt b v.Ac).Z<=v.Z/\yr v.Z<=yearOf b v.Ac+1
theorem verC (hb:Small b) (hR:RAll b) (hC:CAll b) (hi:i<b.I.length):(VFld b (b.I.getD i dF) (i+1)->(S_q0_b1 b i ()).den=some (.cont ()))/\(¬ VFld b (b.I.getD i dF) (i+1)->(S_q0_b1 b i ()).den=some (.ret false)):=by
 have hw:=z6h hi hb.1.2.2.1
 obtain⟨v,hv⟩:∃ v,b.I.getD i dF=v:=⟨_,rfl⟩
 open Classical in simp only[S_q0_b1,Scr.den,hv,hw,z2s,z2h,z1w,zw,obind,zd,z1e]
 by_cases hA:(v.O != (i:Int)+1||decide (v.Ac<1)||decide (v.Ac>b.G.length))=true
 ·rw[hA]
  simp only[Bool.true_or]
  rw[zp (by simp[AllP]),obind,za (by simp[AllP]),y6 trivial]
  refine⟨fun hp=>?_,fun _=>rfl⟩
  exfalso
  obtain⟨h1,h2,_⟩:=hp
  simp only[yc,y1r,ne_eq,y7] at hA
  rcases hA with (h | h) | h
  ·exact h h1
  ·omega
  ·omega
 ·simp only[yc,y1r,ne_eq,y7,y4x,y2w] at hA
  have hn:1<=v.Ac/\v.Ac<=b.G.length:=om
  open Classical in rw[z81 (y:=yearOf b v.Ac) fun _=>z6a hb hC hn]
  rw[z1k hn hb.1.2.1,obind,za ⟨fun _=>om,fun _=>om,trivial⟩]
  open Classical in simp only[zqz]
  rw[z6i hR hC hn]
  split
  ·rename_i h
   refine⟨fun hp=>?_,fun _=>rfl⟩
   exfalso
   obtain⟨h1,h2,h3,h4,h5,h6⟩:=hp
   unfold cAt at h5
   simp only[yc,y1r,ne_eq,yg,y9,y7] at h
   rcases h with ((((((h | h) | h) | h) | h) | h) | h) <;> first | exact h h1 | exact h h3 | exact h h4 | omega
  ·rename_i h
   refine⟨fun _=>rfl,fun hp=>?_⟩
   exfalso
   simp only[yc,y1r,ne_eq,yg,y9,y7,y4x,y2w] at h
   obtain⟨⟨⟨⟨⟨⟨h1,h2⟩,h3⟩,h4⟩,h5⟩,h6⟩,h7⟩:=h
   exact hp ⟨h1,hn,h4,h5,by unfold cAt; omega,om⟩
theorem verP (hb:Small b) (hR:RAll b) (hC:CAll b) (hi:i<b.I.length):∃ C:Bool,F_q4f b i=some C/\(C=true↔VFld b (b.I.getD i dF) (i+1)):=by
 have hw:=z6h hi hb.1.2.2.1
 obtain⟨v,hv⟩:∃ v,b.I.getD i dF=v:=⟨_,rfl⟩
 simp only[F_q4f,S_q4f,Scr.den,ye]
 rw[za ⟨om,hi,trivial⟩]
 open Classical in simp only[hv,hw,z6g,z54,z39,z1y,zw,obind,zg,zd,z1e]
 by_cases h:(v.O != (i:Int)+1||!decide (1<=v.Ac/\v.Ac<=b.G.length))=true
 ·rw[y6 h]
  refine⟨false,rfl,?_⟩
  simp only[yc,y1r,ne_eq,yg,y9] at h
  constructor
  ·intro h; cases h
  ·intro hp
   rcases h with h | h
   ·exact absurd hp.1 h
   ·exact absurd hp.2.1 h
 ·rw[y5 h]
  simp only[yc,y1r,ne_eq,yg,y9,y4x,y2w] at h
  have hn:=h.2
  have hc:=(hC.at hn).2.1
  rw[z1k hn hb.1.2.1,za ⟨om,om,trivial⟩]
  change ∃ C,(optD _ (F_q1p b (cAt b v.Ac)) _).bind _=_/\_
  open Classical in rw[z81 fun _=>zbq hb hc]
  open Classical in simp only[obind,z3s,znd]
  refine⟨_,rfl,?_⟩
  have hy:=z6i hR hC hn
  unfold yearOf at hy
  rw[hy]
  simp only[VFld,yl,y7,y3x]
  constructor
  ·rintro⟨⟨⟨h1,h2⟩,h3⟩,h4⟩
   exact⟨h.1,h.2,h1,h4,h2,h3⟩
  ·rintro⟨_,_,h1,h4,h2,h3⟩
   exact⟨⟨⟨h1,h2⟩,h3⟩,h4⟩
def VAll (b:TBo):Prop:=∀ i,i<b.I.length->VFld b (b.I.getD i dF) (i+1)
theorem VAll.at {b:TBo} (h:VAll b) {n:Int} (hn:1<=n/\n<=b.I.length):VFld b (vAt b n) n:=by
 have:=h (n-1).toNat om
 rwa [show (((n-1).toNat:Nat):Int)+1=n from om] at this
def OFld (b:TBo) (o:TOr) (bef:List TOr) (n:Int):Prop:=o.O=n/\(1<=o.U/\o.U<=b.I.length)/\dayP o.Z/\(vAt b o.U).Z<=o.Z/\yr o.Z<=yearOf b (vAt b o.U).Ac+1/\o.Ak=(ordersOf bef o.U).length+1/\(ordersOf bef o.U).any (fun x=>!x.Al||decide (x.Z>o.Z))=false
theorem zne (hi:i<b.T.length) (hb:Small b):rangeM (fun j s=>(S_q0_b3 b i j s).den) (b.T.take i).length 0 1=some (if (ordersOf (b.T.take i) (b.T.getD i dF).U).any (fun x=>!x.Al||decide (x.Z>(b.T.getD i dF).Z))=true then .ret false else .next ((ordersOf (b.T.take i) (b.T.getD i dF).U).length+1)):=by
 have hl:=hb.1.2.2.2
 have hlt:(b.T.take i).length<=1000000:=by rw[y1g]; omega
 simp only[S_q0_b3,Scr.den,zd]
 generalize b.T.take i=l at hlt |-
 generalize b.T.getD i dF=o
 generalize hF:(fun (j:Nat) (s:Int)=>_)=F
 have key:∀ (k j n:Nat),j+k=l.length->n<=j+1->rangeM F k j (n:Int)=some (if (ordersOf (l.drop j) o.U).any (fun x=>!x.Al||decide (x.Z>o.Z))=true then .ret false else .next (((ordersOf (l.drop j) o.U).length+n:Nat):Int)):=by
  intro k
  induction k with
  | zero=>intro j n hk hn; rw[y1j om]; simp[rangeM,ordersOf]
  | succ k ih =>
   intro j n hk hn
   have hj:j<l.length:=om
   have e:l.getD j dF=l[j]:=by simp[List.getD_eq_getElem?_getD,List.getElem?_eq_getElem hj]
   have w1:i64.wrap ((n:Int)+1)=((n+1:Nat):Int):=by rw[wrapId om om]; omega
   rw[y1m hj]
   unfold ordersOf
   simp only[rangeM,y32]
   rw[<- y4j (y4j hF j) (n:Int)]
   simp only[e,w1]
   generalize l[j]=x
   by_cases hv:x.U=o.U
   ·have e1:(x.U != o.U)=false:=by simp[hv]
    have e2:(x.U==o.U)=true:=by simp[hv]
    simp only[e1,e2,yv,yx,y18]
    by_cases hx:(!x.Al||decide (x.Z>o.Z))=true
    ·rw[y6 hx,y6 (by rw[y4y,hx]; rfl)]
    ·rw[y5 hx]
     simp only
     rw[ih (j+1) (n+1) om om]
     rw[y4y,Bool.eq_false_iff.mpr hx,y3q]
     unfold ordersOf
     simp only[yw]
     congr 3
     omega
   ·have e1:(x.U != o.U)=true:=by simp[hv]
    have e2:(x.U==o.U)=false:=by simp[hv]
    simp only[e1,e2,yv,yx,y18]
    rw[ih (j+1) n om om]
    rfl
 have:=key l.length 0 1 om om
 simpa using this
theorem ordC (hb:Small b) (hR:RAll b) (hC:CAll b) (hV:VAll b) (hi:i<b.T.length):(OFld b (b.T.getD i dF) (b.T.take i) (i+1)->(S_q0_b4 b i ()).den=some (.cont ()))/\(¬ OFld b (b.T.getD i dF) (b.T.take i) (i+1)->(S_q0_b4 b i ()).den=some (.ret false)):=by
 have hw:=z6h hi hb.1.2.2.2
 have hcnt:=zne hi hb
 obtain⟨o,ho⟩:∃ v,b.T.getD i dF=v:=⟨_,rfl⟩
 open Classical in simp only[S_q0_b4,Scr.den,hcnt,ho,hw,z2s,z2h,zw,obind,zd,z1e]
 split
 ·rename_i h
  refine⟨fun hp=>?_,fun _=>rfl⟩
  exfalso
  obtain⟨h1,h2,h3,_⟩:=hp
  simp only[yc,y1r,ne_eq,yg,y9,y7] at h
  rcases h with ((h | h) | h) | h <;> first | exact h h1 | exact h h3 | omega
 ·rename_i h
  simp only[yc,y1r,ne_eq,yg,y9,y7,y4x,y2w] at h
  obtain⟨⟨⟨h1,h2⟩,h3⟩,h4⟩:=h
  have hn:1<=o.U/\o.U<=b.I.length:=om
  have hv:=(hV.at hn).2.1
  rw[z1k hn hb.1.2.2.1,za ⟨om,om,trivial⟩]
  change (_->(optD _ (F_q1y b (vAt b o.U).Ac) _).bind _=_)/\(_->(optD _ (F_q1y b (vAt b o.U).Ac) _).bind _=_)
  open Classical in rw[z81 fun _=>z6a hb hC hv]
  open Classical in simp only[obind,zqz]
  rw[z6i hR hC hv]
  have hle:i<=b.T.length:=om
  rw[za ⟨hle,trivial⟩]
  by_cases hG:(decide (o.Z<(b.I.getD (o.U-1).toNat dF).Z)||decide (yr o.Z>yearOf b (vAt b o.U).Ac+1))=true
  ·rw[y6 hG]
   refine⟨fun hp=>?_,fun _=>rfl⟩
   exfalso
   obtain⟨_,_,_,h5,h6,_⟩:=hp
   change (decide (o.Z<(vAt b o.U).Z)||_)=true at hG
   simp only[yc,y7] at hG
   omega
  ·rw[y5 hG]
   change ¬ (decide (o.Z<(vAt b o.U).Z)||_)=true at hG
   simp only[yc,y7,y4x] at hG
   by_cases hx:(ordersOf (b.T.take i) o.U).any (fun x=>!x.Al||decide (x.Z>o.Z))=true
   ·rw[y6 hx]
    refine⟨fun hp=>?_,fun _=>rfl⟩
    exfalso
    rw[hp.2.2.2.2.2.2] at hx
    cases hx
   ·rw[y5 hx]
    simp only[outM]
    split
    ·rename_i ha
     refine⟨fun hp=>?_,fun _=>rfl⟩
     exfalso
     simp only[y1r,ne_eq] at ha
     exact ha hp.2.2.2.2.2.1
    ·rename_i ha
     refine⟨fun _=>rfl,fun hp=>?_⟩
     exfalso
     simp only[y1r,ne_eq,y2w] at ha
     exact hp ⟨h1,hn,h4,om,om,ha,Bool.eq_false_iff.mpr hx⟩
theorem ordP (hb:Small b) (hR:RAll b) (hC:CAll b) (hV:VAll b) (hi:i<b.T.length):∃ C:Bool,F_q4i b i=some C/\(C=true↔OFld b (b.T.getD i dF) (b.T.take i) (i+1)):=by
 have hw:=z6h hi hb.1.2.2.2
 have hl:=hb.1.2.2.2
 obtain⟨o,ho⟩:∃ v,b.T.getD i dF=v:=⟨_,rfl⟩
 have hlt:(b.T.take i).length<=1000000:=by rw[y1g]; omega
 have hle:i<=b.T.length:=om
 simp only[F_q4i,S_q4i,Scr.den,ye]
 rw[za ⟨om,hi,trivial⟩]
 open Classical in simp only[ho,hw,z6g,z54,z1y,zw,obind,zg,zd,z1e]
 by_cases h:(o.O != (i:Int)+1||!decide (1<=o.U/\o.U<=b.I.length))=true
 ·rw[y6 h]
  refine⟨false,rfl,?_⟩
  simp only[yc,y1r,ne_eq,yg,y9] at h
  constructor
  ·intro h; cases h
  ·intro hp
   rcases h with h | h
   ·exact absurd hp.1 h
   ·exact absurd hp.2.1 h
 ·rw[y5 h]
  simp only[yc,y1r,ne_eq,yg,y9,y4x,y2w] at h
  have hn:=h.2
  have hv:=(hV.at hn).2.1
  have hc:=(hC.at hv).2.1
  rw[z1k hn hb.1.2.2.1,za ⟨om,om,trivial⟩,zfp hlt,obind,za ⟨hle,trivial⟩]
  simp only[zc7]
  have hp:i64.wrap ((vAt b o.U).Ac-1)=(vAt b o.U).Ac-1:=z1k hv hb.1.2.1
  have hyr:F_q1p b (b.G.getD ((vAt b o.U).Ac-1).toNat dF)=some (yearOf b (vAt b o.U).Ac):=zbq hb hc
  unfold vAt at hp hyr
  open Classical in rw[hp,hyr,zw,obind,zw,obind,za ⟨fun _=>by unfold vAt at hv; omega,fun _=>by unfold vAt at hv; omega,trivial⟩]
  open Classical in simp only[znd]
  have hy:=z6i hR hC hv
  unfold vAt at hy
  rw[hy]
  have e3:∀ (a x d:Bool) [Decidable (AllP [a=true])],(a&&!(if AllP [a=true] then x else d))=(a&&!x):=fun a x d _=>by cases a <;> simp[AllP]
  rw[e3]
  refine⟨_,rfl,?_⟩
  have hlw:i64.wrap (((ordersOf (b.T.take i) o.U).length:Int)+1)=((ordersOf (b.T.take i) o.U).length:Int)+1:=by
   have:(ordersOf (b.T.take i) o.U).length<=(b.T.take i).length:=y55 _ _
   exact wrapId om om
  rw[hlw]
  simp only[OFld,yl,y12,y7,y3x,yg]
  constructor
  ·rintro⟨⟨⟨⟨h1,h2⟩,h3⟩,h4⟩,h5⟩
   exact⟨h.1,h.2,h1,h2,h3,h4,h5⟩
  ·rintro⟨_,_,h1,h2,h3,h4,h5⟩
   exact⟨⟨⟨⟨h1,h2⟩,h3⟩,h4⟩,h5⟩
variable {P:Prop}
theorem noC {x:Option Bool} (h:P->False) (e:x=some false:=by rfl):∃ C:Bool,x=some C/\(C=true↔P):=⟨false,e,⟨fun h=>(y5o h).elim,fun p=>(h p).elim⟩⟩
def Val (b:TBo):Prop:=RAll b/\CAll b/\(∀ r∈b.C,0<=leftV b r)/\VAll b/\(∀ c∈b.G,0<=restV b c)/\(∀ i,i<b.T.length->OFld b (b.T.getD i dF) (b.T.take i) (i+1)) /\
 b.C.length<=200/\b.G.length<=200/\b.I.length<=200/\b.T.length<=200
def OAll (b:TBo):Prop:=∀ i,i<b.T.length->OFld b (b.T.getD i dF) (b.T.take i) (i+1)
theorem zad (hb:Small b):∃ C,F_q1e b=some C/\(C=true↔RAll b):=by
 simp only[F_q1e,S_q1e,Scr.den]
 obtain⟨h1,h2⟩:=z16 (body:=fun i s=>(S_q1e_b1 b i s).den) (n:=b.C.length) (c:=false) (fun i=>RFld (b.C.getD i dF) (i+1)) (fun i hi hp=>by
  obtain⟨C,e,hc⟩:=resC hb hi
  simp only[e,hc.mpr hp]; rfl) (fun i hi hp=>by
  obtain⟨C,e,hc⟩:=resC hb hi
  cases C with
  | true=>simp only[e]; rfl
  | false=>exact absurd (hc.mp rfl) hp)
 by_cases h:∀ j,j<b.C.length->RFld (b.C.getD j dF) (j+1)
 ·rw[h1 h]; exact⟨true,rfl,fun _=>h,fun _=>rfl⟩
 ·rw[h2 h]; exact noC <| (fun h'=>absurd h' h)
theorem zb1 (hb:Small b) (hR:RAll b):∃ C,F_q8 b=some C/\(C=true↔CAll b/\∀ r∈b.C,0<=leftV b r):=by
 simp only[F_q8,S_q8,Scr.den]
 obtain⟨h1,h2⟩:=z16 (body:=fun i s=>(S_q8_b1 b i s).den) (n:=b.G.length) (c:=false) (fun i=>CFld b (b.G.getD i dF) (i+1)) (fun i hi hp=>(comC hb hi).1 hp) (fun i hi hp=>(comC hb hi).2 hp)
 by_cases h:∀ j,j<b.G.length->CFld b (b.G.getD j dF) (j+1)
 ·rw[h1 h]
  simp only[outM]
  have eL:∀ i,i<b.C.length->(S_q8_b2 b i ()).den=if leftV b (b.C.getD i dF)<0 then some (.ret false) else some (.cont ()):=fun i hi=>by
   simp only[S_q8_b2,Scr.den,z8g,obind]
   have:leftN b (b.C.getD i dF).O=leftV b (b.C.getD i dF):=by
    unfold leftN
    have hf:b.C.find? (fun r=>r.O==(b.C.getD i dF).O)=some (b.C.getD i dF):=by
     rw[List.find?_eq_some_iff_getElem]
     refine⟨sj,i,hi,by simp[List.getD_eq_getElem?_getD,List.getElem?_eq_getElem hi],fun j hj=>?_⟩
     have e1:=(hR i hi).1
     have e2:=(hR j om).1
     have e3:b.C.getD j dF=b.C[j]:=by simp[List.getD_eq_getElem?_getD,List.getElem?_eq_getElem (show j<b.C.length from om)]
     rw[e3] at e2
     rw[e1]
     simp only[yg,y43,ne_eq]
     omega
    rw[hf]
   rw[this]
   by_cases hl:leftV b (b.C.getD i dF)<0 <;> simp
  obtain⟨h3,h4⟩:=z16 (body:=fun i s=>(S_q8_b2 b i s).den) (n:=b.C.length) (c:=false) (fun i=>0<=leftV b (b.C.getD i dF)) (fun i hi hp=>by
   simp only[eL i hi]; rw[y5 om]) (fun i hi hp=>by
   simp only[eL i hi]; rw[y6 om])
  by_cases h':∀ j,j<b.C.length->0<=leftV b (b.C.getD j dF)
  ·rw[h3 h']
   refine⟨true,rfl,fun _=>⟨h,fun r hr=>?_⟩,fun _=>rfl⟩
   obtain⟨i,hi,e⟩:=z19 hr
   rw[<- e]; exact h' i hi
  ·rw[h4 h']
   exact noC <| (fun hh=>absurd (fun j hj=>hh.2 _ (zb hj)) h')
 ·rw[h2 h]; exact noC <| (fun h'=>absurd h'.1 h)
theorem zga (hb:Small b) (hR:RAll b) (hC:CAll b):∃ C,F_q0 b=some C/\(C=true↔VAll b/\(∀ c∈b.G,0<=restV b c)/\OAll b):=by
 simp only[F_q0,S_q0,Scr.den]
 obtain⟨h1,h2⟩:=z16 (body:=fun i s=>(S_q0_b1 b i s).den) (n:=b.I.length) (c:=false) (fun i=>VFld b (b.I.getD i dF) (i+1)) (fun i hi hp=>(verC hb hR hC hi).1 hp) (fun i hi hp=>(verC hb hR hC hi).2 hp)
 by_cases h:∀ j,j<b.I.length->VFld b (b.I.getD j dF) (j+1)
 ·rw[h1 h]
  simp only[outM]
  have eL:∀ i,i<b.G.length->(S_q0_b2 b i ()).den=if restV b (b.G.getD i dF)<0 then some (.ret false) else some (.cont ()):=fun i hi=>by
   simp only[S_q0_b2,Scr.den,z8f,obind]
   by_cases hl:restV b (b.G.getD i dF)<0 <;> simp
  obtain⟨h3,h4⟩:=z16 (body:=fun i s=>(S_q0_b2 b i s).den) (n:=b.G.length) (c:=false) (fun i=>0<=restV b (b.G.getD i dF)) (fun i hi hp=>by
   simp only[eL i hi]; rw[y5 om]) (fun i hi hp=>by
   simp only[eL i hi]; rw[y6 om])
  by_cases h':∀ j,j<b.G.length->0<=restV b (b.G.getD j dF)
  ·rw[h3 h']
   skip
   obtain⟨h5,h6⟩:=z16 (body:=fun i s=>(S_q0_b4 b i s).den) (n:=b.T.length) (c:=false) (fun i=>OFld b (b.T.getD i dF) (b.T.take i) (i+1)) (fun i hi hp=>(ordC hb hR hC h hi).1 hp) (fun i hi hp=>(ordC hb hR hC h hi).2 hp)
   by_cases ho:∀ j,j<b.T.length->OFld b (b.T.getD j dF) (b.T.take j) (j+1)
   ·rw[h5 ho]
    refine⟨true,rfl,fun _=>⟨h,fun r hr=>?_,ho⟩,fun _=>rfl⟩
    obtain⟨i,hi,e⟩:=z19 hr
    rw[<- e]; exact h' i hi
   ·rw[h6 ho]
    exact noC <| (fun hh=>absurd hh.2.2 ho)
  ·rw[h4 h']
   exact noC <| (fun hh=>absurd (fun j hj=>hh.2.1 _ (zb hj)) h')
 ·rw[h2 h]; exact noC <| (fun h'=>absurd h'.1 h)
open Classical in
theorem z26 (hb:Small b):F_q1g b=some (decide (Val b)):=by
 simp only[F_q1g,S_q1g,Scr.den,zd,zg]
 by_cases hl:b.C.length<=200/\b.G.length<=200/\b.I.length<=200/\b.T.length<=200
 ·rw[y5 (by simp only[yc,y7]; omega)]
  obtain⟨C1,e1,c1⟩:=zad hb
  rw[e1,obind]
  by_cases hR:RAll b
  ·obtain⟨C2,e2,c2⟩:=zb1 hb hR
   rw[c1.mpr hR,zk (by simp[AllP]),e2,obind]
   by_cases hC:CAll b/\∀ r∈b.C,0<=leftV b r
   ·obtain⟨C3,e3,c3⟩:=zga hb hR hC.1
    rw[c2.mpr hC,zk (by simp[AllP]),e3,obind]
    congr 1
    rw[y1l,y7]
    simp only[Bool.and_self,y44]
    rw[c3]
    exact⟨fun h=>⟨hR,hC.1,hC.2,h.1,h.2.1,h.2.2,hl⟩,fun h=>⟨h.2.2.2.1,h.2.2.2.2.1,h.2.2.2.2.2.1⟩⟩
   ·have:C2=false:=Bool.eq_false_iff.mpr fun h=>hC (c2.mp h)
    rw[this,zp (by simp[AllP]),obind]
    rw[yh (fun h:Val b=>hC ⟨h.2.1,h.2.2.1⟩)]
    rfl
  ·have:C1=false:=Bool.eq_false_iff.mpr fun h=>hR (c1.mp h)
   rw[this,zp (by simp[AllP]),obind,zp (by simp[AllP]),obind]
   rw[yh (fun h:Val b=>hR h.1)]
   rfl
 ·rw[y6 (by simp only[yc,y7]; omega)]
  rw[yh (fun h:Val b=>hl h.2.2.2.2.2.2)]
theorem zdp {n:Nat} (hn:n<=1000000) {body:Nat->Unit->Option (Step Unit Bool)} {F:Int->Option Bool} (hF:∀ (i:Nat) s,body i s=(F i).bind fun r=>if (!r)=true then some (.ret false) else some (.cont ())) (p:Nat->Prop) (h:∀ i,i<n->∃ C,F i=some C/\(C=true↔p i)) :
  ∃ C,guardP (AllP [((n:Int)).toNat<2 ^ 63]) (outM (rangeM body ((n:Int)).toNat 0 ()) (fun _=>some (decide ((n:Int)<=200))) (fun x=>some (id x)))=some C/\(C=true↔(∀ i,i<n->p i)/\n<=200):=by
 rw[ye,za ⟨om,trivial⟩]
 obtain⟨h1,h2⟩:=z16 (body:=body) (n:=n) (c:=false) p (fun i hi hp=>by
  obtain⟨C,e,hc⟩:=h i hi
  rw[hF,e,hc.mpr hp]; rfl) (fun i hi hp=>by
  obtain⟨C,e,hc⟩:=h i hi
  rw[hF,e,Bool.eq_false_iff.mpr fun h=>hp (hc.mp h)]; rfl)
 by_cases hp:∀ i,i<n->p i
 ·rw[h1 hp]
  refine⟨_,rfl,?_⟩
  rw[y7]
  exact⟨fun h=>⟨hp,om⟩,fun h=>om⟩
 ·rw[h2 hp]
  exact noC <| (fun h=>absurd h.1 hp)
open Classical in
theorem Valid_eq (hb:Small b):F_q1s b=some (decide (Val b)):=by
 simp only[F_q1s,S_q1s,Scr.den,zg]
 obtain⟨C1,e1,c1⟩:=zdp hb.1.1 (body:=fun i s=>(S_q39_b1 b i s).den) (F:=F_q4d b) (fun i s=>rfl) _ (fun i hi=>resP hb hi)
 have e1:F_q39 b (b.C.length:Int)=some C1:=e1
 rw[e1,obind]
 by_cases hR:(∀ i,i<b.C.length->RFld (b.C.getD i dF) (i+1)/\0<=leftV b (b.C.getD i dF))/\b.C.length<=200
 ·have hRA:RAll b:=fun i hi=>(hR.1 i hi).1
  obtain⟨C2,e2,c2⟩:=zdp hb.1.2.1 (body:=fun i s=>(S_q3a_b1 b i s).den) (F:=F_q4e b) (fun i s=>rfl) _ (fun i hi=>comP hb hi)
  have e2:F_q3a b (b.G.length:Int)=some C2:=e2
  rw[c1.mpr hR,zk (by simp[AllP]),e2,obind]
  by_cases hC:(∀ i,i<b.G.length->CFld b (b.G.getD i dF) (i+1)/\0<=restV b (b.G.getD i dF))/\b.G.length<=200
  ·have hCA:CAll b:=fun i hi=>(hC.1 i hi).1
   obtain⟨C3,e3,c3⟩:=zdp hb.1.2.2.1 (body:=fun i s=>(S_q3b_b1 b i s).den) (F:=F_q4f b) (fun i s=>rfl) _ (fun i hi=>verP hb hRA hCA hi)
   have e3:F_q3b b (b.I.length:Int)=some C3:=e3
   rw[c2.mpr hC,zk (by simp[AllP]),e3,obind]
   by_cases hV:VAll b/\b.I.length<=200
   ·obtain⟨C4,e4,c4⟩:=zdp hb.1.2.2.2 (body:=fun i s=>(S_q3c_b1 b i s).den) (F:=F_q4i b) (fun i s=>rfl) _ (fun i hi=>ordP hb hRA hCA hV.1 hi)
    have e4:F_q3c b (b.T.length:Int)=some C4:=e4
    rw[c3.mpr hV,zk (by simp[AllP]),e4,obind]
    congr 1
    rw[y1l,y7]
    simp only[Bool.and_self,y44]
    rw[c4]
    refine⟨fun h=>⟨hRA,hCA,fun r hr=>?_,hV.1,fun r hr=>?_,h.1,hR.2,hC.2,hV.2,h.2⟩,fun h=>⟨h.2.2.2.2.2.1,h.2.2.2.2.2.2.2.2.2⟩⟩
    ·obtain⟨i,hi,e⟩:=z19 hr
     rw[<- e]; exact (hR.1 i hi).2
    ·obtain⟨i,hi,e⟩:=z19 hr
     rw[<- e]; exact (hC.1 i hi).2
   ·have:C3=false:=Bool.eq_false_iff.mpr fun h=>hV (c3.mp h)
    rw[this,zp (by simp[AllP]),obind]
    rw[yh (fun h:Val b=>hV ⟨h.2.2.2.1,h.2.2.2.2.2.2.2.2.1⟩)]
    rfl
  ·have:C2=false:=Bool.eq_false_iff.mpr fun h=>hC (c2.mp h)
   rw[this,zp (by simp[AllP]),obind,zp (by simp[AllP]),obind]
   rw[yh (fun h:Val b=>hC ⟨fun i hi=>⟨h.2.1 i hi,h.2.2.2.2.1 _ (zb hi)⟩,h.2.2.2.2.2.2.2.1⟩)]
   rfl
 ·have:C1=false:=Bool.eq_false_iff.mpr fun h=>hR (c1.mp h)
  rw[this,zp (by simp[AllP]),obind,zp (by simp[AllP]),obind,zp (by simp[AllP]),obind]
  rw[yh (fun h:Val b=>hR ⟨fun i hi=>⟨h.1 i hi,h.2.2.1 _ (zb hi)⟩,h.2.2.2.2.2.2.1⟩)]
  rfl
theorem st {c:Bool} {_:Decidable P} {y:Option α} {a b:α} (h:c=true↔P) (hx:P->x=some a) (hy:¬ P->y=some b):(if c=true then x else y)=some (if P then a else b):=by
 by_cases hp:P
 ·rw[y6 (h.mpr hp),y6 hp,hx hp]
 ·rw[y5 (fun hc=>hp (h.mp hc)),y5 hp,hy hp]
def nb:TBo:=⟨[],[],[],[]⟩
def withR (b:TBo) (l:List TRe):TBo:=⟨l,b.G,b.I,b.T⟩
def withC (b:TBo) (l:List TCo):TBo:=⟨b.C,l,b.I,b.T⟩
def withV (b:TBo) (l:List TVe):TBo:=⟨b.C,b.G,l,b.T⟩
def withO (b:TBo) (l:List TOr):TBo:=⟨b.C,b.G,b.I,l⟩
section
open Classical
noncomputable def reserveS (b:TBo) (code:Y8) (y d n:Int):TBo×Int :=
 if ¬ Val b then (nb,1) else
 if good code=false then (nb,5) else
 if ¬ ((0<=y/\y<=99)/\dayP d/\amtP n) then (nb,2) else
 if yr d≠y then (nb,16) else
 if (b.C.length:Int)=200 then (nb,3) else
 (withR b (b.C++[⟨b.C.length+1,code,y,d,n,0⟩]),0)
noncomputable def commitS (b:TBo) (r d n p u:Int):TBo×Int :=
 if ¬ Val b then (nb,1) else
 if ¬ (1<=r/\r<=b.C.length) then (nb,6) else
 if ¬ (dayP d/\amtP n/\(1<=p/\p<=1000000)/\dayP u) then (nb,2) else
 if yr d≠(rAt b r).E then (nb,16) else
 if d<(rAt b r).Z then (nb,8) else
 if leftV b (rAt b r)<n then (nb,15) else
 if (b.G.length:Int)=200 then (nb,3) else
 (withC b (b.G++[⟨b.G.length+1,r,d,n,0,p,u⟩]),0)
noncomputable def verifyS (b:TBo) (c d n:Int):TBo×Int :=
 if ¬ Val b then (nb,1) else
 if ¬ (1<=c/\c<=b.G.length) then (nb,6) else
 if ¬ (dayP d/\amtP n) then (nb,2) else
 if yearOf b c+1<yr d then (nb,16) else
 if d<(cAt b c).Z then (nb,8) else
 if restV b (cAt b c)<n then (nb,15) else
 if (b.I.length:Int)=200 then (nb,3) else
 (withV b (b.I++[⟨b.I.length+1,c,d,n⟩]),0)
noncomputable def orderS (b:TBo) (v d:Int):TBo×Int :=
 if ¬ Val b then (nb,1) else
 if ¬ (1<=v/\v<=b.I.length) then (nb,6) else
 if ¬ dayP d then (nb,2) else
 if yearOf b (vAt b v).Ac+1<yr d then (nb,16) else
 if (ordersOf b.T v).length>0/\(lastV b v).Al=false then (nb,20) else
 if d<(vAt b v).Z\/((ordersOf b.T v).length>0/\d<(lastV b v).Z) then (nb,8) else
 if (b.T.length:Int)=200 then (nb,3) else
 (withO b (b.T++[⟨b.T.length+1,v,(ordersOf b.T v).length+1,d,false⟩]),0)
noncomputable def releaseS (b:TBo) (r n:Int):TBo×Int :=
 if ¬ Val b then (nb,1) else
 if ¬ (1<=r/\r<=b.C.length) then (nb,6) else
 if ¬ amtP n then (nb,2) else
 if leftN b r<n then (nb,15) else
 (withR b (b.C.set (r-1).toNat ⟨(rAt b r).O,(rAt b r).D,(rAt b r).E,(rAt b r).Z,(rAt b r).S,i64.wrap ((rAt b r).Ad+n)⟩),0)
noncomputable def dropS (b:TBo) (c n:Int):TBo×Int :=
 if ¬ Val b then (nb,1) else
 if ¬ (1<=c/\c<=b.G.length) then (nb,6) else
 if ¬ amtP n then (nb,2) else
 if restV b (cAt b c)<n then (nb,15) else
 (withC b (b.G.set (c-1).toNat ⟨(cAt b c).O,(cAt b c).X,(cAt b c).Z,(cAt b c).S,i64.wrap ((cAt b c).Ad+n),(cAt b c).Ah,(cAt b c).Aj⟩),0)
noncomputable def backS (b:TBo) (v:Int):TBo×Int :=
 if ¬ Val b then (nb,1) else
 if ¬ (1<=v/\v<=b.I.length) then (nb,6) else
 if (ordersOf b.T v).length=0\/(lastV b v).Al=true then (nb,9) else
 (withO b (b.T.set ((lastV b v).O-1).toNat ⟨(lastV b v).O,(lastV b v).U,(lastV b v).Ak,(lastV b v).Z,true⟩),0)
end
theorem zhl (hR:RAll b) (hn:1<=n/\n<=b.C.length):leftN b n=leftV b (rAt b n):=by
 unfold leftN
 have hi:(n-1).toNat<b.C.length:=om
 have hf:b.C.find? (fun r=>r.O==n)=some (rAt b n):=by
  rw[List.find?_eq_some_iff_getElem]
  refine⟨by simpa using (hR.at hn).1,(n-1).toNat,hi,by unfold rAt; rw[y8,yb hi]; rfl,fun j hj=>?_⟩
  have e2:=(hR j om).1
  have e3:b.C.getD j dF=b.C[j]:=by simp[List.getD_eq_getElem?_getD,List.getElem?_eq_getElem (show j<b.C.length from om)]
  rw[e3] at e2
  simp only[yg,y43,ne_eq]
  omega
 rw[hf]
variable {code:Y8}
theorem zen (hb:Small b) (hc:code.length<=1000000) (y d n:Int):F_q4u b code y d n=some (reserveS b code y d n):=by
 have h1:=hb.1.1
 have h2:=hb.1
 have hw:i64.wrap ((b.C.length:Int)+1)=b.C.length+1:=wrapId om om
 open Classical in simp only[F_q4u,S_q4u,Scr.den,z26 hb,z2x (show code.length<4611686018427387904 from om),z2s,z1w,z2h,zw,obind,zd,z1e,z2c hb.1,hw]
 unfold reserveS
 refine st (by (simp only[yg,y9])) (fun _=>rfl) fun hV=>?_
 refine st (by (simp only[yg])) (fun _=>rfl) fun hg=>?_
 refine st (by (simp only[yc,yg,y7,y9,y27] <;> (try unfold dayP) <;> (try unfold amtP) <;> omega)) (fun _=>rfl) fun _=>?_
 refine st (by (simp only[y1r,ne_eq] <;> (try unfold dayP) <;> (try unfold amtP) <;> omega)) (fun _=>rfl) fun _=>?_
 refine st (by (simp only[y12] <;> (try unfold dayP) <;> (try unfold amtP) <;> omega)) (fun _=>rfl) fun _=>?_
 obtain⟨_,h3,h4,h5⟩:=h2
 simp only[yu,yw,y1q]
 rw[za ⟨om,trivial⟩,za ⟨om,trivial⟩,za ⟨om,trivial⟩,za ⟨om,trivial⟩,za ⟨om,trivial⟩]
 rfl
theorem zl5 (hb:Small b) (hc:code.length<=1000000) (y d n:Int):F_q5r b code y d n=some (reserveS b code y d n):=by
 have h1:=hb.1.1
 have h2:=hb.1
 have hw:i64.wrap ((b.C.length:Int)+1)=b.C.length+1:=wrapId om om
 open Classical in simp only[F_q5r,S_q5r,Scr.den,Valid_eq hb,z2y (show code.length<=1099511627776 from om),z6g,z39,z1y,z54,zw,obind,zd,z1e,z25 hb.1,hw]
 unfold reserveS
 refine st (by (simp only[yg,y9])) (fun _=>rfl) fun hV=>?_
 refine st (by rw[<- z2t]; (simp only[y9,y12,y27] <;> (try unfold dayP) <;> (try unfold amtP) <;> omega)) (fun _=>rfl) fun hg=>?_
 refine st (by (simp only[yc,yg,y9] <;> (try unfold dayP) <;> (try unfold amtP) <;> omega)) (fun _=>rfl) fun _=>?_
 refine st (by (simp only[y1r,ne_eq] <;> (try unfold dayP) <;> (try unfold amtP) <;> omega)) (fun _=>rfl) fun _=>?_
 refine st (by (simp only[y12] <;> (try unfold dayP) <;> (try unfold amtP) <;> omega)) (fun _=>rfl) fun _=>?_
 obtain⟨_,h3,h4,h5⟩:=h2
 simp only[yu,yw,y1q]
 rw[za ⟨om,trivial⟩,za ⟨om,trivial⟩,za ⟨om,trivial⟩,za ⟨om,trivial⟩,za ⟨om,trivial⟩]
 rfl
theorem zgb (hb:Small b) (r d n p u:Int):F_q4v b r d n p u=some (commitS b r d n p u):=by
 have h2:=hb.1
 obtain⟨h1,h3,h4,h5⟩:=h2
 have hw:i64.wrap ((b.G.length:Int)+1)=b.G.length+1:=wrapId om om
 open Classical in simp only[F_q4v,S_q4v,Scr.den,z26 hb,z2s,z1w,z2h,z8g,zw,obind,zd,z1e,z2c hb.1,hw]
 unfold commitS
 refine st (by (simp only[yg,y9])) (fun _=>rfl) fun hV=>?_
 refine st (by (simp only[yc,y7,y27] <;> (try unfold dayP) <;> (try unfold amtP) <;> omega)) (fun _=>rfl) fun hn=>?_
 refine st (by (simp only[yc,yg,y7,y9,y27] <;> (try unfold dayP) <;> (try unfold amtP) <;> omega)) (fun _=>rfl) fun _=>?_
 have hn:=nnm hn
 have hV:=nnm hV
 rw[z1k hn h1,za ⟨om,om,trivial⟩,zhl hV.1 hn]
 refine st (by unfold rAt; (simp only[y1r,ne_eq] <;> (try unfold dayP) <;> (try unfold amtP) <;> omega)) (fun _=>rfl) fun _=>?_
 refine st (by unfold rAt; (simp only[y7] <;> (try unfold dayP) <;> (try unfold amtP) <;> omega)) (fun _=>rfl) fun _=>?_
 refine st (by (simp only[y7,y27] <;> (try unfold dayP) <;> (try unfold amtP) <;> omega)) (fun _=>rfl) fun _=>?_
 refine st (by (simp only[y12] <;> (try unfold dayP) <;> (try unfold amtP) <;> omega)) (fun _=>rfl) fun _=>?_
 simp only[yu,yw,y1q]
 rw[za ⟨om,trivial⟩,za ⟨om,trivial⟩,za ⟨om,trivial⟩,za ⟨om,trivial⟩,za ⟨om,trivial⟩]
 rfl
theorem znf (hb:Small b) (r d n p u:Int):F_q5s b r d n p u=some (commitS b r d n p u):=by
 have h2:=hb.1
 obtain⟨h1,h3,h4,h5⟩:=h2
 have hw:i64.wrap ((b.G.length:Int)+1)=b.G.length+1:=wrapId om om
 open Classical in simp only[F_q5s,S_q5s,Scr.den,Valid_eq hb,z6g,z39,z1y,z54,z8e,zw,obind,zd,z1e,z25 hb.1,hw]
 unfold commitS
 refine st (by (simp only[yg,y9])) (fun _=>rfl) fun hV=>?_
 refine st (by (simp only[yg,y9] <;> (try unfold dayP) <;> (try unfold amtP) <;> omega)) (fun _=>rfl) fun hn=>?_
 refine st (by (simp only[yc,yg,y9] <;> (try unfold dayP) <;> (try unfold amtP) <;> omega)) (fun _=>rfl) fun _=>?_
 have hn:=nnm hn
 have hV:=nnm hV
 rw[z1k hn h1,za ⟨om,om,trivial⟩]
 refine st (by unfold rAt; (simp only[y1r,ne_eq] <;> (try unfold dayP) <;> (try unfold amtP) <;> omega)) (fun _=>rfl) fun _=>?_
 refine st (by unfold rAt; (simp only[y7] <;> (try unfold dayP) <;> (try unfold amtP) <;> omega)) (fun _=>rfl) fun _=>?_
 refine st (by unfold rAt; (simp only[y7,y27] <;> (try unfold dayP) <;> (try unfold amtP) <;> omega)) (fun _=>rfl) fun _=>?_
 refine st (by (simp only[y12] <;> (try unfold dayP) <;> (try unfold amtP) <;> omega)) (fun _=>rfl) fun _=>?_
 simp only[yu,yw,y1q]
 rw[za ⟨om,trivial⟩,za ⟨om,trivial⟩,za ⟨om,trivial⟩,za ⟨om,trivial⟩,za ⟨om,trivial⟩]
 rfl
theorem zgc (hb:Small b) (c d n:Int):F_q4w b c d n=some (verifyS b c d n):=by
 have h2:=hb.1
 obtain⟨h1,h3,h4,h5⟩:=h2
 have hw:i64.wrap ((b.I.length:Int)+1)=b.I.length+1:=wrapId om om
 open Classical in simp only[F_q4w,S_q4w,Scr.den,z26 hb,z2s,z1w,z2h,z8f,zw,obind,zd,z1e,z2c hb.1,hw]
 unfold verifyS
 refine st (by (simp only[yg,y9])) (fun _=>rfl) fun hV=>?_
 refine st (by (simp only[yc,y7,y27] <;> (try unfold dayP) <;> (try unfold amtP) <;> omega)) (fun _=>rfl) fun hn=>?_
 refine st (by (simp only[yc,yg,y9] <;> (try unfold dayP) <;> (try unfold amtP) <;> omega)) (fun _=>rfl) fun _=>?_
 have hn:=nnm hn
 have hV:=nnm hV
 rw[z6a hb hV.2.1 hn,obind,z1k hn h3,z6i hV.1 hV.2.1 hn]
 refine st (by (simp only[y7,y27] <;> (try unfold dayP) <;> (try unfold amtP) <;> omega)) (fun _=>rfl) fun _=>?_
 rw[za ⟨om,om,trivial⟩]
 refine st (by unfold cAt; (simp only[y7] <;> (try unfold dayP) <;> (try unfold amtP) <;> omega)) (fun _=>rfl) fun _=>?_
 refine st (by unfold cAt; (simp only[y7,y27] <;> (try unfold dayP) <;> (try unfold amtP) <;> omega)) (fun _=>rfl) fun _=>?_
 refine st (by (simp only[y12] <;> (try unfold dayP) <;> (try unfold amtP) <;> omega)) (fun _=>rfl) fun _=>?_
 simp only[yu,yw,y1q]
 rw[za ⟨om,trivial⟩,za ⟨om,trivial⟩,za ⟨om,trivial⟩,za ⟨om,trivial⟩,za ⟨om,trivial⟩]
 rfl
theorem zng (hb:Small b) (c d n:Int):F_q5t b c d n=some (verifyS b c d n):=by
 have h2:=hb.1
 obtain⟨h1,h3,h4,h5⟩:=h2
 have hw:i64.wrap ((b.I.length:Int)+1)=b.I.length+1:=wrapId om om
 open Classical in simp only[F_q5t,S_q5t,Scr.den,Valid_eq hb,z6g,z39,z1y,z54,zek,zw,obind,zd,z1e,z25 hb.1,hw]
 unfold verifyS
 refine st (by (simp only[yg,y9])) (fun _=>rfl) fun hV=>?_
 refine st (by (simp only[yg,y9] <;> (try unfold dayP) <;> (try unfold amtP) <;> omega)) (fun _=>rfl) fun hn=>?_
 refine st (by (simp only[yc,yg,y9] <;> (try unfold dayP) <;> (try unfold amtP) <;> omega)) (fun _=>rfl) fun _=>?_
 have hn:=nnm hn
 have hV:=nnm hV
 have hy:F_q1p b (b.G.getD (c-1).toNat dF)=some (yearOf b c):=zbq hb (hV.2.1.at hn).2.1
 rw[z1k hn h3,za ⟨om,om,trivial⟩,hy,obind,z6i hV.1 hV.2.1 hn]
 refine st (by (simp only[y7,y27] <;> (try unfold dayP) <;> (try unfold amtP) <;> omega)) (fun _=>rfl) fun _=>?_
 refine st (by unfold cAt; (simp only[y7] <;> (try unfold dayP) <;> (try unfold amtP) <;> omega)) (fun _=>rfl) fun _=>?_
 refine st (by unfold cAt; (simp only[y7,y27] <;> (try unfold dayP) <;> (try unfold amtP) <;> omega)) (fun _=>rfl) fun _=>?_
 refine st (by (simp only[y12] <;> (try unfold dayP) <;> (try unfold amtP) <;> omega)) (fun _=>rfl) fun _=>?_
 simp only[yu,yw,y1q]
 rw[za ⟨om,trivial⟩,za ⟨om,trivial⟩,za ⟨om,trivial⟩,za ⟨om,trivial⟩,za ⟨om,trivial⟩]
 rfl
theorem znh (l:List TOr) (h:0<l.length) (x:TOr):l.getD (l.length-1) dF=l.getLastD x:=by
 rw[y8,yb om,y4q,List.getLast?_eq_getElem?,yb om]
 rfl
theorem zhm (hb:Small b) (v d:Int):F_q4x b v d=some (orderS b v d):=by
 have h2:=hb.1
 obtain⟨h1,h3,h4,h5⟩:=h2
 have hw:i64.wrap ((b.T.length:Int)+1)=b.T.length+1:=wrapId om om
 have hol:(ordersOf b.T v).length<=b.T.length:=y55 _ _
 have hw2:i64.wrap (((ordersOf b.T v).length:Int)+1)=(ordersOf b.T v).length+1:=wrapId om om
 open Classical in simp only[F_q4x,S_q4x,Scr.den,z26 hb,z2s,z2h,zjz h5,obind,zd,zg,z2c hb.1,hw,hw2]
 unfold orderS
 refine st (by (simp only[yg,y9])) (fun _=>rfl) fun hV=>?_
 refine st (by (simp only[yc,y7,y27] <;> (try unfold dayP) <;> (try unfold amtP) <;> omega)) (fun _=>rfl) fun hn=>?_
 refine st (by (simp only[yg,y9] <;> (try unfold dayP) <;> (try unfold amtP) <;> omega)) (fun _=>rfl) fun _=>?_
 have hn:=nnm hn
 have hV:=nnm hV
 have hv:=(hV.2.2.2.1.at hn).2.1
 have hy:F_q1y b (b.I.getD (v-1).toNat dF).Ac=some (yearOf b (vAt b v).Ac):=z6a hb hV.2.1 hv
 rw[z1k hn h4,za ⟨om,om,trivial⟩,hy,obind,z6i hV.1 hV.2.1 hv]
 refine st (by (simp only[y7,y27] <;> (try unfold dayP) <;> (try unfold amtP) <;> omega)) (fun _=>rfl) fun _=>?_
 refine st sj (fun _=>rfl) fun _=>?_
 refine st (by unfold vAt; (simp only[yc,yl,y7,y27] <;> (try unfold dayP) <;> (try unfold amtP) <;> omega)) (fun _=>rfl) fun _=>?_
 refine st (by (simp only[y12] <;> (try unfold dayP) <;> (try unfold amtP) <;> omega)) (fun _=>rfl) fun _=>?_
 simp only[yu,yw,y1q]
 rw[za ⟨om,trivial⟩,za ⟨om,trivial⟩,za ⟨om,trivial⟩,za ⟨om,trivial⟩,za ⟨om,trivial⟩]
 rfl
theorem zck (l:List TOr) (hl:l.length<=1000000) (x:TOr) (f:TOr->Bool):(decide ((l.length:Int)>0)&&f (l.getD (i64.wrap ((l.length:Int)-1)).toNat dF))=(decide ((l.length:Int)>0)&&f (l.getLastD x)):=by
 by_cases h:0<l.length
 ·rw[wrapId om om,show ((l.length:Int)-1).toNat=l.length-1 from om,znh l h x]
 ·rw[yh om]; rfl
theorem zpr (hb:Small b) (v d:Int):F_q5u b v d=some (orderS b v d):=by
 have h2:=hb.1
 obtain⟨h1,h3,h4,h5⟩:=h2
 have hw:i64.wrap ((b.T.length:Int)+1)=b.T.length+1:=wrapId om om
 have hol:(ordersOf b.T v).length<=b.T.length:=y55 _ _
 have hw2:i64.wrap (((ordersOf b.T v).length:Int)+1)=(ordersOf b.T v).length+1:=wrapId om om
 have hg:∀ P:Prop,P->((ordersOf b.T v).length:Int)>0->(0:Int)<=i64.wrap (((ordersOf b.T v).length:Int)-1)/\(i64.wrap (((ordersOf b.T v).length:Int)-1)).toNat<(ordersOf b.T v).length:=fun _ _ h=>by
  rw[wrapId om om]; omega
 have a1:=zck (ordersOf b.T v) om noOrder (fun o=>!o.Al)
 have a2:=zck (ordersOf b.T v) om noOrder (fun o=>decide (d<o.Z))
 open Classical in simp only[F_q5u,S_q5u,Scr.den,Valid_eq hb,z6g,z1y,z54,zfp h5,obind,zd,zg,z25 hb.1,hw,hw2,a1,a2]
 unfold orderS
 refine st (by (simp only[yg,y9])) (fun _=>rfl) fun hV=>?_
 refine st (by (simp only[yg,y9] <;> (try unfold dayP) <;> (try unfold amtP) <;> omega)) (fun _=>rfl) fun hn=>?_
 refine st (by (simp only[yg,y9] <;> (try unfold dayP) <;> (try unfold amtP) <;> omega)) (fun _=>rfl) fun _=>?_
 have hn:=nnm hn
 have hV:=nnm hV
 have hv:=(hV.2.2.2.1.at hn).2.1
 have hv':1<=(b.I.getD (v-1).toNat dF).Ac/\(b.I.getD (v-1).toNat dF).Ac<=b.G.length:=hv
 have hy:F_q1p b (b.G.getD ((b.I.getD (v-1).toNat dF).Ac-1).toNat dF)=some (yearOf b (vAt b v).Ac):=zbq hb (hV.2.1.at hv).2.1
 rw[z1k hn h4,za ⟨om,om,trivial⟩,z1k hv' h3,hy,obind,za ⟨om,om,trivial⟩,z6i hV.1 hV.2.1 hv]
 refine st (by (simp only[y7,y27] <;> (try unfold dayP) <;> (try unfold amtP) <;> omega)) (fun _=>rfl) fun _=>?_
 rw[za ⟨fun h=>(hg True trivial (by simpa [AllP] using h)).1,fun h=>(hg True trivial (by simpa [AllP] using h)).2,trivial⟩]
 refine st (by simp[lastV]) (fun _=>rfl) fun _=>?_
 rw[za ⟨fun h=>(hg True trivial (y1z h.1)).1,fun h=>(hg True trivial (y1z h.1)).2,trivial⟩]
 refine st (by unfold vAt lastV; (simp only[yc,yl,y7,y27] <;> (try unfold dayP) <;> (try unfold amtP) <;> omega)) (fun _=>rfl) fun _=>?_
 refine st (by (simp only[y12] <;> (try unfold dayP) <;> (try unfold amtP) <;> omega)) (fun _=>rfl) fun _=>?_
 simp only[yu,yw,y1q]
 rw[za ⟨om,trivial⟩,za ⟨om,trivial⟩,za ⟨om,trivial⟩,za ⟨om,trivial⟩,za ⟨om,trivial⟩]
 rfl
theorem zeo (hb:Small b) (r n:Int):F_q4y b r n=some (releaseS b r n):=by
 have h2:=hb.1
 obtain⟨h1,h3,h4,h5⟩:=h2
 open Classical in simp only[F_q4y,S_q4y,Scr.den,z26 hb,z1w,z8g,obind,zd,z2c hb.1,yo]
 unfold releaseS
 refine st (by (simp only[yg,y9])) (fun _=>rfl) fun hV=>?_
 refine st (by (simp only[yc,y7,y27] <;> (try unfold dayP) <;> (try unfold amtP) <;> omega)) (fun _=>rfl) fun hn=>?_
 refine st (by (simp only[yg,y9] <;> (try unfold dayP) <;> (try unfold amtP) <;> omega)) (fun _=>rfl) fun _=>?_
 refine st (by (simp only[y7,y27] <;> (try unfold dayP) <;> (try unfold amtP) <;> omega)) (fun _=>rfl) fun _=>?_
 have hn:=nnm hn
 rw[z1k hn h1]
 simp only[ya]
 rw[za ⟨om,trivial⟩,za ⟨om,trivial⟩,za ⟨om,trivial⟩,za ⟨om,om,om,trivial⟩,za ⟨om,trivial⟩]
 rfl
theorem ziv (hb:Small b) (c n:Int):F_q4z b c n=some (dropS b c n):=by
 have h2:=hb.1
 obtain⟨h1,h3,h4,h5⟩:=h2
 open Classical in simp only[F_q4z,S_q4z,Scr.den,z26 hb,z1w,z8f,obind,zd,z2c hb.1,yo]
 unfold dropS
 refine st (by (simp only[yg,y9])) (fun _=>rfl) fun hV=>?_
 refine st (by (simp only[yc,y7,y27] <;> (try unfold dayP) <;> (try unfold amtP) <;> omega)) (fun _=>rfl) fun hn=>?_
 refine st (by (simp only[yg,y9] <;> (try unfold dayP) <;> (try unfold amtP) <;> omega)) (fun _=>rfl) fun _=>?_
 have hn:=nnm hn
 rw[z1k hn h3,za ⟨om,om,trivial⟩]
 refine st (by unfold cAt; (simp only[y7,y27] <;> (try unfold dayP) <;> (try unfold amtP) <;> omega)) (fun _=>rfl) fun _=>?_
 simp only[ya]
 rw[za ⟨om,trivial⟩,za ⟨om,trivial⟩,za ⟨om,trivial⟩,za ⟨om,om,trivial⟩,za ⟨om,trivial⟩]
 rfl
theorem zl6 (hb:Small b) (r n:Int):F_q5v b r n=some (releaseS b r n):=by
 have h2:=hb.1
 obtain⟨h1,h3,h4,h5⟩:=h2
 open Classical in simp only[F_q5v,S_q5v,Scr.den,Valid_eq hb,z39,z1y,zrw,obind,z25 hb.1,yo]
 unfold releaseS
 refine st (by (simp only[yg,y9])) (fun _=>rfl) fun hV=>?_
 refine st (by (simp only[yg,y9])) (fun _=>rfl) fun hn=>?_
 refine st (by (simp only[yg,y9])) (fun _=>rfl) fun _=>?_
 refine st (by (simp only[y7,y27] <;> (try unfold dayP) <;> (try unfold amtP) <;> omega)) (fun _=>rfl) fun _=>?_
 have hn:=nnm hn
 rw[z1k hn h1]
 simp only[ya]
 rw[za ⟨om,trivial⟩,za ⟨om,trivial⟩,za ⟨om,trivial⟩,za ⟨om,om,om,trivial⟩,za ⟨om,trivial⟩]
 rfl
theorem zrz (hb:Small b) (c n:Int):F_q5w b c n=some (dropS b c n):=by
 have h2:=hb.1
 obtain⟨h1,h3,h4,h5⟩:=h2
 open Classical in simp only[F_q5w,S_q5w,Scr.den,Valid_eq hb,z39,z1y,zek,obind,z25 hb.1,yo]
 unfold dropS
 refine st (by (simp only[yg,y9])) (fun _=>rfl) fun hV=>?_
 refine st (by (simp only[yg,y9])) (fun _=>rfl) fun hn=>?_
 refine st (by (simp only[yg,y9])) (fun _=>rfl) fun _=>?_
 have hn:=nnm hn
 rw[z1k hn h3,za ⟨om,om,trivial⟩]
 refine st (by unfold cAt; (simp only[y7,y27] <;> (try unfold dayP) <;> (try unfold amtP) <;> omega)) (fun _=>rfl) fun _=>?_
 simp only[ya]
 rw[za ⟨om,trivial⟩,za ⟨om,trivial⟩,za ⟨om,trivial⟩,za ⟨om,om,trivial⟩,za ⟨om,trivial⟩]
 rfl
variable {v:Int}
theorem z8s (h:0<(ordersOf b.T v).length):∃ i,i<b.T.length/\b.T.getD i dF=lastV b v/\(lastV b v).U=v/\ordersOf (b.T.drop (i+1)) v=[]:=by
 have key:∀ l:List TOr,0<(ordersOf l v).length->∃ i,i<l.length/\l.getD i dF=(ordersOf l v).getLastD noOrder/\((ordersOf l v).getLastD noOrder).U=v/\ordersOf (l.drop (i+1)) v=[]:=by
  intro l
  induction l with
  | nil=>intro h; simp[ordersOf] at h
  | cons o l ih =>
   intro h
   by_cases h':0<(ordersOf l v).length
   ·obtain⟨i,h1,h2,h3,h4⟩:=ih h'
    have e:(ordersOf (o :: l) v).getLastD noOrder=(ordersOf l v).getLastD noOrder:=by
     unfold ordersOf at h' |-
     rw[y32]
     split
     ·rw[List.getLastD_cons,y4q,y4q]
      rw[List.getLast?_eq_getElem?,yb om]
      rfl
     ·rfl
    exact⟨i+1,sk,by rw[y3k,e]; exact h2,by rw[e]; exact h3,by rw[List.drop_succ_cons]; exact h4⟩
   ·have e:ordersOf l v=[]:=List.eq_nil_of_length_eq_zero om
    have e2:ordersOf (o :: l) v=if (o.U==v)=true then [o] else []:=by
     unfold ordersOf at e |-
     rw[y32,e]
    rw[e2] at h |-
    by_cases ho:(o.U==v)=true
    ·rw[y6 ho]
     exact⟨0,sj,rfl,eq_of_beq ho,by simpa using e⟩
    ·rw[y5 ho] at h; simp at h
 exact key b.T h
theorem z3t {l:List TOr} {x:TOr}:x∈ordersOf l v↔x∈l/\x.U=v:=by
 unfold ordersOf; rw[y2g,y12]
variable {j:Nat}
theorem zcl (hO:OAll b) (hij:i<j) (hj:j<b.T.length) (hv:(b.T.getD i dF).U=(b.T.getD j dF).U):(b.T.getD i dF).Al=true/\(b.T.getD i dF).Z<=(b.T.getD j dF).Z:=by
 have h:=(hO j hj).2.2.2.2.2.2
 have hm:b.T.getD i dF∈ordersOf (b.T.take j) (b.T.getD j dF).U:=by
  rw[z3t]
  refine⟨?_,hv⟩
  have e:b.T.getD i dF=(b.T.take j).getD i dF:=by
   simp only[y8,y5n]
   rw[y6 hij]
  rw[e]
  exact zb (by rw[y1g]; omega)
 have:=List.any_eq_false.mp h _ hm
 simp only[yc,yg,y7,y4x] at this
 exact⟨by simpa using this.1,om⟩
theorem ziw (hb:Small b) (v:Int):F_q50 b v=some (backS b v):=by
 have h2:=hb.1
 obtain⟨h1,h3,h4,h5⟩:=h2
 open Classical in simp only[F_q50,S_q50,Scr.den,z26 hb,zjz h5,obind,zd,z2c hb.1,yo]
 unfold backS
 refine st (by (simp only[yg,y9])) (fun _=>rfl) fun hV=>?_
 refine st (by (simp only[yc,y7,y27] <;> (try unfold dayP) <;> (try unfold amtP) <;> omega)) (fun _=>rfl) fun hn=>?_
 refine st sj (fun _=>rfl) fun hl=>?_
 have hV:=nnm hV
 obtain⟨i,hi,he,_,_⟩:=z8s (b:=b) (v:=v) om
 have hnum:=(hV.2.2.2.2.2.1 i hi).1
 rw[he] at hnum
 have w:i64.wrap ((lastV b v).O-1)=i:=by rw[wrapId om om]; omega
 rw[w]
 simp only[ya,ye,he]
 rw[za ⟨om,trivial⟩,za ⟨om,trivial⟩,za ⟨om,trivial⟩,za ⟨om,om,om,trivial⟩,za ⟨om,trivial⟩]
 rw[show ((lastV b v).O-1).toNat=i from om]
 rfl
theorem zs0 (hb:Small b) (v:Int):F_q2a b v=some (backS b v):=by
 have h2:=hb.1
 obtain⟨h1,h3,h4,h5⟩:=h2
 open Classical in simp only[F_q2a,S_q2a,Scr.den,Valid_eq hb,z1y,obind,z25 hb.1]
 unfold backS
 refine st (by (simp only[yg,y9])) (fun _=>rfl) fun hV=>?_
 refine st (by (simp only[yg,y9])) (fun _=>rfl) fun hn=>?_
 have hV:=nnm hV
 rw[za ⟨om,trivial⟩,za ⟨om,trivial⟩,za ⟨om,trivial⟩,za ⟨om,trivial⟩]
 rcases zd4 b.T (fun o=>o.U==v&&!o.Al) (fun i=>(withO b (b.T.set i ⟨(b.T.getD i dF).O,(b.T.getD i dF).U,(b.T.getD i dF).Ak,(b.T.getD i dF).Z,true⟩),(0:Int))) (body:=fun i s=>(S_q2a_b1 v (b.C,b.G,b.I,b.T) i s).den) (fun i hi=>by
  simp only[S_q2a_b1,Scr.den,yo,zg,ya]
  rw[za ⟨hi,fun _=>hi,trivial⟩,za ⟨om,trivial⟩]
  split <;> rfl) with ⟨e1,e2⟩ | ⟨i,e1,e2,e3,e4⟩
 ·rw[e1]
  simp only[outM]
  rw[y6]
  ·rfl
  ·by_cases hl:(ordersOf b.T v).length=0
   ·exact .inl hl
   ·right
    obtain⟨i,hi,he,hv,_⟩:=z8s (b:=b) (v:=v) om
    have:=e2 _ (zb hi)
    rw[he,hv] at this
    simpa using this
 ·rw[e4]
  simp only[outM]
  simp only[yl,y12,yg] at e2
  have hmem:b.T.getD i dF∈ordersOf b.T v:=z3t.mpr ⟨zb e1,e2.1⟩
  have hpos:0<(ordersOf b.T v).length:=y4b hmem
  obtain⟨j,hj,he,hv,hd⟩:=z8s hpos
  have hij:i=j:=by
   rcases y3s i j with h | h | h
   ·have:=(zcl hV.2.2.2.2.2.1 h hj (by rw[he,hv]; exact e2.1)).1
    rw[e2.2] at this; cases this
   ·exact h
   ·exfalso
    have:b.T.getD i dF∈ordersOf (b.T.drop (j+1)) v:=by
     rw[z3t]
     refine⟨?_,e2.1⟩
     have e:b.T.getD i dF=(b.T.drop (j+1)).getD (i-(j+1)) dF:=by
      simp only[y8,y2f]
      rw[show j+1+(i-(j+1))=i from om]
     rw[e]
     exact zb (by rw[y3d]; omega)
    rw[hd] at this; cases this
  subst hij
  rw[he] at e2
  rw[y5 (by rw[e2.2]; simp; exact List.ne_nil_of_length_pos hpos),he]
  have hnum:=(hV.2.2.2.2.2.1 i hj).1
  rw[he] at hnum
  rw[show ((lastV b v).O-1).toNat=i from om]
  rfl
theorem z3f [Inhabited α] (l:List α) (x:α) (i:Nat) (hi:i<l.length):(l++[x]).getD i dF=l.getD i dF:=by
 simp only[y8]
 rw[ym hi]
theorem z4r [Inhabited α] (l:List α) (x:α):(l++[x]).getD l.length dF=x:=by
 simp[List.getD_eq_getElem?_getD]
theorem z61 [Inhabited α] (l:List α) (x:α) (k i:Nat) (hk:k<l.length):(l.set k x).getD i dF=if i=k then x else l.getD i dF:=by
 simp only[y8,y4d]
 by_cases h:k=i
 ·subst h; simp[hk]
 ·rw[y5 h,y5 (fun e=>h e.symm)]
variable {c:Int} {p:α->Bool} {f:α->Int}
theorem zl7 {l:List α} (h:∀ x∈l,0<=f x/\f x<=c) (hl:l.length<=200) (hc:0<=c):0<=sm l p f/\sm l p f<=200 * c:=by
 have h1:=zfn (p:=p) fun x hx=>(h x hx).1
 have h2:=zus (p:=p) (fun x hx=>(h x hx).2) hc
 have h3:(l.length:Int) * c<=200 * c:=Int.mul_le_mul_of_nonneg_right om hc
 omega
theorem CAll.mem (h:CAll b) {c:TCo} (hc:c∈b.G):CFld b c c.O/\c=cAt b c.O/\1<=c.O/\c.O<=b.G.length:=by
 obtain⟨i,hi,e⟩:=z19 hc
 have h1:=h i hi
 rw[e] at h1
 have hn:=h1.1
 rw[hn]
 refine⟨h1,?_,om,om⟩
 unfold cAt
 rw[<- e]
 congr 1
 omega
theorem RAll.mem (h:RAll b) {r:TRe} (hr:r∈b.C):RFld r r.O/\r=rAt b r.O/\1<=r.O/\r.O<=b.C.length:=by
 obtain⟨i,hi,e⟩:=z19 hr
 have h1:=h i hi
 rw[e] at h1
 have hn:=h1.1
 rw[hn]
 refine⟨h1,?_,om,om⟩
 unfold rAt
 rw[<- e]
 congr 1
 omega
theorem VAll.mem (h:VAll b) {v:TVe} (hv:v∈b.I):VFld b v v.O/\v=vAt b v.O/\1<=v.O/\v.O<=b.I.length:=by
 obtain⟨i,hi,e⟩:=z19 hv
 have h1:=h i hi
 rw[e] at h1
 have hn:=h1.1
 rw[hn]
 refine⟨h1,?_,om,om⟩
 unfold vAt
 rw[<- e]
 congr 1
 omega
theorem zhn (h:Val b) (n:Int):0<=cmt b n/\cmt b n<=200000000000000:=by
 have:=zl7 (l:=b.G) (p:=fun c=>c.X==n) (f:=(·.S)) (c:=1000000000000) (fun c hc=>by
  have:=(h.2.1.mem hc).1.2.2.2.1
  unfold amtP at this
  omega) h.2.2.2.2.2.2.2.1 om
 exact this
theorem zho (h:Val b) (n:Int):0<=ver b n/\ver b n<=200000000000000:=by
 have:=zl7 (l:=b.I) (p:=fun c=>c.Ac==n) (f:=(·.S)) (c:=1000000000000) (fun c hc=>by
  have:=(h.2.2.2.1.mem hc).1.2.2.2.1
  unfold amtP at this
  omega) h.2.2.2.2.2.2.2.2.1 om
 exact this
theorem z9s (h:Val b) {r:TRe} (hr:r∈b.C):leftV b r=r.S-r.Ad-cmt b r.O/\0<=leftV b r:=by
 have h1:=zhn h r.O
 have h2:=(h.1.mem hr).1
 have h3:=h2.2.2.2.2.2.1
 have h4:=h2.2.2.2.2.2.2
 unfold amtP at h3
 exact⟨wrapId om om,h.2.2.1 r hr⟩
theorem zhp (h:Val b) {c:TCo} (hc:c∈b.G):restV b c=c.S-c.Ad-ver b c.O/\0<=restV b c:=by
 have h1:=zho h c.O
 have h2:=(h.2.1.mem hc).1
 have h3:=h2.2.2.2.1
 have h4:=h2.2.2.2.2.1
 unfold amtP at h3
 exact⟨wrapId om om,h.2.2.2.2.1 c hc⟩
theorem zep (hn:1<=n/\n<=b.C.length):rAt b n∈b.C:=zb om
theorem zs1 (hn:1<=n/\n<=b.G.length):cAt b n∈b.G:=zb om
theorem valR (h:Val b) {l:List TRe} (hl:b.C.length<=l.length) (h200:l.length<=200) (hR:∀ i,i<l.length->RFld (l.getD i dF) (i+1)) (hs:∀ i,i<b.C.length->(l.getD i dF).Z=(b.C.getD i dF).Z/\(l.getD i dF).E=(b.C.getD i dF).E) (hL:∀ r∈l,0<=leftV b r):Val (withR b l):=by
 have hr:∀ n:Int,1<=n/\n<=b.C.length->(rAt (withR b l) n).Z=(rAt b n).Z/\(rAt (withR b l) n).E=(rAt b n).E:=fun n hn=>hs (n-1).toNat om
 have hy:∀ n:Int,1<=n/\n<=b.G.length->yearOf (withR b l) n=yearOf b n:=fun n hn=>(hr _ (h.2.1.at hn).2.1).2
 refine⟨hR,fun i hi=>?_,hL,fun i hi=>?_,h.2.2.2.2.1,fun i hi=>?_,h200,h.2.2.2.2.2.2.2⟩
 ·change CFld (withR b l) (b.G.getD i dF) _
  obtain⟨a1,a2,a3,a4,a5,a6,a7,a8,a9⟩:=h.2.1 i hi
  obtain⟨b1,b2⟩:=hr _ a2
  exact⟨a1,⟨a2.1,y2o a2.2 (by simpa [withR] using hl)⟩,a3,a4,a5,a6,a7,by rw[b1]; exact a8,by rw[b2]; exact a9⟩
 ·change VFld (withR b l) (b.I.getD i dF) _
  obtain⟨a1,a2,a3,a4,a5,a6⟩:=h.2.2.2.1 i hi
  exact⟨a1,a2,a3,a4,a5,by rw[hy _ a2]; exact a6⟩
 ·change OFld (withR b l) (b.T.getD i dF) (b.T.take i) _
  obtain⟨a1,a2,a3,a4,a5,a6⟩:=h.2.2.2.2.2.1 i hi
  exact⟨a1,a2,a3,a4,by rw[show vAt (withR b l)=vAt b from rfl,hy _ (h.2.2.2.1.at a2).2.1]; exact a5,a6⟩
theorem valC (h:Val b) {l:List TCo} (hl:b.G.length<=l.length) (h200:l.length<=200) (hC:∀ i,i<l.length->CFld b (l.getD i dF) (i+1)) (hs:∀ i,i<b.G.length->(l.getD i dF).Z=(b.G.getD i dF).Z/\(l.getD i dF).X=(b.G.getD i dF).X) (hL:∀ r∈b.C,0<=leftV (withC b l) r) (hV:∀ c∈l,0<=restV b c):Val (withC b l):=by
 have hr:∀ n:Int,1<=n/\n<=b.G.length->(cAt (withC b l) n).Z=(cAt b n).Z/\(cAt (withC b l) n).X=(cAt b n).X:=fun n hn=>hs (n-1).toNat om
 have hy:∀ n:Int,1<=n/\n<=b.G.length->yearOf (withC b l) n=yearOf b n:=fun n hn=>by
  unfold yearOf
  rw[(hr n hn).2]
  rfl
 refine⟨h.1,hC,hL,fun i hi=>?_,hV,fun i hi=>?_,h.2.2.2.2.2.2.1,h200,h.2.2.2.2.2.2.2.2⟩
 ·change VFld (withC b l) (b.I.getD i dF) _
  obtain⟨a1,a2,a3,a4,a5,a6⟩:=h.2.2.2.1 i hi
  exact⟨a1,⟨a2.1,y2o a2.2 (by simpa [withC] using hl)⟩,a3,a4,by rw[(hr _ a2).1]; exact a5,by rw[hy _ a2]; exact a6⟩
 ·change OFld (withC b l) (b.T.getD i dF) (b.T.take i) _
  obtain⟨a1,a2,a3,a4,a5,a6⟩:=h.2.2.2.2.2.1 i hi
  exact⟨a1,a2,a3,a4,by rw[show vAt (withC b l)=vAt b from rfl,hy _ (h.2.2.2.1.at a2).2.1]; exact a5,a6⟩
theorem valV (h:Val b) {l:List TVe} (hl:b.I.length<=l.length) (h200:l.length<=200) (hV:∀ i,i<l.length->VFld b (l.getD i dF) (i+1)) (hs:∀ i,i<b.I.length->l.getD i dF=b.I.getD i dF) (hL:∀ c∈b.G,0<=restV (withV b l) c):Val (withV b l):=by
 have hr:∀ n:Int,1<=n/\n<=b.I.length->vAt (withV b l) n=vAt b n:=fun n hn=>hs (n-1).toNat om
 refine⟨h.1,h.2.1,h.2.2.1,hV,hL,fun i hi=>?_,h.2.2.2.2.2.2.1,h.2.2.2.2.2.2.2.1,h200,h.2.2.2.2.2.2.2.2.2⟩
 change OFld (withV b l) (b.T.getD i dF) (b.T.take i) _
 obtain⟨a1,a2,a3,a4,a5,a6⟩:=h.2.2.2.2.2.1 i hi
 exact⟨a1,⟨a2.1,y2o a2.2 (by simpa [withV] using hl)⟩,a3,by rw[hr _ a2]; exact a4,by rw[hr _ a2]; exact a5,a6⟩
theorem valO (h:Val b) {l:List TOr} (h200:l.length<=200) (hO:∀ i,i<l.length->OFld b (l.getD i dF) (l.take i) (i+1)):Val (withO b l) :=
 ⟨h.1,h.2.1,h.2.2.1,h.2.2.2.1,h.2.2.2.2.1,hO,h.2.2.2.2.2.2.1,h.2.2.2.2.2.2.2.1,h.2.2.2.2.2.2.2.2.1,h200⟩
theorem zhq (h:Val b) (hn:(b.C.length:Int)<n):cmt b n=0:=by
 unfold cmt
 rw[z9p (q:=fun _=>false) (g:=fun _=>0) fun c hc=>by
  have:=(h.2.1.mem hc).1.2.1
  rw[y5 sk]; rfl]
 have:∀ l:List TCo,sm l (fun _=>false) (fun _=>0)=0:=fun l=>by induction l with
  | nil=>rfl
  | cons x l ih=>rw[z15,ih]; rfl
 exact this _
theorem zps (h:Val b) (hn:(b.G.length:Int)<n):ver b n=0:=by
 unfold ver
 rw[z9p (q:=fun _=>false) (g:=fun _=>0) fun c hc=>by
  have:=(h.2.2.2.1.mem hc).1.2.1
  rw[y5 sk]; rfl]
 have:∀ l:List TVe,sm l (fun _=>false) (fun _=>0)=0:=fun l=>by induction l with
  | nil=>rfl
  | cons x l ih=>rw[z15,ih]; rfl
 exact this _
variable {y:Int}
theorem zix (h:Val b) (hg:good code=true) (hy:0<=y/\y<=99) (hd:dayP d) (hn:amtP n) (hyr:yr d=y) (hl:(b.C.length:Int)≠200):Val (withR b (b.C++[⟨b.C.length+1,code,y,d,n,0⟩])):=by
 have h200:=h.2.2.2.2.2.2.1
 have hn':=hn
 unfold amtP at hn'
 refine valR h sj sk (fun i hi=>?_) (fun i hi=>by rw[z3f _ _ _ hi]; exact⟨rfl,rfl⟩) fun r hr=>?_
 ·by_cases hi':i<b.C.length
  ·rw[z3f _ _ _ hi']; exact h.1 i hi'
  ·have:i=b.C.length:=by simp at hi; omega
   subst this
   rw[z4r]
   exact⟨rfl,hg,hy,hd,hyr,hn,by simp only; omega⟩
 ·rw[y1o,y31] at hr
  rcases hr with hr | rfl
  ·exact h.2.2.1 r hr
  ·unfold leftV
   simp only
   rw[zhq h om,wrapId om om]
   omega
theorem ziy (h:Val b) {r:Int} (hr:1<=r/\r<=b.C.length) (hn:amtP n) (hL:n<=leftN b r):Val (withR b (b.C.set (r-1).toNat ⟨(rAt b r).O,(rAt b r).D,(rAt b r).E,(rAt b r).Z,(rAt b r).S,i64.wrap ((rAt b r).Ad+n)⟩)):=by
 have h200:=h.2.2.2.2.2.2.1
 have hm:=zep hr
 obtain⟨f1,f2,f3,f4,f5,f6,f7⟩:=h.1.at hr
 obtain⟨l1,l2⟩:=z9s h hm
 have hc:=zhn h (rAt b r).O
 rw[zhl h.1 hr] at hL
 unfold amtP at hn f6
 have hw:i64.wrap ((rAt b r).Ad+n)=(rAt b r).Ad+n:=wrapId om om
 rw[hw]
 have hk:(r-1).toNat<b.C.length:=om
 refine valR h sj sk (fun i hi=>?_) (fun i hi=>?_) fun x hx=>?_
 ·rw[z61 _ _ _ _ hk]
  split
  ·rename_i e
   refine⟨by simp only; omega,f2,f3,f4,f5,f6,by simp only; omega⟩
  ·exact h.1 i (by simpa using hi)
 ·rw[z61 _ _ _ _ hk]
  split
  ·rename_i e
   subst e
   exact⟨rfl,rfl⟩
  ·exact⟨rfl,rfl⟩
 ·rcases y2k hx with hx | rfl
  ·exact h.2.2.1 x hx
  ·unfold leftV
   simp only
   rw[wrapId om om]
   omega
variable {u:Int}
theorem zl8 (h:Val b) {r p:Int} (hr:1<=r/\r<=b.C.length) (hd:dayP d) (hn:amtP n) (hp:1<=p/\p<=1000000) (hu:dayP u) (hy:yr d=(rAt b r).E) (hdr:(rAt b r).Z<=d) (hL:n<=leftV b (rAt b r)) (hl:(b.G.length:Int)≠200):Val (withC b (b.G++[⟨b.G.length+1,r,d,n,0,p,u⟩])):=by
 have h200:=h.2.2.2.2.2.2.2.1
 have hn':=hn
 unfold amtP at hn'
 have hrm:=zep hr
 obtain⟨l1,l2⟩:=z9s h hrm
 refine valC h sj sk (fun i hi=>?_) (fun i hi=>by rw[z3f _ _ _ hi]; exact⟨rfl,rfl⟩) (fun x hx=>?_) fun c hc=>?_
 ·by_cases hi':i<b.G.length
  ·rw[z3f _ _ _ hi']; exact h.2.1 i hi'
  ·have:i=b.G.length:=by simp at hi; omega
   subst this
   rw[z4r]
   exact⟨rfl,hr,hd,hn,by simp only; omega,hp,hu,hdr,hy⟩
 ·obtain⟨x1,x2⟩:=z9s h hx
  unfold leftV
  have e:cmt (withC b (b.G++[⟨b.G.length+1,r,d,n,0,p,u⟩])) x.O=cmt b x.O+if (r==x.O)=true then n else 0:=by
   unfold cmt withC
   simp only
   rw[z7y,z15,zdm]
   simp
  have hc:=zhn h x.O
  have hf:=(h.1.mem hx)
  have hf6:=hf.1.2.2.2.2.2.1
  have hf7:=hf.1.2.2.2.2.2.2
  unfold amtP at hf6
  rw[e]
  split
  ·rename_i er
   have er:=eq_of_beq er
   have:x=rAt b r:=by rw[er]; exact hf.2.1
   rw[<- this] at hL
   rw[wrapId om om]
   omega
  ·rw[wrapId om om]
   omega
 ·rw[y1o,y31] at hc
  rcases hc with hc | rfl
  ·exact h.2.2.2.2.1 c hc
  ·unfold restV
   simp only
   rw[zps h om,wrapId om om]
   omega
theorem zpt (h:Val b) (hc:1<=c/\c<=b.G.length) (hn:amtP n) (hL:n<=restV b (cAt b c)):Val (withC b (b.G.set (c-1).toNat ⟨(cAt b c).O,(cAt b c).X,(cAt b c).Z,(cAt b c).S,i64.wrap ((cAt b c).Ad+n),(cAt b c).Ah,(cAt b c).Aj⟩)):=by
 have h200:=h.2.2.2.2.2.2.2.1
 have hm:=zs1 hc
 obtain⟨f1,f2,f3,f4,f5,f6,f7,f8,f9⟩:=h.2.1.at hc
 obtain⟨l1,l2⟩:=zhp h hm
 have hv:=zho h (cAt b c).O
 unfold amtP at hn
 have f4':=f4
 unfold amtP at f4'
 have hw:i64.wrap ((cAt b c).Ad+n)=(cAt b c).Ad+n:=wrapId om om
 rw[hw]
 have hk:(c-1).toNat<b.G.length:=om
 refine valC h sj sk (fun i hi=>?_) (fun i hi=>?_) (fun x hx=>?_) fun x hx=>?_
 ·rw[z61 _ _ _ _ hk]
  split
  ·rename_i e
   exact⟨by simp only; omega,f2,f3,f4,by simp only; omega,f6,f7,f8,f9⟩
  ·exact h.2.1 i (by simpa using hi)
 ·rw[z61 _ _ _ _ hk]
  split
  ·rename_i e
   subst e
   exact⟨rfl,rfl⟩
  ·exact⟨rfl,rfl⟩
 ·have e:∀ m,cmt (withC b (b.G.set (c-1).toNat ⟨(cAt b c).O,(cAt b c).X,(cAt b c).Z,(cAt b c).S,(cAt b c).Ad+n,(cAt b c).Ah,(cAt b c).Aj⟩)) m=cmt b m:=fun m=>by
   unfold cmt withC
   simp only
   rw[zhg hk _ _ _ dF]
   change _-(if ((cAt b c).X==m)=true then (cAt b c).S else 0)+(if ((cAt b c).X==m)=true then (cAt b c).S else 0)=_
   omega
  unfold leftV
  rw[e]
  exact h.2.2.1 x hx
 ·rcases y2k hx with hx | rfl
  ·exact h.2.2.2.2.1 x hx
  ·unfold restV
   simp only
   rw[wrapId om om]
   omega
theorem zl9 (h:Val b) (hc:1<=c/\c<=b.G.length) (hd:dayP d) (hn:amtP n) (hy:yr d<=yearOf b c+1) (hdc:(cAt b c).Z<=d) (hL:n<=restV b (cAt b c)) (hl:(b.I.length:Int)≠200):Val (withV b (b.I++[⟨b.I.length+1,c,d,n⟩])):=by
 have h200:=h.2.2.2.2.2.2.2.2.1
 have hn':=hn
 unfold amtP at hn'
 refine valV h sj sk (fun i hi=>?_) (fun i hi=>z3f _ _ _ hi) fun x hx=>?_
 ·by_cases hi':i<b.I.length
  ·rw[z3f _ _ _ hi']; exact h.2.2.2.1 i hi'
  ·have:i=b.I.length:=by simp at hi; omega
   subst this
   rw[z4r]
   exact⟨rfl,hc,hd,hn,hdc,hy⟩
 ·obtain⟨x1,x2⟩:=zhp h hx
  unfold restV
  have e:ver (withV b (b.I++[⟨b.I.length+1,c,d,n⟩])) x.O=ver b x.O+if (c==x.O)=true then n else 0:=by
   unfold ver withV
   simp only
   rw[z7y,z15,zdm]
   simp
  have hv:=zho h x.O
  have hf:=(h.2.1.mem hx)
  have hf6:=hf.1.2.2.2.1
  have hf7:=hf.1.2.2.2.2.1
  unfold amtP at hf6
  rw[e]
  split
  ·rename_i er
   have er:=eq_of_beq er
   have:x=cAt b c:=by rw[er]; exact hf.2.1
   rw[<- this] at hL
   rw[wrapId om om]
   omega
  ·rw[wrapId om om]
   omega
theorem zni (h:Val b) (hv:1<=v/\v<=b.I.length) (hd:dayP d) (hy:yr d<=yearOf b (vAt b v).Ac+1) (hdv:(vAt b v).Z<=d) (hb:0<(ordersOf b.T v).length->(lastV b v).Al=true/\(lastV b v).Z<=d) (hl:(b.T.length:Int)≠200):Val (withO b (b.T++[⟨b.T.length+1,v,(ordersOf b.T v).length+1,d,false⟩])):=by
 have h200:=h.2.2.2.2.2.2.2.2.2
 refine valO h sk fun i hi=>?_
 by_cases hi':i<b.T.length
 ·rw[z3f _ _ _ hi',List.take_append_of_le_length om]; exact h.2.2.2.2.2.1 i hi'
 ·have:i=b.T.length:=by simp at hi; omega
  subst this
  rw[z4r,List.take_left]
  refine⟨rfl,hv,hd,hdv,hy,rfl,?_⟩
  rw[List.any_eq_false]
  intro x hx
  obtain⟨hx1,hx2⟩:=z3t.mp hx
  obtain⟨j,hj,he⟩:=z19 hx1
  obtain⟨k,hk,hke,hkv,hkd⟩:=z8s (b:=b) (v:=v) (y4b hx)
  obtain⟨hb1,hb2⟩:=hb (y4b hx)
  simp only at hx2
  have:x.Al=true/\x.Z<=d:=by
   rcases y3s j k with hjk | hjk | hjk
   ·have:=zcl h.2.2.2.2.2.1 hjk hk (by rw[he,hke,hx2,hkv])
    rw[he,hke] at this
    exact⟨this.1,om⟩
   ·subst hjk
    rw[<- he,hke]; exact⟨hb1,hb2⟩
   ·exfalso
    have hm:x∈ordersOf (b.T.drop (k+1)) v:=by
     rw[z3t]
     refine⟨?_,hx2⟩
     have e:x=(b.T.drop (k+1)).getD (j-(k+1)) dF:=by
      rw[<- he]
      simp only[y8,y2f]
      rw[show k+1+(j-(k+1))=j from om]
     rw[e]
     exact zb (by rw[y3d]; omega)
    rw[hkd] at hm; cases hm
  simp only[this.1,y2t,y3q,y7]
  omega
theorem znj (l:List TOr) (i:Nat) (y:TOr) (hi:i<l.length) (hy:y.U=(l.getD i dF).U/\y.Z=(l.getD i dF).Z/\y.Al=true) (v d:Int) :
  (ordersOf (l.set i y) v).length=(ordersOf l v).length/\((ordersOf l v).any (fun x=>!x.Al||decide (x.Z>d))=false->(ordersOf (l.set i y) v).any (fun x=>!x.Al||decide (x.Z>d))=false):=by
 induction l generalizing i with
 | nil=>simp at hi
 | cons x l ih =>
  unfold ordersOf at ih |-
  cases i with
  | zero =>
   rw[y4r,y32,y32]
   rw[y4n] at hy
   rw[hy.1]
   split
   ·simp only[yw,y4y,hy.2.1,hy.2.2,y2t,y3q,y36]
    exact⟨trivial,fun h=>⟨h.1.2,h.2⟩⟩
   ·exact⟨rfl,fun h=>h⟩
  | succ i =>
   rw[y3k] at hy
   have:=ih i (by simpa using hi) hy
   rw[y46,y32,y32]
   split
   ·simp only[yw,y4y,y36]
    exact⟨by rw[this.1],fun h=>⟨h.1,this.2 h.2⟩⟩
   ·exact this
theorem zpu (h:Val b) (hl:0<(ordersOf b.T v).length):Val (withO b (b.T.set ((lastV b v).O-1).toNat ⟨(lastV b v).O,(lastV b v).U,(lastV b v).Ak,(lastV b v).Z,true⟩)):=by
 have h200:=h.2.2.2.2.2.2.2.2.2
 obtain⟨i,hi,he,hv,hd⟩:=z8s hl
 have hf:=h.2.2.2.2.2.1 i hi
 rw[he] at hf
 rw[show ((lastV b v).O-1).toNat=i by have:=hf.1; omega]
 refine valO h sk fun j hj=>?_
 rw[ya] at hj
 have hj':=h.2.2.2.2.2.1 j hj
 have key:∀ u d:Int,(ordersOf ((b.T.set i ⟨(lastV b v).O,(lastV b v).U,(lastV b v).Ak,(lastV b v).Z,true⟩).take j) u).length=(ordersOf (b.T.take j) u).length/\((ordersOf (b.T.take j) u).any (fun x=>!x.Al||decide (x.Z>d))=false->(ordersOf ((b.T.set i ⟨(lastV b v).O,(lastV b v).U,(lastV b v).Ak,(lastV b v).Z,true⟩).take j) u).any (fun x=>!x.Al||decide (x.Z>d))=false):=fun u d=>by
  rw[List.take_set]
  by_cases hij:i<j
  ·have e:(b.T.take j).getD i dF=lastV b v:=by
    rw[<- he]
    simp only[y8,y5n]
    rw[y6 hij]
   exact znj _ i _ (by rw[y1g]; omega) (by rw[e]; exact⟨rfl,rfl,rfl⟩) u d
  ·rw[List.set_eq_of_length_le (by rw[y1g]; omega)]
   exact⟨rfl,fun h=>h⟩
 rw[z61 _ _ _ _ hi]
 split
 ·rename_i e
  subst e
  rw[he] at hj'
  obtain⟨a1,a2,a3,a4,a5,a6,a7⟩:=hj'
  exact⟨a1,a2,a3,a4,a5,by rw[(key _ 0).1]; exact a6,(key _ _).2 a7⟩
 ·obtain⟨a1,a2,a3,a4,a5,a6,a7⟩:=hj'
  exact⟨a1,a2,a3,a4,a5,by rw[(key _ 0).1]; exact a6,(key _ _).2 a7⟩
def TapeOk (s:TTape):Prop:=0<=s.at_/\s.l.length<=500/\s.at_<=s.l.length
theorem zhr (t:List Int):∃ s,F_q2y t=some s/\TapeOk s:=by
 simp only[F_q2y,S_q2y,Scr.den]
 refine⟨_,zaq ⟨?_,?_,trivial⟩ rfl,sj,?_,sj⟩
 ·split <;> omega
 ·split <;> omega
 ·simp only[y1g]
  split <;> omega
variable {s:TTape}
theorem z2e (hs:TapeOk s) (h1:1<=n) (hn:n<=4611686018427387904):∃ v s',F_q4 n s=some (v,s')/\TapeOk s'/\0<=v/\v<n:=by
 obtain⟨a1,a2,a3⟩:=hs
 simp only[F_q4,S_q4,Scr.den]
 by_cases hc:s.at_>=(s.l.length:Int)
 ·rw[y6 (by simp[hc])]
  exact⟨0,s,rfl,⟨a1,a2,a3⟩,om,om⟩
 ·rw[y5 sk]
  have e1:i64.wrap (s.at_+1)=s.at_+1:=wrapId om om
  rw[e1,za ⟨om,om,om,trivial⟩]
  generalize s.l.getD s.at_.toNat dF=x
  have t1:x.tmod n<n:=Int.tmod_lt_of_pos x om
  have t2:-n<x.tmod n:=Int.lt_tmod_of_pos x om
  have e3:i64.wrap (x.tmod n+n)=x.tmod n+n:=wrapId om om
  rw[e3]
  have ht:TapeOk ⟨s.l,s.at_+1⟩:=⟨by simp only; omega,a2,by simp only; omega⟩
  split
  ·rename_i h
   simp only[y7] at h
   exact⟨_,_,rfl,ht,om,om⟩
  ·rename_i h
   simp only[y7] at h
   exact⟨_,_,rfl,ht,om,om⟩
theorem z2g {lo hi:Int} (hs:TapeOk s) (h0:-1000000000000000<=lo) (h1:lo<=hi) (h2:hi<=1000000000000000):∃ v s',F_qr lo hi s=some (v,s')/\TapeOk s'/\lo<=v/\v<=hi:=by
 simp only[F_qr,S_qr,Scr.den]
 rw[wrapId (n:=hi-lo) om om,wrapId (n:=hi-lo+1) om om]
 obtain⟨v,s',h3,h4,h5,h6⟩:=z2e (n:=hi-lo+1) hs om om
 refine⟨lo+v,s',?_,h4,om,om⟩
 rw[h3,obind]
 simp only
 rw[wrapId (n:=lo+v) om om]
theorem z3b {l:List Int} (hs:TapeOk s) (h0:1<=l.length) (h1:l.length<=100):∃ v s',F_qu l s=some (v,s')/\TapeOk s'/\v∈l:=by
 simp only[F_qu,S_qu,Scr.den]
 obtain⟨v,s',h3,h4,h5,h6⟩:=z2e (n:=(l.length:Int)) hs om om
 refine⟨_,s',?_,h4,zb (show v.toNat<l.length from om)⟩
 rw[h3,obind,za ⟨by simpa using h5,by simp only; omega,trivial⟩]
theorem zb2 (hs:TapeOk s):∃ c s',F_q30 s=some (c,s')/\TapeOk s'/\c.length<=60/\good c=true:=by
 simp only[F_q30,S_q30,Scr.den]
 obtain⟨v,s',h3,h4,h5,h6⟩:=z2e (n:=3) hs om om
 have h:∀ c∈([[49],[49,46,50],[50]]:List Y8),c.length<=60/\good c=true:=dk
 refine⟨_,s',?_,h4,h _ (zb (show v.toNat<3 from om))⟩
 rw[h3,obind,za ⟨by simpa using h5,by simp only; omega,trivial⟩]
theorem znk:Val nb:=by
 refine⟨fun i hi=>?_,fun i hi=>?_,fun r hr=>?_,fun i hi=>?_,fun r hr=>?_,fun i hi=>?_,dk,dk,dk,dk⟩
 ·exact absurd hi (y2i _)
 ·exact absurd hi (y2i _)
 ·cases hr
 ·exact absurd hi (y2i _)
 ·cases hr
 ·exact absurd hi (y2i _)
def mt (b:TBo) (code:Y8) (y n:Int):Bool:=(rAt b n).D==code&&(rAt b n).E==y
theorem zut:i64.wrap 0=0:=wrapId om om
def eR:TRe:=⟨1,[49],12,4320,100,0⟩
def eV:TVe:=⟨1,1,4340,50⟩
theorem zs2 (b:TBo) (c:TCo) (m:Int):rel (withC b (b.G++[c])) m=rel b m+if (c.X==m)=true then c.Ad else 0:=by
 unfold rel withC
 simp only
 rw[z7y,z15,zdm]
 simp
theorem zpv (b:TBo) (c:TCo) (h0:c.Ad=0) (code:Y8) (y:Int):usedV (withC b (b.G++[c])) code y=usedV b code y:=by
 unfold usedV
 congr 1
 change sm b.C _ _=sm b.C _ _
 refine z9p fun r _=>?_
 simp only[zs2,h0]
 simp
theorem zs3 (l:List α) (p:α->Bool):sm l p (fun _=>0)=0:=by
 induction l with
 | nil=>rfl
 | cons x l ih=>rw[z15,ih]; split <;> rfl
theorem znl {α:Type} [Inhabited α] {num:α->Int} {q:Int->Bool} {p:α->Bool} (a:Int):∀ (l:List α) (i:Nat),i<l.length->(∀ j,j<l.length->j≠i->num (l.getD j dF)≠num (l.getD i dF))->p (l.getD i dF)=q (num (l.getD i dF)) ->
  sm l p (fun x=>if (num (l.getD i dF)==num x)=true then a else 0)=if q (num (l.getD i dF))=true then a else 0
 | [],i,hi,_,_=>by simp at hi
 | x :: l,0,hi,hd,hp=>by
  rw[y4n] at hp hd |-
  rw[z15,hp]
  have:sm l p (fun y=>if (num x==num y)=true then a else 0)=sm l p (fun _=>0):=z9p fun y hy=>by
   obtain⟨j,hj,e⟩:=z19 hy
   have:=hd (j+1) sk om
   rw[y3k,e] at this
   have e2:(num x==num y)=false:=by simpa using fun h=>this h.symm
   rw[e2]; simp
  rw[this,zs3]
  simp
 | x :: l,i+1,hi,hd,hp=>by
  rw[y3k] at hp hd |-
  rw[z15,znl a l i (by simpa using hi) (fun j hj hji=>by
   have:=hd (j+1) sk om
   rwa [y3k] at this) hp]
  have:=hd 0 sj om
  rw[y4n] at this
  have e2:(num (l.getD i dF)==num x)=false:=by simpa using fun h=>this h.symm
  rw[e2]; simp
theorem zts (h:Val b) (code:Y8) (y:Int) {r:TRe} (hr:r∈b.C):mt b code y r.O=(r.D==code&&r.E==y):=by
 unfold mt
 rw[<- (h.1.mem hr).2.1]
theorem zt {_:Decidable P} {a b:TBo×Int} (h:(if P then a else b).2=0) (ha:a.2≠0):(if P then a else b)=b/\¬ P:=by
 by_cases hp:P
 ·rw[y6 hp] at h; exact absurd h ha
 ·exact⟨y5 hp,hp⟩
theorem zhs {r p:Int} (h0:(commitS b r d n p u).2=0) (code:Y8) (y:Int):usedV (commitS b r d n p u).1 code y=usedV b code y:=by
 unfold commitS at h0 |-
 obtain⟨e,_⟩:=zt h0 dk; rw[e] at h0 |-; clear e
 obtain⟨e,_⟩:=zt h0 dk; rw[e] at h0 |-; clear e
 obtain⟨e,_⟩:=zt h0 dk; rw[e] at h0 |-; clear e
 obtain⟨e,_⟩:=zt h0 dk; rw[e] at h0 |-; clear e
 obtain⟨e,_⟩:=zt h0 dk; rw[e] at h0 |-; clear e
 obtain⟨e,_⟩:=zt h0 dk; rw[e] at h0 |-; clear e
 obtain⟨e,_⟩:=zt h0 dk; rw[e] at h0 |-; clear e
 exact zpv _ _ rfl _ _
theorem zht (h0:(verifyS b c d n).2=0) (code:Y8) (y:Int):usedV (verifyS b c d n).1 code y=usedV b code y:=by
 unfold verifyS at h0 |-
 obtain⟨e,_⟩:=zt h0 dk; rw[e] at h0 |-; clear e
 obtain⟨e,_⟩:=zt h0 dk; rw[e] at h0 |-; clear e
 obtain⟨e,_⟩:=zt h0 dk; rw[e] at h0 |-; clear e
 obtain⟨e,_⟩:=zt h0 dk; rw[e] at h0 |-; clear e
 obtain⟨e,_⟩:=zt h0 dk; rw[e] at h0 |-; clear e
 obtain⟨e,_⟩:=zt h0 dk; rw[e] at h0 |-; clear e
 obtain⟨e,_⟩:=zt h0 dk; rw[e] at h0 |-; clear e
 rfl
theorem ziz (h0:(orderS b v d).2=0) (code:Y8) (y:Int):usedV (orderS b v d).1 code y=usedV b code y:=by
 unfold orderS at h0 |-
 obtain⟨e,_⟩:=zt h0 dk; rw[e] at h0 |-; clear e
 obtain⟨e,_⟩:=zt h0 dk; rw[e] at h0 |-; clear e
 obtain⟨e,_⟩:=zt h0 dk; rw[e] at h0 |-; clear e
 obtain⟨e,_⟩:=zt h0 dk; rw[e] at h0 |-; clear e
 obtain⟨e,_⟩:=zt h0 dk; rw[e] at h0 |-; clear e
 obtain⟨e,_⟩:=zt h0 dk; rw[e] at h0 |-; clear e
 obtain⟨e,_⟩:=zt h0 dk; rw[e] at h0 |-; clear e
 rfl
theorem zk0 {l:List α} (h:∀ x∈l,p x=false):sm l p f=0:=by
 induction l with
 | nil=>rfl
 | cons x l ih=>rw[z15,h x sj,ih fun y hy=>h y (by simp[hy])]; rfl
theorem z4l (b:TBo) (code:Y8) (y:Int):F_qf b code y=some (usedV b code y):=by
 simp only[F_qf,S_qf,Scr.den]
 rw[z1r b.C (fun (s:Int) r=>if (r.D==code&&r.E==y)=true then i64.wrap (s+(r.S-r.Ad-rel b r.O)) else s)]
 ·have:=zau b.C (fun r=>r.D==code&&r.E==y) (fun r=>r.S-r.Ad-rel b r.O) 0
  rw[zut] at this
  simp only[outM,this]
  simp[usedV]
 ·intro i s hi
  simp only[S_qf_b2,Scr.den,zd]
  obtain⟨r,hr⟩:∃ r,b.C.getD i dF=r:=⟨_,rfl⟩
  simp only[hr]
  cases hp:(r.D==code&&r.E==y)
  ·rw[y6 (by
    cases h1:r.D==code
    ·rfl
    ·rw[h1] at hp; simpa [bne] using hp)]
   rfl
  ·simp only[yl] at hp
   rw[y5 (by simp only[bne,hp.1,hp.2]; decide),zas]
   rw[z1r b.G (fun (s:Int) c=>if (c.X==r.O)=true then i64.wrap (s-c.Ad) else s)]
   ·have:=zav b.G (fun c=>c.X==r.O) (·.Ad) (s+(r.S-r.Ad))
    simp only[outM,this,y18]
    unfold rel
    congr 3
    omega
   ·intro j s hj
    simp only[S_qf_b1,Scr.den,hr]
    split <;> rfl
theorem z4f {a b:Y8} (ha:good a=true) (hb:good b=true):F_qv a b=some (lexC (parts a) (parts b)):=by
 have h1:=(z3a ha).2
 have h2:=(z3a hb).2
 simp only[F_qv,S_qv,Scr.den,zb0 ha,zb0 hb,obind,zd]
 rw[y5 (by simp only[yc,y12]; omega)]
 generalize parts a=x at h1
 generalize parts b=y at h2
 generalize hF:(fun s=>(S_qv_b1 x y s).den)=F
 have key:∀ (k i:Nat),i+k=x.length->i<=y.length->outM (iterM F (i:Int)) (fun _=>if decide ((x.length:Int)<(y.length:Int))=true then some (-1) else if decide ((x.length:Int)>(y.length:Int))=true then some 1 else some 0) (fun r=>some (id r))=some (lexC (x.drop i) (y.drop i)):=by
  intro k
  induction k with
  | zero =>
   intro i hk hy
   rw[z2l,<- y4j hF]
   simp only[S_qv_b1,Scr.den,zg]
   rw[y5 (by simp only[yl,y7]; omega),y1j om]
   simp only[outM]
   by_cases h:y.length<=i
   ·rw[y1j h,y5 sk,y5 sk]; rfl
   ·rw[y1m (by omega:i<y.length),y6 sk]; rfl
  | succ k ih =>
   intro i hk hy
   have hi:i<x.length:=om
   rw[z2l,<- y4j hF,y1m hi]
   simp only[S_qv_b1,Scr.den,zg]
   by_cases h:y.length<=i
   ·rw[y5 (by simp only[yl,y7]; omega),y1j h]
    simp only[outM]
    rw[y5 sk,y6 sk]; rfl
   ·have hj:i<y.length:=om
    have w1:i64.wrap ((i:Int)+1)=((i+1:Nat):Int):=by rw[wrapId om om]; omega
    rw[y6 (by simp only[yl,y7]; omega),za ⟨om,om,om,trivial⟩,y1m hj]
    simp only[ye,z29 hi,z29 hj,lexC]
    by_cases h1:x[i]<y[i]
    ·rw[y6 (yd h1),y6 h1]; rfl
    ·rw[y5 (by simpa using h1),y5 h1]
     by_cases h2:x[i]>y[i]
     ·rw[y6 (yd h2),y6 h2]; rfl
     ·rw[y5 (by simpa using h2),y5 h2,w1]
      exact ih (i+1) om om
 have:=key x.length 0 om om
 simpa using this
def RtOk (r:TRi):Prop:=good r.D=true/\(0<=r.E/\r.E<=99)/\(0<=r.A/\r.A<=1000000000000000)/\(0<=r.K/\r.K<=1000000000000000)/\(0<=r.M/\r.M<=r.A)
instance (r:TRi):Decidable (RtOk r):=inferInstanceAs (Decidable (_/\_))
theorem zx (n a b:Int):F_qb n a b=some (decide (a<=n/\n<=b)):=by
 simp only[F_qb,S_qb,Scr.den,zg,y3x,Bool.decide_and]
theorem z3o (n:Int):F_q13 n=some (decide (0<=n/\n<=1000000000000000)):=by
 simp only[F_q13,S_q13,Scr.den,zx,obind]
variable {r:TRi}
theorem z1i (h:r.D.length<=1000000):F_q27 r=some (decide (RtOk r)):=by
 open Classical in simp only[F_q27,S_q27,F_q25,S_q25,Scr.den,z2y (show r.D.length<=1099511627776 from om),zx,z3o,zw,obind,zg,z3s]
 refine yi some ?_
 have e:decide (((parts r.D).length:Int)>0)=good r.D:=by rw[<- z2t]; rw[y1l]; simp
 rw[e,y1l]
 simp only[RtOk,yl,y7,and_assoc]
theorem z5j (h:r.D.length<=1000000):F_q2z r=some (decide (RtOk r)):=by
 open Classical in simp only[F_q2z,S_q2z,F_qe,S_qe,Scr.den,z2x (show r.D.length<4611686018427387904 from om),zw,obind,zg,z3s]
 refine yi some ?_
 rw[y1l]
 simp only[RtOk,yl,y7,and_assoc,y3x]
theorem z4v [Inhabited α] (l:List α) (p:α->Bool) (v:Nat->ρ) (hs:∀ i,i<l.length->body i ()=some (if p (l.getD i dF)=true then .ret (v i) else .cont ())) :
  rangeM body l.length 0 ()=some (if l.any p=true then .ret (v (l.findIdx p)) else .next ()):=by
 have key:∀ (k i:Nat),i+k=l.length->rangeM body k i ()=some (if (l.drop i).any p=true then .ret (v (i+(l.drop i).findIdx p)) else .next ()):=by
  intro k
  induction k with
  | zero=>intro i hk; rw[y1j om]; rfl
  | succ k ih =>
   intro i hk
   have hi:i<l.length:=om
   have e:l.getD i dF=l[i]:=by simp[List.getD_eq_getElem?_getD,List.getElem?_eq_getElem hi]
   rw[y1m hi]
   simp only[rangeM,hs i hi,e,y4y,List.findIdx_cons]
   cases hp:p l[i] with
   | true=>simp
   | false =>
    simp only[yv,yx,y3q,cond_false]
    rw[ih (i+1) om,show i+1+(l.drop (i+1)).findIdx p=i+((l.drop (i+1)).findIdx p+1) from om]
 have:=key l.length 0 om
 simpa using this
def isR (c:Y8) (y:Int) (r:TRi):Bool:=r.D==c&&r.E==y
theorem zk1 {c:Y8}:isR c y r=true↔r.D=c/\r.E=y:=by simp[isR]
def hasR (l:List TRi) (c:Y8) (y:Int):Bool:=l.any (isR c y)
def rix (l:List TRi) (c:Y8) (y:Int):Nat:=l.findIdx (isR c y)
def rightV (l:List TRi) (c:Y8) (y:Int):TRi:=if hasR l c y=true then l.getD (rix l c y) dF else ⟨c,y,0,0,0⟩
def unusedV (o:TOf) (c:Y8) (y:Int):Int:=i64.wrap (i64.wrap ((rightV o.J c y).A-(rightV o.J c y).M)-usedV o.Ae c y)
variable {l:List TRi}
theorem z3u {c:Y8} (h:hasR l c y=true):rix l c y<l.length/\(l.getD (rix l c y) dF).D=c/\(l.getD (rix l c y) dF).E=y:=by
 have hlt:rix l c y<l.length:=by
  unfold rix
  rw[List.findIdx_lt_length]
  simpa [hasR] using h
 refine⟨hlt,?_⟩
 have:=y3w (xs:=l) (p:=isR c y) (w:=hlt)
 rw[zk1] at this
 rw[show l.getD (rix l c y) dF=l[rix l c y] by simp[List.getD_eq_getElem?_getD,List.getElem?_eq_getElem hlt]]
 exact this
theorem z62 (o:TOf) (c:Y8) (y:Int):F_q4b o c y=some (if hasR o.J c y=true then (rix o.J c y:Int) else -1):=by
 simp only[F_q4b,S_q4b,F_q2t,S_q2t,Scr.den]
 rw[z4v o.J (isR c y) (fun i=>(i:Int))]
 ·unfold hasR
  by_cases h:o.J.any (isR c y)=true
  ·rw[y6 h,y6 h]; rfl
  ·rw[y5 h,y5 h]; rfl
 ·intro i hi
  simp only[S_q2t_b1,F_q6z,S_q6z,Scr.den,obind,zg]
  unfold isR
  split <;> rfl
theorem at_eq (o:TOf) (c:Y8) (y:Int):F_qz o c y=some (if hasR o.J c y=true then (rix o.J c y:Int) else -1):=by
 simp only[F_qz,S_qz,Scr.den]
 rw[z4v o.J (isR c y) (fun i=>(i:Int))]
 ·unfold hasR
  by_cases h:o.J.any (isR c y)=true
  ·rw[y6 h,y6 h]; rfl
  ·rw[y5 h,y5 h]; rfl
 ·intro i hi
  simp only[S_qz_b1,Scr.den,zg]
  unfold isR
  split <;> rfl
theorem zdq (o:TOf) (c:Y8) (y:Int):F_q35 o c y=some (hasR o.J c y):=by
 simp only[F_q35,S_q35,Scr.den,z62,obind]
 cases h:hasR o.J c y
 ·simp
 ·simp
theorem z3v (o:TOf) (c:Y8) (y:Int):F_q1m o c y=some (rightV o.J c y):=by
 simp only[F_q1m,S_q1m,Scr.den,z62,obind,rightV]
 by_cases h:hasR o.J c y=true
 ·have:=(z3u h).1
  simp only[y6 h,ye]
  rw[y6 sj,za ⟨om,om,trivial⟩]
 ·simp only[y5 h]
  rw[y5 dk]
theorem z2n (o:TOf) (c:Y8) (y:Int):F_q1z o c y=some (rightV o.J c y):=by
 simp only[F_q1z,S_q1z,Scr.den,at_eq,obind,rightV]
 by_cases h:hasR o.J c y=true
 ·have:=(z3u h).1
  simp only[y6 h,ye]
  rw[y6 sj,za ⟨om,om,trivial⟩]
 ·simp only[y5 h]
  rw[y5 dk]
theorem zb3 (o:TOf) (c:Y8) (y:Int):F_q3w o c y=some (unusedV o c y):=by
 simp only[F_q3w,S_q3w,Scr.den,z3v,zbp,obind,unusedV]
theorem z6l (o:TOf) (c:Y8) (y:Int):F_q3k o c y=some (unusedV o c y):=by
 simp only[F_q3k,S_q3k,Scr.den,z2n,z4l,obind,unusedV]
def SmO (o:TOf):Prop:=Small o.Ae/\o.J.length<=1000000/\∀ r∈o.J,r.D.length<=1000000
def Srt (l:List TRi):Prop:=∀ i,i<l.length->i=0\/cmpR (l.getD (i-1) dF) (l.getD i dF)<0
def VO (o:TOf):Prop:=(1<=o.O/\o.O<=6)/\o.J.length<=60/\Val o.Ae/\(∀ r∈o.J,RtOk r)/\Srt o.J/\∀ x∈o.Ae.C,hasR o.J x.D x.E=true/\0<=unusedV o x.D x.E
theorem z8t {b:TRi} (h:good a.D=true\/good b.D=true):cmpR a b<0↔lexC (parts a.D) (parts b.D)<0\/(lexC (parts a.D) (parts b.D)=0/\a.E<b.E):=by
 unfold cmpR
 rw[z2u h]
 generalize lexC (parts a.D) (parts b.D)=c
 by_cases hc:c=0
 ·rw[y5 (by simpa using hc)]
  unfold cmpI
  by_cases h1:a.E<b.E
  ·rw[y6 h1]; simp[hc,h1]
  ·rw[y5 h1]
   split <;> simp[hc,h1]
 ·rw[y6 hc]; simp[hc]
theorem z55 {b:TRi} (ha:good a.D=true) (hb:good b.D=true):cmpR a b=0↔a.D=b.D/\a.E=b.E:=by
 unfold cmpR
 rw[z2u (.inl ha)]
 by_cases hc:lexC (parts a.D) (parts b.D)=0
 ·rw[y5 (by simpa using hc)]
  have e:=z7z ha hb (z34 hc)
  unfold cmpI
  by_cases h1:a.E<b.E
  ·rw[y6 h1]; simp; omega
  ·rw[y5 h1]
   by_cases h2:a.E>b.E
   ·rw[y6 h2]; simp; omega
   ·rw[y5 h2]; simp[e]; omega
 ·rw[y6 hc]
  constructor
  ·intro h; exact absurd h hc
  ·rintro⟨h1,_⟩
   exact absurd (by rw[h1]; exact zay _) hc
theorem zdr {b c:TRi} (ha:good a.D=true) (hb:good b.D=true) (h:cmpR a b<0) (h':cmpR b c<0):cmpR a c<0:=by
 rw[z8t (.inl ha)] at h |-
 rw[z8t (.inl hb)] at h'
 rcases h with h | ⟨h,h2⟩
 ·rcases h' with h' | ⟨h',_⟩
  ·exact .inl (z9q h h')
  ·rw[<- z34 h']; exact .inl h
 ·rcases h' with h' | ⟨h',h3⟩
  ·rw[z34 h]; exact .inl h'
  ·rw[z34 h]; exact .inr ⟨h',om⟩
theorem zfq {b:TRi} (ha:good a.D=true):cmpR b a=-cmpR a b:=by
 unfold cmpR
 rw[z2u (.inl ha),z2u (.inr ha),zaz (parts a.D) (parts b.D)]
 by_cases h:lexC (parts a.D) (parts b.D)=0
 ·rw[y5 om,y5 om]
  unfold cmpI
  by_cases h1:a.E<b.E
  ·rw[y5 om,y6 om,y6 h1]; rfl
  ·by_cases h2:b.E<a.E
   ·rw[y6 h2,y5 h1,y6 om]
   ·rw[y5 h2,y5 om,y5 h1,y5 om]; rfl
 ·rw[y6 om,y6 h]
theorem Srt.lt (h:Srt l) (hg:∀ r∈l,RtOk r):∀ {i j:Nat},i<j->j<l.length->cmpR (l.getD i dF) (l.getD j dF)<0:=by
 intro i j hij
 induction j with
 | zero=>omega
 | succ j ih =>
  intro hj
  have h1:=(h (j+1) hj).resolve_left om
  rw[show j+1-1=j from om] at h1
  by_cases e:i=j
  ·subst e; exact h1
  ·exact zdr (hg _ (zb om)).1 (hg _ (zb om)).1 (ih om om) h1
theorem zj0 {n:Nat} {c:ρ} (p:Nat->Prop) (hy:∀ i,i<n->(∀ j,j<i->p j)->p i->body i ()=some (.cont ())) (hn:∀ i,i<n->(∀ j,j<i->p j)->¬ p i->body i ()=some (.ret c)) :
  ((∀ j,j<n->p j)->rangeM body n 0 ()=some (.next ()))/\((¬ ∀ j,j<n->p j)->rangeM body n 0 ()=some (.ret c)):=by
 have key:∀ (k i:Nat),i+k=n->(∀ j,j<i->p j)->((∀ j,j<n->p j)->rangeM body k i ()=some (.next ()))/\((¬ ∀ j,j<n->p j)->rangeM body k i ()=some (.ret c)):=by
  intro k
  induction k with
  | zero =>
   intro i hk hp
   exact⟨fun _=>rfl,fun h=>absurd (fun j hj=>hp j om) h⟩
  | succ k ih =>
   intro i hk hp
   by_cases hpi:p i
   ·have hp':∀ j,j<i+1->p j:=fun j hj=>by
     rcases y10 j i with h | h
     ·exact hp j h
     ·obtain rfl:j=i:=om
      exact hpi
    have:=ih (i+1) om hp'
    simp only[rangeM,hy i om hp hpi]
    exact this
   ·simp only[rangeM,hn i om hp hpi]
    exact⟨fun h=>absurd (h i om) hpi,fun _=>trivial⟩
 exact key n 0 om (fun j hj=>om)
theorem zhu (i:Nat) (hi:i<9223372036854775808):(i64.wrap ((i:Int)-1)).toNat=i-1:=by rw[wrapId om om]; omega
variable {o:TOf}
theorem z82 (hs:SmO o) (hi:i<o.J.length) :
  (S_qn_b1 o i ()).den=if RtOk (o.J.getD i dF)/\(i=0\/cmpR (o.J.getD (i-1) dF) (o.J.getD i dF)<0) then some (.cont ()) else some (.ret false):=by
 have h1:=hs.2.2 _ (zb hi)
 have h2:=hs.2.2 _ (zb (l:=o.J) (i:=i-1) om)
 have hl:=hs.2.1
 simp only[S_qn_b1,Scr.den,zhu i (show i<9223372036854775808 from om)]
 generalize o.J.getD i dF=r at h1 |-
 generalize o.J.getD (i-1) dF=r' at h2 |-
 simp only[z1i h1,z7i h2 h1,obind,zg,zd]
 by_cases hR:RtOk r
 ·by_cases h0:i=0
  ·subst h0
   rw[zp (by simp[AllP]),obind,za ⟨fun h=>by simp[AllP] at h,fun h=>by simp[AllP] at h,trivial⟩,y5 (by simp[hR]),y6 ⟨hR,.inl rfl⟩]
  ·rw[zk (by exact⟨sk,by simp[hR],trivial⟩),obind,za ⟨fun _=>by rw[wrapId om om]; omega,fun _=>om,trivial⟩]
   by_cases hc:cmpR r' r<0
   ·rw[y5 (by intro h; simp[hR] at h; exact absurd hc (y37.2 h.2)),y6 ⟨hR,.inr hc⟩]
   ·rw[y6 (by simp[hR]; exact⟨om,y37.1 hc⟩),y5 (fun h=>h.2.elim h0 hc)]
 ·rw[zp (by simp[AllP,hR]),obind,za ⟨fun h=>by simp[AllP,hR] at h,fun h=>by simp[AllP,hR] at h,trivial⟩,y6 (by simp[hR]),y5 (fun h=>hR h.1)]
theorem z83 (o:TOf) (i:Nat) :
  (S_qn_b2 o i ()).den=if hasR o.J (o.Ae.C.getD i dF).D (o.Ae.C.getD i dF).E=true/\0<=unusedV o (o.Ae.C.getD i dF).D (o.Ae.C.getD i dF).E then some (.cont ()) else some (.ret false):=by
 simp only[S_qn_b2,Scr.den,zdq,zb3,obind,zd]
 generalize o.Ae.C.getD i dF=r
 by_cases hh:hasR o.J r.D r.E=true
 ·rw[zk (by exact⟨by simp[hh],trivial⟩),obind]
  by_cases hu:0<=unusedV o r.D r.E
  ·rw[y5 (by intro h; simp[hh] at h; exact absurd hu (y4v.2 h)),y6 ⟨hh,hu⟩]
  ·rw[y6 (by simp[hh]; exact y4v.1 hu),y5 (fun h=>hu h.2)]
 ·rw[zp (by simp[AllP,hh]),obind,y6 (by simp[hh]),y5 (fun h=>hh h.1)]
theorem z4g [Inhabited α] {l:List α} {p:α->Prop} (h:∀ i,i<l.length->p (l.getD i dF)):∀ x∈l,p x:=fun x hx=>by
 obtain⟨i,hi,rfl⟩:=y42 hx
 have:=h i hi
 rwa [show l.getD i dF=l[i] by simp[List.getD_eq_getElem?_getD,List.getElem?_eq_getElem hi]] at this
open Classical in
theorem z8u (hs:SmO o):F_qn o=some (decide (VO o)):=by
 simp only[F_qn,S_qn,Scr.den,Valid_eq hs.1,zw,obind,zd,z1e]
 by_cases h0:(1<=o.O/\o.O<=6)/\o.J.length<=60/\Val o.Ae
 ·obtain⟨⟨a1,a2⟩,a3,a4⟩:=h0
  rw[y5 (by simp[a4]; omega)]
  by_cases h1:∀ j,j<o.J.length->RtOk (o.J.getD j dF)/\(j=0\/cmpR (o.J.getD (j-1) dF) (o.J.getD j dF)<0)
  ·rw[(z16 _ (fun i hi h=>by rw[z82 hs hi,y6 h]) (fun i hi h=>by rw[z82 hs hi,y5 h])).1 h1]
   simp only[outM]
   by_cases h2:∀ j,j<o.Ae.C.length->hasR o.J (o.Ae.C.getD j dF).D (o.Ae.C.getD j dF).E=true/\0<=unusedV o (o.Ae.C.getD j dF).D (o.Ae.C.getD j dF).E
   ·rw[(z16 _ (fun i hi h=>by rw[z83 o i,y6 h]) (fun i hi h=>by rw[z83 o i,y5 h])).1 h2]
    simp only
    rw[yd ⟨⟨a1,a2⟩,a3,a4,z4g fun i hi=>(h1 i hi).1,fun i hi=>(h1 i hi).2,z4g h2⟩]
   ·rw[(z16 _ (fun i hi h=>by rw[z83 o i,y6 h]) (fun i hi h=>by rw[z83 o i,y5 h])).2 h2]
    simp only
    rw[yh (fun h=>h2 fun j hj=>h.2.2.2.2.2 _ (zb hj))]; rfl
  ·rw[(z16 _ (fun i hi h=>by rw[z82 hs hi,y6 h]) (fun i hi h=>by rw[z82 hs hi,y5 h])).2 h1]
   simp only[outM]
   rw[yh (fun h=>h1 fun j hj=>⟨h.2.2.2.1 _ (zb hj),h.2.2.2.2.1 j hj⟩)]; rfl
 ·rw[y6,yh (fun h=>h0 ⟨h.1,h.2.1,h.2.2.1⟩)]
  simp only[yc,y7,yg,y9]
  by_cases hv:Val o.Ae
  ·left
   have:¬ ((1<=o.O/\o.O<=6)/\o.J.length<=60):=fun h=>h0 ⟨h.1,h.2,hv⟩
   omega
  ·exact .inr hv
theorem znm {c:Y8} (h:∀ x∈b.C,¬ (x.D=c/\x.E=y)):usedV b c y=0:=by
 unfold usedV
 rw[zk0 fun x hx=>by
  have:=h x hx
  simp only[y3o,y43,ne_eq]
  by_cases h1:x.D=c
  ·exact .inr fun h2=>this ⟨h1,h2⟩
  ·exact .inl h1]
 exact wrapId om om
theorem has_iff {c:Y8}:hasR l c y=true↔∃ r∈l,r.D=c/\r.E=y:=by
 simp only[hasR,y4h,zk1]
theorem z23 {c:Y8} (h:hasR l c y=true):rightV l c y∈l/\(rightV l c y).D=c/\(rightV l c y).E=y:=by
 unfold rightV
 rw[y6 h]
 obtain⟨h1,h2,h3⟩:=z3u h
 exact⟨zb h1,h2,h3⟩
theorem znn (hR:∀ r∈o.J,RtOk r):(∀ x∈o.Ae.C,hasR o.J x.D x.E=true/\0<=unusedV o x.D x.E) ↔
  (∀ r∈o.J,0<=unusedV o r.D r.E)/\∀ x∈o.Ae.C,hasR o.J x.D x.E=true:=by
 constructor
 ·intro h
  refine⟨fun r hr=>?_,fun x hx=>(h x hx).1⟩
  by_cases hx:∃ x∈o.Ae.C,x.D=r.D/\x.E=r.E
  ·obtain⟨x,hx,e1,e2⟩:=hx
   rw[<- e1,<- e2]; exact (h x hx).2
  ·unfold unusedV
   rw[znm fun x hx' e=>hx ⟨x,hx',e⟩]
   obtain⟨h1,h2,h3⟩:=z23 (has_iff.2 ⟨r,hr,rfl,rfl⟩:hasR o.J r.D r.E=true)
   have h4:=hR _ h1
   unfold RtOk at h4
   rw[wrapId (n:=(rightV o.J r.D r.E).A-(rightV o.J r.D r.E).M) om om,wrapId om om]
   omega
 ·rintro⟨h1,h2⟩ x hx
  refine⟨h2 x hx,?_⟩
  obtain⟨k1,k2,k3⟩:=z23 (h2 x hx)
  have:=h1 _ k1
  rwa [k2,k3] at this
variable {y':Int}
theorem ltr (h:c<0\/(c=0/\y<y')):¬ (c>0\/c=0/\y>=y'):=om
theorem ltr' (h:¬ (c<0\/(c=0/\y<y'))):c>0\/c=0/\y>=y':=om
theorem zk2 (hs:SmO o) (hi:i<o.J.length) (hp:∀ j,j<i->RtOk (o.J.getD j dF)) :
  (S_q9_b1 o i ()).den=if RtOk (o.J.getD i dF)/\0<=unusedV o (o.J.getD i dF).D (o.J.getD i dF).E/\(i=0\/cmpR (o.J.getD (i-1) dF) (o.J.getD i dF)<0) then some (.cont ()) else some (.ret false):=by
 have h1:=hs.2.2 _ (zb hi)
 have hl:=hs.2.1
 have hq:i≠0->RtOk (o.J.getD (i-1) dF):=fun h=>hp _ om
 have hw:i≠0->i64.wrap ((i:Int)-1)=(i:Int)-1:=fun _=>wrapId om om
 simp only[S_q9_b1,Scr.den,zhu i (show i<9223372036854775808 from om)]
 generalize o.J.getD i dF=r at h1 |-
 generalize o.J.getD (i-1) dF=r' at hq |-
 simp only[z5j h1,z6l,obind,zd,zg]
 by_cases hR:RtOk r
 ·rw[zk (by exact⟨by simp[hR],trivial⟩),obind]
  by_cases hu:0<=unusedV o r.D r.E
  ·rw[y5 (by simp[hR]; exact hu)]
   by_cases h0:i=0
   ·subst h0
    rw[y5 sj,y6 ⟨hR,hu,.inl rfl⟩]
   ·rw[y6 sk,z4f (hq h0).1 hR.1,obind,hw h0,za ⟨om,om,trivial⟩,za ⟨fun _=>om,fun _=>om,trivial⟩]
    have hc:=z8t (a:=r') (b:=r) (.inr hR.1)
    by_cases hc':cmpR r' r<0
    ·rw[y5 (by
      have:=hc.1 hc'
      simp only[yc,yl,y7,y12]
      exact ltr this),y6 ⟨hR,hu,.inr hc'⟩]
    ·rw[y6 (by
      simp only[yc,yl,y7,y12]
      exact ltr' fun h=>hc' (hc.2 h)),y5 (fun h=>h.2.2.elim h0 hc')]
  ·rw[y6 (by simp[hR]; exact y4v.1 hu),y5 (fun h=>hu h.2.1)]
 ·rw[zp (by simp[AllP,hR]),obind,y6 (by simp[hR]),y5 (fun h=>hR h.1)]
theorem zbr (o:TOf) (i:Nat) :
  (S_q9_b2 o i ()).den=if hasR o.J (o.Ae.C.getD i dF).D (o.Ae.C.getD i dF).E=true then some (.cont ()) else some (.ret false):=by
 simp only[S_q9_b2,Scr.den,at_eq,obind]
 generalize o.Ae.C.getD i dF=r
 by_cases hh:hasR o.J r.D r.E=true
 ·rw[y6 hh,y6 hh,y5 sj]
 ·rw[y5 hh,y5 hh,y6 dk]
open Classical in
theorem z7j (hs:SmO o):F_q9 o=some (decide (VO o)):=by
 simp only[F_q9,S_q9,Scr.den,z26 hs.1,zw,obind,zd,z1e]
 by_cases h0:(1<=o.O/\o.O<=6)/\o.J.length<=60/\Val o.Ae
 ·obtain⟨⟨a1,a2⟩,a3,a4⟩:=h0
  rw[y5 (by simp[a4]; omega)]
  obtain⟨r1,r2⟩:=zj0 (body:=fun i s=>(S_q9_b1 o i s).den) (n:=o.J.length) (c:=false) (fun j=>RtOk (o.J.getD j dF)/\0<=unusedV o (o.J.getD j dF).D (o.J.getD j dF).E/\(j=0\/cmpR (o.J.getD (j-1) dF) (o.J.getD j dF)<0))
   (fun i hi hp h=>by rw[zk2 hs hi (fun j hj=>(hp j hj).1),y6 h]) (fun i hi hp h=>by rw[zk2 hs hi (fun j hj=>(hp j hj).1),y5 h])
  by_cases h1:∀ j,j<o.J.length->RtOk (o.J.getD j dF)/\0<=unusedV o (o.J.getD j dF).D (o.J.getD j dF).E/\(j=0\/cmpR (o.J.getD (j-1) dF) (o.J.getD j dF)<0)
  ·rw[r1 h1]
   simp only[outM]
   have hR:∀ r∈o.J,RtOk r:=z4g fun i hi=>(h1 i hi).1
   by_cases h2:∀ j,j<o.Ae.C.length->hasR o.J (o.Ae.C.getD j dF).D (o.Ae.C.getD j dF).E=true
   ·rw[(z16 _ (fun i hi h=>by rw[zbr o i,y6 h]) (fun i hi h=>by rw[zbr o i,y5 h])).1 h2]
    simp only
    rw[yd ⟨⟨a1,a2⟩,a3,a4,hR,fun i hi=>(h1 i hi).2.2,(znn hR).2 ⟨z4g fun i hi=>(h1 i hi).2.1,z4g h2⟩⟩]
   ·rw[(z16 _ (fun i hi h=>by rw[zbr o i,y6 h]) (fun i hi h=>by rw[zbr o i,y5 h])).2 h2]
    simp only
    rw[yh (fun h=>h2 fun j hj=>(h.2.2.2.2.2 _ (zb hj)).1)]; rfl
  ·rw[r2 h1]
   simp only[outM]
   rw[yh (fun h=>h1 fun j hj=>⟨h.2.2.2.1 _ (zb hj),((znn h.2.2.2.1).1 h.2.2.2.2.2).1 _ (zb hj),h.2.2.2.2.1 j hj⟩)]; rfl
 ·rw[y6,yh (fun h=>h0 ⟨h.1,h.2.1,h.2.2.1⟩)]
  simp only[yc,y7,yg,y9]
  by_cases hv:Val o.Ae
  ·left
   have:¬ ((1<=o.O/\o.O<=6)/\o.J.length<=60):=fun h=>h0 ⟨h.1,h.2,hv⟩
   omega
  ·exact .inr hv
def noR:TRi:=⟨[],0,0,0,0⟩
def tot (n:Int):Prop:=0<=n/\n<=1000000000000000
instance (n:Int):Decidable (tot n):=inferInstanceAs (Decidable (_/\_))
def learnS (r:TRi) (m:TMe):TRi×Int :=
 if ¬ (RtOk r/\m.Aa=0/\m.D=r.D/\m.E=r.E) then (noR,1) else
 if ¬ (tot m.A/\tot m.K) then (noR,2) else
 (⟨r.D,r.E,if m.A>r.A then m.A else r.A,if m.K>r.K then m.K else r.K,r.M⟩,0)
def returnS (r:TRi) (u n:Int):TRi×Int :=
 if ¬ (RtOk r/\(0<=u/\u<=i64.wrap (r.A-r.M))) then (noR,1) else
 if ¬ (1<=n/\n<=1000000000000000) then (noR,2) else
 if n>i64.wrap (i64.wrap (r.A-r.M)-u) then (noR,15) else
 (⟨r.D,r.E,r.A,r.K,i64.wrap (r.M+n)⟩,0)
theorem z3w (n:Int):F_qe n=some (decide (tot n)):=by
 simp only[F_qe,S_qe,Scr.den,zg,y3x]
 refine yi some ?_
 rw[y1l,y7]; simp[tot]
theorem z4w (n:Int):F_q13 n=some (decide (tot n)):=z3o n
theorem z84 (h:r.D.length<=1000000) (m:TMe):F_q36 r m=some (learnS r m):=by
 open Classical in simp only[F_q36,S_q36,Scr.den,z1i h,z4w,zw,obind,zd,z1e]
 unfold learnS
 refine st (by by_cases hR:RtOk r <;> by_cases h2:m.Aa=0 <;> by_cases h3:m.D=r.D <;> by_cases h4:m.E=r.E <;> simp[hR,h2,h3,h4]) (fun _=>rfl) fun _=>?_
 refine st (by by_cases h2:tot m.A <;> by_cases h3:tot m.K <;> simp[h2,h3]) (fun _=>rfl) fun _=>rfl
theorem zhv (h:r.D.length<=1000000) (m:TMe):F_q3l r m=some (learnS r m):=by
 open Classical in simp only[F_q3l,S_q3l,Scr.den,z5j h,z3w,zw,obind,zd,z1e]
 unfold learnS
 refine st (by by_cases hR:RtOk r <;> by_cases h2:m.Aa=0 <;> by_cases h3:m.D=r.D <;> by_cases h4:m.E=r.E <;> simp[hR,h2,h3,h4]) (fun _=>rfl) fun _=>?_
 refine st (by by_cases h2:tot m.A <;> by_cases h3:tot m.K <;> simp[h2,h3]) (fun _=>rfl) fun _=>rfl
theorem z7k (h:r.D.length<=1000000) (u n:Int):F_q38 r u n=some (returnS r u n):=by
 open Classical in simp only[F_q38,S_q38,Scr.den,z1i h,zx,zw,obind,zd,z1e]
 unfold returnS
 refine st (by by_cases h2:RtOk r <;> by_cases h3:0<=u/\u<=i64.wrap (r.A-r.M) <;> simp[h2,h3]) (fun _=>rfl) fun _=>?_
 refine st (by simp only[yg,y9]) (fun _=>rfl) fun _=>?_
 refine st (by simp only[y7]) (fun _=>rfl) fun _=>rfl
theorem zgd (h:r.D.length<=1000000) (u n:Int):F_q51 r u n=some (returnS r u n):=by
 open Classical in simp only[F_q51,S_q51,Scr.den,z5j h,obind,zd]
 unfold returnS
 refine st (by
   simp only[yc,yg,y9,y7,y27]
   constructor
   ·rintro ((h | h) | h) <;> intro k
    ·exact h k.1
    ·omega
    ·omega
   ·intro h; by_cases hR:RtOk r
    ·by_cases hu:u<0
     ·exact .inl (.inr hu)
     ·exact .inr (by have:¬ (0<=u/\u<=_):=fun k=>h ⟨hR,k⟩; omega)
    ·exact .inl (.inl hR)) (fun _=>rfl) fun _=>?_
 refine st (by simp only[yc,y7]; omega) (fun _=>rfl) fun _=>?_
 refine st (by simp only[y7]) (fun _=>rfl) fun _=>rfl
def posR (l:List TRi) (r:TRi):Nat:=l.findIdx (fun x=>decide (0<=cmpR x r))
def putL (l:List TRi) (r:TRi):List TRi:=if hasR l r.D r.E=true then l.set (rix l r.D r.E) r else insL l (posR l r) r
theorem z17 [Inhabited α] {l:List α} (hi:i<l.length):l.getD i dF=l[i]:=by simp[List.getD_eq_getElem?_getD,List.getElem?_eq_getElem hi]
theorem z7a (l:List TRi) (r:TRi):posR l r<=l.length:=List.findIdx_le_length
theorem zbs (hi:i<posR l r):cmpR (l.getD i dF) r<0:=by
 have hl:i<l.length:=y1a hi (z7a l r)
 have:=List.not_of_lt_findIdx hi
 rw[z17 hl]
 simpa using this
theorem zbt (hi:posR l r<l.length):0<=cmpR (l.getD (posR l r) dF) r:=by
 have:=y3w (xs:=l) (p:=fun x=>decide (0<=cmpR x r)) (w:=hi)
 rw[z17 hi]
 exact y1z this
theorem zs4 (hS:Srt l) (hg:∀ x∈l,RtOk x) (hi:i<l.length) (hp:posR l r<=i):0<=cmpR (l.getD i dF) r:=by
 have h0:=zbt (l:=l) (r:=r) om
 by_cases e:posR l r=i
 ·rwa [e] at h0
 ·have h1:=hS.lt hg (show posR l r<i from om) hi
  by_cases h:cmpR (l.getD i dF) r<0
  ·have:=zdr (hg _ (zb om)).1 (hg _ (zb hi)).1 h1 h
   omega
  ·omega
theorem zeq (h:i+j<4611686018427387904):i64.wrap ((IntKind.u64.wrap (i64.wrap ((i:Int)+(j:Int)))).fdiv (2 ^ (min (1:Int).toNat IntKind.u64.bits)))=(((i+j) / 2:Nat):Int):=by
 rw[wrapId (n:=(i:Int)+(j:Int)) om om]
 have e:IntKind.u64.wrap ((i:Int)+(j:Int))=(i:Int)+(j:Int):=by
  simp only[IntKind.wrap,IntKind.bits,IntKind.signed]
  simp
  omega
 rw[e]
 have e2:(2:Int) ^ (min (1:Int).toNat IntKind.u64.bits)=2:=dk
 rw[e2,Int.fdiv_eq_ediv_of_nonneg _ om,wrapId om om]
 omega
theorem RtOk.len (h:RtOk r):r.D.length<=1000000:=by have:=z2m h.1; omega
theorem zd5 (hg:∀ x∈l,RtOk x) (k:Nat):(l.getD k dF).D.length<=1000000:=by
 by_cases h:k<l.length
 ·exact (hg _ (zb h)).len
 ·rw[y8,yj om]; exact y17 _
theorem z9t (hl:l.length<=1000000) (hS:Srt l) (hg:∀ x∈l,RtOk x) (hr:RtOk r) :
  F_q28 r l=some ((posR l r:Int),decide (posR l r<l.length)&&(cmpR (l.getD (posR l r) dF) r==0)):=by
 have hc:∀ k,F_q37 (l.getD k dF) r=some (cmpR (l.getD k dF) r):=fun k=>z7i (zd5 hg k) hr.len
 have hp:=z7a l r
 simp only[F_q28,S_q28,Scr.den]
 obtain⟨s,e,hJ⟩:=z1p (step:=fun s=>(S_q28_b1 r l s).den) (fun s=>(s.2-s.1).toNat) (fun s=>∃ i j:Nat,s=((i:Int),(j:Int))/\i<=posR l r/\posR l r<=j/\j<=l.length) (fun s=>s.1=(posR l r:Int)) (fun s hI=>by
  obtain⟨i,j,rfl,h1,h2,h3⟩:=hI
  simp only[S_q28_b1,Scr.den,zeq (show i+j<4611686018427387904 from om),hc,obind,ye]
  by_cases hij:i<j
  ·left
   rw[y6 (by simpa using hij),za ⟨om,om,om,trivial⟩,yo]
   by_cases hlt:cmpR (l.getD ((i+j) / 2) dF) r<0
   ·rw[y6 (by simpa using hlt),wrapId om om]
    have:(i+j) / 2<posR l r:=by
     by_cases h:(i+j) / 2<posR l r
     ·exact h
     ·have:=zs4 (r:=r) hS hg (show (i+j) / 2<l.length from om) om
      omega
    exact⟨_,rfl,⟨(i+j) / 2+1,j,sj,om,h2,h3⟩,by simp only; omega⟩
   ·rw[y5 (by simpa using hlt)]
    have:posR l r<=(i+j) / 2:=by
     by_cases h:posR l r<=(i+j) / 2
     ·exact h
     ·have:=zbs (show (i+j) / 2<posR l r from om)
      omega
    exact⟨_,rfl,⟨i,(i+j) / 2,rfl,h1,this,om⟩,by simp only; omega⟩
  ·right
   rw[y5 (by simpa using hij)]
   exact⟨_,rfl,by simp only; omega⟩) _ (0,(l.length:Int)) (y2j _) ⟨0,l.length,rfl,om,hp,om⟩
 rw[e]
 simp only[outM,hJ,ye,hc,zg,yo]
 by_cases h:posR l r<l.length
 ·rw[zk (by exact⟨sk,trivial⟩),obind,za ⟨fun _=>om,fun _=>h,fun _=>h,trivial⟩]
  simp[h]
 ·rw[zp (by simp[AllP]; omega),obind,za ⟨fun _=>om,fun h'=>absurd h (by simp[AllP] at h'; omega),fun h'=>absurd h (by simp[AllP] at h'; omega),trivial⟩]
  simp[h]
theorem zer (hS:Srt l) (hg:∀ x∈l,RtOk x) (hr:RtOk r) :
  (decide (posR l r<l.length)&&(cmpR (l.getD (posR l r) dF) r==0))=hasR l r.D r.E/\(hasR l r.D r.E=true->rix l r.D r.E=posR l r):=by
 have key:hasR l r.D r.E=true->rix l r.D r.E=posR l r:=fun h=>by
  obtain⟨h1,h2,h3⟩:=z3u h
  have h4:=hg _ (zb h1)
  have h5:cmpR (l.getD (rix l r.D r.E) dF) r=0:=(z55 h4.1 hr.1).2 ⟨h2,h3⟩
  rcases y3s (rix l r.D r.E) (posR l r) with h | h | h
  ·have:=zbs h; omega
  ·exact h
  ·have h6:=hS.lt hg h h1
   have h7:=zbt (l:=l) (r:=r) om
   have h8:=hg _ (zb (show posR l r<l.length from om))
   have:cmpR (l.getD (posR l r) dF) r<0:=by
    rw[z8t (.inl h8.1)] at h6 |-
    rw[h2,h3] at h6
    exact h6
   omega
 refine⟨?_,key⟩
 rw[y1l]
 simp only[yl,y7,y12]
 constructor
 ·rintro⟨h1,h2⟩
  obtain⟨h3,h4⟩:=(z55 (hg _ (zb h1)).1 hr.1).1 h2
  exact has_iff.2 ⟨_,zb h1,h3,h4⟩
 ·intro h
  obtain⟨h1,h2,h3⟩:=z3u h
  rw[key h] at h1 h2 h3
  exact⟨h1,(z55 (hg _ (zb h1)).1 hr.1).2 ⟨h2,h3⟩⟩
theorem zla (hl:l.length<=1000000):F_q5k l=some l:=by
 simp only[F_q5k,S_q5k,Scr.den]
 rw[za ⟨om,trivial⟩]
theorem zhw (l:List TRi) (r:TRi):(putL l r).length<=l.length+1:=by
 unfold putL
 split
 ·rw[ya]; omega
 ·rw[zr]; omega
theorem zno (hl:o.J.length<=1000000) (hS:Srt o.J) (hg:∀ x∈o.J,RtOk x) (hr:RtOk r):F_q4c o r=some ⟨o.O,putL o.J r,o.Ae⟩:=by
 obtain⟨h1,h2⟩:=zer hS hg hr
 have hp:=z7a o.J r
 have hlen:=zhw o.J r
 simp only[F_q4c,S_q4c,Scr.den,zla hl,z9t hl hS hg hr,obind,h1,ye,yo]
 unfold putL at hlen |-
 by_cases h:hasR o.J r.D r.E=true
 ·have h3:=(z3u h).1
  rw[h2 h] at h3
  rw[y6 h] at hlen
  rw[y6 h,y6 h,za ⟨om,h3,h3,trivial⟩,h2 h]
  simp only[outM]
  rw[za ⟨by rw[ya]; omega,trivial⟩]
 ·rw[y5 h] at hlen
  rw[y5 h,y5 h]
  simp only[F_q7b,ye]
  rw[za ⟨om,om,om⟩]
  simp only[obind,outM]
  rw[za ⟨om,trivial⟩]
end Go.Proofs.YtlhikmklpelceaaGreatDoor
