/- A part of the proof: plain laws of what the functions compute. No condition. -/
import Derived.Test.YtkhgaalekilaeaaGreatDoorG9
import Derived.Test.YtkhgaalekilaeaaGreatDoorT10
import Derived.Test.YtkhgaalekilaeaaGreatDoorT5
namespace Go.Proofs.YtkhgaalekilaeaaGreatDoor
open Go Go.TA
open Go.IntKind (i64)
def dayP (d:Int):Prop:=0<=d/\d<=35990
def amtP (n:Int):Prop:=1<=n/\n<=1000000000000
instance (d:Int):Decidable (dayP d):=inferInstanceAs (Decidable (_/\_))
instance (d:Int):Decidable (amtP d):=inferInstanceAs (Decidable (_/\_))
def yr (d:Int):Int:=if 0<=d/\d<=36000 then d / 360 else -1
variable {d:Int}
theorem zls (h:0<=d/\d<=36000):i64.wrap (d.tdiv 360)=d / 360:=by
 rw[Int.tdiv_eq_ediv_of_nonneg h.1,wrapId om om]
theorem z2z (d:Int):F_q1g d=some (decide (dayP d)):=by
 simp only[F_q1g,S_q1g,Scr.den,zd]
 exact y18 some (Bool.eq_iff_iff.mpr (by rw[decide_eq_true_iff (p:=dayP d)]; simp[dayP]))
theorem z24 (d:Int):F_q2c d=some (decide (amtP d)):=by
 simp only[F_q2c,S_q2c,Scr.den,zd]
 exact y18 some (Bool.eq_iff_iff.mpr (by rw[decide_eq_true_iff (p:=amtP d)]; simp[amtP]))
theorem z26 (n a b:Int):F_qh n a b=some (decide (a<=n/\n<=b)):=by
 simp only[F_qh,S_qh,Scr.den,zd,y3y,Bool.decide_and]
theorem z6g (d:Int):F_q1e d=some (decide (dayP d)):=by
 simp only[F_q1e,S_q1e,Scr.den,z26,obind]
 rfl
theorem z39 (d:Int):F_q22 d=some (decide (amtP d)):=by
 simp only[F_q22,S_q22,Scr.den,z26,obind]
 rfl
theorem z2j (d:Int):F_q2b d=some (yr d):=by
 simp only[F_q2b,S_q2b,F_q7q,S_q7q,Scr.den,obind,zd,yr]
 by_cases h:0<=d/\d<=36000
 ·rw[y7 (by simp[h]),y8 h,zls h]
 ·rw[y8 (by simp only[yi,y3r,yh,y3y]; omega),y7 h]
theorem z50 (d:Int):F_q21 d=some (yr d):=by
 simp only[F_q21,S_q21,F_q7m,S_q7m,Scr.den,obind,zd,yr]
 by_cases h:0<=d/\d<=36000
 ·rw[y7 (by simp[h]),y8 h,zls h]
 ·rw[y8 (by simp only[yi,y3r,yh,y3y]; omega),y7 h]
def cmt (b:TBo) (n:Int):Int:=sm b.F (fun c=>c.Y==n) (·.V)
def rel (b:TBo) (n:Int):Int:=sm b.F (fun c=>c.Y==n) (·.Ad)
def ver (b:TBo) (n:Int):Int:=sm b.I (fun v=>v.Ac==n) (·.V)
def leftV (b:TBo) (r:TRe):Int:=i64.wrap (r.V-r.Ad-cmt b r.Q)
def restV (b:TBo) (c:TCo):Int:=i64.wrap (c.V-c.Ad-ver b c.Q)
def leftN (b:TBo) (n:Int):Int:=match b.C.find? (fun r=>r.Q==n) with
 | some r=>leftV b r
 | none=>0
def usedV (b:TBo) (code:Y8) (y:Int):Int:=i64.wrap (sm b.C (fun r=>r.B==code&&r.D==y) (fun r=>r.V-r.Ad-rel b r.Q))
theorem zb0 (b:TBo) (n:Int):F_q2p b n=some (i64.wrap (cmt b n),i64.wrap (rel b n)):=by
 simp only[F_q2p,S_q2p,Scr.den]
 rw[z1x b.F (fun (s:Int×Int) c=>if (c.Y==n)=true then (i64.wrap (s.1+c.V),i64.wrap (s.2+c.Ad)) else s)]
 ·simp only[outM]
  have key:∀ (l:List TCo) (x y:Int),l.foldl (fun (s:Int×Int) c=>if (c.Y==n)=true then (i64.wrap (s.1+c.V),i64.wrap (s.2+c.Ad)) else s) (i64.wrap x,i64.wrap y)=(i64.wrap (x+sm l (fun c=>c.Y==n) (·.V)),i64.wrap (y+sm l (fun c=>c.Y==n) (·.Ad))):=by
   intro l
   induction l with
   | nil=>intro x y; simp[sm]
   | cons c l ih =>
    intro x y
    rw[y2z,z1c,z1c]
    split
    ·simp only[z6f]; rw[ih]; simp only[y5r]
    ·rw[ih]; simp
  have e0:i64.wrap 0=0:=wrapId om om
  have:=key b.F 0 0
  rw[e0] at this
  rw[this]
  simp[cmt,rel]
 ·intro i s hi
  simp only[S_q2p_b1,Scr.den]
  split <;> rfl
theorem z8f (b:TBo) (r:TRe):F_q46 b r=some (leftV b r):=by
 simp only[F_q46,S_q46,Scr.den,zb0,obind]
 rw[z38,z4z]
 rfl
theorem zko (b:TBo) (n:Int):F_q35 b n=some (i64.wrap (ver b n)):=by
 simp only[F_q35,S_q35,Scr.den]
 rw[z1x b.I (fun (s:Int) v=>if (v.Ac==n)=true then i64.wrap (s+v.V) else s)]
 ·have e0:i64.wrap 0=0:=wrapId om om
  have:=zay b.I (fun v=>v.Ac==n) (·.V) 0
  rw[e0] at this
  simp only[outM,this]
  simp[ver]
 ·intro i s hi
  simp only[S_q35_b1,Scr.den]
  split <;> rfl
theorem zfk (b:TBo) (c:TCo):F_q47 b c=some (restV b c):=by
 simp only[F_q47,S_q47,Scr.den,zko,obind]
 rw[z38,z4z]
 rfl
theorem z8g (b:TBo) (c:TCo):F_q2e b c=some (restV b c):=by
 simp only[F_q2e,S_q2e,Scr.den]
 rw[z1x b.I (fun (s:Int) v=>if (v.Ac==c.Q)=true then i64.wrap (s-v.V) else s)]
 ·have:=zaz b.I (fun v=>v.Ac==c.Q) (·.V) (c.V-c.Ad)
  simp only[outM,this]
  rfl
 ·intro i s hi
  simp only[S_q2e_b1,Scr.den]
  split <;> rfl
variable {α ρ:Type} {body:Nat->Unit->Option (Step Unit ρ)}
theorem ze7 [Inhabited α] (l:List α) (p:α->Bool) (v:α->ρ) (hs:∀ i,i<l.length->body i ()=some (if p (l.getD i dF)=true then .ret (v (l.getD i dF)) else .cont ())) :
  rangeM body l.length 0 ()=some (match l.find? p with | some x=>.ret (v x) | none=>.next ()):=by
 have key:∀ (k i:Nat),i+k=l.length->rangeM body k i ()=some (match (l.drop i).find? p with | some x=>.ret (v x) | none=>.next ()):=by
  intro k
  induction k with
  | zero=>intro i hk; rw[y1l om]; rfl
  | succ k ih =>
   intro i hk
   have hi:i<l.length:=om
   have e:l.getD i dF=l[i]:=by simp[List.getD_eq_getElem?_getD,List.getElem?_eq_getElem hi]
   rw[y1i hi]
   simp only[rangeM,hs i hi,List.find?_cons,e]
   cases hp:p l[i] with
   | true=>simp
   | false=>simp only[yu,y10]; exact ih (i+1) om
 have:=key l.length 0 om
 simpa using this
theorem ztz (b:TBo) (n:Int):F_q37 b n=some (leftN b n):=by
 simp only[F_q37,S_q37,Scr.den]
 rw[ze7 b.C (fun r=>r.Q==n) (leftV b)]
 ·unfold leftN
  cases b.C.find? (fun r=>r.Q==n) <;> rfl
 ·intro i hi
  simp only[S_q37_b1,Scr.den,z8f,obind]
  split <;> rfl
theorem z8h (b:TBo) (n:Int):F_qz b n=some (leftN b n):=by
 simp only[F_qz,S_qz,Scr.den]
 rw[ze7 b.C (fun r=>r.Q==n) (leftV b)]
 ·unfold leftN
  cases b.C.find? (fun r=>r.Q==n) <;> rfl
 ·intro i hi
  simp only[S_qz_b2,Scr.den]
  split
  ·rename_i hn
   rw[z1x b.F (fun (s:Int) c=>if (c.Y==n)=true then i64.wrap (s-c.V) else s)]
   ·have:=zaz b.F (fun c=>c.Y==n) (·.V) ((b.C.getD i dF).V-(b.C.getD i dF).Ad)
    simp only[outM,this]
    unfold leftV cmt
    rw[eq_of_beq hn]
   ·intro j s hj
    simp only[S_qz_b1,Scr.den]
    split <;> rfl
  ·rfl
theorem zbv (b:TBo) (code:Y8) (y:Int):F_q1p b code y=some (usedV b code y):=by
 simp only[F_q1p,S_q1p,Scr.den]
 rw[z1x b.C (fun (s:Int) r=>if (r.B==code&&r.D==y)=true then i64.wrap (s+(r.V-r.Ad-rel b r.Q)) else s)]
 ·have e0:i64.wrap 0=0:=wrapId om om
  have:=zay b.C (fun r=>r.B==code&&r.D==y) (fun r=>r.V-r.Ad-rel b r.Q) 0
  rw[e0] at this
  simp only[outM,this]
  simp[usedV]
 ·intro i s hi
  simp only[S_q1p_b1,Scr.den,zb0,obind,zd]
  split
  ·rw[z38,z4z,zaw]
  ·rfl
def goodR:Y8->Nat->Nat->Bool
 | [],d,p=>decide (0<d)&&decide (p<=4)
 | c :: l,d,p=>if c.toNat=46 then (if d=0 then false else goodR l 0 (p+1)) else
  if c.toNat<48\/57<c.toNat\/(d=0/\c.toNat=48)\/d=2 then false else goodR l (d+1) p
def dig (c:UInt8):Prop:=48<=c.toNat/\c.toNat<=57
def preOk:Y8->Prop
 | []=>True
 | [a]=>dig a/\a.toNat≠48
 | [a,b]=>dig a/\a.toNat≠48/\dig b
 | _=>False
def cntOk (ws:List Y8) (p:Nat):Bool:=match nums ws with
 | none=>false
 | some ns=>decide (ns.length+p<=5)
theorem z7g (w:Y8) (ws:List Y8) (p:Nat):cntOk (w :: ws) p=match pv w with
  | none=>false
  | some _=>cntOk ws (p+1):=by
 unfold cntOk
 simp only[nums]
 cases pv w with
 | none=>rfl
 | some n =>
  cases nums ws with
  | none=>rfl
  | some ns =>
   simp only[y1t,yq]
   congr 1
   rw[eq_iff_iff]; omega
theorem zcl:∀ {w:Y8},preOk w->w≠[]->∃ n,pv w=some n
 | [a],h,_=>⟨_,by simp only[pv]; rw[y8 ⟨by have:=h.1.1; have:=h.2; omega,h.1.2⟩]⟩
 | [a,b],h,_=>⟨_,by simp only[pv]; rw[y8 ⟨⟨by have:=h.1.1; have:=h.2.1; omega,h.1.2⟩,h.2.2⟩]⟩
 | [],_,h=>absurd rfl h
 | _ :: _ :: _ :: _,h,_=>h.elim
variable {w:Y8}
theorem zn1 {pre:Y8} {c:UInt8} (hc:¬ dig c):pv (pre++c :: w)=none:=by
 match pre,w with
 | [],[]=>simp only[y2i,pv]; rw[y7]; intro h; exact hc ⟨om,h.2⟩
 | [],[b]=>simp only[y2i,pv]; rw[y7]; intro h; exact hc ⟨om,h.1.2⟩
 | [],b :: d :: w=>rfl
 | [a],[]=>simp only[y3g,y2i,pv]; rw[y7]; intro h; exact hc h.2
 | [a],b :: w=>rfl
 | [a,b],w=>rfl
 | a :: b :: d :: pre,w=>rfl
theorem zj4 {c:UInt8} (hc:c.toNat=48):pv (c :: w)=none:=by
 match w with
 | []=>simp only[pv]; rw[y7]; omega
 | [b]=>simp only[pv]; rw[y7]; omega
 | b :: d :: w=>rfl
theorem zb1:∀ (l pre p0:Y8) (ps:List Y8) (p:Nat),preOk pre->pieces l=p0 :: ps->goodR l pre.length p=cntOk ((pre++p0) :: ps) p
 | [],pre,p0,ps,p,hp,he=>by
  cases he
  rw[y43,z7g]
  simp only[goodR]
  match pre,hp with
  | [],_=>rfl
  | a :: pre,hp =>
   obtain⟨n,hn⟩:=zcl hp sj
   rw[hn]
   simp[cntOk,nums]
 | c :: l,pre,p0,ps,p,hp,he=>by
  rw[z28] at he
  simp only[goodR]
  by_cases hc:c.toNat=46
  ·rw[y8 (by rw[show c=46 from UInt8.toNat_inj.mp hc]; rfl)] at he
   cases he
   rw[y8 hc,y43,z7g]
   match pre,hp with
   | [],_=>rfl
   | a :: pre,hp =>
    obtain⟨n,hn⟩:=zcl hp sj
    rw[hn,y7 sj]
    simp only
    cases hl:pieces l with
    | nil=>exact absurd hl (z1m l)
    | cons q qs =>
     have:=zb1 l [] q qs (p+1) trivial hl
     simpa using this
  ·rw[y7 (by intro h; rw[eq_of_beq h] at hc; exact hc rfl)] at he
   rw[y7 hc]
   cases hl:pieces l with
   | nil=>exact absurd hl (z1m l)
   | cons q qs =>
    rw[hl] at he
    injection he with e1 e2
    subst e1
    subst e2
    have ih:=zb1 l (pre++[c]) q qs p
    by_cases hd:dig c
    ·match pre,hp with
     | [],_ =>
      by_cases h0:c.toNat=48
      ·rw[y8 (by right; right; left; exact⟨rfl,h0⟩),z7g,y2i,zj4 h0]
      ·rw[y7 (by have:=hd.1; have:=hd.2; simp; omega)]
       exact ih ⟨hd,h0⟩ hl
     | [a],hp =>
      rw[y7 (by have:=hd.1; have:=hd.2; simp; omega)]
      have:=ih ⟨hp.1,hp.2,hd⟩ hl
      simpa using this
     | [a,b],hp =>
      rw[y8 (by right; right; right; rfl),z7g]
      rfl
     | _ :: _ :: _ :: _,hp=>exact hp.elim
    ·rw[y8 (by unfold dig at hd; omega),z7g,zn1 hd]
theorem z5t:∀ {ws:List Y8} {ns:List Int},nums ws=some ns->ns.length=ws.length
 | [],ns,h=>by cases h; rfl
 | w :: ws,ns,h=>by
  simp only[nums] at h
  split at h
  ·cases h
  ·cases hn:nums ws with
   | none=>rw[hn] at h; cases h
   | some ms =>
    rw[hn] at h
    cases h
    simp[z5t hn]
def good (l:Y8):Bool:=goodR l 0 1
theorem z3g (l:Y8):decide ((parts l).length>0)=good l:=by
 unfold good
 cases hl:pieces l with
 | nil=>exact absurd hl (z1m l)
 | cons q qs =>
  have:=zb1 l [] q qs 1 trivial hl
  simp only[y1m,y2i] at this
  rw[this]
  unfold parts cntOk
  rw[hl]
  cases hn:nums (q :: qs) with
  | none=>rfl
  | some ns =>
   have h1:=z5t hn
   simp only[yq] at h1
   simp only
   by_cases h4:ns.length>4
   ·simp only[y8 h4]; simp; omega
   ·simp only[y7 h4]; rw[y1q]; simp; omega
theorem z33 {l:Y8} (hl:l.length<4611686018427387904):F_qu l=some (good l):=by
 simp only[F_qu,S_qu,Scr.den,zd]
 generalize hF:(fun s=>(S_qu_b1 l s).den)=F
 have key:∀ (k i d p:Nat),i+k=l.length->d<=i->p<=i+1->outM (iterM F ((d:Int),(p:Int),(i:Int))) (fun s=>some (decide (s.1>0)&&decide (s.2.1<=4))) (fun x=>some (id x))=some (goodR (l.drop i) d p):=by
  intro k
  induction k with
  | zero =>
   intro i d p hk hd hp
   rw[z2q,y1l om,<- hF]
   simp only[S_qu_b1,Scr.den]
   rw[y7 sk]
   simp only[outM,goodR]
   congr 1
   rw[y1q]; simp; omega
  | succ k ih =>
   intro i d p hk hd hp
   have hi:i<l.length:=om
   have ei:l.getD i 0=l[i]:=by simp[List.getD_eq_getElem?_getD,List.getElem?_eq_getElem hi]
   rw[z2q,y1i hi,<- y4a hF]
   simp only[S_qu_b1,Scr.den,yg,ei,zd,z9]
   generalize hcc:l[i]=c
   rw[y8 sk,z7 ⟨om,hi,trivial⟩]
   have w1:i64.wrap ((p:Int)+1)=((p+1:Nat):Int):=by rw[wrapId om om]; omega
   have w2:i64.wrap ((i:Int)+1)=((i+1:Nat):Int):=by rw[wrapId om om]; omega
   have w3:i64.wrap ((d:Int)+1)=((d+1:Nat):Int):=by rw[wrapId om om]; omega
   simp only[w1,w2,w3,goodR]
   by_cases hc:c.toNat=46
   ·rw[y8 (by simp[hc]),y8 hc]
    by_cases h0:d=0
    ·rw[y8 (by simp[h0]),y8 h0]; rfl
    ·rw[y7 (by simpa using h0),y7 h0]
     have h:=ih (i+1) 0 (p+1) om om om
     rw[show ((0:Nat):Int)=0 from rfl] at h
     exact h
   ·rw[y7 sk,y7 hc,z7 ⟨fun _=>om,fun _=>hi,fun _=>om,fun _=>hi,trivial⟩]
    by_cases hb:c.toNat<48\/57<c.toNat\/(d=0/\c.toNat=48)\/d=2
    ·rw[y8 sk,y8 hb]; rfl
    ·rw[y7 sk,y7 hb]
     exact ih (i+1) (d+1) p om om om
 exact key l.length 0 0 1 om om om
theorem z3h {l:Y8} (hl:l.length<=1099511627776):F_q7w l=some (parts l):=by
 unfold F_q7w
 exact zgs hl rfl
def lexC:List Int->List Int->Int
 | [],[]=>0
 | [],_ :: _=>-1
 | _ :: _,[]=>1
 | a :: x,b :: y=>if a<b then -1 else if a>b then 1 else lexC x y
theorem zb2:∀ x,lexC x x=0
 | []=>rfl
 | a :: x=>by simp[lexC,zb2 x]
theorem z36:∀ {x y:List Int},lexC x y=0->x=y
 | [],[],_=>rfl
 | [],_ :: _,h=>by simp[lexC] at h
 | _ :: _,[],h=>by simp[lexC] at h
 | a :: x,b :: y,h=>by
  simp only[lexC] at h
  split at h
  ·omega
  ·split at h
   ·omega
   ·rw[z36 h,show a=b from om]
theorem zb3:∀ x y:List Int,lexC y x=-lexC x y
 | [],[]=>rfl
 | [],_ :: _=>rfl
 | _ :: _,[]=>rfl
 | a :: x,b :: y=>by
  simp only[lexC]
  by_cases h1:a<b
  ·rw[y8 h1,y7 om,y8 om]; rfl
  ·by_cases h2:a>b
   ·rw[y8 om,y7 h1,y8 h2]
   ·rw[y7 h1,y7 h2,y7 om,y7 om,zb3 x y]
theorem z9l:∀ {x y z:List Int},lexC x y<0->lexC y z<0->lexC x z<0
 | [],_,[],h,h'=>by
  rename_i y
  cases y with
  | nil=>simp[lexC] at h
  | cons b y=>simp[lexC] at h'
 | [],_,c :: z,_,_=>by simp[lexC]
 | a :: x,[],_,h,_=>by simp[lexC] at h
 | a :: x,b :: y,[],_,h'=>by simp[lexC] at h'
 | a :: x,b :: y,c :: z,h,h'=>by
  simp only[lexC] at h h' |-
  by_cases h1:a<b
  ·by_cases h2:b<c
   ·rw[y8 om]; omega
   ·rw[y7 h2] at h'
    by_cases h3:b>c
    ·rw[y8 h3] at h'; omega
    ·rw[y8 om]; omega
  ·rw[y7 h1] at h
   by_cases h2:a>b
   ·rw[y8 h2] at h; omega
   ·rw[y7 h2] at h
    by_cases h3:b<c
    ·rw[y8 om]; omega
    ·rw[y7 h3] at h'
     by_cases h4:b>c
     ·rw[y8 h4] at h'; omega
     ·rw[y7 h4] at h'
      rw[y7 om,y7 om]
      exact z9l h h'
theorem zvm:∀ {w w':Y8} {n:Int},pv w=some n->pv w'=some n->w=w'
 | [],_,_,h,_=>by simp[pv] at h
 | [a],[],_,_,h=>by simp[pv] at h
 | [a,b],[],_,_,h=>by simp[pv] at h
 | [a],[c],n,h,h'=>by
  simp only[pv] at h h'
  split at h <;> split at h' <;> simp at h h'
  have:a.toNat=c.toNat:=om
  rw[y5f.1 this]
 | [a],[c,d],n,h,h'=>by
  simp only[pv] at h h'
  split at h <;> split at h' <;> simp at h h'
  omega
 | [a,b],[c],n,h,h'=>by
  simp only[pv] at h h'
  split at h <;> split at h' <;> simp at h h'
  omega
 | [a,b],[c,d],n,h,h'=>by
  simp only[pv] at h h'
  split at h <;> split at h' <;> simp at h h'
  have h1:a.toNat=c.toNat:=om
  have h2:b.toNat=d.toNat:=om
  rw[y5f.1 h1,y5f.1 h2]
 | _ :: _ :: _ :: _,_,_,h,_=>by simp[pv] at h
 | _,_ :: _ :: _ :: _,_,_,h=>by simp[pv] at h
theorem zj5:∀ {ws ws':List Y8} {ns:List Int},nums ws=some ns->nums ws'=some ns->ws=ws'
 | [],[],_,_,_=>rfl
 | [],w :: ws,ns,h,h'=>by
  have h1:=z5t h; have h2:=z5t h'; simp only[y1m,yq] at h1 h2; omega
 | w :: ws,[],ns,h,h'=>by
  have h1:=z5t h; have h2:=z5t h'; simp only[y1m,yq] at h1 h2; omega
 | w :: ws,w' :: ws',ns,h,h'=>by
  simp only[nums] at h h'
  split at h
  ·cases h
  ·rename_i n hn
   split at h'
   ·cases h'
   ·rename_i n' hn'
    cases hm:nums ws with
    | none=>rw[hm] at h; cases h
    | some ms =>
     cases hm':nums ws' with
     | none=>rw[hm'] at h'; cases h'
     | some ms' =>
      rw[hm] at h; rw[hm'] at h'
      simp only[y1t,y14] at h h'
      rw[<- h] at h'
      simp only[y3s] at h'
      obtain⟨rfl,rfl⟩:=h'
      rw[zvm hn hn',zj5 hm hm']
theorem z9m:∀ {l l':Y8},pieces l=pieces l'->l=l'
 | [],[],_=>rfl
 | [],b :: m,h=>by
  rw[z28] at h
  split at h
  ·simp[pieces] at h; first | exact absurd h (z1m m) | exact absurd h.symm (z1m m)
  ·split at h <;> simp[pieces] at h
 | b :: m,[],h=>by
  rw[z28] at h
  split at h
  ·simp[pieces] at h; first | exact absurd h (z1m m) | exact absurd h.symm (z1m m)
  ·split at h <;> simp[pieces] at h
 | b :: l,c :: m,h=>by
  rw[z28,z28] at h
  cases hl:pieces l with
  | nil=>exact absurd hl (z1m l)
  | cons p ps =>
   cases hm:pieces m with
   | nil=>exact absurd hm (z1m m)
   | cons q qs =>
    rw[hl,hm] at h
    by_cases hb:(b==46)=true
    ·by_cases hc:(c==46)=true
     ·rw[y8 hb,y8 hc] at h
      have e:pieces l=pieces m:=by rw[hl,hm]; simpa using h
      rw[z9m e,show b=c by rw[eq_of_beq hb,eq_of_beq hc]]
     ·rw[y8 hb,y7 hc] at h; simp at h
    ·by_cases hc:(c==46)=true
     ·rw[y7 hb,y8 hc] at h; simp at h
     ·rw[y7 hb,y7 hc] at h
      simp only[y3s] at h
      obtain⟨⟨rfl,rfl⟩,rfl⟩:=h
      rw[z9m (hl.trans hm.symm)]
theorem z3a {l:Y8} (h:good l=true):nums (pieces l)=some (parts l)/\0<(parts l).length/\(parts l).length<=4:=by
 rw[<- z3g] at h
 have h0:0<(parts l).length:=by simpa using h
 unfold parts at h0 |-
 split at h0
 ·simp at h0
 ·rename_i ns hn
  split at h0
  ·simp at h0
  ·rename_i h4
   rw[hn]
   simp only[y7 h4]
   exact⟨trivial,h0,om⟩
theorem z81 {l l':Y8} (h:good l=true) (h':good l'=true) (e:parts l=parts l'):l=l' :=
 z9m (zj5 (z3a h).1 (e▸(z3a h').1))
def valW (w:Y8):Int:=w.foldl (fun n c=>10 * n+((c.toNat:Int)-48)) 0
theorem zj6:∀ {w:Y8} {n:Int},pv w=some n->valW w=n/\1<=w.length/\w.length<=2/\(w.getD 0 0).toNat≠48/\∀ c∈w,48<=c.toNat/\c.toNat<=57
 | [],_,h=>by simp[pv] at h
 | [a],n,h=>by
  simp only[pv] at h
  split at h <;> simp at h
  rename_i h1
  refine⟨by simp[valW]; omega,sj,sj,sk,fun c hc=>by simp at hc; subst hc; omega⟩
 | [a,b],n,h=>by
  simp only[pv] at h
  split at h <;> simp at h
  rename_i h1
  refine⟨by simp[valW]; omega,sj,sj,sk,fun c hc=>?_⟩
  simp at hc
  rcases hc with rfl | rfl <;> omega
 | _ :: _ :: _ :: _,_,h=>by simp[pv] at h
theorem z3u {l:Y8} (h:good l=true):l.length<=11:=by
 have key:∀ (l:Y8) (ns:List Int),nums (pieces l)=some ns->l.length+1<=3 * ns.length:=by
  intro l
  suffices H:∀ (l p0:Y8) (ps:List Y8),pieces l=p0 :: ps->l.length=p0.length+(ps.map fun q=>q.length+1).sum by
   intro ns hn
   cases hp:pieces l with
   | nil=>exact absurd hp (z1m l)
   | cons p0 ps =>
    rw[hp] at hn
    rw[H l p0 ps hp]
    have hall:∀ (ws:List Y8) (ms:List Int),nums ws=some ms->(ws.map fun q=>q.length+1).sum<=3 * ms.length:=by
     intro ws
     induction ws with
     | nil=>intro ms hm; simp
     | cons w ws ih =>
      intro ms hm
      simp only[nums] at hm
      split at hm
      ·cases hm
      ·rename_i n hpv
       cases hw:nums ws with
       | none=>rw[hw] at hm; cases hm
       | some ks =>
        rw[hw] at hm; cases hm
        have:=ih ks hw
        have:=(zj6 hpv).2.2.1
        simp only[y3d,y3e,yq]
        omega
    have:=hall _ _ hn
    simp only[y3d,y3e] at this
    omega
  intro l
  induction l with
  | nil=>intro p0 ps hp; simp[pieces] at hp; obtain⟨rfl,rfl⟩:=hp; simp
  | cons b l ih =>
   intro p0 ps hp
   rw[z28] at hp
   cases hl:pieces l with
   | nil=>exact absurd hl (z1m l)
   | cons q qs =>
    have:=ih q qs hl
    rw[hl] at hp
    split at hp
    ·simp only[y3s] at hp
     obtain⟨rfl,rfl⟩:=hp
     simp only[yq,y1m,y3d,y3e]; omega
    ·simp only[y3s] at hp
     obtain⟨rfl,rfl⟩:=hp
     simp only[yq]; omega
 obtain⟨h1,h2,h3⟩:=z3a h
 have:=key l _ h1
 omega
def cmpI (a b:Int):Int:=if a<b then -1 else if a>b then 1 else 0
theorem zfl (a b:Int):F_q43 a b=some (cmpI a b):=by
 simp only[F_q43,S_q43,F_q5c,S_q5c,Scr.den,obind,cmpI,bne_self_eq_false,yu,y10,y9]
 by_cases h1:a<b
 ·rw[y8 h1,y8 h1]
 ·rw[y7 h1,y7 h1]
  by_cases h2:a>b
  ·rw[y8 h2,y8 h2]
  ·rw[y7 h2,y7 h2]
variable {i:Nat}
theorem z2m {l:List Int} (hi:i<l.length):l.getD i dF=l[i]:=by simp[List.getD_eq_getElem?_getD,List.getElem?_eq_getElem hi]
theorem zde (x y:List Int):F_q2m x y=some (lexC x y):=by
 simp only[F_q2m,S_q2m,Scr.den]
 generalize hB:(fun i s=>(S_q2m_b1 x y i s).den)=B
 have key:∀ (k i:Nat),i+k=x.length->i<=y.length->outM (rangeM B k i ()) (fun _=>if decide ((x.length:Int)<(y.length:Int))=true then some (-1) else some 0) (fun r=>some (id r))=some (lexC (x.drop i) (y.drop i)):=by
  intro k
  induction k with
  | zero =>
   intro i hk hy
   rw[y1l om]
   by_cases h:y.length<=i
   ·rw[y1l h]
    simp only[rangeM,outM]
    rw[y7 sk]
    rfl
   ·rw[y1i (by omega:i<y.length)]
    simp only[rangeM,outM]
    rw[y8 sk]
    rfl
  | succ k ih =>
   intro i hk hy
   have hi:i<x.length:=om
   rw[y1i hi]
   simp only[rangeM]
   rw[<- y4a (y4a hB i) ()]
   simp only[S_q2m_b1,Scr.den]
   by_cases h:y.length<=i
   ·rw[y8 sk,y1l h]
    rfl
   ·have hj:i<y.length:=om
    rw[y7 sk,z7 ⟨hj,trivial⟩,y1i hj]
    simp only[zfl,obind,z2m hi,z2m hj,lexC,cmpI]
    by_cases h1:x[i]<y[i]
    ·simp only[y8 h1]; rfl
    ·simp only[y7 h1]
     by_cases h2:x[i]>y[i]
     ·simp only[y8 h2]; rfl
     ·simp only[y7 h2]
      exact ih (i+1) om om
 have:=key x.length 0 om om
 simpa using this
def strC (a b:Y8):Int:=if Op.bytesLess a b=true then -1 else if (!(Op.bytesLess a b||a==b))=true then 1 else 0
def cmpC (a b:Y8):Int:=if (parts a).length=0/\(parts b).length=0 then strC a b else lexC (parts a) (parts b)
theorem ze8 {a b:Y8} (ha:a.length<=1000000) (hb:b.length<=1000000):F_q4l a b=some (cmpC a b):=by
 simp only[F_q4l,S_q4l,Scr.den,z3h (show a.length<=1099511627776 from om),z3h (show b.length<=1099511627776 from om),obind,zd,cmpC,zde]
 by_cases h:(parts a).length=0/\(parts b).length=0
 ·rw[y8 (by simp[h]),y8 h]
  simp only[F_q79,S_q79,F_q5b,S_q5b,Scr.den,obind,beq_self_eq_true,y29,yu,y10,strC]
  by_cases h1:Op.bytesLess a b=true
  ·rw[y8 h1,y8 h1]; rfl
  ·rw[y7 h1,y7 h1]
   by_cases h2:(!(Op.bytesLess a b||a==b))=true
   ·rw[y8 h2,y8 h2]; rfl
   ·rw[y7 h2,y7 h2]; rfl
 ·rw[y7 (by simpa using h),y7 h]
theorem z30 {a b:Y8} (h:good a=true\/good b=true):cmpC a b=lexC (parts a) (parts b):=by
 unfold cmpC
 rw[y7]
 rintro⟨h1,h2⟩
 rcases h with h | h
 ·have:=(z3a h).2.1; omega
 ·have:=(z3a h).2.1; omega
def cmpR (a b:TRi):Int:=if cmpC a.B b.B≠0 then cmpC a.B b.B else cmpI a.D b.D
variable {a:TRi}
theorem z7h {b:TRi} (ha:a.B.length<=1000000) (hb:b.B.length<=1000000):F_q3p a b=some (cmpR a b):=by
 simp only[F_q3p,S_q3p,Scr.den,ze8 ha hb,zfl,obind,F_q1n,S_q1n,S_q1n_b1,cmpR]
 by_cases h:cmpC a.B b.B=0
 ·rw[y7 (by simpa using h)]
  by_cases h2:cmpI a.D b.D=0
  ·simp[rangeM,h,h2,outM]
  ·simp[rangeM,h,h2,outM]
 ·rw[y8 h]
  simp[rangeM,h,outM]
theorem zb4 {l:Y8} (hg:good l=true):F_q12 l=some (parts l):=by
 obtain⟨hn,h0,h4⟩:=z3a hg
 have hlen:=z3u hg
 simp only[F_q12,S_q12,Scr.den]
 rw[y7 sk]
 generalize hF:(fun s=>(S_q12_b1 l s).den)=F
 have w1:∀ i:Nat,i<=11->i64.wrap ((i:Int)+1)=((i+1:Nat):Int):=fun i hi=>by rw[wrapId om om]; omega
 have flush:∀ (i:Nat) (w:Y8) (out:List Int) (n:Int),i<=l.length->w.length<=i->(∀ j,j<w.length->l.getD (i-w.length+j) 0=w.getD j 0)->pv w=some n->(i=l.length\/(l.getD i 0).toNat=46)->out.length<=4 ->
   F (out,valW w,(w.length:Int),(i:Int))=some (.cont (out++[n],0,0,((i+1:Nat):Int))):=by
  intro i w out n hi hw hg hpv hor ho
  obtain⟨e1,e2,e3,e4,e5⟩:=zj6 hpv
  have hk:i64.wrap ((i:Int)-(w.length:Int))=((i-w.length:Nat):Int):=by rw[wrapId om om]; omega
  have h0:=hg 0 om
  rw[y3j] at h0
  rw[<- y4a hF]
  simp only[S_q12_b1,Scr.den,yg,z9,hk,h0]
  rw[y8 sk,z7 ⟨fun _=>om,fun h=>by have h:=h.1; simp at h; omega,trivial⟩,y8 (by
   rcases hor with rfl | h
   ·simp
   ·simp only[ye,y15]; right; omega),z7 ⟨fun _=>om,fun _=>om,trivial⟩,y7 (by
    simp only[ye,y15,y9]; omega),Ga,w1 i om,e1]
 have digit:∀ (i:Nat) (w:Y8) (out:List Int),i<l.length->(l.getD i 0).toNat≠46->48<=(l.getD i 0).toNat/\(l.getD i 0).toNat<=57->w.length<=1->(∀ c∈w,48<=c.toNat/\c.toNat<=57) ->
   F (out,valW w,(w.length:Int),(i:Int))=some (.cont (out,valW (w++[l.getD i 0]),((w++[l.getD i 0]).length:Int),((i+1:Nat):Int))):=by
  intro i w out hi h46 hd hw hall
  have hv:0<=valW w/\valW w<=9:=by
   match w,hw with
   | [],_=>simp[valW]
   | [a],_=>have:=hall a sj; simp[valW]; omega
  have e1:valW (w++[l.getD i 0])=10 * valW w+(((l.getD i 0).toNat:Int)-48):=by simp[valW]
  have e2:IntKind.u8.wrap (((l.getD i 0).toNat:Int)-48)=((l.getD i 0).toNat:Int)-48:=by
   generalize (l.getD i 0).toNat=m at hd
   simp only[IntKind.wrap,IntKind.bits,IntKind.signed]
   simp
   omega
  rw[<- y4a hF]
  simp only[S_q12_b1,Scr.den,yg,z9,e1,e2]
  rw[y8 sk,z7 ⟨fun _=>om,fun _=>om,trivial⟩,y7 (by simp only[ye,y15]; omega),z7 ⟨om,hi,fun _=>om,fun _=>hi,trivial⟩,y7 (by simp only[ye,y9]; omega),w1 i om,w1 w.length om,
   wrapId (n:=10 * valW w) om om,wrapId (n:=((l.getD i 0).toNat:Int)-48) om om,wrapId om om]
  simp
 have key:∀ (k i:Nat) (w p0:Y8) (ps:List Y8) (out ns:List Int),i+k=l.length->w.length<=i->(∀ j,j<w.length->l.getD (i-w.length+j) 0=w.getD j 0)->pieces (l.drop i)=p0 :: ps->nums ((w++p0) :: ps)=some ns->out.length+ns.length<=4 ->
   iterM F (out,valW w,(w.length:Int),(i:Int))=some (.next (out++ns,0,0,((l.length+1:Nat):Int))):=by
  intro k
  induction k with
  | zero =>
   intro i w p0 ps out ns hk hw hgd hpc hnm ho
   obtain rfl:i=l.length:=om
   rw[y1l (yf _)] at hpc
   simp only[pieces,y3s] at hpc
   obtain⟨rfl,rfl⟩:=hpc
   simp only[y43,nums] at hnm
   split at hnm
   ·cases hnm
   ·rename_i n hpv
    simp only[y1t,y14] at hnm
    subst hnm
    rw[z2q,flush l.length w out n (yf _) hw hgd hpv (.inl rfl) (by simp at ho; omega)]
    simp only
    rw[z2q,<- y4a hF]
    simp only[S_q12_b1,Scr.den]
    rw[y7 sk]
  | succ k ih =>
   intro i w p0 ps out ns hk hw hgd hpc hnm ho
   have hi:i<l.length:=om
   have ei:l.getD i 0=l[i]:=by simp[List.getD_eq_getElem?_getD,List.getElem?_eq_getElem hi]
   rw[y1i hi,z28] at hpc
   cases hq:pieces (l.drop (i+1)) with
   | nil=>exact absurd hq (z1m _)
   | cons q qs =>
    rw[hq] at hpc
    by_cases hc:(l[i]==46)=true
    ·rw[y8 hc] at hpc
     simp only[y3s] at hpc
     obtain⟨rfl,rfl⟩:=hpc
     simp only[y43,nums] at hnm
     split at hnm
     ·cases hnm
     ·rename_i n hpv
      cases hm:nums (q :: qs) with
      | none=>simp only[nums] at hm; rw[hm] at hnm; cases hnm
      | some ms =>
       have hm':=hm
       simp only[nums] at hm'
       rw[hm'] at hnm
       simp only[y1t,y14] at hnm
       subst hnm
       simp only[yq] at ho
       have h46:(l.getD i 0).toNat=46:=by rw[ei,eq_of_beq hc]; rfl
       rw[z2q,flush i w out n om hw hgd hpv (.inr h46) om]
       simp only
       have:=ih (i+1) [] q qs (out++[n]) ms om sj sj hq (by simpa using hm) sk
       simpa [valW] using this
    ·rw[y7 hc] at hpc
     simp only[y3s] at hpc
     obtain⟨rfl,rfl⟩:=hpc
     have hpv:∃ n,pv (w++l[i] :: q)=some n:=by
      simp only[nums] at hnm
      split at hnm
      ·cases hnm
      ·rename_i n h; exact⟨n,h⟩
     obtain⟨n,hpv⟩:=hpv
     obtain⟨_,_,g3,_,g5⟩:=zj6 hpv
     simp only[yp,yq] at g3
     have hne:(l.getD i 0).toNat≠46:=by
      rw[ei]; intro h; exact hc (by rw[y5f.1 (show l[i].toNat=(46:UInt8).toNat from h)]; rfl)
     rw[z2q,digit i w out hi hne (by rw[ei]; exact g5 l[i] sj) om (fun c hc=>g5 c (by simp[hc]))]
     simp only
     refine ih (i+1) (w++[l.getD i 0]) q qs out ns om sk (fun j hj=>?_) hq (by rw[ei]; simpa using hnm) ho
     simp only[yp,yq,y1m] at hj |-
     by_cases hjw:j<w.length
     ·have:=hgd j hjw
      rw[show i+1-(w.length+(0+1))+j=i-w.length+j from om,this]
      simp[List.getD_eq_getElem?_getD,List.getElem?_append_left hjw]
     ·obtain rfl:j=w.length:=om
      rw[show i+1-(w.length+(0+1))+w.length=i from om]
      simp[List.getD_eq_getElem?_getD]
 cases hp:pieces l with
 | nil=>exact absurd hp (z1m l)
 | cons p0 ps =>
  rw[hp] at hn
  have h:=key l.length 0 [] p0 ps [] (parts l) om sj sj (by simpa using hp) (by simpa using hn) sk
  have h':iterM F (([]:List Int),(0:Int),(0:Int),(0:Int))=some (.next (parts l,0,0,((l.length+1:Nat):Int))):=by simpa [valW] using h
  rw[h']
  simp only[outM]
  rw[y7 sk,Ga]
def ordersOf (l:List TOr) (v:Int):List TOr:=l.filter (fun o=>o.X==v)
theorem zdf [Inhabited α] (l:List α) (p:α->Bool) (v:Nat->ρ) (hs:∀ i,i<l.length->body i ()=some (if p (l.getD i dF)=true then .ret (v i) else .cont ())) :
  (rangeM body l.length 0 ()=some (.next ())/\∀ x∈l,p x=false)\/∃ i,i<l.length/\p (l.getD i dF)=true/\(∀ x∈l.take i,p x=false)/\rangeM body l.length 0 ()=some (.ret (v i)):=by
 have key:∀ (k i:Nat),i+k=l.length->(∀ x∈l.take i,p x=false)->(rangeM body k i ()=some (.next ())/\∀ x∈l,p x=false)\/∃ i,i<l.length/\p (l.getD i dF)=true/\(∀ x∈l.take i,p x=false)/\rangeM body k (l.length-k) ()=some (.ret (v i)):=by
  intro k
  induction k with
  | zero =>
   intro i hk h
   left
   rw[y23 om] at h
   exact⟨rfl,h⟩
  | succ k ih =>
   intro i hk h
   have hi:i<l.length:=om
   have e:l.length-(k+1)=i:=om
   have e':l.length-k=i+1:=om
   rw[e]
   simp only[rangeM,hs i hi]
   cases hp:p (l.getD i dF) with
   | true =>
    right
    exact⟨i,hi,hp,h,sj⟩
   | false =>
    simp only[yu,y10]
    rw[e'] at ih
    refine ih (i+1) om fun x hx=>?_
    rw[y39,y1p] at hx
    rcases hx with hx | hx
    ·exact h x hx
    ·rw[yd hi] at hx
     simp only[Option.toList_some,y2b] at hx
     rw[hx]
     simpa [List.getD_eq_getElem?_getD,List.getElem?_eq_getElem hi] using hp
 have:=key l.length 0 om sj
 simpa using this
theorem zn2 (l:List α) (i n:Nat) (z:α):(clearL l (0+i) n z).take i=l.take i:=by
 apply y2y
 intro k
 simp only[y4q,clearL,List.getElem?_mapIdx]
 split
 ·cases l[k]? with
  | none=>rfl
  | some x=>simp only[y1t]; rw[y7 om]
 ·rfl
theorem zcm {l:List α} {q:α->Bool} (h:∀ x∈l,q x=true):l.filter q=l:=List.filter_eq_self.mpr h
theorem zp5 {l:List TOr} (v:Int) (hl:l.length<4611686018427387904):F_q25 l v=some (ordersOf l v):=by
 have hI:(F_q24 l v=some (-1)/\∀ x∈l,(x.X==v)=true)\/∃ i:Nat,i<l.length/\((l.getD i dF).X==v)=false/\(∀ x∈l.take i,(x.X==v)=true)/\F_q24 l v=some (i:Int):=by
  simp only[F_q24,S_q24,Scr.den]
  rw[Ga]
  have:=zdf l (fun x=>x.X != v) (fun i=>(i:Int)) (body:=fun i s=>(S_q24_b1 l v i s).den) fun i hi=>by
   simp only[S_q24_b1,F_q48,S_q48,Scr.den,obind,yo]
   rw[z7 ⟨hi,trivial⟩]
   split <;> rfl
  rcases this with ⟨h1,h2⟩ | ⟨i,h1,h2,h3,h4⟩
  ·left
   rw[h1]
   exact⟨rfl,fun x hx=>by simpa using h2 x hx⟩
  ·right
   refine⟨i,h1,by simpa [bne] using h2,fun x hx=>by simpa using h3 x hx,?_⟩
   rw[h4]
   rfl
 simp only[F_q25,S_q25,Scr.den]
 rcases hI with ⟨h1,h2⟩ | ⟨i0,h1,h2,h3,h4⟩
 ·rw[h1,obind,y8 (show ((-1:Int)==-1)=true from rfl),Ga]
  unfold ordersOf
  rw[zcm h2]
 ·rw[h4,obind,y7 sj]
  obtain⟨s,h5,h6⟩:=z2i (step:=fun s=>(S_q25_b1 v s).den) (fun s=>l.length-s.2.2.toNat)
   (fun s=>s.1.length=l.length/\0<=s.2.1/\s.2.1<=s.2.2/\s.2.2<=l.length/\s.1.take s.2.1.toNat=ordersOf (l.take s.2.2.toNat) v/\s.1.drop s.2.2.toNat=l.drop s.2.2.toNat)
   (fun s=>s.1.length=l.length/\0<=s.2.1/\s.2.1<=l.length/\s.1.take s.2.1.toNat=ordersOf l v) (fun s hs=>by
    obtain⟨sl,i,j⟩:=s
    obtain⟨a1,a2,a3,a4,a5,a6⟩:=hs
    simp only at a1 a2 a3 a4 a5 a6
    by_cases hj:j<(l.length:Int)
    ·left
     have hjn:j.toNat<sl.length:=om
     have hjl:j.toNat<l.length:=om
     have ex:sl.getD j.toNat dF=l.getD j.toNat dF:=by
      have:=y18 (fun t=>t[0]?) a6
      simp only[y2l,y3j] at this
      rw[ya,ya,this]
     have et:ordersOf (l.take (j.toNat+1)) v=ordersOf (l.take j.toNat) v++if ((l.getD j.toNat dF).X==v)=true then [l.getD j.toNat dF] else []:=by
      unfold ordersOf
      rw[y39,List.filter_append,yd hjl]
      simp only[Option.toList_some,ya,yd hjl,y40,y33,List.filter_nil]
     have w1:i64.wrap (i+1)=i+1:=wrapId om om
     have w2:i64.wrap (j+1)=j+1:=wrapId om om
     have en:(j+1).toNat=j.toNat+1:=om
     have em:(i+1).toNat=i.toNat+1:=om
     have dj:sl.drop (j.toNat+1)=l.drop (j.toNat+1):=by
      have:=y18 (List.drop 1) a6
      simpa [List.drop_drop] using this
     simp only[S_q25_b1,F_q48,S_q48,Scr.den,obind,yo,ex,w1,w2]
     rw[y8 sk,Gc]
     by_cases hv:((l.getD j.toNat dF).X==v)=true
     ·rw[y8 (by simp only[bne,hv]; rfl),Gc]
      refine⟨_,rfl,⟨by simpa using a1,by simp only; omega,by simp only; omega,by simp only; omega,?_,?_⟩,by simp only; omega⟩
      ·simp only[en,em]
       rw[et,y8 hv,<- a5,y39,y5l om,y13 om]
       rfl
      ·simp only[en]
       rw[List.drop_set_of_lt om,dj]
     ·rw[y7 (by simp only[bne,hv]; simp)]
      refine⟨_,rfl,⟨a1,a2,by simp only; omega,by simp only; omega,?_,?_⟩,by simp only; omega⟩
      ·simp only[en]
       rw[et,y7 hv,y43,a5]
      ·simp only[en]
       exact dj
    ·right
     simp only[S_q25_b1,Scr.den]
     rw[y7 sk]
     refine⟨_,rfl,a1,a2,by simp only; omega,?_⟩
     simp only
     rw[a5,y23 om]) _ (l,(i0:Int),i64.wrap ((i0:Int)+1)) (y4b _) (by
    have w2:i64.wrap ((i0:Int)+1)=i0+1:=wrapId om om
    have en:((i0:Int)+1).toNat=i0+1:=om
    simp only[w2,en,yg]
    refine⟨trivial,om,om,om,?_,trivial⟩
    unfold ordersOf
    rw[y39,List.filter_append,zcm h3,yd h1]
    simp only[ya,yd h1,y40] at h2
    simp[h2])
  obtain⟨b1,b2,b3,b4⟩:=h6
  rw[h5]
  simp only[outM]
  rw[z7 ⟨b2,om,trivial⟩,z7 ⟨by rw[z1r]; omega,trivial⟩,z7 ⟨by rw[z1r]; omega,trivial⟩,zn2,b4]
def Few (b:TBo):Prop:=b.C.length<=1000000/\b.F.length<=1000000/\b.I.length<=1000000/\b.W.length<=1000000
theorem zgu {l:List TOr} (hl:l.length<=1000000):F_q4v l=some l:=by
 simp only[F_q4v,S_q4v,Scr.den]
 rw[Ga]
theorem zp6 {l:List TRe} (hl:l.length<=1000000):F_q5q l=some l:=by
 simp only[F_q5q,S_q5q,Scr.den]
 rw[Ga]
theorem zp7 {l:List TCo} (hl:l.length<=1000000):F_q5r l=some l:=by
 simp only[F_q5r,S_q5r,Scr.den]
 rw[Ga]
theorem zp8 {l:List TVe} (hl:l.length<=1000000):F_q5s l=some l:=by
 simp only[F_q5s,S_q5s,Scr.den]
 rw[Ga]
variable {b:TBo}
theorem z2a (h:Few b):F_q27 b=some (b.C,b.F,b.I,b.W):=by
 simp only[F_q27,S_q27,Scr.den,zp6 h.1,zp7 h.2.1,zp8 h.2.2.1,zgu h.2.2.2,obind]
theorem z2g (h:Few b):F_q2u b=some (b.C,b.F,b.I,b.W):=by
 obtain⟨h1,h2,h3,h4⟩:=h
 simp only[F_q2u,S_q2u,Scr.den]
 rw[z7 ⟨om,om,om,om,trivial⟩]
theorem zgv (h:b.W.length<=1000000) (v:Int):F_q4w b v=some (ordersOf b.W v):=by
 simp only[F_q4w,S_q4w,Scr.den,zgu h,obind,zp5 v (show b.W.length<4611686018427387904 from om)]
theorem zc9 (l:List TOr) (o:TOr):F_q5p l o=some (l.any fun x=>!x.Al||decide (x.Ab>o.Ab)):=by
 simp only[F_q5p,S_q5p,F_q36,S_q36,Scr.den]
 rcases zdf l (fun x=>!x.Al||decide (x.Ab>o.Ab)) (fun i=>(i:Int)) (body:=fun i s=>(S_q36_b1 l o i s).den) (fun i hi=>by
  simp only[S_q36_b1,F_q7n,S_q7n,Scr.den,obind,z9]
  split <;> rfl) with ⟨h1,h2⟩ | ⟨i,h1,h2,h3,h4⟩
 ·rw[h1]
  simp only[outM,obind]
  rw[List.any_eq_false.mpr fun x hx=>by rw[h2 x hx]; simp]
  rfl
 ·rw[h4]
  simp only[outM,obind]
  rw[List.any_eq_true.mpr ⟨_,z8 h1,h2⟩]
  simp
def noOrder:TOr:=⟨0,0,0,0,false⟩
def lastV (b:TBo) (v:Int):TOr:=(ordersOf b.W v).getLastD noOrder
theorem zlt (h:b.W.length<=1000000) (v:Int):F_q2v b v=some (lastV b v,((ordersOf b.W v).length:Int)):=by
 simp only[F_q2v,S_q2v,Scr.den]
 rw[z1x b.W (fun (s:TOr×Int) o=>if (o.X==v)=true then (o,i64.wrap (s.2+1)) else s)]
 ·have key:∀ (l:List TOr) (x:TOr) (n:Nat),n+l.length<=1000000->l.foldl (fun (s:TOr×Int) o=>if (o.X==v)=true then (o,i64.wrap (s.2+1)) else s) (x,(n:Int))=((ordersOf l v).getLastD x,((n+(ordersOf l v).length:Nat):Int)):=by
   intro l
   induction l with
   | nil=>intro x n _; rfl
   | cons o l ih =>
    intro x n hn
    simp only[yq] at hn
    rw[y2z]
    unfold ordersOf
    rw[y33]
    by_cases ho:(o.X==v)=true
    ·rw[y8 ho,y8 ho]
     rw[show i64.wrap ((n:Int)+1)=((n+1:Nat):Int) by rw[wrapId om om]; omega,ih o (n+1) om]
     rw[List.getLastD_cons]
     simp only[yq,ordersOf]
     congr 2
     omega
    ·rw[y7 ho,y7 ho,ih x n om]
     rfl
  have:=key b.W noOrder 0 om
  rw[show (((0:Nat)):Int)=0 from rfl] at this
  simp only[outM]
  unfold noOrder at this
  rw[this]
  simp[lastV,noOrder]
 ·intro i s hi
  simp only[S_q2v_b1,Scr.den]
  split <;> rfl
theorem z15 (gs:List Prop) (x d:α) [Decidable (AllP gs)]:optD gs (some x) d=some (if AllP gs then x else d):=by
 unfold optD
 by_cases h:AllP gs
 ·rw[y8 h,y8 h]
 ·rw[y7 h,y7 h]
variable {x:Option α}
theorem zb5 {gs:List Prop} {y d:α} [Decidable (AllP gs)] (h:AllP gs->x=some y):optD gs x d=some (if AllP gs then y else d):=by
 by_cases hg:AllP gs
 ·rw[y8 hg,ze hg,h hg]
 ·rw[y7 hg,zj hg]
theorem z1z (a x d:Bool) [Decidable (AllP [a=false])]:(a||!(if AllP [a=false] then x else d))=(a||!x):=by
 cases a <;> simp[AllP]
theorem zp9 (a:Bool) (x d y:Int) [Decidable (AllP [a=false])]:(a||((if AllP [a=false] then x else d) != y))=(a||(x != y)):=by
 cases a <;> simp[AllP]
theorem zt3 (a:Bool) (x d y z:Int) [Decidable (AllP [a=false])]:(a||decide ((if AllP [a=false] then x else d)>i64.wrap ((if AllP [a=false] then y else z)+1)))=(a||decide (x>i64.wrap (y+1))):=by
 cases a <;> simp[AllP]
theorem z6h (a x d:Bool) [Decidable (AllP [a=true])]:(a&&(if AllP [a=true] then x else d))=(a&&x):=by
 cases a <;> simp[AllP]
theorem zlu (a:Bool) (x d y:Int) [Decidable (AllP [a=true])]:(a&&((if AllP [a=true] then x else d)==y))=(a&&(x==y)):=by
 cases a <;> simp[AllP]
theorem zpa (a:Bool) (x d y:Int) [Decidable (AllP [a=true])]:(a&&decide ((if AllP [a=true] then x else d)>=y))=(a&&decide (x>=y)):=by
 cases a <;> simp[AllP]
theorem zpb (a:Bool) (x d y z:Int) [Decidable (AllP [a=true])]:(a&&decide ((if AllP [a=true] then x else d)<=i64.wrap ((if AllP [a=true] then y else z)+1)))=(a&&decide (x<=i64.wrap (y+1))):=by
 cases a <;> simp[AllP]
theorem zu0 (a:Bool) (x d:List α) [Decidable (AllP [a=true])]:(a&&decide (((if AllP [a=true] then x else d).length:Int)>0))=(a&&decide (x.length>0)):=by
 cases a <;> simp[AllP]
def RFld (r:TRe) (n:Int):Prop:=r.Q=n/\good r.B=true/\(0<=r.D/\r.D<=99)/\dayP r.Ab/\yr r.Ab=r.D/\amtP r.V/\(0<=r.Ad/\r.Ad<=r.V)
def rAt (b:TBo) (n:Int):TRe:=b.C.getD (n-1).toNat dF
def cAt (b:TBo) (n:Int):TCo:=b.F.getD (n-1).toNat dF
def vAt (b:TBo) (n:Int):TVe:=b.I.getD (n-1).toNat dF
def Small (b:TBo):Prop:=Few b/\∀ r∈b.C,r.B.length<=1000000
theorem z6i {n:Nat} (hi:i<n) (hn:n<=1000000):i64.wrap ((i:Int)+1)=(i:Int)+1:=wrapId om om
theorem resC (hb:Small b) (hi:i<b.C.length):∃ C:Bool,(S_q2d_b1 b i ()).den=(if C=true then some (.ret false) else some (.cont ()))/\(C=false↔RFld (b.C.getD i dF) (i+1)):=by
 have hw:=z6i hi hb.1.1
 have hc:=hb.2 _ (z8 hi)
 simp only[S_q2d_b1,Scr.den]
 generalize b.C.getD i dF=r at hc |-
 rw[hw,z33 om]
 open Classical in simp only[z2z,z2j,z24,z15,obind,z9,z1z,zp9]
 refine⟨_,rfl,?_⟩
 simp only[RFld,y37,bne_eq_false_iff_eq,Bool.not_eq_false',yh,y9]
 constructor
 ·rintro⟨⟨⟨⟨⟨⟨⟨⟨h1,h2⟩,h3⟩,h4⟩,h5⟩,h6⟩,h7⟩,h8⟩,h9⟩
  exact⟨h1,h2,om,h5,h6,h7,om⟩
 ·rintro⟨h1,h2,h3,h4,h5,h6,h7⟩
  exact⟨⟨⟨⟨⟨⟨⟨⟨h1,h2⟩,om⟩,om⟩,h4⟩,h5⟩,h6⟩,om⟩,om⟩
theorem resP (hb:Small b) (hi:i<b.C.length):∃ C:Bool,F_q4s b i=some C/\(C=true↔RFld (b.C.getD i dF) (i+1)/\0<=leftV b (b.C.getD i dF)):=by
 have hw:=z6i hi hb.1.1
 have hc:=hb.2 _ (z8 hi)
 simp only[F_q4s,S_q4s,Scr.den,yg]
 rw[z7 ⟨om,hi,trivial⟩]
 generalize b.C.getD i dF=r at hc |-
 rw[hw,z3h om]
 open Classical in simp only[z6g,z50,z39,z26,z8f,z15,obind,zd,z6h,zlu,zpa,zu0]
 refine⟨_,rfl,?_⟩
 simp only[z3g,RFld,yj,y15,y9,y3y,y5p]
theorem z1o {x:Int} {n:Nat} (h:1<=x/\x<=(n:Int)) (hn:n<=1000000):i64.wrap (x-1)=x-1:=wrapId om om
def CFld (b:TBo) (c:TCo) (n:Int):Prop:=c.Q=n/\(1<=c.Y/\c.Y<=b.C.length)/\dayP c.Ab/\amtP c.V/\(0<=c.Ad/\c.Ad<=c.V)/\(1<=c.Ah/\c.Ah<=1000000)/\dayP c.Aj/\(rAt b c.Y).Ab<=c.Ab/\yr c.Ab=(rAt b c.Y).D
theorem comC (hb:Small b) (hi:i<b.F.length):(CFld b (b.F.getD i dF) (i+1)->(S_ql_b1 b i ()).den=some (.cont ()))/\(¬ CFld b (b.F.getD i dF) (i+1)->(S_ql_b1 b i ()).den=some (.ret false)):=by
 have hw:=z6i hi hb.1.2.1
 simp only[S_ql_b1,Scr.den]
 generalize b.F.getD i dF=c
 rw[hw]
 open Classical in simp only[z2z,z2j,z24,z15,obind,z9,z1z,zp9]
 split
 ·rename_i h
  refine⟨fun hp=>?_,fun _=>rfl⟩
  exfalso
  obtain⟨h1,h2,h3,h4,h5,h6,h7,_⟩:=hp
  simp only[ye,y1j,ne_eq,yi,yh,y9] at h
  rcases h with (((((((((h | h) | h) | h) | h) | h) | h) | h) | h) | h) <;> first | exact h h1 | exact h h3 | exact h h4 | exact h h7 | omega
 ·rename_i h
  simp only[ye,y1j,ne_eq,yi,yh,y9,y4w,y2n] at h
  obtain⟨⟨⟨⟨⟨⟨⟨⟨⟨h1,h2⟩,h3⟩,h4⟩,h5⟩,h6⟩,h7⟩,h8⟩,h9⟩,h10⟩:=h
  rw[z1o (n:=b.C.length) om hb.1.1,Gb]
  change (_->(if (_||_)=true then _ else _)=_)/\_
  have e:CFld b c (i+1)↔(rAt b c.Y).Ab<=c.Ab/\yr c.Ab=(rAt b c.Y).D :=
   ⟨fun h=>⟨h.2.2.2.2.2.2.2.1,h.2.2.2.2.2.2.2.2⟩,fun h=>⟨h1,om,h4,h5,om,om,h10,h.1,h.2⟩⟩
  rw[e]
  unfold rAt
  split
  ·rename_i h
   refine⟨fun hp=>?_,fun _=>rfl⟩
   exfalso
   simp only[ye,y1j,ne_eq,y9] at h
   rcases h with h | h
   ·omega
   ·exact h hp.2
  ·rename_i h
   refine⟨fun _=>rfl,fun hp=>?_⟩
   exfalso
   simp only[ye,y1j,ne_eq,y9,y4w,y2n] at h
   exact hp ⟨om,h.2⟩
theorem comP (hb:Small b) (hi:i<b.F.length):∃ C:Bool,F_q4t b i=some C/\(C=true↔CFld b (b.F.getD i dF) (i+1)/\0<=restV b (b.F.getD i dF)):=by
 have hw:=z6i hi hb.1.2.1
 obtain⟨c,hc⟩:∃ c,b.F.getD i dF=c:=⟨_,rfl⟩
 simp only[F_q4t,S_q4t,Scr.den,yg]
 rw[z7 ⟨om,hi,trivial⟩]
 open Classical in simp only[hc,hw,z6g,z50,z39,z26,zfk,z15,obind,zd,z9,z1z]
 by_cases h:(c.Q != (i:Int)+1||!decide (1<=c.Y/\c.Y<=b.C.length))=true
 ·rw[y8 h]
  refine⟨false,rfl,?_⟩
  simp only[ye,y1j,ne_eq,yi,yh] at h
  constructor
  ·intro h; cases h
  ·intro hp
   rcases h with h | h
   ·exact absurd hp.1.1 h
   ·exact absurd hp.1.2.1 h
 ·rw[y7 h]
  simp only[ye,y1j,ne_eq,yi,yh,y4w,y2n] at h
  rw[z1o (n:=b.C.length) h.2 hb.1.1,Gb]
  open Classical in simp only[z6h,zlu,zpa]
  refine⟨_,rfl,?_⟩
  simp only[CFld,yj,y15,y9,y3y]
  constructor
  ·rintro⟨⟨⟨⟨⟨⟨⟨h1,h2⟩,h3⟩,h4⟩,h5⟩,h6⟩,h7⟩,h8⟩
   exact⟨⟨h.1,h.2,h1,h4,h5,h6,h7,h2,h3⟩,h8⟩
  ·rintro⟨⟨_,_,h1,h4,h5,h6,h7,h2,h3⟩,h8⟩
   exact⟨⟨⟨⟨⟨⟨⟨h1,h2⟩,h3⟩,h4⟩,h5⟩,h6⟩,h7⟩,h8⟩
def RAll (b:TBo):Prop:=∀ i,i<b.C.length->RFld (b.C.getD i dF) (i+1)
def CAll (b:TBo):Prop:=∀ i,i<b.F.length->CFld b (b.F.getD i dF) (i+1)
def yearOf (b:TBo) (n:Int):Int:=(rAt b (cAt b n).Y).D
theorem RAll.at {b:TBo} (h:RAll b) {n:Int} (hn:1<=n/\n<=b.C.length):RFld (rAt b n) n:=by
 have:=h (n-1).toNat om
 rwa [show (((n-1).toNat:Nat):Int)+1=n from om] at this
theorem CAll.at {b:TBo} (h:CAll b) {n:Int} (hn:1<=n/\n<=b.F.length):CFld b (cAt b n) n:=by
 have:=h (n-1).toNat om
 rwa [show (((n-1).toNat:Nat):Int)+1=n from om] at this
variable {n:Int}
theorem zu1 (hR:RAll b) (hC:CAll b) (hn:1<=n/\n<=b.F.length):0<=yearOf b n/\yearOf b n<=99 :=
 (hR.at (hC.at hn).2.1).2.2.1
theorem z69 (hb:Small b) (hC:CAll b) (hn:1<=n/\n<=b.F.length):F_q2s b n=some (yearOf b n):=by
 have h:=(hC.at hn).2.1
 unfold cAt at h
 simp only[F_q2s,S_q2s,Scr.den]
 rw[z1o hn hb.1.2.1,z1o h hb.1.1,z7 ⟨om,om,om,om,trivial⟩]
 rfl
theorem zbw (hb:Small b) {c:TCo} (h:1<=c.Y/\c.Y<=b.C.length):F_q23 b c=some (rAt b c.Y).D:=by
 simp only[F_q23,S_q23,Scr.den]
 rw[z1o h hb.1.1,Gb]
 rfl
theorem z6j (hR:RAll b) (hC:CAll b) (hn:1<=n/\n<=b.F.length):i64.wrap (yearOf b n+1)=yearOf b n+1:=by
 have:=zu1 hR hC hn
 exact wrapId om om
def VFld (b:TBo) (v:TVe) (n:Int):Prop:=v.Q=n/\(1<=v.Ac/\v.Ac<=b.F.length)/\dayP v.Ab/\amtP v.V/\(cAt b v.Ac).Ab<=v.Ab/\yr v.Ab<=yearOf b v.Ac+1
theorem verC (hb:Small b) (hR:RAll b) (hC:CAll b) (hi:i<b.I.length):(VFld b (b.I.getD i dF) (i+1)->(S_q4_b1 b i ()).den=some (.cont ()))/\(¬ VFld b (b.I.getD i dF) (i+1)->(S_q4_b1 b i ()).den=some (.ret false)):=by
 have hw:=z6i hi hb.1.2.2.1
 obtain⟨v,hv⟩:∃ v,b.I.getD i dF=v:=⟨_,rfl⟩
 open Classical in simp only[S_q4_b1,Scr.den,hv,hw,z2z,z2j,z24,z15,obind,z9,z1z]
 by_cases hA:(v.Q != (i:Int)+1||decide (v.Ac<1)||decide (v.Ac>b.F.length))=true
 ·rw[hA]
  simp only[Bool.true_or]
  rw[Gh,obind,z7 (by simp[AllP]),y8 trivial]
  refine⟨fun hp=>?_,fun _=>rfl⟩
  exfalso
  obtain⟨h1,h2,_⟩:=hp
  simp only[ye,y1j,ne_eq,y9] at hA
  rcases hA with (h | h) | h
  ·exact h h1
  ·omega
  ·omega
 ·simp only[ye,y1j,ne_eq,y9,y4w,y2n] at hA
  have hn:1<=v.Ac/\v.Ac<=b.F.length:=om
  open Classical in rw[zb5 (y:=yearOf b v.Ac) fun _=>z69 hb hC hn]
  rw[z1o hn hb.1.2.1,obind,z7 ⟨fun _=>om,fun _=>om,trivial⟩]
  open Classical in simp only[zt3]
  rw[z6j hR hC hn]
  split
  ·rename_i h
   refine⟨fun hp=>?_,fun _=>rfl⟩
   exfalso
   obtain⟨h1,h2,h3,h4,h5,h6⟩:=hp
   unfold cAt at h5
   simp only[ye,y1j,ne_eq,yi,yh,y9] at h
   rcases h with ((((((h | h) | h) | h) | h) | h) | h) <;> first | exact h h1 | exact h h3 | exact h h4 | omega
  ·rename_i h
   refine⟨fun _=>rfl,fun hp=>?_⟩
   exfalso
   simp only[ye,y1j,ne_eq,yi,yh,y9,y4w,y2n] at h
   obtain⟨⟨⟨⟨⟨⟨h1,h2⟩,h3⟩,h4⟩,h5⟩,h6⟩,h7⟩:=h
   exact hp ⟨h1,hn,h4,h5,by unfold cAt; omega,om⟩
theorem verP (hb:Small b) (hR:RAll b) (hC:CAll b) (hi:i<b.I.length):∃ C:Bool,F_q4u b i=some C/\(C=true↔VFld b (b.I.getD i dF) (i+1)):=by
 have hw:=z6i hi hb.1.2.2.1
 obtain⟨v,hv⟩:∃ v,b.I.getD i dF=v:=⟨_,rfl⟩
 simp only[F_q4u,S_q4u,Scr.den,yg]
 rw[z7 ⟨om,hi,trivial⟩]
 open Classical in simp only[hv,hw,z6g,z50,z39,z26,z15,obind,zd,z9,z1z]
 by_cases h:(v.Q != (i:Int)+1||!decide (1<=v.Ac/\v.Ac<=b.F.length))=true
 ·rw[y8 h]
  refine⟨false,rfl,?_⟩
  simp only[ye,y1j,ne_eq,yi,yh] at h
  constructor
  ·intro h; cases h
  ·intro hp
   rcases h with h | h
   ·exact absurd hp.1 h
   ·exact absurd hp.2.1 h
 ·rw[y7 h]
  simp only[ye,y1j,ne_eq,yi,yh,y4w,y2n] at h
  have hn:=h.2
  have hc:=(hC.at hn).2.1
  rw[z1o hn hb.1.2.1,Gb]
  change ∃ C,(optD _ (F_q23 b (cAt b v.Ac)) _).bind _=_/\_
  open Classical in rw[zb5 fun _=>zbw hb hc]
  open Classical in simp only[obind,z6h,zpb]
  refine⟨_,rfl,?_⟩
  have hy:=z6j hR hC hn
  unfold yearOf at hy
  rw[hy]
  simp only[VFld,yj,y9,y3y]
  constructor
  ·rintro⟨⟨⟨h1,h2⟩,h3⟩,h4⟩
   exact⟨h.1,h.2,h1,h4,h2,h3⟩
  ·rintro⟨_,_,h1,h4,h2,h3⟩
   exact⟨⟨⟨h1,h2⟩,h3⟩,h4⟩
def VAll (b:TBo):Prop:=∀ i,i<b.I.length->VFld b (b.I.getD i dF) (i+1)
theorem VAll.at {b:TBo} (h:VAll b) {n:Int} (hn:1<=n/\n<=b.I.length):VFld b (vAt b n) n:=by
 have:=h (n-1).toNat om
 rwa [show (((n-1).toNat:Nat):Int)+1=n from om] at this
def OFld (b:TBo) (o:TOr) (bef:List TOr) (n:Int):Prop:=o.Q=n/\(1<=o.X/\o.X<=b.I.length)/\dayP o.Ab/\(vAt b o.X).Ab<=o.Ab/\yr o.Ab<=yearOf b (vAt b o.X).Ac+1/\o.Ak=(ordersOf bef o.X).length+1/\(ordersOf bef o.X).any (fun x=>!x.Al||decide (x.Ab>o.Ab))=false
theorem zpc (hi:i<b.W.length) (hb:Small b):rangeM (fun j s=>(S_q4_b3 b i j s).den) (b.W.take i).length 0 1=some (if (ordersOf (b.W.take i) (b.W.getD i dF).X).any (fun x=>!x.Al||decide (x.Ab>(b.W.getD i dF).Ab))=true then .ret false else .next ((ordersOf (b.W.take i) (b.W.getD i dF).X).length+1)):=by
 have hl:=hb.1.2.2.2
 have hlt:(b.W.take i).length<=1000000:=by rw[y1k]; omega
 simp only[S_q4_b3,Scr.den,z9]
 generalize b.W.take i=l at hlt |-
 generalize b.W.getD i dF=o
 generalize hF:(fun (j:Nat) (s:Int)=>_)=F
 have key:∀ (k j n:Nat),j+k=l.length->n<=j+1->rangeM F k j (n:Int)=some (if (ordersOf (l.drop j) o.X).any (fun x=>!x.Al||decide (x.Ab>o.Ab))=true then .ret false else .next (((ordersOf (l.drop j) o.X).length+n:Nat):Int)):=by
  intro k
  induction k with
  | zero=>intro j n hk hn; rw[y1l om]; simp[rangeM,ordersOf]
  | succ k ih =>
   intro j n hk hn
   have hj:j<l.length:=om
   have e:l.getD j dF=l[j]:=by simp[List.getD_eq_getElem?_getD,List.getElem?_eq_getElem hj]
   have w1:i64.wrap ((n:Int)+1)=((n+1:Nat):Int):=by rw[wrapId om om]; omega
   rw[y1i hj]
   unfold ordersOf
   simp only[rangeM,y33]
   rw[<- y4a (y4a hF j) (n:Int)]
   simp only[e,w1]
   generalize l[j]=x
   by_cases hv:x.X=o.X
   ·have e1:(x.X != o.X)=false:=by simp[hv]
    have e2:(x.X==o.X)=true:=by simp[hv]
    simp only[e1,e2,yu,y10,y17]
    by_cases hx:(!x.Al||decide (x.Ab>o.Ab))=true
    ·rw[y8 hx,y8 (by rw[y50,hx]; rfl)]
    ·rw[y7 hx]
     simp only
     rw[ih (j+1) (n+1) om om]
     rw[y50,Bool.eq_false_iff.mpr hx,y3t]
     unfold ordersOf
     simp only[yq]
     congr 3
     omega
   ·have e1:(x.X != o.X)=true:=by simp[hv]
    have e2:(x.X==o.X)=false:=by simp[hv]
    simp only[e1,e2,yu,y10,y17]
    rw[ih (j+1) n om om]
    rfl
 have:=key l.length 0 1 om om
 simpa using this
theorem ordC (hb:Small b) (hR:RAll b) (hC:CAll b) (hV:VAll b) (hi:i<b.W.length):(OFld b (b.W.getD i dF) (b.W.take i) (i+1)->(S_q4_b4 b i ()).den=some (.cont ()))/\(¬ OFld b (b.W.getD i dF) (b.W.take i) (i+1)->(S_q4_b4 b i ()).den=some (.ret false)):=by
 have hw:=z6i hi hb.1.2.2.2
 have hcnt:=zpc hi hb
 obtain⟨o,ho⟩:∃ v,b.W.getD i dF=v:=⟨_,rfl⟩
 open Classical in simp only[S_q4_b4,Scr.den,hcnt,ho,hw,z2z,z2j,z15,obind,z9,z1z]
 split
 ·rename_i h
  refine⟨fun hp=>?_,fun _=>rfl⟩
  exfalso
  obtain⟨h1,h2,h3,_⟩:=hp
  simp only[ye,y1j,ne_eq,yi,yh,y9] at h
  rcases h with ((h | h) | h) | h <;> first | exact h h1 | exact h h3 | omega
 ·rename_i h
  simp only[ye,y1j,ne_eq,yi,yh,y9,y4w,y2n] at h
  obtain⟨⟨⟨h1,h2⟩,h3⟩,h4⟩:=h
  have hn:1<=o.X/\o.X<=b.I.length:=om
  have hv:=(hV.at hn).2.1
  rw[z1o hn hb.1.2.2.1,Gb]
  change (_->(optD _ (F_q2s b (vAt b o.X).Ac) _).bind _=_)/\(_->(optD _ (F_q2s b (vAt b o.X).Ac) _).bind _=_)
  open Classical in rw[zb5 fun _=>z69 hb hC hv]
  open Classical in simp only[obind,zt3]
  rw[z6j hR hC hv]
  have hle:i<=b.W.length:=om
  rw[z7 ⟨hle,trivial⟩]
  by_cases hG:(decide (o.Ab<(b.I.getD (o.X-1).toNat dF).Ab)||decide (yr o.Ab>yearOf b (vAt b o.X).Ac+1))=true
  ·rw[y8 hG]
   refine⟨fun hp=>?_,fun _=>rfl⟩
   exfalso
   obtain⟨_,_,_,h5,h6,_⟩:=hp
   change (decide (o.Ab<(vAt b o.X).Ab)||_)=true at hG
   simp only[ye,y9] at hG
   omega
  ·rw[y7 hG]
   change ¬ (decide (o.Ab<(vAt b o.X).Ab)||_)=true at hG
   simp only[ye,y9,y4w] at hG
   by_cases hx:(ordersOf (b.W.take i) o.X).any (fun x=>!x.Al||decide (x.Ab>o.Ab))=true
   ·rw[y8 hx]
    refine⟨fun hp=>?_,fun _=>rfl⟩
    exfalso
    rw[hp.2.2.2.2.2.2] at hx
    cases hx
   ·rw[y7 hx]
    simp only[outM]
    split
    ·rename_i ha
     refine⟨fun hp=>?_,fun _=>rfl⟩
     exfalso
     simp only[y1j,ne_eq] at ha
     exact ha hp.2.2.2.2.2.1
    ·rename_i ha
     refine⟨fun _=>rfl,fun hp=>?_⟩
     exfalso
     simp only[y1j,ne_eq,y2n] at ha
     exact hp ⟨h1,hn,h4,om,om,ha,Bool.eq_false_iff.mpr hx⟩
theorem ordP (hb:Small b) (hR:RAll b) (hC:CAll b) (hV:VAll b) (hi:i<b.W.length):∃ C:Bool,F_q4x b i=some C/\(C=true↔OFld b (b.W.getD i dF) (b.W.take i) (i+1)):=by
 have hw:=z6i hi hb.1.2.2.2
 have hl:=hb.1.2.2.2
 obtain⟨o,ho⟩:∃ v,b.W.getD i dF=v:=⟨_,rfl⟩
 have hlt:(b.W.take i).length<=1000000:=by rw[y1k]; omega
 have hle:i<=b.W.length:=om
 simp only[F_q4x,S_q4x,Scr.den,yg]
 rw[z7 ⟨om,hi,trivial⟩]
 open Classical in simp only[ho,hw,z6g,z50,z26,z15,obind,zd,z9,z1z]
 by_cases h:(o.Q != (i:Int)+1||!decide (1<=o.X/\o.X<=b.I.length))=true
 ·rw[y8 h]
  refine⟨false,rfl,?_⟩
  simp only[ye,y1j,ne_eq,yi,yh] at h
  constructor
  ·intro h; cases h
  ·intro hp
   rcases h with h | h
   ·exact absurd hp.1 h
   ·exact absurd hp.2.1 h
 ·rw[y7 h]
  simp only[ye,y1j,ne_eq,yi,yh,y4w,y2n] at h
  have hn:=h.2
  have hv:=(hV.at hn).2.1
  have hc:=(hC.at hv).2.1
  rw[z1o hn hb.1.2.2.1,Gb,zgv hlt,obind,z7 ⟨hle,trivial⟩]
  simp only[zc9]
  have hp:i64.wrap ((vAt b o.X).Ac-1)=(vAt b o.X).Ac-1:=z1o hv hb.1.2.1
  have hyr:F_q23 b (b.F.getD ((vAt b o.X).Ac-1).toNat dF)=some (yearOf b (vAt b o.X).Ac):=zbw hb hc
  unfold vAt at hp hyr
  open Classical in rw[hp,hyr,z15,obind,z15,obind,z7 ⟨fun _=>by unfold vAt at hv; omega,fun _=>by unfold vAt at hv; omega,trivial⟩]
  open Classical in simp only[zpb]
  have hy:=z6j hR hC hv
  unfold vAt at hy
  rw[hy]
  have e3:∀ (a x d:Bool) [Decidable (AllP [a=true])],(a&&!(if AllP [a=true] then x else d))=(a&&!x):=fun a x d _=>by cases a <;> simp[AllP]
  rw[e3]
  refine⟨_,rfl,?_⟩
  have hlw:i64.wrap (((ordersOf (b.W.take i) o.X).length:Int)+1)=((ordersOf (b.W.take i) o.X).length:Int)+1:=by
   have:(ordersOf (b.W.take i) o.X).length<=(b.W.take i).length:=y56 _ _
   exact wrapId om om
  rw[hlw]
  simp only[OFld,yj,y15,y9,y3y,yi]
  constructor
  ·rintro⟨⟨⟨⟨h1,h2⟩,h3⟩,h4⟩,h5⟩
   exact⟨h.1,h.2,h1,h2,h3,h4,h5⟩
  ·rintro⟨_,_,h1,h2,h3,h4,h5⟩
   exact⟨⟨⟨⟨h1,h2⟩,h3⟩,h4⟩,h5⟩
variable {P:Prop}
theorem noC {x:Option Bool} (h:P->False) (e:x=some false:=by rfl):∃ C:Bool,x=some C/\(C=true↔P):=⟨false,e,⟨fun h=>(y44 h).elim,fun p=>(h p).elim⟩⟩
def Val (b:TBo):Prop:=RAll b/\CAll b/\(∀ r∈b.C,0<=leftV b r)/\VAll b/\(∀ c∈b.F,0<=restV b c)/\(∀ i,i<b.W.length->OFld b (b.W.getD i dF) (b.W.take i) (i+1)) /\
 b.C.length<=200/\b.F.length<=200/\b.I.length<=200/\b.W.length<=200
def OAll (b:TBo):Prop:=∀ i,i<b.W.length->OFld b (b.W.getD i dF) (b.W.take i) (i+1)
theorem zad (hb:Small b):∃ C,F_q2d b=some C/\(C=true↔RAll b):=by
 simp only[F_q2d,S_q2d,Scr.den]
 obtain⟨h1,h2⟩:=zi (body:=fun i s=>(S_q2d_b1 b i s).den) (n:=b.C.length) (c:=false) (fun i=>RFld (b.C.getD i dF) (i+1)) (fun i hi hp=>by
  obtain⟨C,e,hc⟩:=resC hb hi
  simp only[e,hc.mpr hp]; rfl) (fun i hi hp=>by
  obtain⟨C,e,hc⟩:=resC hb hi
  cases C with
  | true=>simp only[e]; rfl
  | false=>exact absurd (hc.mp rfl) hp)
 by_cases h:∀ j,j<b.C.length->RFld (b.C.getD j dF) (j+1)
 ·rw[h1 h]; exact⟨true,rfl,fun _=>h,fun _=>rfl⟩
 ·rw[h2 h]; exact noC <| (fun h'=>absurd h' h)
theorem zb6 (hb:Small b) (hR:RAll b):∃ C,F_ql b=some C/\(C=true↔CAll b/\∀ r∈b.C,0<=leftV b r):=by
 simp only[F_ql,S_ql,Scr.den]
 obtain⟨h1,h2⟩:=zi (body:=fun i s=>(S_ql_b1 b i s).den) (n:=b.F.length) (c:=false) (fun i=>CFld b (b.F.getD i dF) (i+1)) (fun i hi hp=>(comC hb hi).1 hp) (fun i hi hp=>(comC hb hi).2 hp)
 by_cases h:∀ j,j<b.F.length->CFld b (b.F.getD j dF) (j+1)
 ·rw[h1 h]
  simp only[outM]
  have eL:∀ i,i<b.C.length->(S_ql_b2 b i ()).den=if leftV b (b.C.getD i dF)<0 then some (.ret false) else some (.cont ()):=fun i hi=>by
   simp only[S_ql_b2,Scr.den,z8h,obind]
   have:leftN b (b.C.getD i dF).Q=leftV b (b.C.getD i dF):=by
    unfold leftN
    have hf:b.C.find? (fun r=>r.Q==(b.C.getD i dF).Q)=some (b.C.getD i dF):=by
     rw[List.find?_eq_some_iff_getElem]
     refine⟨sj,i,hi,by simp[List.getD_eq_getElem?_getD,List.getElem?_eq_getElem hi],fun j hj=>?_⟩
     have e1:=(hR i hi).1
     have e2:=(hR j om).1
     have e3:b.C.getD j dF=b.C[j]:=by simp[List.getD_eq_getElem?_getD,List.getElem?_eq_getElem (show j<b.C.length from om)]
     rw[e3] at e2
     rw[e1]
     simp only[yi,y3b,ne_eq]
     omega
    rw[hf]
   rw[this]
   by_cases hl:leftV b (b.C.getD i dF)<0 <;> simp
  obtain⟨h3,h4⟩:=zi (body:=fun i s=>(S_ql_b2 b i s).den) (n:=b.C.length) (c:=false) (fun i=>0<=leftV b (b.C.getD i dF)) (fun i hi hp=>by
   simp only[eL i hi]; rw[y7 om]) (fun i hi hp=>by
   simp only[eL i hi]; rw[y8 om])
  by_cases h':∀ j,j<b.C.length->0<=leftV b (b.C.getD j dF)
  ·rw[h3 h']
   refine⟨true,rfl,fun _=>⟨h,fun r hr=>?_⟩,fun _=>rfl⟩
   obtain⟨i,hi,e⟩:=z13 hr
   rw[<- e]; exact h' i hi
  ·rw[h4 h']
   exact noC <| (fun hh=>absurd (fun j hj=>hh.2 _ (z8 hj)) h')
 ·rw[h2 h]; exact noC <| (fun h'=>absurd h'.1 h)
theorem zhp (hb:Small b) (hR:RAll b) (hC:CAll b):∃ C,F_q4 b=some C/\(C=true↔VAll b/\(∀ c∈b.F,0<=restV b c)/\OAll b):=by
 simp only[F_q4,S_q4,Scr.den]
 obtain⟨h1,h2⟩:=zi (body:=fun i s=>(S_q4_b1 b i s).den) (n:=b.I.length) (c:=false) (fun i=>VFld b (b.I.getD i dF) (i+1)) (fun i hi hp=>(verC hb hR hC hi).1 hp) (fun i hi hp=>(verC hb hR hC hi).2 hp)
 by_cases h:∀ j,j<b.I.length->VFld b (b.I.getD j dF) (j+1)
 ·rw[h1 h]
  simp only[outM]
  have eL:∀ i,i<b.F.length->(S_q4_b2 b i ()).den=if restV b (b.F.getD i dF)<0 then some (.ret false) else some (.cont ()):=fun i hi=>by
   simp only[S_q4_b2,Scr.den,z8g,obind]
   by_cases hl:restV b (b.F.getD i dF)<0 <;> simp
  obtain⟨h3,h4⟩:=zi (body:=fun i s=>(S_q4_b2 b i s).den) (n:=b.F.length) (c:=false) (fun i=>0<=restV b (b.F.getD i dF)) (fun i hi hp=>by
   simp only[eL i hi]; rw[y7 om]) (fun i hi hp=>by
   simp only[eL i hi]; rw[y8 om])
  by_cases h':∀ j,j<b.F.length->0<=restV b (b.F.getD j dF)
  ·rw[h3 h']
   skip
   obtain⟨h5,h6⟩:=zi (body:=fun i s=>(S_q4_b4 b i s).den) (n:=b.W.length) (c:=false) (fun i=>OFld b (b.W.getD i dF) (b.W.take i) (i+1)) (fun i hi hp=>(ordC hb hR hC h hi).1 hp) (fun i hi hp=>(ordC hb hR hC h hi).2 hp)
   by_cases ho:∀ j,j<b.W.length->OFld b (b.W.getD j dF) (b.W.take j) (j+1)
   ·rw[h5 ho]
    refine⟨true,rfl,fun _=>⟨h,fun r hr=>?_,ho⟩,fun _=>rfl⟩
    obtain⟨i,hi,e⟩:=z13 hr
    rw[<- e]; exact h' i hi
   ·rw[h6 ho]
    exact noC <| (fun hh=>absurd hh.2.2 ho)
  ·rw[h4 h']
   exact noC <| (fun hh=>absurd (fun j hj=>hh.2.1 _ (z8 hj)) h')
 ·rw[h2 h]; exact noC <| (fun h'=>absurd h'.1 h)
open Classical in
theorem z2b (hb:Small b):F_q2f b=some (decide (Val b)):=by
 simp only[F_q2f,S_q2f,Scr.den,z9,zd]
 by_cases hl:b.C.length<=200/\b.F.length<=200/\b.I.length<=200/\b.W.length<=200
 ·rw[y7 (by simp only[ye,y9]; omega)]
  obtain⟨C1,e1,c1⟩:=zad hb
  rw[e1,obind]
  by_cases hR:RAll b
  ·obtain⟨C2,e2,c2⟩:=zb6 hb hR
   rw[c1.mpr hR,Gg,e2,obind]
   by_cases hC:CAll b/\∀ r∈b.C,0<=leftV b r
   ·obtain⟨C3,e3,c3⟩:=zhp hb hR hC.1
    rw[c2.mpr hC,Gg,e3,obind]
    congr 1
    rw[y1q,y9]
    simp only[Bool.and_self,y42]
    rw[c3]
    exact⟨fun h=>⟨hR,hC.1,hC.2,h.1,h.2.1,h.2.2,hl⟩,fun h=>⟨h.2.2.2.1,h.2.2.2.2.1,h.2.2.2.2.2.1⟩⟩
   ·have:C2=false:=Bool.eq_false_iff.mpr fun h=>hC (c2.mp h)
    rw[this,Gh,obind]
    rw[yc (fun h:Val b=>hC ⟨h.2.1,h.2.2.1⟩)]
    rfl
  ·have:C1=false:=Bool.eq_false_iff.mpr fun h=>hR (c1.mp h)
   rw[this,Gh,obind,Gh,obind]
   rw[yc (fun h:Val b=>hR h.1)]
   rfl
 ·rw[y8 (by simp only[ye,y9]; omega)]
  rw[yc (fun h:Val b=>hl h.2.2.2.2.2.2)]
theorem ze9 {n:Nat} (hn:n<=1000000) {body:Nat->Unit->Option (Step Unit Bool)} {F:Int->Option Bool} (hF:∀ (i:Nat) s,body i s=(F i).bind fun r=>if (!r)=true then some (.ret false) else some (.cont ())) (p:Nat->Prop) (h:∀ i,i<n->∃ C,F i=some C/\(C=true↔p i)) :
  ∃ C,guardP (AllP [((n:Int)).toNat<2 ^ 63]) (outM (rangeM body ((n:Int)).toNat 0 ()) (fun _=>some (decide ((n:Int)<=200))) (fun x=>some (id x)))=some C/\(C=true↔(∀ i,i<n->p i)/\n<=200):=by
 rw[yg,Ga]
 obtain⟨h1,h2⟩:=zi (body:=body) (n:=n) (c:=false) p (fun i hi hp=>by
  obtain⟨C,e,hc⟩:=h i hi
  rw[hF,e,hc.mpr hp]; rfl) (fun i hi hp=>by
  obtain⟨C,e,hc⟩:=h i hi
  rw[hF,e,Bool.eq_false_iff.mpr fun h=>hp (hc.mp h)]; rfl)
 by_cases hp:∀ i,i<n->p i
 ·rw[h1 hp]
  refine⟨_,rfl,?_⟩
  rw[y9]
  exact⟨fun h=>⟨hp,om⟩,fun h=>om⟩
 ·rw[h2 hp]
  exact noC <| (fun h=>absurd h.1 hp)
open Classical in
theorem Valid_eq (hb:Small b):F_q26 b=some (decide (Val b)):=by
 simp only[F_q26,S_q26,Scr.den,zd]
 obtain⟨C1,e1,c1⟩:=ze9 hb.1.1 (body:=fun i s=>(S_q3q_b1 b i s).den) (F:=F_q4s b) (fun i s=>rfl) _ (fun i hi=>resP hb hi)
 have e1:F_q3q b (b.C.length:Int)=some C1:=e1
 rw[e1,obind]
 by_cases hR:(∀ i,i<b.C.length->RFld (b.C.getD i dF) (i+1)/\0<=leftV b (b.C.getD i dF))/\b.C.length<=200
 ·have hRA:RAll b:=fun i hi=>(hR.1 i hi).1
  obtain⟨C2,e2,c2⟩:=ze9 hb.1.2.1 (body:=fun i s=>(S_q3r_b1 b i s).den) (F:=F_q4t b) (fun i s=>rfl) _ (fun i hi=>comP hb hi)
  have e2:F_q3r b (b.F.length:Int)=some C2:=e2
  rw[c1.mpr hR,Gg,e2,obind]
  by_cases hC:(∀ i,i<b.F.length->CFld b (b.F.getD i dF) (i+1)/\0<=restV b (b.F.getD i dF))/\b.F.length<=200
  ·have hCA:CAll b:=fun i hi=>(hC.1 i hi).1
   obtain⟨C3,e3,c3⟩:=ze9 hb.1.2.2.1 (body:=fun i s=>(S_q3s_b1 b i s).den) (F:=F_q4u b) (fun i s=>rfl) _ (fun i hi=>verP hb hRA hCA hi)
   have e3:F_q3s b (b.I.length:Int)=some C3:=e3
   rw[c2.mpr hC,Gg,e3,obind]
   by_cases hV:VAll b/\b.I.length<=200
   ·obtain⟨C4,e4,c4⟩:=ze9 hb.1.2.2.2 (body:=fun i s=>(S_q3t_b1 b i s).den) (F:=F_q4x b) (fun i s=>rfl) _ (fun i hi=>ordP hb hRA hCA hV.1 hi)
    have e4:F_q3t b (b.W.length:Int)=some C4:=e4
    rw[c3.mpr hV,Gg,e4,obind]
    congr 1
    rw[y1q,y9]
    simp only[Bool.and_self,y42]
    rw[c4]
    refine⟨fun h=>⟨hRA,hCA,fun r hr=>?_,hV.1,fun r hr=>?_,h.1,hR.2,hC.2,hV.2,h.2⟩,fun h=>⟨h.2.2.2.2.2.1,h.2.2.2.2.2.2.2.2.2⟩⟩
    ·obtain⟨i,hi,e⟩:=z13 hr
     rw[<- e]; exact (hR.1 i hi).2
    ·obtain⟨i,hi,e⟩:=z13 hr
     rw[<- e]; exact (hC.1 i hi).2
   ·have:C3=false:=Bool.eq_false_iff.mpr fun h=>hV (c3.mp h)
    rw[this,Gh,obind]
    rw[yc (fun h:Val b=>hV ⟨h.2.2.2.1,h.2.2.2.2.2.2.2.2.1⟩)]
    rfl
  ·have:C2=false:=Bool.eq_false_iff.mpr fun h=>hC (c2.mp h)
   rw[this,Gh,obind,Gh,obind]
   rw[yc (fun h:Val b=>hC ⟨fun i hi=>⟨h.2.1 i hi,h.2.2.2.2.1 _ (z8 hi)⟩,h.2.2.2.2.2.2.2.1⟩)]
   rfl
 ·have:C1=false:=Bool.eq_false_iff.mpr fun h=>hR (c1.mp h)
  rw[this,Gh,obind,Gh,obind,Gh,obind]
  rw[yc (fun h:Val b=>hR ⟨fun i hi=>⟨h.1 i hi,h.2.2.1 _ (z8 hi)⟩,h.2.2.2.2.2.2.1⟩)]
  rfl
theorem st {c:Bool} {_:Decidable P} {y:Option α} {a b:α} (h:c=true↔P) (hx:P->x=some a) (hy:¬ P->y=some b):(if c=true then x else y)=some (if P then a else b):=by
 by_cases hp:P
 ·rw[y8 (h.mpr hp),y8 hp,hx hp]
 ·rw[y7 (fun hc=>hp (h.mp hc)),y7 hp,hy hp]
def nb:TBo:=⟨[],[],[],[]⟩
def withR (b:TBo) (l:List TRe):TBo:=⟨l,b.F,b.I,b.W⟩
def withC (b:TBo) (l:List TCo):TBo:=⟨b.C,l,b.I,b.W⟩
def withV (b:TBo) (l:List TVe):TBo:=⟨b.C,b.F,l,b.W⟩
def withO (b:TBo) (l:List TOr):TBo:=⟨b.C,b.F,b.I,l⟩
theorem sa {p:Prop} (h:p:=by (simp only[ye,yj,yi,y9,yh,y15,y1j,ne_eq,gt_iff_lt] <;> (try unfold dayP) <;> (try unfold amtP) <;> omega)):p:=h
theorem sr {c:Bool} {_:Decidable P} {y:Option α} {a b:α} (hy:¬ P->y=some b) (h:c=true↔P:=by (simp only[ye,yj,yi,y9,yh,y15,y1j,ne_eq,gt_iff_lt] <;> (try unfold dayP) <;> (try unfold amtP) <;> omega)):(if c=true then some a else y)=some (if P then a else b):=st h (fun _=>rfl) hy
section
open Classical
noncomputable def reserveS (b:TBo) (code:Y8) (y d n:Int):TBo×Int :=
 if ¬ Val b then (nb,1) else
 if good code=false then (nb,5) else
 if ¬ ((0<=y/\y<=99)/\dayP d/\amtP n) then (nb,2) else
 if yr d≠y then (nb,16) else
 if (b.C.length:Int)=200 then (nb,3) else
 (withR b (b.C++[⟨b.C.length+1,code,y,d,n,0⟩]),0)
noncomputable def commitS (b:TBo) (r d n p u:Int):TBo×Int :=
 if ¬ Val b then (nb,1) else
 if ¬ (1<=r/\r<=b.C.length) then (nb,6) else
 if ¬ (dayP d/\amtP n/\(1<=p/\p<=1000000)/\dayP u) then (nb,2) else
 if yr d≠(rAt b r).D then (nb,16) else
 if d<(rAt b r).Ab then (nb,8) else
 if leftV b (rAt b r)<n then (nb,15) else
 if (b.F.length:Int)=200 then (nb,3) else
 (withC b (b.F++[⟨b.F.length+1,r,d,n,0,p,u⟩]),0)
noncomputable def verifyS (b:TBo) (c d n:Int):TBo×Int :=
 if ¬ Val b then (nb,1) else
 if ¬ (1<=c/\c<=b.F.length) then (nb,6) else
 if ¬ (dayP d/\amtP n) then (nb,2) else
 if yearOf b c+1<yr d then (nb,16) else
 if d<(cAt b c).Ab then (nb,8) else
 if restV b (cAt b c)<n then (nb,15) else
 if (b.I.length:Int)=200 then (nb,3) else
 (withV b (b.I++[⟨b.I.length+1,c,d,n⟩]),0)
noncomputable def orderS (b:TBo) (v d:Int):TBo×Int :=
 if ¬ Val b then (nb,1) else
 if ¬ (1<=v/\v<=b.I.length) then (nb,6) else
 if ¬ dayP d then (nb,2) else
 if yearOf b (vAt b v).Ac+1<yr d then (nb,16) else
 if (ordersOf b.W v).length>0/\(lastV b v).Al=false then (nb,20) else
 if d<(vAt b v).Ab\/((ordersOf b.W v).length>0/\d<(lastV b v).Ab) then (nb,8) else
 if (b.W.length:Int)=200 then (nb,3) else
 (withO b (b.W++[⟨b.W.length+1,v,(ordersOf b.W v).length+1,d,false⟩]),0)
noncomputable def releaseS (b:TBo) (r n:Int):TBo×Int :=
 if ¬ Val b then (nb,1) else
 if ¬ (1<=r/\r<=b.C.length) then (nb,6) else
 if ¬ amtP n then (nb,2) else
 if leftN b r<n then (nb,15) else
 (withR b (b.C.set (r-1).toNat ⟨(rAt b r).Q,(rAt b r).B,(rAt b r).D,(rAt b r).Ab,(rAt b r).V,i64.wrap ((rAt b r).Ad+n)⟩),0)
noncomputable def dropS (b:TBo) (c n:Int):TBo×Int :=
 if ¬ Val b then (nb,1) else
 if ¬ (1<=c/\c<=b.F.length) then (nb,6) else
 if ¬ amtP n then (nb,2) else
 if restV b (cAt b c)<n then (nb,15) else
 (withC b (b.F.set (c-1).toNat ⟨(cAt b c).Q,(cAt b c).Y,(cAt b c).Ab,(cAt b c).V,i64.wrap ((cAt b c).Ad+n),(cAt b c).Ah,(cAt b c).Aj⟩),0)
noncomputable def backS (b:TBo) (v:Int):TBo×Int :=
 if ¬ Val b then (nb,1) else
 if ¬ (1<=v/\v<=b.I.length) then (nb,6) else
 if (ordersOf b.W v).length=0\/(lastV b v).Al=true then (nb,9) else
 (withO b (b.W.set ((lastV b v).Q-1).toNat ⟨(lastV b v).Q,(lastV b v).X,(lastV b v).Ak,(lastV b v).Ab,true⟩),0)
end
theorem zj7 (hR:RAll b) (hn:1<=n/\n<=b.C.length):leftN b n=leftV b (rAt b n):=by
 unfold leftN
 have hi:(n-1).toNat<b.C.length:=om
 have hf:b.C.find? (fun r=>r.Q==n)=some (rAt b n):=by
  rw[List.find?_eq_some_iff_getElem]
  refine⟨by simpa using (hR.at hn).1,(n-1).toNat,hi,by unfold rAt; rw[ya,yd hi]; rfl,fun j hj=>?_⟩
  have e2:=(hR j om).1
  have e3:b.C.getD j dF=b.C[j]:=by simp[List.getD_eq_getElem?_getD,List.getElem?_eq_getElem (show j<b.C.length from om)]
  rw[e3] at e2
  simp only[yi,y3b,ne_eq]
  omega
 rw[hf]
variable {code:Y8}
theorem zfm (hb:Small b) (hc:code.length<=1000000) (y d n:Int):F_q6d b code y d n=some (reserveS b code y d n):=by
 have h1:=hb.1.1
 have h2:=hb.1
 have hw:i64.wrap ((b.C.length:Int)+1)=b.C.length+1:=wrapId om om
 open Classical in simp only[F_q6d,S_q6d,Scr.den,z2b hb,z33 (show code.length<4611686018427387904 from om),z2z,z24,z2j,z15,obind,z9,z1z,z2g hb.1,hw]
 unfold reserveS
 refine st (by (simp only[yi,yh])) (fun _=>rfl) fun hV=>?_
 refine st (by (simp only[yi])) (fun _=>rfl) fun hg=>?_
 refine sr fun _=>?_
 refine sr fun _=>?_
 refine sr fun _=>?_
 obtain⟨_,h3,h4,h5⟩:=h2
 simp only[yp,yq,y1m]
 rw[Ga,Ga,Ga,Ga,Ga]
 rfl
theorem zn3 (hb:Small b) (hc:code.length<=1000000) (y d n:Int):F_q5t b code y d n=some (reserveS b code y d n):=by
 have h1:=hb.1.1
 have h2:=hb.1
 have hw:i64.wrap ((b.C.length:Int)+1)=b.C.length+1:=wrapId om om
 open Classical in simp only[F_q5t,S_q5t,Scr.den,Valid_eq hb,z3h (show code.length<=1099511627776 from om),z6g,z39,z26,z50,z15,obind,z9,z1z,z2a hb.1,hw]
 unfold reserveS
 refine st (by (simp only[yi,yh])) (fun _=>rfl) fun hV=>?_
 refine st (by rw[<- z3g]; exact sa) (fun _=>rfl) fun hg=>?_
 refine sr fun _=>?_
 refine sr fun _=>?_
 refine sr fun _=>?_
 obtain⟨_,h3,h4,h5⟩:=h2
 simp only[yp,yq,y1m]
 rw[Ga,Ga,Ga,Ga,Ga]
 rfl
theorem zhq (hb:Small b) (r d n p u:Int):F_q6e b r d n p u=some (commitS b r d n p u):=by
 have h2:=hb.1
 obtain⟨h1,h3,h4,h5⟩:=h2
 have hw:i64.wrap ((b.F.length:Int)+1)=b.F.length+1:=wrapId om om
 open Classical in simp only[F_q6e,S_q6e,Scr.den,z2b hb,z2z,z24,z2j,z8h,z15,obind,z9,z1z,z2g hb.1,hw]
 unfold commitS
 refine st (by (simp only[yi,yh])) (fun _=>rfl) fun hV=>?_
 refine sr fun hn=>?_
 refine sr fun _=>?_
 have hn:=nnm hn
 have hV:=nnm hV
 rw[z1o hn h1,Gb,zj7 hV.1 hn]
 refine st (by unfold rAt; exact sa) (fun _=>rfl) fun _=>?_
 refine st (by unfold rAt; exact sa) (fun _=>rfl) fun _=>?_
 refine sr fun _=>?_
 refine sr fun _=>?_
 simp only[yp,yq,y1m]
 rw[Ga,Ga,Ga,Ga,Ga]
 rfl
theorem zpd (hb:Small b) (r d n p u:Int):F_q5u b r d n p u=some (commitS b r d n p u):=by
 have h2:=hb.1
 obtain⟨h1,h3,h4,h5⟩:=h2
 have hw:i64.wrap ((b.F.length:Int)+1)=b.F.length+1:=wrapId om om
 open Classical in simp only[F_q5u,S_q5u,Scr.den,Valid_eq hb,z6g,z39,z26,z50,z8f,z15,obind,z9,z1z,z2a hb.1,hw]
 unfold commitS
 refine st (by (simp only[yi,yh])) (fun _=>rfl) fun hV=>?_
 refine sr fun hn=>?_
 refine sr fun _=>?_
 have hn:=nnm hn
 have hV:=nnm hV
 rw[z1o hn h1,Gb]
 refine st (by unfold rAt; exact sa) (fun _=>rfl) fun _=>?_
 refine st (by unfold rAt; exact sa) (fun _=>rfl) fun _=>?_
 refine st (by unfold rAt; exact sa) (fun _=>rfl) fun _=>?_
 refine sr fun _=>?_
 simp only[yp,yq,y1m]
 rw[Ga,Ga,Ga,Ga,Ga]
 rfl
theorem zhr (hb:Small b) (c d n:Int):F_q6f b c d n=some (verifyS b c d n):=by
 have h2:=hb.1
 obtain⟨h1,h3,h4,h5⟩:=h2
 have hw:i64.wrap ((b.I.length:Int)+1)=b.I.length+1:=wrapId om om
 open Classical in simp only[F_q6f,S_q6f,Scr.den,z2b hb,z2z,z24,z2j,z8g,z15,obind,z9,z1z,z2g hb.1,hw]
 unfold verifyS
 refine st (by (simp only[yi,yh])) (fun _=>rfl) fun hV=>?_
 refine sr fun hn=>?_
 refine sr fun _=>?_
 have hn:=nnm hn
 have hV:=nnm hV
 rw[z69 hb hV.2.1 hn,obind,z1o hn h3,z6j hV.1 hV.2.1 hn]
 refine sr fun _=>?_
 rw[Gb]
 refine st (by unfold cAt; exact sa) (fun _=>rfl) fun _=>?_
 refine st (by unfold cAt; exact sa) (fun _=>rfl) fun _=>?_
 refine sr fun _=>?_
 simp only[yp,yq,y1m]
 rw[Ga,Ga,Ga,Ga,Ga]
 rfl
theorem zpe (hb:Small b) (c d n:Int):F_q5v b c d n=some (verifyS b c d n):=by
 have h2:=hb.1
 obtain⟨h1,h3,h4,h5⟩:=h2
 have hw:i64.wrap ((b.I.length:Int)+1)=b.I.length+1:=wrapId om om
 open Classical in simp only[F_q5v,S_q5v,Scr.den,Valid_eq hb,z6g,z39,z26,z50,zfk,z15,obind,z9,z1z,z2a hb.1,hw]
 unfold verifyS
 refine st (by (simp only[yi,yh])) (fun _=>rfl) fun hV=>?_
 refine sr fun hn=>?_
 refine sr fun _=>?_
 have hn:=nnm hn
 have hV:=nnm hV
 have hy:F_q23 b (b.F.getD (c-1).toNat dF)=some (yearOf b c):=zbw hb (hV.2.1.at hn).2.1
 rw[z1o hn h3,Gb,hy,obind,z6j hV.1 hV.2.1 hn]
 refine sr fun _=>?_
 refine st (by unfold cAt; exact sa) (fun _=>rfl) fun _=>?_
 refine st (by unfold cAt; exact sa) (fun _=>rfl) fun _=>?_
 refine sr fun _=>?_
 simp only[yp,yq,y1m]
 rw[Ga,Ga,Ga,Ga,Ga]
 rfl
theorem zpf (l:List TOr) (h:0<l.length) (x:TOr):l.getD (l.length-1) dF=l.getLastD x:=by
 rw[ya,yd om,y4m,List.getLast?_eq_getElem?,yd om]
 rfl
theorem zj8 (hb:Small b) (v d:Int):F_q6g b v d=some (orderS b v d):=by
 have h2:=hb.1
 obtain⟨h1,h3,h4,h5⟩:=h2
 have hw:i64.wrap ((b.W.length:Int)+1)=b.W.length+1:=wrapId om om
 have hol:(ordersOf b.W v).length<=b.W.length:=y56 _ _
 have hw2:i64.wrap (((ordersOf b.W v).length:Int)+1)=(ordersOf b.W v).length+1:=wrapId om om
 open Classical in simp only[F_q6g,S_q6g,Scr.den,z2b hb,z2z,z2j,zlt h5,obind,z9,zd,z2g hb.1,hw,hw2]
 unfold orderS
 refine st (by (simp only[yi,yh])) (fun _=>rfl) fun hV=>?_
 refine sr fun hn=>?_
 refine sr fun _=>?_
 have hn:=nnm hn
 have hV:=nnm hV
 have hv:=(hV.2.2.2.1.at hn).2.1
 have hy:F_q2s b (b.I.getD (v-1).toNat dF).Ac=some (yearOf b (vAt b v).Ac):=z69 hb hV.2.1 hv
 rw[z1o hn h4,Gb,hy,obind,z6j hV.1 hV.2.1 hv]
 refine sr fun _=>?_
 refine st sj (fun _=>rfl) fun _=>?_
 refine st (by unfold vAt; exact sa) (fun _=>rfl) fun _=>?_
 refine sr fun _=>?_
 simp only[yp,yq,y1m]
 rw[Ga,Ga,Ga,Ga,Ga]
 rfl
theorem zcn (l:List TOr) (hl:l.length<=1000000) (x:TOr) (f:TOr->Bool):(decide ((l.length:Int)>0)&&f (l.getD (i64.wrap ((l.length:Int)-1)).toNat dF))=(decide ((l.length:Int)>0)&&f (l.getLastD x)):=by
 by_cases h:0<l.length
 ·rw[wrapId om om,show ((l.length:Int)-1).toNat=l.length-1 from om,zpf l h x]
 ·rw[yc om]; rfl
theorem zrw (hb:Small b) (v d:Int):F_q5w b v d=some (orderS b v d):=by
 have h2:=hb.1
 obtain⟨h1,h3,h4,h5⟩:=h2
 have hw:i64.wrap ((b.W.length:Int)+1)=b.W.length+1:=wrapId om om
 have hol:(ordersOf b.W v).length<=b.W.length:=y56 _ _
 have hw2:i64.wrap (((ordersOf b.W v).length:Int)+1)=(ordersOf b.W v).length+1:=wrapId om om
 have hg:∀ P:Prop,P->((ordersOf b.W v).length:Int)>0->(0:Int)<=i64.wrap (((ordersOf b.W v).length:Int)-1)/\(i64.wrap (((ordersOf b.W v).length:Int)-1)).toNat<(ordersOf b.W v).length:=fun _ _ h=>by
  rw[wrapId om om]; omega
 have a1:=zcn (ordersOf b.W v) om noOrder (fun o=>!o.Al)
 have a2:=zcn (ordersOf b.W v) om noOrder (fun o=>decide (d<o.Ab))
 open Classical in simp only[F_q5w,S_q5w,Scr.den,Valid_eq hb,z6g,z26,z50,zgv h5,obind,z9,zd,z2a hb.1,hw,hw2,a1,a2]
 unfold orderS
 refine st (by (simp only[yi,yh])) (fun _=>rfl) fun hV=>?_
 refine sr fun hn=>?_
 refine sr fun _=>?_
 have hn:=nnm hn
 have hV:=nnm hV
 have hv:=(hV.2.2.2.1.at hn).2.1
 have hv':1<=(b.I.getD (v-1).toNat dF).Ac/\(b.I.getD (v-1).toNat dF).Ac<=b.F.length:=hv
 have hy:F_q23 b (b.F.getD ((b.I.getD (v-1).toNat dF).Ac-1).toNat dF)=some (yearOf b (vAt b v).Ac):=zbw hb (hV.2.1.at hv).2.1
 rw[z1o hn h4,Gb,z1o hv' h3,hy,obind,Gb,z6j hV.1 hV.2.1 hv]
 refine sr fun _=>?_
 rw[z7 ⟨fun h=>(hg True trivial (by simpa [AllP] using h)).1,fun h=>(hg True trivial (by simpa [AllP] using h)).2,trivial⟩]
 refine st (by simp[lastV]) (fun _=>rfl) fun _=>?_
 rw[z7 ⟨fun h=>(hg True trivial (y24 h.1)).1,fun h=>(hg True trivial (y24 h.1)).2,trivial⟩]
 refine st (by unfold vAt lastV; exact sa) (fun _=>rfl) fun _=>?_
 refine sr fun _=>?_
 simp only[yp,yq,y1m]
 rw[Ga,Ga,Ga,Ga,Ga]
 rfl
theorem zfn (hb:Small b) (r n:Int):F_q6h b r n=some (releaseS b r n):=by
 have h2:=hb.1
 obtain⟨h1,h3,h4,h5⟩:=h2
 open Classical in simp only[F_q6h,S_q6h,Scr.den,z2b hb,z24,z8h,obind,z9,z2g hb.1,yo]
 unfold releaseS
 refine st (by (simp only[yi,yh])) (fun _=>rfl) fun hV=>?_
 refine sr fun hn=>?_
 refine sr fun _=>?_
 refine sr fun _=>?_
 have hn:=nnm hn
 rw[z1o hn h1]
 simp only[yl]
 rw[Ga,Ga,Ga,Gc,Ga]
 rfl
theorem zkp (hb:Small b) (c n:Int):F_q6i b c n=some (dropS b c n):=by
 have h2:=hb.1
 obtain⟨h1,h3,h4,h5⟩:=h2
 open Classical in simp only[F_q6i,S_q6i,Scr.den,z2b hb,z24,z8g,obind,z9,z2g hb.1,yo]
 unfold dropS
 refine st (by (simp only[yi,yh])) (fun _=>rfl) fun hV=>?_
 refine sr fun hn=>?_
 refine sr fun _=>?_
 have hn:=nnm hn
 rw[z1o hn h3,Gb]
 refine st (by unfold cAt; exact sa) (fun _=>rfl) fun _=>?_
 simp only[yl]
 rw[Ga,Ga,Ga,Gb,Ga]
 rfl
theorem zn4 (hb:Small b) (r n:Int):F_q5x b r n=some (releaseS b r n):=by
 have h2:=hb.1
 obtain⟨h1,h3,h4,h5⟩:=h2
 open Classical in simp only[F_q5x,S_q5x,Scr.den,Valid_eq hb,z39,z26,ztz,obind,z2a hb.1,yo]
 unfold releaseS
 refine st (by (simp only[yi,yh])) (fun _=>rfl) fun hV=>?_
 refine st (by (simp only[yi,yh])) (fun _=>rfl) fun hn=>?_
 refine st (by (simp only[yi,yh])) (fun _=>rfl) fun _=>?_
 refine sr fun _=>?_
 have hn:=nnm hn
 rw[z1o hn h1]
 simp only[yl]
 rw[Ga,Ga,Ga,Gc,Ga]
 rfl
theorem zu2 (hb:Small b) (c n:Int):F_q5y b c n=some (dropS b c n):=by
 have h2:=hb.1
 obtain⟨h1,h3,h4,h5⟩:=h2
 open Classical in simp only[F_q5y,S_q5y,Scr.den,Valid_eq hb,z39,z26,zfk,obind,z2a hb.1,yo]
 unfold dropS
 refine st (by (simp only[yi,yh])) (fun _=>rfl) fun hV=>?_
 refine st (by (simp only[yi,yh])) (fun _=>rfl) fun hn=>?_
 refine st (by (simp only[yi,yh])) (fun _=>rfl) fun _=>?_
 have hn:=nnm hn
 rw[z1o hn h3,Gb]
 refine st (by unfold cAt; exact sa) (fun _=>rfl) fun _=>?_
 simp only[yl]
 rw[Ga,Ga,Ga,Gb,Ga]
 rfl
variable {v:Int}
theorem z8q (h:0<(ordersOf b.W v).length):∃ i,i<b.W.length/\b.W.getD i dF=lastV b v/\(lastV b v).X=v/\ordersOf (b.W.drop (i+1)) v=[]:=by
 have key:∀ l:List TOr,0<(ordersOf l v).length->∃ i,i<l.length/\l.getD i dF=(ordersOf l v).getLastD noOrder/\((ordersOf l v).getLastD noOrder).X=v/\ordersOf (l.drop (i+1)) v=[]:=by
  intro l
  induction l with
  | nil=>intro h; simp[ordersOf] at h
  | cons o l ih =>
   intro h
   by_cases h':0<(ordersOf l v).length
   ·obtain⟨i,h1,h2,h3,h4⟩:=ih h'
    have e:(ordersOf (o :: l) v).getLastD noOrder=(ordersOf l v).getLastD noOrder:=by
     unfold ordersOf at h' |-
     rw[y33]
     split
     ·rw[List.getLastD_cons,y4m,y4m]
      rw[List.getLast?_eq_getElem?,yd om]
      rfl
     ·rfl
    exact⟨i+1,sk,by rw[y3p,e]; exact h2,by rw[e]; exact h3,by rw[List.drop_succ_cons]; exact h4⟩
   ·have e:ordersOf l v=[]:=List.eq_nil_of_length_eq_zero om
    have e2:ordersOf (o :: l) v=if (o.X==v)=true then [o] else []:=by
     unfold ordersOf at e |-
     rw[y33,e]
    rw[e2] at h |-
    by_cases ho:(o.X==v)=true
    ·rw[y8 ho]
     exact⟨0,sj,rfl,eq_of_beq ho,by simpa using e⟩
    ·rw[y7 ho] at h; simp at h
 exact key b.W h
theorem z3v {l:List TOr} {x:TOr}:x∈ordersOf l v↔x∈l/\x.X=v:=by
 unfold ordersOf; rw[y2m,y15]
variable {j:Nat}
theorem zco (hO:OAll b) (hij:i<j) (hj:j<b.W.length) (hv:(b.W.getD i dF).X=(b.W.getD j dF).X):(b.W.getD i dF).Al=true/\(b.W.getD i dF).Ab<=(b.W.getD j dF).Ab:=by
 have h:=(hO j hj).2.2.2.2.2.2
 have hm:b.W.getD i dF∈ordersOf (b.W.take j) (b.W.getD j dF).X:=by
  rw[z3v]
  refine⟨?_,hv⟩
  have e:b.W.getD i dF=(b.W.take j).getD i dF:=by
   simp only[ya,y4q]
   rw[y8 hij]
  rw[e]
  exact z8 (by rw[y1k]; omega)
 have:=List.any_eq_false.mp h _ hm
 simp only[ye,yi,y9,y4w] at this
 exact⟨by simpa using this.1,om⟩
theorem zkq (hb:Small b) (v:Int):F_q6j b v=some (backS b v):=by
 have h2:=hb.1
 obtain⟨h1,h3,h4,h5⟩:=h2
 open Classical in simp only[F_q6j,S_q6j,Scr.den,z2b hb,zlt h5,obind,z9,z2g hb.1,yo]
 unfold backS
 refine st (by (simp only[yi,yh])) (fun _=>rfl) fun hV=>?_
 refine sr fun hn=>?_
 refine st sj (fun _=>rfl) fun hl=>?_
 have hV:=nnm hV
 obtain⟨i,hi,he,_,_⟩:=z8q (b:=b) (v:=v) om
 have hnum:=(hV.2.2.2.2.2.1 i hi).1
 rw[he] at hnum
 have w:i64.wrap ((lastV b v).Q-1)=i:=by rw[wrapId om om]; omega
 rw[w]
 simp only[yl,yg,he]
 rw[Ga,Ga,Ga,Gc,Ga]
 rw[show ((lastV b v).Q-1).toNat=i from om]
 rfl
theorem zu3 (hb:Small b) (v:Int):F_q2q b v=some (backS b v):=by
 have h2:=hb.1
 obtain⟨h1,h3,h4,h5⟩:=h2
 open Classical in simp only[F_q2q,S_q2q,Scr.den,Valid_eq hb,z26,obind,z2a hb.1]
 unfold backS
 refine st (by (simp only[yi,yh])) (fun _=>rfl) fun hV=>?_
 refine st (by (simp only[yi,yh])) (fun _=>rfl) fun hn=>?_
 have hV:=nnm hV
 rw[Ga,Ga,Ga,Ga]
 rcases zdf b.W (fun o=>o.X==v&&!o.Al) (fun i=>(withO b (b.W.set i ⟨(b.W.getD i dF).Q,(b.W.getD i dF).X,(b.W.getD i dF).Ak,(b.W.getD i dF).Ab,true⟩),(0:Int))) (body:=fun i s=>(S_q2q_b1 v (b.C,b.F,b.I,b.W) i s).den) (fun i hi=>by
  simp only[S_q2q_b1,Scr.den,yo,zd,yl]
  rw[z7 ⟨hi,fun _=>hi,trivial⟩,Ga]
  split <;> rfl) with ⟨e1,e2⟩ | ⟨i,e1,e2,e3,e4⟩
 ·rw[e1]
  simp only[outM]
  rw[y8]
  ·rfl
  ·by_cases hl:(ordersOf b.W v).length=0
   ·exact .inl hl
   ·right
    obtain⟨i,hi,he,hv,_⟩:=z8q (b:=b) (v:=v) om
    have:=e2 _ (z8 hi)
    rw[he,hv] at this
    simpa using this
 ·rw[e4]
  simp only[outM]
  simp only[yj,y15,yi] at e2
  have hmem:b.W.getD i dF∈ordersOf b.W v:=z3v.mpr ⟨z8 e1,e2.1⟩
  have hpos:0<(ordersOf b.W v).length:=y4y hmem
  obtain⟨j,hj,he,hv,hd⟩:=z8q hpos
  have hij:i=j:=by
   rcases y3v i j with h | h | h
   ·have:=(zco hV.2.2.2.2.2.1 h hj (by rw[he,hv]; exact e2.1)).1
    rw[e2.2] at this; cases this
   ·exact h
   ·exfalso
    have:b.W.getD i dF∈ordersOf (b.W.drop (j+1)) v:=by
     rw[z3v]
     refine⟨?_,e2.1⟩
     have e:b.W.getD i dF=(b.W.drop (j+1)).getD (i-(j+1)) dF:=by
      simp only[ya,y2l]
      rw[show j+1+(i-(j+1))=i from om]
     rw[e]
     exact z8 (by rw[y2v]; omega)
    rw[hd] at this; cases this
  subst hij
  rw[he] at e2
  rw[y7 (by rw[e2.2]; simp; exact List.ne_nil_of_length_pos hpos),he]
  have hnum:=(hV.2.2.2.2.2.1 i hj).1
  rw[he] at hnum
  rw[show ((lastV b v).Q-1).toNat=i from om]
  rfl
theorem z3e [Inhabited α] (l:List α) (x:α) (i:Nat) (hi:i<l.length):(l++[x]).getD i dF=l.getD i dF:=by
 simp only[ya]
 rw[yn hi]
theorem z4q [Inhabited α] (l:List α) (x:α):(l++[x]).getD l.length dF=x:=by
 simp[List.getD_eq_getElem?_getD]
theorem z5u [Inhabited α] (l:List α) (x:α) (k i:Nat) (hk:k<l.length):(l.set k x).getD i dF=if i=k then x else l.getD i dF:=by
 simp only[ya,y4v]
 by_cases h:k=i
 ·subst h; simp[hk]
 ·rw[y7 h,y7 (fun e=>h e.symm)]
variable {c:Int} {p:α->Bool} {f:α->Int}
theorem zn5 {l:List α} (h:∀ x∈l,0<=f x/\f x<=c) (hl:l.length<=200) (hc:0<=c):0<=sm l p f/\sm l p f<=200 * c:=by
 have h1:=zgt (p:=p) fun x hx=>(h x hx).1
 have h2:=zwk (p:=p) (fun x hx=>(h x hx).2) hc
 have h3:(l.length:Int) * c<=200 * c:=Int.mul_le_mul_of_nonneg_right om hc
 omega
theorem CAll.mem (h:CAll b) {c:TCo} (hc:c∈b.F):CFld b c c.Q/\c=cAt b c.Q/\1<=c.Q/\c.Q<=b.F.length:=by
 obtain⟨i,hi,e⟩:=z13 hc
 have h1:=h i hi
 rw[e] at h1
 have hn:=h1.1
 rw[hn]
 refine⟨h1,?_,om,om⟩
 unfold cAt
 rw[<- e]
 congr 1
 omega
theorem RAll.mem (h:RAll b) {r:TRe} (hr:r∈b.C):RFld r r.Q/\r=rAt b r.Q/\1<=r.Q/\r.Q<=b.C.length:=by
 obtain⟨i,hi,e⟩:=z13 hr
 have h1:=h i hi
 rw[e] at h1
 have hn:=h1.1
 rw[hn]
 refine⟨h1,?_,om,om⟩
 unfold rAt
 rw[<- e]
 congr 1
 omega
theorem VAll.mem (h:VAll b) {v:TVe} (hv:v∈b.I):VFld b v v.Q/\v=vAt b v.Q/\1<=v.Q/\v.Q<=b.I.length:=by
 obtain⟨i,hi,e⟩:=z13 hv
 have h1:=h i hi
 rw[e] at h1
 have hn:=h1.1
 rw[hn]
 refine⟨h1,?_,om,om⟩
 unfold vAt
 rw[<- e]
 congr 1
 omega
theorem zj9 (h:Val b) (n:Int):0<=cmt b n/\cmt b n<=200000000000000:=by
 have:=zn5 (l:=b.F) (p:=fun c=>c.Y==n) (f:=(·.V)) (c:=1000000000000) (fun c hc=>by
  have:=(h.2.1.mem hc).1.2.2.2.1
  unfold amtP at this
  omega) h.2.2.2.2.2.2.2.1 om
 exact this
theorem zja (h:Val b) (n:Int):0<=ver b n/\ver b n<=200000000000000:=by
 have:=zn5 (l:=b.I) (p:=fun c=>c.Ac==n) (f:=(·.V)) (c:=1000000000000) (fun c hc=>by
  have:=(h.2.2.2.1.mem hc).1.2.2.2.1
  unfold amtP at this
  omega) h.2.2.2.2.2.2.2.2.1 om
 exact this
theorem z9n (h:Val b) {r:TRe} (hr:r∈b.C):leftV b r=r.V-r.Ad-cmt b r.Q/\0<=leftV b r:=by
 have h1:=zj9 h r.Q
 have h2:=(h.1.mem hr).1
 have h3:=h2.2.2.2.2.2.1
 have h4:=h2.2.2.2.2.2.2
 unfold amtP at h3
 exact⟨wrapId om om,h.2.2.1 r hr⟩
theorem zjb (h:Val b) {c:TCo} (hc:c∈b.F):restV b c=c.V-c.Ad-ver b c.Q/\0<=restV b c:=by
 have h1:=zja h c.Q
 have h2:=(h.2.1.mem hc).1
 have h3:=h2.2.2.2.1
 have h4:=h2.2.2.2.2.1
 unfold amtP at h3
 exact⟨wrapId om om,h.2.2.2.2.1 c hc⟩
theorem zfo (hn:1<=n/\n<=b.C.length):rAt b n∈b.C:=z8 om
theorem zu4 (hn:1<=n/\n<=b.F.length):cAt b n∈b.F:=z8 om
theorem valR (h:Val b) {l:List TRe} (hl:b.C.length<=l.length) (h200:l.length<=200) (hR:∀ i,i<l.length->RFld (l.getD i dF) (i+1)) (hs:∀ i,i<b.C.length->(l.getD i dF).Ab=(b.C.getD i dF).Ab/\(l.getD i dF).D=(b.C.getD i dF).D) (hL:∀ r∈l,0<=leftV b r):Val (withR b l):=by
 have hr:∀ n:Int,1<=n/\n<=b.C.length->(rAt (withR b l) n).Ab=(rAt b n).Ab/\(rAt (withR b l) n).D=(rAt b n).D:=fun n hn=>hs (n-1).toNat om
 have hy:∀ n:Int,1<=n/\n<=b.F.length->yearOf (withR b l) n=yearOf b n:=fun n hn=>(hr _ (h.2.1.at hn).2.1).2
 refine⟨hR,fun i hi=>?_,hL,fun i hi=>?_,h.2.2.2.2.1,fun i hi=>?_,h200,h.2.2.2.2.2.2.2⟩
 ·change CFld (withR b l) (b.F.getD i dF) _
  obtain⟨a1,a2,a3,a4,a5,a6,a7,a8,a9⟩:=h.2.1 i hi
  obtain⟨b1,b2⟩:=hr _ a2
  exact⟨a1,⟨a2.1,y3c a2.2 (by simpa [withR] using hl)⟩,a3,a4,a5,a6,a7,by rw[b1]; exact a8,by rw[b2]; exact a9⟩
 ·change VFld (withR b l) (b.I.getD i dF) _
  obtain⟨a1,a2,a3,a4,a5,a6⟩:=h.2.2.2.1 i hi
  exact⟨a1,a2,a3,a4,a5,by rw[hy _ a2]; exact a6⟩
 ·change OFld (withR b l) (b.W.getD i dF) (b.W.take i) _
  obtain⟨a1,a2,a3,a4,a5,a6⟩:=h.2.2.2.2.2.1 i hi
  exact⟨a1,a2,a3,a4,by rw[show vAt (withR b l)=vAt b from rfl,hy _ (h.2.2.2.1.at a2).2.1]; exact a5,a6⟩
theorem valC (h:Val b) {l:List TCo} (hl:b.F.length<=l.length) (h200:l.length<=200) (hC:∀ i,i<l.length->CFld b (l.getD i dF) (i+1)) (hs:∀ i,i<b.F.length->(l.getD i dF).Ab=(b.F.getD i dF).Ab/\(l.getD i dF).Y=(b.F.getD i dF).Y) (hL:∀ r∈b.C,0<=leftV (withC b l) r) (hV:∀ c∈l,0<=restV b c):Val (withC b l):=by
 have hr:∀ n:Int,1<=n/\n<=b.F.length->(cAt (withC b l) n).Ab=(cAt b n).Ab/\(cAt (withC b l) n).Y=(cAt b n).Y:=fun n hn=>hs (n-1).toNat om
 have hy:∀ n:Int,1<=n/\n<=b.F.length->yearOf (withC b l) n=yearOf b n:=fun n hn=>by
  unfold yearOf
  rw[(hr n hn).2]
  rfl
 refine⟨h.1,hC,hL,fun i hi=>?_,hV,fun i hi=>?_,h.2.2.2.2.2.2.1,h200,h.2.2.2.2.2.2.2.2⟩
 ·change VFld (withC b l) (b.I.getD i dF) _
  obtain⟨a1,a2,a3,a4,a5,a6⟩:=h.2.2.2.1 i hi
  exact⟨a1,⟨a2.1,y3c a2.2 (by simpa [withC] using hl)⟩,a3,a4,by rw[(hr _ a2).1]; exact a5,by rw[hy _ a2]; exact a6⟩
 ·change OFld (withC b l) (b.W.getD i dF) (b.W.take i) _
  obtain⟨a1,a2,a3,a4,a5,a6⟩:=h.2.2.2.2.2.1 i hi
  exact⟨a1,a2,a3,a4,by rw[show vAt (withC b l)=vAt b from rfl,hy _ (h.2.2.2.1.at a2).2.1]; exact a5,a6⟩
theorem valV (h:Val b) {l:List TVe} (hl:b.I.length<=l.length) (h200:l.length<=200) (hV:∀ i,i<l.length->VFld b (l.getD i dF) (i+1)) (hs:∀ i,i<b.I.length->l.getD i dF=b.I.getD i dF) (hL:∀ c∈b.F,0<=restV (withV b l) c):Val (withV b l):=by
 have hr:∀ n:Int,1<=n/\n<=b.I.length->vAt (withV b l) n=vAt b n:=fun n hn=>hs (n-1).toNat om
 refine⟨h.1,h.2.1,h.2.2.1,hV,hL,fun i hi=>?_,h.2.2.2.2.2.2.1,h.2.2.2.2.2.2.2.1,h200,h.2.2.2.2.2.2.2.2.2⟩
 change OFld (withV b l) (b.W.getD i dF) (b.W.take i) _
 obtain⟨a1,a2,a3,a4,a5,a6⟩:=h.2.2.2.2.2.1 i hi
 exact⟨a1,⟨a2.1,y3c a2.2 (by simpa [withV] using hl)⟩,a3,by rw[hr _ a2]; exact a4,by rw[hr _ a2]; exact a5,a6⟩
theorem valO (h:Val b) {l:List TOr} (h200:l.length<=200) (hO:∀ i,i<l.length->OFld b (l.getD i dF) (l.take i) (i+1)):Val (withO b l) :=
 ⟨h.1,h.2.1,h.2.2.1,h.2.2.2.1,h.2.2.2.2.1,hO,h.2.2.2.2.2.2.1,h.2.2.2.2.2.2.2.1,h.2.2.2.2.2.2.2.2.1,h200⟩
theorem zjc (h:Val b) (hn:(b.C.length:Int)<n):cmt b n=0:=by
 unfold cmt
 rw[z9k (q:=fun _=>false) (g:=fun _=>0) fun c hc=>by
  have:=(h.2.1.mem hc).1.2.1
  rw[y7 sk]; rfl]
 have:∀ l:List TCo,sm l (fun _=>false) (fun _=>0)=0:=fun l=>by induction l with
  | nil=>rfl
  | cons x l ih=>rw[z1c,ih]; rfl
 exact this _
theorem zrx (h:Val b) (hn:(b.F.length:Int)<n):ver b n=0:=by
 unfold ver
 rw[z9k (q:=fun _=>false) (g:=fun _=>0) fun c hc=>by
  have:=(h.2.2.2.1.mem hc).1.2.1
  rw[y7 sk]; rfl]
 have:∀ l:List TVe,sm l (fun _=>false) (fun _=>0)=0:=fun l=>by induction l with
  | nil=>rfl
  | cons x l ih=>rw[z1c,ih]; rfl
 exact this _
variable {y:Int}
theorem zkr (h:Val b) (hg:good code=true) (hy:0<=y/\y<=99) (hd:dayP d) (hn:amtP n) (hyr:yr d=y) (hl:(b.C.length:Int)≠200):Val (withR b (b.C++[⟨b.C.length+1,code,y,d,n,0⟩])):=by
 have h200:=h.2.2.2.2.2.2.1
 have hn':=hn
 unfold amtP at hn'
 refine valR h sj sk (fun i hi=>?_) (fun i hi=>by rw[z3e _ _ _ hi]; exact⟨rfl,rfl⟩) fun r hr=>?_
 ·by_cases hi':i<b.C.length
  ·rw[z3e _ _ _ hi']; exact h.1 i hi'
  ·have:i=b.C.length:=by simp at hi; omega
   subst this
   rw[z4q]
   exact⟨rfl,hg,hy,hd,hyr,hn,by simp only; omega⟩
 ·rw[y1p,y2b] at hr
  rcases hr with hr | rfl
  ·exact h.2.2.1 r hr
  ·unfold leftV
   simp only
   rw[zjc h om,wrapId om om]
   omega
theorem zks (h:Val b) {r:Int} (hr:1<=r/\r<=b.C.length) (hn:amtP n) (hL:n<=leftN b r):Val (withR b (b.C.set (r-1).toNat ⟨(rAt b r).Q,(rAt b r).B,(rAt b r).D,(rAt b r).Ab,(rAt b r).V,i64.wrap ((rAt b r).Ad+n)⟩)):=by
 have h200:=h.2.2.2.2.2.2.1
 have hm:=zfo hr
 obtain⟨f1,f2,f3,f4,f5,f6,f7⟩:=h.1.at hr
 obtain⟨l1,l2⟩:=z9n h hm
 have hc:=zj9 h (rAt b r).Q
 rw[zj7 h.1 hr] at hL
 unfold amtP at hn f6
 have hw:i64.wrap ((rAt b r).Ad+n)=(rAt b r).Ad+n:=wrapId om om
 rw[hw]
 have hk:(r-1).toNat<b.C.length:=om
 refine valR h sj sk (fun i hi=>?_) (fun i hi=>?_) fun x hx=>?_
 ·rw[z5u _ _ _ _ hk]
  split
  ·rename_i e
   refine⟨by simp only; omega,f2,f3,f4,f5,f6,by simp only; omega⟩
  ·exact h.1 i (by simpa using hi)
 ·rw[z5u _ _ _ _ hk]
  split
  ·rename_i e
   subst e
   exact⟨rfl,rfl⟩
  ·exact⟨rfl,rfl⟩
 ·rcases y1v hx with hx | rfl
  ·exact h.2.2.1 x hx
  ·unfold leftV
   simp only
   rw[wrapId om om]
   omega
variable {u:Int}
theorem zn6 (h:Val b) {r p:Int} (hr:1<=r/\r<=b.C.length) (hd:dayP d) (hn:amtP n) (hp:1<=p/\p<=1000000) (hu:dayP u) (hy:yr d=(rAt b r).D) (hdr:(rAt b r).Ab<=d) (hL:n<=leftV b (rAt b r)) (hl:(b.F.length:Int)≠200):Val (withC b (b.F++[⟨b.F.length+1,r,d,n,0,p,u⟩])):=by
 have h200:=h.2.2.2.2.2.2.2.1
 have hn':=hn
 unfold amtP at hn'
 have hrm:=zfo hr
 obtain⟨l1,l2⟩:=z9n h hrm
 refine valC h sj sk (fun i hi=>?_) (fun i hi=>by rw[z3e _ _ _ hi]; exact⟨rfl,rfl⟩) (fun x hx=>?_) fun c hc=>?_
 ·by_cases hi':i<b.F.length
  ·rw[z3e _ _ _ hi']; exact h.2.1 i hi'
  ·have:i=b.F.length:=by simp at hi; omega
   subst this
   rw[z4q]
   exact⟨rfl,hr,hd,hn,by simp only; omega,hp,hu,hdr,hy⟩
 ·obtain⟨x1,x2⟩:=z9n h hx
  unfold leftV
  have e:cmt (withC b (b.F++[⟨b.F.length+1,r,d,n,0,p,u⟩])) x.Q=cmt b x.Q+if (r==x.Q)=true then n else 0:=by
   unfold cmt withC
   simp only
   rw[z80,z1c,ze6]
   simp
  have hc:=zj9 h x.Q
  have hf:=(h.1.mem hx)
  have hf6:=hf.1.2.2.2.2.2.1
  have hf7:=hf.1.2.2.2.2.2.2
  unfold amtP at hf6
  rw[e]
  split
  ·rename_i er
   have er:=eq_of_beq er
   have:x=rAt b r:=by rw[er]; exact hf.2.1
   rw[<- this] at hL
   rw[wrapId om om]
   omega
  ·rw[wrapId om om]
   omega
 ·rw[y1p,y2b] at hc
  rcases hc with hc | rfl
  ·exact h.2.2.2.2.1 c hc
  ·unfold restV
   simp only
   rw[zrx h om,wrapId om om]
   omega
theorem zry (h:Val b) (hc:1<=c/\c<=b.F.length) (hn:amtP n) (hL:n<=restV b (cAt b c)):Val (withC b (b.F.set (c-1).toNat ⟨(cAt b c).Q,(cAt b c).Y,(cAt b c).Ab,(cAt b c).V,i64.wrap ((cAt b c).Ad+n),(cAt b c).Ah,(cAt b c).Aj⟩)):=by
 have h200:=h.2.2.2.2.2.2.2.1
 have hm:=zu4 hc
 obtain⟨f1,f2,f3,f4,f5,f6,f7,f8,f9⟩:=h.2.1.at hc
 obtain⟨l1,l2⟩:=zjb h hm
 have hv:=zja h (cAt b c).Q
 unfold amtP at hn
 have f4':=f4
 unfold amtP at f4'
 have hw:i64.wrap ((cAt b c).Ad+n)=(cAt b c).Ad+n:=wrapId om om
 rw[hw]
 have hk:(c-1).toNat<b.F.length:=om
 refine valC h sj sk (fun i hi=>?_) (fun i hi=>?_) (fun x hx=>?_) fun x hx=>?_
 ·rw[z5u _ _ _ _ hk]
  split
  ·rename_i e
   exact⟨by simp only; omega,f2,f3,f4,by simp only; omega,f6,f7,f8,f9⟩
  ·exact h.2.1 i (by simpa using hi)
 ·rw[z5u _ _ _ _ hk]
  split
  ·rename_i e
   subst e
   exact⟨rfl,rfl⟩
  ·exact⟨rfl,rfl⟩
 ·have e:∀ m,cmt (withC b (b.F.set (c-1).toNat ⟨(cAt b c).Q,(cAt b c).Y,(cAt b c).Ab,(cAt b c).V,(cAt b c).Ad+n,(cAt b c).Ah,(cAt b c).Aj⟩)) m=cmt b m:=fun m=>by
   unfold cmt withC
   simp only
   rw[zj3 hk _ _ _ dF]
   change _-(if ((cAt b c).Y==m)=true then (cAt b c).V else 0)+(if ((cAt b c).Y==m)=true then (cAt b c).V else 0)=_
   omega
  unfold leftV
  rw[e]
  exact h.2.2.1 x hx
 ·rcases y1v hx with hx | rfl
  ·exact h.2.2.2.2.1 x hx
  ·unfold restV
   simp only
   rw[wrapId om om]
   omega
theorem zn7 (h:Val b) (hc:1<=c/\c<=b.F.length) (hd:dayP d) (hn:amtP n) (hy:yr d<=yearOf b c+1) (hdc:(cAt b c).Ab<=d) (hL:n<=restV b (cAt b c)) (hl:(b.I.length:Int)≠200):Val (withV b (b.I++[⟨b.I.length+1,c,d,n⟩])):=by
 have h200:=h.2.2.2.2.2.2.2.2.1
 have hn':=hn
 unfold amtP at hn'
 refine valV h sj sk (fun i hi=>?_) (fun i hi=>z3e _ _ _ hi) fun x hx=>?_
 ·by_cases hi':i<b.I.length
  ·rw[z3e _ _ _ hi']; exact h.2.2.2.1 i hi'
  ·have:i=b.I.length:=by simp at hi; omega
   subst this
   rw[z4q]
   exact⟨rfl,hc,hd,hn,hdc,hy⟩
 ·obtain⟨x1,x2⟩:=zjb h hx
  unfold restV
  have e:ver (withV b (b.I++[⟨b.I.length+1,c,d,n⟩])) x.Q=ver b x.Q+if (c==x.Q)=true then n else 0:=by
   unfold ver withV
   simp only
   rw[z80,z1c,ze6]
   simp
  have hv:=zja h x.Q
  have hf:=(h.2.1.mem hx)
  have hf6:=hf.1.2.2.2.1
  have hf7:=hf.1.2.2.2.2.1
  unfold amtP at hf6
  rw[e]
  split
  ·rename_i er
   have er:=eq_of_beq er
   have:x=cAt b c:=by rw[er]; exact hf.2.1
   rw[<- this] at hL
   rw[wrapId om om]
   omega
  ·rw[wrapId om om]
   omega
theorem zpg (h:Val b) (hv:1<=v/\v<=b.I.length) (hd:dayP d) (hy:yr d<=yearOf b (vAt b v).Ac+1) (hdv:(vAt b v).Ab<=d) (hb:0<(ordersOf b.W v).length->(lastV b v).Al=true/\(lastV b v).Ab<=d) (hl:(b.W.length:Int)≠200):Val (withO b (b.W++[⟨b.W.length+1,v,(ordersOf b.W v).length+1,d,false⟩])):=by
 have h200:=h.2.2.2.2.2.2.2.2.2
 refine valO h sk fun i hi=>?_
 by_cases hi':i<b.W.length
 ·rw[z3e _ _ _ hi',List.take_append_of_le_length om]; exact h.2.2.2.2.2.1 i hi'
 ·have:i=b.W.length:=by simp at hi; omega
  subst this
  rw[z4q,List.take_left]
  refine⟨rfl,hv,hd,hdv,hy,rfl,?_⟩
  rw[List.any_eq_false]
  intro x hx
  obtain⟨hx1,hx2⟩:=z3v.mp hx
  obtain⟨j,hj,he⟩:=z13 hx1
  obtain⟨k,hk,hke,hkv,hkd⟩:=z8q (b:=b) (v:=v) (y4y hx)
  obtain⟨hb1,hb2⟩:=hb (y4y hx)
  simp only at hx2
  have:x.Al=true/\x.Ab<=d:=by
   rcases y3v j k with hjk | hjk | hjk
   ·have:=zco h.2.2.2.2.2.1 hjk hk (by rw[he,hke,hx2,hkv])
    rw[he,hke] at this
    exact⟨this.1,om⟩
   ·subst hjk
    rw[<- he,hke]; exact⟨hb1,hb2⟩
   ·exfalso
    have hm:x∈ordersOf (b.W.drop (k+1)) v:=by
     rw[z3v]
     refine⟨?_,hx2⟩
     have e:x=(b.W.drop (k+1)).getD (j-(k+1)) dF:=by
      rw[<- he]
      simp only[ya,y2l]
      rw[show k+1+(j-(k+1))=j from om]
     rw[e]
     exact z8 (by rw[y2v]; omega)
    rw[hkd] at hm; cases hm
  simp only[this.1,y29,y3t,y9]
  omega
theorem zph (l:List TOr) (i:Nat) (y:TOr) (hi:i<l.length) (hy:y.X=(l.getD i dF).X/\y.Ab=(l.getD i dF).Ab/\y.Al=true) (v d:Int) :
  (ordersOf (l.set i y) v).length=(ordersOf l v).length/\((ordersOf l v).any (fun x=>!x.Al||decide (x.Ab>d))=false->(ordersOf (l.set i y) v).any (fun x=>!x.Al||decide (x.Ab>d))=false):=by
 induction l generalizing i with
 | nil=>simp at hi
 | cons x l ih =>
  unfold ordersOf at ih |-
  cases i with
  | zero =>
   rw[y4n,y33,y33]
   rw[y4j] at hy
   rw[hy.1]
   split
   ·simp only[yq,y50,hy.2.1,hy.2.2,y29,y3t,y37]
    exact⟨trivial,fun h=>⟨h.1.2,h.2⟩⟩
   ·exact⟨rfl,fun h=>h⟩
  | succ i =>
   rw[y3p] at hy
   have:=ih i (by simpa using hi) hy
   rw[y4o,y33,y33]
   split
   ·simp only[yq,y50,y37]
    exact⟨by rw[this.1],fun h=>⟨h.1,this.2 h.2⟩⟩
   ·exact this
theorem zrz (h:Val b) (hl:0<(ordersOf b.W v).length):Val (withO b (b.W.set ((lastV b v).Q-1).toNat ⟨(lastV b v).Q,(lastV b v).X,(lastV b v).Ak,(lastV b v).Ab,true⟩)):=by
 have h200:=h.2.2.2.2.2.2.2.2.2
 obtain⟨i,hi,he,hv,hd⟩:=z8q hl
 have hf:=h.2.2.2.2.2.1 i hi
 rw[he] at hf
 rw[show ((lastV b v).Q-1).toNat=i by have:=hf.1; omega]
 refine valO h sk fun j hj=>?_
 rw[yl] at hj
 have hj':=h.2.2.2.2.2.1 j hj
 have key:∀ u d:Int,(ordersOf ((b.W.set i ⟨(lastV b v).Q,(lastV b v).X,(lastV b v).Ak,(lastV b v).Ab,true⟩).take j) u).length=(ordersOf (b.W.take j) u).length/\((ordersOf (b.W.take j) u).any (fun x=>!x.Al||decide (x.Ab>d))=false->(ordersOf ((b.W.set i ⟨(lastV b v).Q,(lastV b v).X,(lastV b v).Ak,(lastV b v).Ab,true⟩).take j) u).any (fun x=>!x.Al||decide (x.Ab>d))=false):=fun u d=>by
  rw[List.take_set]
  by_cases hij:i<j
  ·have e:(b.W.take j).getD i dF=lastV b v:=by
    rw[<- he]
    simp only[ya,y4q]
    rw[y8 hij]
   exact zph _ i _ (by rw[y1k]; omega) (by rw[e]; exact⟨rfl,rfl,rfl⟩) u d
  ·rw[List.set_eq_of_length_le (by rw[y1k]; omega)]
   exact⟨rfl,fun h=>h⟩
 rw[z5u _ _ _ _ hi]
 split
 ·rename_i e
  subst e
  rw[he] at hj'
  obtain⟨a1,a2,a3,a4,a5,a6,a7⟩:=hj'
  exact⟨a1,a2,a3,a4,a5,by rw[(key _ 0).1]; exact a6,(key _ _).2 a7⟩
 ·obtain⟨a1,a2,a3,a4,a5,a6,a7⟩:=hj'
  exact⟨a1,a2,a3,a4,a5,by rw[(key _ 0).1]; exact a6,(key _ _).2 a7⟩
def TapeOk (s:TTape):Prop:=0<=s.at_/\s.l.length<=500/\s.at_<=s.l.length
theorem zs0 (t:List Int):∃ s,F_q6c t=some s/\TapeOk s:=by
 simp only[F_q6c,S_q6c,Scr.den]
 refine⟨_,zgs ⟨?_,?_,trivial⟩ rfl,sj,?_,sj⟩
 ·split <;> omega
 ·split <;> omega
 ·simp only[y1k]
  split <;> omega
variable {s:TTape}
theorem z1d (hs:TapeOk s) (h1:1<=n) (hn:n<=4611686018427387904):∃ v s',F_q2 n s=some (v,s')/\TapeOk s'/\0<=v/\v<n:=by
 obtain⟨a1,a2,a3⟩:=hs
 simp only[F_q2,S_q2,Scr.den]
 by_cases hc:s.at_>=(s.l.length:Int)
 ·rw[y8 (by simp[hc])]
  exact⟨0,s,rfl,⟨a1,a2,a3⟩,om,om⟩
 ·rw[y7 sk]
  have e1:i64.wrap (s.at_+1)=s.at_+1:=wrapId om om
  rw[e1,Gc]
  generalize s.l.getD s.at_.toNat dF=x
  have t1:x.tmod n<n:=Int.tmod_lt_of_pos x om
  have t2:-n<x.tmod n:=Int.lt_tmod_of_pos x om
  have e3:i64.wrap (x.tmod n+n)=x.tmod n+n:=wrapId om om
  rw[e3]
  have ht:TapeOk ⟨s.l,s.at_+1⟩:=⟨by simp only; omega,a2,by simp only; omega⟩
  split
  ·rename_i h
   simp only[y9] at h
   exact⟨_,_,rfl,ht,om,om⟩
  ·rename_i h
   simp only[y9] at h
   exact⟨_,_,rfl,ht,om,om⟩
theorem z29 {lo hi:Int} (hs:TapeOk s) (h0:-1000000000000000<=lo) (h1:lo<=hi) (h2:hi<=1000000000000000):∃ v s',F_q16 lo hi s=some (v,s')/\TapeOk s'/\lo<=v/\v<=hi:=by
 simp only[F_q16,S_q16,Scr.den]
 rw[wrapId (n:=hi-lo) om om,wrapId (n:=hi-lo+1) om om]
 obtain⟨v,s',h3,h4,h5,h6⟩:=z1d (n:=hi-lo+1) hs om om
 refine⟨lo+v,s',?_,h4,om,om⟩
 rw[h3,obind]
 simp only
 rw[wrapId (n:=lo+v) om om]
theorem z10 {l:List Int} (hs:TapeOk s) (h0:1<=l.length) (h1:l.length<=100):∃ v s',F_q6 l s=some (v,s')/\TapeOk s'/\v∈l:=by
 simp only[F_q6,S_q6,Scr.den]
 obtain⟨v,s',h3,h4,h5,h6⟩:=z1d (n:=(l.length:Int)) hs om om
 refine⟨_,s',?_,h4,z8 (show v.toNat<l.length from om)⟩
 rw[h3,obind,z7 ⟨by simpa using h5,by simp only; omega,trivial⟩]
theorem zjd (hs:TapeOk s):∃ c s',F_q6l s=some (c,s')/\TapeOk s'/\c.length<=60/\good c=true:=by
 simp only[F_q6l,S_q6l,Scr.den]
 obtain⟨v,s',h3,h4,h5,h6⟩:=z1d (n:=3) hs om om
 have h:∀ c∈([[49],[49,46,50],[50]]:List Y8),c.length<=60/\good c=true:=dk
 refine⟨_,s',?_,h4,h _ (z8 (show v.toNat<3 from om))⟩
 rw[h3,obind,z7 ⟨by simpa using h5,by simp only; omega,trivial⟩]
theorem zpi:Val nb:=by
 refine⟨fun i hi=>?_,fun i hi=>?_,fun r hr=>?_,fun i hi=>?_,fun r hr=>?_,fun i hi=>?_,dk,dk,dk,dk⟩
 ·exact absurd hi (y3k _)
 ·exact absurd hi (y3k _)
 ·cases hr
 ·exact absurd hi (y3k _)
 ·cases hr
 ·exact absurd hi (y3k _)
def mt (b:TBo) (code:Y8) (y n:Int):Bool:=(rAt b n).B==code&&(rAt b n).D==y
theorem zwl:i64.wrap 0=0:=wrapId om om
def eV:TVe:=⟨1,1,4340,50⟩
theorem zu5 (b:TBo) (c:TCo) (m:Int):rel (withC b (b.F++[c])) m=rel b m+if (c.Y==m)=true then c.Ad else 0:=by
 unfold rel withC
 simp only
 rw[z80,z1c,ze6]
 simp
theorem zs1 (b:TBo) (c:TCo) (h0:c.Ad=0) (code:Y8) (y:Int):usedV (withC b (b.F++[c])) code y=usedV b code y:=by
 unfold usedV
 congr 1
 change sm b.C _ _=sm b.C _ _
 refine z9k fun r _=>?_
 simp only[zu5,h0]
 simp
theorem zu6 (l:List α) (p:α->Bool):sm l p (fun _=>0)=0:=by
 induction l with
 | nil=>rfl
 | cons x l ih=>rw[z1c,ih]; split <;> rfl
theorem zpj {α:Type} [Inhabited α] {num:α->Int} {q:Int->Bool} {p:α->Bool} (a:Int):∀ (l:List α) (i:Nat),i<l.length->(∀ j,j<l.length->j≠i->num (l.getD j dF)≠num (l.getD i dF))->p (l.getD i dF)=q (num (l.getD i dF)) ->
  sm l p (fun x=>if (num (l.getD i dF)==num x)=true then a else 0)=if q (num (l.getD i dF))=true then a else 0
 | [],i,hi,_,_=>by simp at hi
 | x :: l,0,hi,hd,hp=>by
  rw[y4j] at hp hd |-
  rw[z1c,hp]
  have:sm l p (fun y=>if (num x==num y)=true then a else 0)=sm l p (fun _=>0):=z9k fun y hy=>by
   obtain⟨j,hj,e⟩:=z13 hy
   have:=hd (j+1) sk om
   rw[y3p,e] at this
   have e2:(num x==num y)=false:=by simpa using fun h=>this h.symm
   rw[e2]; simp
  rw[this,zu6]
  simp
 | x :: l,i+1,hi,hd,hp=>by
  rw[y3p] at hp hd |-
  rw[z1c,zpj a l i (by simpa using hi) (fun j hj hji=>by
   have:=hd (j+1) sk om
   rwa [y3p] at this) hp]
  have:=hd 0 sj om
  rw[y4j] at this
  have e2:(num (l.getD i dF)==num x)=false:=by simpa using fun h=>this h.symm
  rw[e2]; simp
theorem zvn (h:Val b) (code:Y8) (y:Int) {r:TRe} (hr:r∈b.C):mt b code y r.Q=(r.B==code&&r.D==y):=by
 unfold mt
 rw[<- (h.1.mem hr).2.1]
theorem zw {_:Decidable P} {a b:TBo×Int} (h:(if P then a else b).2=0) (ha:a.2≠0):(if P then a else b)=b/\¬ P:=by
 by_cases hp:P
 ·rw[y8 hp] at h; exact absurd h ha
 ·exact⟨y7 hp,hp⟩
theorem zje {r p:Int} (h0:(commitS b r d n p u).2=0) (code:Y8) (y:Int):usedV (commitS b r d n p u).1 code y=usedV b code y:=by
 unfold commitS at h0 |-
 obtain⟨e,_⟩:=zw h0 dk; rw[e] at h0 |-; clear e
 obtain⟨e,_⟩:=zw h0 dk; rw[e] at h0 |-; clear e
 obtain⟨e,_⟩:=zw h0 dk; rw[e] at h0 |-; clear e
 obtain⟨e,_⟩:=zw h0 dk; rw[e] at h0 |-; clear e
 obtain⟨e,_⟩:=zw h0 dk; rw[e] at h0 |-; clear e
 obtain⟨e,_⟩:=zw h0 dk; rw[e] at h0 |-; clear e
 obtain⟨e,_⟩:=zw h0 dk; rw[e] at h0 |-; clear e
 exact zs1 _ _ rfl _ _
theorem zjf (h0:(verifyS b c d n).2=0) (code:Y8) (y:Int):usedV (verifyS b c d n).1 code y=usedV b code y:=by
 unfold verifyS at h0 |-
 obtain⟨e,_⟩:=zw h0 dk; rw[e] at h0 |-; clear e
 obtain⟨e,_⟩:=zw h0 dk; rw[e] at h0 |-; clear e
 obtain⟨e,_⟩:=zw h0 dk; rw[e] at h0 |-; clear e
 obtain⟨e,_⟩:=zw h0 dk; rw[e] at h0 |-; clear e
 obtain⟨e,_⟩:=zw h0 dk; rw[e] at h0 |-; clear e
 obtain⟨e,_⟩:=zw h0 dk; rw[e] at h0 |-; clear e
 obtain⟨e,_⟩:=zw h0 dk; rw[e] at h0 |-; clear e
 rfl
theorem zkt (h0:(orderS b v d).2=0) (code:Y8) (y:Int):usedV (orderS b v d).1 code y=usedV b code y:=by
 unfold orderS at h0 |-
 obtain⟨e,_⟩:=zw h0 dk; rw[e] at h0 |-; clear e
 obtain⟨e,_⟩:=zw h0 dk; rw[e] at h0 |-; clear e
 obtain⟨e,_⟩:=zw h0 dk; rw[e] at h0 |-; clear e
 obtain⟨e,_⟩:=zw h0 dk; rw[e] at h0 |-; clear e
 obtain⟨e,_⟩:=zw h0 dk; rw[e] at h0 |-; clear e
 obtain⟨e,_⟩:=zw h0 dk; rw[e] at h0 |-; clear e
 obtain⟨e,_⟩:=zw h0 dk; rw[e] at h0 |-; clear e
 rfl
theorem zlv {l:List α} (h:∀ x∈l,p x=false):sm l p f=0:=by
 induction l with
 | nil=>rfl
 | cons x l ih=>rw[z1c,h x sj,ih fun y hy=>h y (by simp[hy])]; rfl
def zn8 (b:TBo):Prop:=b.C.length<=2000000/\b.F.length<=2000000/\b.I.length<=2000000/\b.W.length<=2000000
theorem zgw (h:zn8 b):F_q8 b b=some true:=by
 obtain⟨h1,h2,h3,h4⟩:=h
 simp only[F_q8,S_q8,Scr.den,z9]
 rw[y7 sj,Ga]
 obtain⟨_,e1,_⟩:=zq (body:=fun i s=>(S_q8_b1 b b i s).den) (n:=b.C.length) (fun _ _=>True) (s0:=()) trivial (fun i s hi _=>⟨(),by
  simp only[S_q8_b1,Scr.den]; rw[z7 ⟨hi,trivial⟩,y7 sj],trivial⟩)
 rw[e1]
 simp only[outM]
 rw[Ga]
 obtain⟨_,e1,_⟩:=zq (body:=fun i s=>(S_q8_b2 b b i s).den) (n:=b.F.length) (fun _ _=>True) (s0:=()) trivial (fun i s hi _=>⟨(),by
  simp only[S_q8_b2,Scr.den]; rw[z7 ⟨hi,trivial⟩,y7 sj],trivial⟩)
 rw[e1]
 skip
 rw[Ga]
 obtain⟨_,e1,_⟩:=zq (body:=fun i s=>(S_q8_b3 b b i s).den) (n:=b.I.length) (fun _ _=>True) (s0:=()) trivial (fun i s hi _=>⟨(),by
  simp only[S_q8_b3,Scr.den]; rw[z7 ⟨hi,trivial⟩,y7 sj],trivial⟩)
 rw[e1]
 skip
 rw[Ga]
 obtain⟨_,e1,_⟩:=zq (body:=fun i s=>(S_q8_b4 b b i s).den) (n:=b.W.length) (fun _ _=>True) (s0:=()) trivial (fun i s hi _=>⟨(),by
  simp only[S_q8_b4,Scr.den]; rw[z7 ⟨hi,trivial⟩,y7 sj],trivial⟩)
 rw[e1]
theorem z4k (b:TBo) (code:Y8) (y:Int):F_qr b code y=some (usedV b code y):=by
 simp only[F_qr,S_qr,Scr.den]
 rw[z1x b.C (fun (s:Int) r=>if (r.B==code&&r.D==y)=true then i64.wrap (s+(r.V-r.Ad-rel b r.Q)) else s)]
 ·have:=zay b.C (fun r=>r.B==code&&r.D==y) (fun r=>r.V-r.Ad-rel b r.Q) 0
  rw[zwl] at this
  simp only[outM,this]
  simp[usedV]
 ·intro i s hi
  simp only[S_qr_b2,Scr.den,z9]
  obtain⟨r,hr⟩:∃ r,b.C.getD i dF=r:=⟨_,rfl⟩
  simp only[hr]
  cases hp:(r.B==code&&r.D==y)
  ·rw[y8 (by
    cases h1:r.B==code
    ·rfl
    ·rw[h1] at hp; simpa [bne] using hp)]
   rfl
  ·simp only[yj] at hp
   rw[y7 (by simp only[bne,hp.1,hp.2]; decide),zaw]
   rw[z1x b.F (fun (s:Int) c=>if (c.Y==r.Q)=true then i64.wrap (s-c.Ad) else s)]
   ·have:=zaz b.F (fun c=>c.Y==r.Q) (·.Ad) (s+(r.V-r.Ad))
    simp only[outM,this,y17]
    unfold rel
    congr 3
    omega
   ·intro j s hj
    simp only[S_qr_b1,Scr.den,hr]
    split <;> rfl
theorem z4b {a b:Y8} (ha:good a=true) (hb:good b=true):F_q17 a b=some (lexC (parts a) (parts b)):=by
 have h1:=(z3a ha).2
 have h2:=(z3a hb).2
 simp only[F_q17,S_q17,Scr.den,zb4 ha,zb4 hb,obind,z9]
 rw[y7 (by simp only[ye,y15]; omega)]
 generalize parts a=x at h1
 generalize parts b=y at h2
 generalize hF:(fun s=>(S_q17_b1 x y s).den)=F
 have key:∀ (k i:Nat),i+k=x.length->i<=y.length->outM (iterM F (i:Int)) (fun _=>if decide ((x.length:Int)<(y.length:Int))=true then some (-1) else if decide ((x.length:Int)>(y.length:Int))=true then some 1 else some 0) (fun r=>some (id r))=some (lexC (x.drop i) (y.drop i)):=by
  intro k
  induction k with
  | zero =>
   intro i hk hy
   rw[z2q,<- y4a hF]
   simp only[S_q17_b1,Scr.den,zd]
   rw[y7 (by simp only[yj,y9]; omega),y1l om]
   simp only[outM]
   by_cases h:y.length<=i
   ·rw[y1l h,y7 sk,y7 sk]; rfl
   ·rw[y1i (by omega:i<y.length),y8 sk]; rfl
  | succ k ih =>
   intro i hk hy
   have hi:i<x.length:=om
   rw[z2q,<- y4a hF,y1i hi]
   simp only[S_q17_b1,Scr.den,zd]
   by_cases h:y.length<=i
   ·rw[y7 (by simp only[yj,y9]; omega),y1l h]
    simp only[outM]
    rw[y7 sk,y8 sk]; rfl
   ·have hj:i<y.length:=om
    have w1:i64.wrap ((i:Int)+1)=((i+1:Nat):Int):=by rw[wrapId om om]; omega
    rw[y8 (by simp only[yj,y9]; omega),Gc,y1i hj]
    simp only[yg,z2m hi,z2m hj,lexC]
    by_cases h1:x[i]<y[i]
    ·rw[y8 (yb h1),y8 h1]; rfl
    ·rw[y7 (by simpa using h1),y7 h1]
     by_cases h2:x[i]>y[i]
     ·rw[y8 (yb h2),y8 h2]; rfl
     ·rw[y7 (by simpa using h2),y7 h2,w1]
      exact ih (i+1) om om
 have:=key x.length 0 om om
 simpa using this
def RtOk (r:TRi):Prop:=good r.B=true/\(0<=r.D/\r.D<=99)/\(0<=r.A/\r.A<=1000000000000000)/\(0<=r.G/\r.G<=1000000000000000)/\(0<=r.S/\r.S<=r.A)
instance (r:TRi):Decidable (RtOk r):=inferInstanceAs (Decidable (_/\_))
theorem z16 (n a b:Int):F_qj n a b=some (decide (a<=n/\n<=b)):=by
 simp only[F_qj,S_qj,Scr.den,zd,y3y,Bool.decide_and]
theorem z5e (n:Int):F_q1w n=some (decide (0<=n/\n<=1000000000000000)):=by
 simp only[F_q1w,S_q1w,Scr.den,z16,obind]
variable {r:TRi}
theorem z3p (h:r.B.length<=1000000):F_q3o r=some (decide (RtOk r)):=by
 open Classical in simp only[F_q3o,S_q3o,F_q3b,S_q3b,Scr.den,z3h (show r.B.length<=1099511627776 from om),z16,z5e,z15,obind,zd,z6h]
 refine y18 some ?_
 have e:decide (((parts r.B).length:Int)>0)=good r.B:=by rw[<- z3g]; rw[y1q]; simp
 rw[e,y1q]
 simp only[RtOk,yj,y9,y5p]
theorem z5f (h:r.B.length<=1000000):F_q3x r=some (decide (RtOk r)):=by
 open Classical in simp only[F_q3x,S_q3x,F_qq,S_qq,Scr.den,z33 (show r.B.length<4611686018427387904 from om),z15,obind,zd,z6h]
 refine y18 some ?_
 rw[y1q]
 simp only[RtOk,yj,y9,y5p,y3y]
theorem z7i [Inhabited α] (l:List α) (p:α->Bool) (v:Nat->ρ) (hs:∀ i,i<l.length->body i ()=some (if p (l.getD i dF)=true then .ret (v i) else .cont ())) :
  rangeM body l.length 0 ()=some (if l.any p=true then .ret (v (l.findIdx p)) else .next ()):=by
 have key:∀ (k i:Nat),i+k=l.length->rangeM body k i ()=some (if (l.drop i).any p=true then .ret (v (i+(l.drop i).findIdx p)) else .next ()):=by
  intro k
  induction k with
  | zero=>intro i hk; rw[y1l om]; rfl
  | succ k ih =>
   intro i hk
   have hi:i<l.length:=om
   have e:l.getD i dF=l[i]:=by simp[List.getD_eq_getElem?_getD,List.getElem?_eq_getElem hi]
   rw[y1i hi]
   simp only[rangeM,hs i hi,e,y50,List.findIdx_cons]
   cases hp:p l[i] with
   | true=>simp
   | false =>
    simp only[yu,y10,y3t,cond_false]
    rw[ih (i+1) om,show i+1+(l.drop (i+1)).findIdx p=i+((l.drop (i+1)).findIdx p+1) from om]
 have:=key l.length 0 om
 simpa using this
def isR (c:Y8) (y:Int) (r:TRi):Bool:=r.B==c&&r.D==y
theorem zlw {c:Y8}:isR c y r=true↔r.B=c/\r.D=y:=by simp[isR]
def hasR (l:List TRi) (c:Y8) (y:Int):Bool:=l.any (isR c y)
def rix (l:List TRi) (c:Y8) (y:Int):Nat:=l.findIdx (isR c y)
def rightV (l:List TRi) (c:Y8) (y:Int):TRi:=if hasR l c y=true then l.getD (rix l c y) dF else ⟨c,y,0,0,0⟩
def unusedV (o:TOf) (c:Y8) (y:Int):Int:=i64.wrap (i64.wrap ((rightV o.L c y).A-(rightV o.L c y).S)-usedV o.Ag c y)
variable {l:List TRi}
theorem z3w {c:Y8} (h:hasR l c y=true):rix l c y<l.length/\(l.getD (rix l c y) dF).B=c/\(l.getD (rix l c y) dF).D=y:=by
 have hlt:rix l c y<l.length:=by
  unfold rix
  rw[List.findIdx_lt_length]
  simpa [hasR] using h
 refine⟨hlt,?_⟩
 have:=y4c (xs:=l) (p:=isR c y) (w:=hlt)
 rw[zlw] at this
 rw[show l.getD (rix l c y) dF=l[rix l c y] by simp[List.getD_eq_getElem?_getD,List.getElem?_eq_getElem hlt]]
 exact this
theorem z5v (o:TOf) (c:Y8) (y:Int):F_q4q o c y=some (if hasR o.L c y=true then (rix o.L c y:Int) else -1):=by
 simp only[F_q4q,S_q4q,F_q3e,S_q3e,Scr.den]
 rw[z7i o.L (isR c y) (fun i=>(i:Int))]
 ·unfold hasR
  by_cases h:o.L.any (isR c y)=true
  ·rw[y8 h,y8 h]; rfl
  ·rw[y7 h,y7 h]; rfl
 ·intro i hi
  simp only[S_q3e_b1,F_q7l,S_q7l,Scr.den,obind,zd]
  unfold isR
  split <;> rfl
theorem at_eq (o:TOf) (c:Y8) (y:Int):F_q1h o c y=some (if hasR o.L c y=true then (rix o.L c y:Int) else -1):=by
 simp only[F_q1h,S_q1h,Scr.den]
 rw[z7i o.L (isR c y) (fun i=>(i:Int))]
 ·unfold hasR
  by_cases h:o.L.any (isR c y)=true
  ·rw[y8 h,y8 h]; rfl
  ·rw[y7 h,y7 h]; rfl
 ·intro i hi
  simp only[S_q1h_b1,Scr.den,zd]
  unfold isR
  split <;> rfl
theorem zea (o:TOf) (c:Y8) (y:Int):F_q3n o c y=some (hasR o.L c y):=by
 simp only[F_q3n,S_q3n,Scr.den,z5v,obind]
 cases h:hasR o.L c y
 ·simp
 ·simp
theorem z2r (o:TOf) (c:Y8) (y:Int):F_q20 o c y=some (rightV o.L c y):=by
 simp only[F_q20,S_q20,Scr.den,z5v,obind,rightV]
 by_cases h:hasR o.L c y=true
 ·have:=(z3w h).1
  simp only[y8 h,yg]
  rw[y8 sj,Gb]
 ·simp only[y7 h]
  rw[y7 dk]
theorem z1i (o:TOf) (c:Y8) (y:Int):F_q2t o c y=some (rightV o.L c y):=by
 simp only[F_q2t,S_q2t,Scr.den,at_eq,obind,rightV]
 by_cases h:hasR o.L c y=true
 ·have:=(z3w h).1
  simp only[y8 h,yg]
  rw[y8 sj,Gb]
 ·simp only[y7 h]
  rw[y7 dk]
theorem zb7 (o:TOf) (c:Y8) (y:Int):F_q49 o c y=some (unusedV o c y):=by
 simp only[F_q49,S_q49,Scr.den,z2r,zbv,obind,unusedV]
theorem za8 (o:TOf) (c:Y8) (y:Int):F_q52 o c y=some (unusedV o c y):=by
 simp only[F_q52,S_q52,Scr.den,z1i,z4k,obind,unusedV]
def SmO (o:TOf):Prop:=Small o.Ag/\o.L.length<=1000000/\∀ r∈o.L,r.B.length<=1000000
def Srt (l:List TRi):Prop:=∀ i,i<l.length->i=0\/cmpR (l.getD (i-1) dF) (l.getD i dF)<0
def VO (o:TOf):Prop:=(1<=o.Q/\o.Q<=6)/\o.L.length<=60/\Val o.Ag/\(∀ r∈o.L,RtOk r)/\Srt o.L/\∀ x∈o.Ag.C,hasR o.L x.B x.D=true/\0<=unusedV o x.B x.D
theorem z8r {b:TRi} (h:good a.B=true\/good b.B=true):cmpR a b<0↔lexC (parts a.B) (parts b.B)<0\/(lexC (parts a.B) (parts b.B)=0/\a.D<b.D):=by
 unfold cmpR
 rw[z30 h]
 generalize lexC (parts a.B) (parts b.B)=c
 by_cases hc:c=0
 ·rw[y7 (by simpa using hc)]
  unfold cmpI
  by_cases h1:a.D<b.D
  ·rw[y8 h1]; simp[hc,h1]
  ·rw[y7 h1]
   split <;> simp[hc,h1]
 ·rw[y8 hc]; simp[hc]
theorem z5w {b:TRi} (ha:good a.B=true) (hb:good b.B=true):cmpR a b=0↔a.B=b.B/\a.D=b.D:=by
 unfold cmpR
 rw[z30 (.inl ha)]
 by_cases hc:lexC (parts a.B) (parts b.B)=0
 ·rw[y7 (by simpa using hc)]
  have e:=z81 ha hb (z36 hc)
  unfold cmpI
  by_cases h1:a.D<b.D
  ·rw[y8 h1]; simp; omega
  ·rw[y7 h1]
   by_cases h2:a.D>b.D
   ·rw[y8 h2]; simp; omega
   ·rw[y7 h2]; simp[e]; omega
 ·rw[y8 hc]
  constructor
  ·intro h; exact absurd h hc
  ·rintro⟨h1,_⟩
   exact absurd (by rw[h1]; exact zb2 _) hc
theorem zeb {b c:TRi} (ha:good a.B=true) (hb:good b.B=true) (h:cmpR a b<0) (h':cmpR b c<0):cmpR a c<0:=by
 rw[z8r (.inl ha)] at h |-
 rw[z8r (.inl hb)] at h'
 rcases h with h | ⟨h,h2⟩
 ·rcases h' with h' | ⟨h',_⟩
  ·exact .inl (z9l h h')
  ·rw[<- z36 h']; exact .inl h
 ·rcases h' with h' | ⟨h',h3⟩
  ·rw[z36 h]; exact .inl h'
  ·rw[z36 h]; exact .inr ⟨h',om⟩
theorem zgx {b:TRi} (ha:good a.B=true):cmpR b a=-cmpR a b:=by
 unfold cmpR
 rw[z30 (.inl ha),z30 (.inr ha),zb3 (parts a.B) (parts b.B)]
 by_cases h:lexC (parts a.B) (parts b.B)=0
 ·rw[y7 om,y7 om]
  unfold cmpI
  by_cases h1:a.D<b.D
  ·rw[y7 om,y8 om,y8 h1]; rfl
  ·by_cases h2:b.D<a.D
   ·rw[y8 h2,y7 h1,y8 om]
   ·rw[y7 h2,y7 om,y7 h1,y7 om]; rfl
 ·rw[y8 om,y8 h]
theorem Srt.lt (h:Srt l) (hg:∀ r∈l,RtOk r):∀ {i j:Nat},i<j->j<l.length->cmpR (l.getD i dF) (l.getD j dF)<0:=by
 intro i j hij
 induction j with
 | zero=>omega
 | succ j ih =>
  intro hj
  have h1:=(h (j+1) hj).resolve_left om
  rw[show j+1-1=j from om] at h1
  by_cases e:i=j
  ·subst e; exact h1
  ·exact zeb (hg _ (z8 om)).1 (hg _ (z8 om)).1 (ih om om) h1
theorem zku {n:Nat} {c:ρ} (p:Nat->Prop) (hy:∀ i,i<n->(∀ j,j<i->p j)->p i->body i ()=some (.cont ())) (hn:∀ i,i<n->(∀ j,j<i->p j)->¬ p i->body i ()=some (.ret c)) :
  ((∀ j,j<n->p j)->rangeM body n 0 ()=some (.next ()))/\((¬ ∀ j,j<n->p j)->rangeM body n 0 ()=some (.ret c)):=by
 have key:∀ (k i:Nat),i+k=n->(∀ j,j<i->p j)->((∀ j,j<n->p j)->rangeM body k i ()=some (.next ()))/\((¬ ∀ j,j<n->p j)->rangeM body k i ()=some (.ret c)):=by
  intro k
  induction k with
  | zero =>
   intro i hk hp
   exact⟨fun _=>rfl,fun h=>absurd (fun j hj=>hp j om) h⟩
  | succ k ih =>
   intro i hk hp
   by_cases hpi:p i
   ·have hp':∀ j,j<i+1->p j:=fun j hj=>by
     rcases y12 j i with h | h
     ·exact hp j h
     ·obtain rfl:j=i:=om
      exact hpi
    have:=ih (i+1) om hp'
    simp only[rangeM,hy i om hp hpi]
    exact this
   ·simp only[rangeM,hn i om hp hpi]
    exact⟨fun h=>absurd (h i om) hpi,fun _=>trivial⟩
 exact key n 0 om (fun j hj=>om)
theorem zjg (i:Nat) (hi:i<9223372036854775808):(i64.wrap ((i:Int)-1)).toNat=i-1:=by rw[wrapId om om]; omega
variable {o:TOf}
theorem z82 (hs:SmO o) (hi:i<o.L.length) :
  (S_qt_b1 o i ()).den=if RtOk (o.L.getD i dF)/\(i=0\/cmpR (o.L.getD (i-1) dF) (o.L.getD i dF)<0) then some (.cont ()) else some (.ret false):=by
 have h1:=hs.2.2 _ (z8 hi)
 have h2:=hs.2.2 _ (z8 (l:=o.L) (i:=i-1) om)
 have hl:=hs.2.1
 simp only[S_qt_b1,Scr.den,zjg i (show i<9223372036854775808 from om)]
 generalize o.L.getD i dF=r at h1 |-
 generalize o.L.getD (i-1) dF=r' at h2 |-
 simp only[z3p h1,z7h h2 h1,obind,zd,z9]
 by_cases hR:RtOk r
 ·by_cases h0:i=0
  ·subst h0
   rw[Gh,obind,z7 ⟨fun h=>by simp[AllP] at h,fun h=>by simp[AllP] at h,trivial⟩,y7 (by simp[hR]),y8 ⟨hR,.inl rfl⟩]
  ·rw[ze (by exact⟨sk,by simp[hR],trivial⟩),obind,z7 ⟨fun _=>by rw[wrapId om om]; omega,fun _=>om,trivial⟩]
   by_cases hc:cmpR r' r<0
   ·rw[y7 (by intro h; simp[hR] at h; exact absurd hc (y2w.2 h.2)),y8 ⟨hR,.inr hc⟩]
   ·rw[y8 (by simp[hR]; exact⟨om,y2w.1 hc⟩),y7 (fun h=>h.2.elim h0 hc)]
 ·rw[zj (by simp[AllP,hR]),obind,z7 ⟨fun h=>by simp[AllP,hR] at h,fun h=>by simp[AllP,hR] at h,trivial⟩,y8 (by simp[hR]),y7 (fun h=>hR h.1)]
theorem z83 (o:TOf) (i:Nat) :
  (S_qt_b2 o i ()).den=if hasR o.L (o.Ag.C.getD i dF).B (o.Ag.C.getD i dF).D=true/\0<=unusedV o (o.Ag.C.getD i dF).B (o.Ag.C.getD i dF).D then some (.cont ()) else some (.ret false):=by
 simp only[S_qt_b2,Scr.den,zea,zb7,obind,z9]
 generalize o.Ag.C.getD i dF=r
 by_cases hh:hasR o.L r.B r.D=true
 ·rw[ze (by exact⟨by simp[hh],trivial⟩),obind]
  by_cases hu:0<=unusedV o r.B r.D
  ·rw[y7 (by intro h; simp[hh] at h; exact absurd hu (y4d.2 h)),y8 ⟨hh,hu⟩]
  ·rw[y8 (by simp[hh]; exact y4d.1 hu),y7 (fun h=>hu h.2)]
 ·rw[zj (by simp[AllP,hh]),obind,y8 (by simp[hh]),y7 (fun h=>hh h.1)]
theorem z4c [Inhabited α] {l:List α} {p:α->Prop} (h:∀ i,i<l.length->p (l.getD i dF)):∀ x∈l,p x:=fun x hx=>by
 obtain⟨i,hi,rfl⟩:=y3o hx
 have:=h i hi
 rwa [show l.getD i dF=l[i] by simp[List.getD_eq_getElem?_getD,List.getElem?_eq_getElem hi]] at this
open Classical in
theorem z8s (hs:SmO o):F_qt o=some (decide (VO o)):=by
 simp only[F_qt,S_qt,Scr.den,Valid_eq hs.1,z15,obind,z9,z1z]
 by_cases h0:(1<=o.Q/\o.Q<=6)/\o.L.length<=60/\Val o.Ag
 ·obtain⟨⟨a1,a2⟩,a3,a4⟩:=h0
  rw[y7 (by simp[a4]; omega)]
  by_cases h1:∀ j,j<o.L.length->RtOk (o.L.getD j dF)/\(j=0\/cmpR (o.L.getD (j-1) dF) (o.L.getD j dF)<0)
  ·rw[(zi _ (fun i hi h=>by rw[z82 hs hi,y8 h]) (fun i hi h=>by rw[z82 hs hi,y7 h])).1 h1]
   simp only[outM]
   by_cases h2:∀ j,j<o.Ag.C.length->hasR o.L (o.Ag.C.getD j dF).B (o.Ag.C.getD j dF).D=true/\0<=unusedV o (o.Ag.C.getD j dF).B (o.Ag.C.getD j dF).D
   ·rw[(zi _ (fun i hi h=>by rw[z83 o i,y8 h]) (fun i hi h=>by rw[z83 o i,y7 h])).1 h2]
    simp only
    rw[yb ⟨⟨a1,a2⟩,a3,a4,z4c fun i hi=>(h1 i hi).1,fun i hi=>(h1 i hi).2,z4c h2⟩]
   ·rw[(zi _ (fun i hi h=>by rw[z83 o i,y8 h]) (fun i hi h=>by rw[z83 o i,y7 h])).2 h2]
    simp only
    rw[yc (fun h=>h2 fun j hj=>h.2.2.2.2.2 _ (z8 hj))]; rfl
  ·rw[(zi _ (fun i hi h=>by rw[z82 hs hi,y8 h]) (fun i hi h=>by rw[z82 hs hi,y7 h])).2 h1]
   simp only[outM]
   rw[yc (fun h=>h1 fun j hj=>⟨h.2.2.2.1 _ (z8 hj),h.2.2.2.2.1 j hj⟩)]; rfl
 ·rw[y8,yc (fun h=>h0 ⟨h.1,h.2.1,h.2.2.1⟩)]
  simp only[ye,y9,yi,yh]
  by_cases hv:Val o.Ag
  ·left
   have:¬ ((1<=o.Q/\o.Q<=6)/\o.L.length<=60):=fun h=>h0 ⟨h.1,h.2,hv⟩
   omega
  ·exact .inr hv
theorem zpk {c:Y8} (h:∀ x∈b.C,¬ (x.B=c/\x.D=y)):usedV b c y=0:=by
 unfold usedV
 rw[zlv fun x hx=>by
  have:=h x hx
  simp only[y3r,y3b,ne_eq]
  by_cases h1:x.B=c
  ·exact .inr fun h2=>this ⟨h1,h2⟩
  ·exact .inl h1]
 exact wrapId om om
theorem has_iff {c:Y8}:hasR l c y=true↔∃ r∈l,r.B=c/\r.D=y:=by
 simp only[hasR,y52,zlw]
theorem z31 {c:Y8} (h:hasR l c y=true):rightV l c y∈l/\(rightV l c y).B=c/\(rightV l c y).D=y:=by
 unfold rightV
 rw[y8 h]
 obtain⟨h1,h2,h3⟩:=z3w h
 exact⟨z8 h1,h2,h3⟩
theorem zpl (hR:∀ r∈o.L,RtOk r):(∀ x∈o.Ag.C,hasR o.L x.B x.D=true/\0<=unusedV o x.B x.D) ↔
  (∀ r∈o.L,0<=unusedV o r.B r.D)/\∀ x∈o.Ag.C,hasR o.L x.B x.D=true:=by
 constructor
 ·intro h
  refine⟨fun r hr=>?_,fun x hx=>(h x hx).1⟩
  by_cases hx:∃ x∈o.Ag.C,x.B=r.B/\x.D=r.D
  ·obtain⟨x,hx,e1,e2⟩:=hx
   rw[<- e1,<- e2]; exact (h x hx).2
  ·unfold unusedV
   rw[zpk fun x hx' e=>hx ⟨x,hx',e⟩]
   obtain⟨h1,h2,h3⟩:=z31 (has_iff.2 ⟨r,hr,rfl,rfl⟩:hasR o.L r.B r.D=true)
   have h4:=hR _ h1
   unfold RtOk at h4
   rw[wrapId (n:=(rightV o.L r.B r.D).A-(rightV o.L r.B r.D).S) om om,wrapId om om]
   omega
 ·rintro⟨h1,h2⟩ x hx
  refine⟨h2 x hx,?_⟩
  obtain⟨k1,k2,k3⟩:=z31 (h2 x hx)
  have:=h1 _ k1
  rwa [k2,k3] at this
variable {y':Int}
theorem ltr (h:c<0\/(c=0/\y<y')):¬ (c>0\/c=0/\y>=y'):=om
theorem ltr' (h:¬ (c<0\/(c=0/\y<y'))):c>0\/c=0/\y>=y':=om
theorem zlx (hs:SmO o) (hi:i<o.L.length) (hp:∀ j,j<i->RtOk (o.L.getD j dF)) :
  (S_qm_b1 o i ()).den=if RtOk (o.L.getD i dF)/\0<=unusedV o (o.L.getD i dF).B (o.L.getD i dF).D/\(i=0\/cmpR (o.L.getD (i-1) dF) (o.L.getD i dF)<0) then some (.cont ()) else some (.ret false):=by
 have h1:=hs.2.2 _ (z8 hi)
 have hl:=hs.2.1
 have hq:i≠0->RtOk (o.L.getD (i-1) dF):=fun h=>hp _ om
 have hw:i≠0->i64.wrap ((i:Int)-1)=(i:Int)-1:=fun _=>wrapId om om
 simp only[S_qm_b1,Scr.den,zjg i (show i<9223372036854775808 from om)]
 generalize o.L.getD i dF=r at h1 |-
 generalize o.L.getD (i-1) dF=r' at hq |-
 simp only[z5f h1,za8,obind,z9,zd]
 by_cases hR:RtOk r
 ·rw[ze (by exact⟨by simp[hR],trivial⟩),obind]
  by_cases hu:0<=unusedV o r.B r.D
  ·rw[y7 (by simp[hR]; exact hu)]
   by_cases h0:i=0
   ·subst h0
    rw[y7 sj,y8 ⟨hR,hu,.inl rfl⟩]
   ·rw[y8 sk,z4b (hq h0).1 hR.1,obind,hw h0,Gb,z7 ⟨fun _=>om,fun _=>om,trivial⟩]
    have hc:=z8r (a:=r') (b:=r) (.inr hR.1)
    by_cases hc':cmpR r' r<0
    ·rw[y7 (by
      have:=hc.1 hc'
      simp only[ye,yj,y9,y15]
      exact ltr this),y8 ⟨hR,hu,.inr hc'⟩]
    ·rw[y8 (by
      simp only[ye,yj,y9,y15]
      exact ltr' fun h=>hc' (hc.2 h)),y7 (fun h=>h.2.2.elim h0 hc')]
  ·rw[y8 (by simp[hR]; exact y4d.1 hu),y7 (fun h=>hu h.2.1)]
 ·rw[zj (by simp[AllP,hR]),obind,y8 (by simp[hR]),y7 (fun h=>hR h.1)]
theorem zbx (o:TOf) (i:Nat) :
  (S_qm_b2 o i ()).den=if hasR o.L (o.Ag.C.getD i dF).B (o.Ag.C.getD i dF).D=true then some (.cont ()) else some (.ret false):=by
 simp only[S_qm_b2,Scr.den,at_eq,obind]
 generalize o.Ag.C.getD i dF=r
 by_cases hh:hasR o.L r.B r.D=true
 ·rw[y8 hh,y8 hh,y7 sj]
 ·rw[y7 hh,y7 hh,y8 dk]
open Classical in
theorem z7j (hs:SmO o):F_qm o=some (decide (VO o)):=by
 simp only[F_qm,S_qm,Scr.den,z2b hs.1,z15,obind,z9,z1z]
 by_cases h0:(1<=o.Q/\o.Q<=6)/\o.L.length<=60/\Val o.Ag
 ·obtain⟨⟨a1,a2⟩,a3,a4⟩:=h0
  rw[y7 (by simp[a4]; omega)]
  obtain⟨r1,r2⟩:=zku (body:=fun i s=>(S_qm_b1 o i s).den) (n:=o.L.length) (c:=false) (fun j=>RtOk (o.L.getD j dF)/\0<=unusedV o (o.L.getD j dF).B (o.L.getD j dF).D/\(j=0\/cmpR (o.L.getD (j-1) dF) (o.L.getD j dF)<0))
   (fun i hi hp h=>by rw[zlx hs hi (fun j hj=>(hp j hj).1),y8 h]) (fun i hi hp h=>by rw[zlx hs hi (fun j hj=>(hp j hj).1),y7 h])
  by_cases h1:∀ j,j<o.L.length->RtOk (o.L.getD j dF)/\0<=unusedV o (o.L.getD j dF).B (o.L.getD j dF).D/\(j=0\/cmpR (o.L.getD (j-1) dF) (o.L.getD j dF)<0)
  ·rw[r1 h1]
   simp only[outM]
   have hR:∀ r∈o.L,RtOk r:=z4c fun i hi=>(h1 i hi).1
   by_cases h2:∀ j,j<o.Ag.C.length->hasR o.L (o.Ag.C.getD j dF).B (o.Ag.C.getD j dF).D=true
   ·rw[(zi _ (fun i hi h=>by rw[zbx o i,y8 h]) (fun i hi h=>by rw[zbx o i,y7 h])).1 h2]
    simp only
    rw[yb ⟨⟨a1,a2⟩,a3,a4,hR,fun i hi=>(h1 i hi).2.2,(zpl hR).2 ⟨z4c fun i hi=>(h1 i hi).2.1,z4c h2⟩⟩]
   ·rw[(zi _ (fun i hi h=>by rw[zbx o i,y8 h]) (fun i hi h=>by rw[zbx o i,y7 h])).2 h2]
    simp only
    rw[yc (fun h=>h2 fun j hj=>(h.2.2.2.2.2 _ (z8 hj)).1)]; rfl
  ·rw[r2 h1]
   simp only[outM]
   rw[yc (fun h=>h1 fun j hj=>⟨h.2.2.2.1 _ (z8 hj),((zpl h.2.2.2.1).1 h.2.2.2.2.2).1 _ (z8 hj),h.2.2.2.2.1 j hj⟩)]; rfl
 ·rw[y8,yc (fun h=>h0 ⟨h.1,h.2.1,h.2.2.1⟩)]
  simp only[ye,y9,yi,yh]
  by_cases hv:Val o.Ag
  ·left
   have:¬ ((1<=o.Q/\o.Q<=6)/\o.L.length<=60):=fun h=>h0 ⟨h.1,h.2,hv⟩
   omega
  ·exact .inr hv
def noR:TRi:=⟨[],0,0,0,0⟩
def tot (n:Int):Prop:=0<=n/\n<=1000000000000000
instance (n:Int):Decidable (tot n):=inferInstanceAs (Decidable (_/\_))
def learnS (r:TRi) (m:TMe):TRi×Int :=
 if ¬ (RtOk r/\m.Aa=0/\m.B=r.B/\m.D=r.D) then (noR,1) else
 if ¬ (tot m.A/\tot m.G) then (noR,2) else
 (⟨r.B,r.D,if m.A>r.A then m.A else r.A,if m.G>r.G then m.G else r.G,r.S⟩,0)
def returnS (r:TRi) (u n:Int):TRi×Int :=
 if ¬ (RtOk r/\(0<=u/\u<=i64.wrap (r.A-r.S))) then (noR,1) else
 if ¬ (1<=n/\n<=1000000000000000) then (noR,2) else
 if n>i64.wrap (i64.wrap (r.A-r.S)-u) then (noR,15) else
 (⟨r.B,r.D,r.A,r.G,i64.wrap (r.S+n)⟩,0)
theorem z3x (n:Int):F_qq n=some (decide (tot n)):=by
 simp only[F_qq,S_qq,Scr.den,zd,y3y]
 refine y18 some ?_
 rw[y1q,y9]; simp[tot]
theorem zdg (n:Int):F_q1w n=some (decide (tot n)):=z5e n
theorem zec (h:r.B.length<=1000000) (m:TMe):F_q5k r m=some (learnS r m):=by
 open Classical in simp only[F_q5k,S_q5k,Scr.den,z3p h,zdg,z15,obind,z9,z1z]
 unfold learnS
 refine st (by by_cases hR:RtOk r <;> by_cases h2:m.Aa=0 <;> by_cases h3:m.B=r.B <;> by_cases h4:m.D=r.D <;> simp[hR,h2,h3,h4]) (fun _=>rfl) fun _=>?_
 refine st (by by_cases h2:tot m.A <;> by_cases h3:tot m.G <;> simp[h2,h3]) (fun _=>rfl) fun _=>rfl
theorem zjh (h:r.B.length<=1000000) (m:TMe):F_q4f r m=some (learnS r m):=by
 open Classical in simp only[F_q4f,S_q4f,Scr.den,z5f h,z3x,z15,obind,z9,z1z]
 unfold learnS
 refine st (by by_cases hR:RtOk r <;> by_cases h2:m.Aa=0 <;> by_cases h3:m.B=r.B <;> by_cases h4:m.D=r.D <;> simp[hR,h2,h3,h4]) (fun _=>rfl) fun _=>?_
 refine st (by by_cases h2:tot m.A <;> by_cases h3:tot m.G <;> simp[h2,h3]) (fun _=>rfl) fun _=>rfl
theorem zdh (h:r.B.length<=1000000) (u n:Int):F_q5n r u n=some (returnS r u n):=by
 open Classical in simp only[F_q5n,S_q5n,Scr.den,z3p h,z16,z15,obind,z9,z1z]
 unfold returnS
 refine st (by by_cases h2:RtOk r <;> by_cases h3:0<=u/\u<=i64.wrap (r.A-r.S) <;> simp[h2,h3]) (fun _=>rfl) fun _=>?_
 refine st (by simp only[yi,yh]) (fun _=>rfl) fun _=>?_
 refine st (by simp only[y9]) (fun _=>rfl) fun _=>rfl
theorem zhs (h:r.B.length<=1000000) (u n:Int):F_q6k r u n=some (returnS r u n):=by
 open Classical in simp only[F_q6k,S_q6k,Scr.den,z5f h,obind,z9]
 unfold returnS
 refine st (by
   simp only[ye,yi,yh,y9,gt_iff_lt]
   constructor
   ·rintro ((h | h) | h) <;> intro k
    ·exact h k.1
    ·omega
    ·omega
   ·intro h; by_cases hR:RtOk r
    ·by_cases hu:u<0
     ·exact .inl (.inr hu)
     ·exact .inr (by have:¬ (0<=u/\u<=_):=fun k=>h ⟨hR,k⟩; omega)
    ·exact .inl (.inl hR)) (fun _=>rfl) fun _=>?_
 refine st (by simp only[ye,y9]; omega) (fun _=>rfl) fun _=>?_
 refine st (by simp only[y9]) (fun _=>rfl) fun _=>rfl
def posR (l:List TRi) (r:TRi):Nat:=l.findIdx (fun x=>decide (0<=cmpR x r))
def putL (l:List TRi) (r:TRi):List TRi:=if hasR l r.B r.D=true then l.set (rix l r.B r.D) r else insL l (posR l r) r
theorem z18 [Inhabited α] {l:List α} (hi:i<l.length):l.getD i dF=l[i]:=by simp[List.getD_eq_getElem?_getD,List.getElem?_eq_getElem hi]
theorem z71 (l:List TRi) (r:TRi):posR l r<=l.length:=List.findIdx_le_length
theorem zby (hi:i<posR l r):cmpR (l.getD i dF) r<0:=by
 have hl:i<l.length:=y1a hi (z71 l r)
 have:=List.not_of_lt_findIdx hi
 rw[z18 hl]
 simpa using this
theorem zbz (hi:posR l r<l.length):0<=cmpR (l.getD (posR l r) dF) r:=by
 have:=y4c (xs:=l) (p:=fun x=>decide (0<=cmpR x r)) (w:=hi)
 rw[z18 hi]
 exact y24 this
theorem zu7 (hS:Srt l) (hg:∀ x∈l,RtOk x) (hi:i<l.length) (hp:posR l r<=i):0<=cmpR (l.getD i dF) r:=by
 have h0:=zbz (l:=l) (r:=r) om
 by_cases e:posR l r=i
 ·rwa [e] at h0
 ·have h1:=hS.lt hg (show posR l r<i from om) hi
  by_cases h:cmpR (l.getD i dF) r<0
  ·have:=zeb (hg _ (z8 om)).1 (hg _ (z8 hi)).1 h1 h
   omega
  ·omega
theorem zfp (h:i+j<4611686018427387904):i64.wrap ((IntKind.u64.wrap (i64.wrap ((i:Int)+(j:Int)))).fdiv (2 ^ (min (1:Int).toNat IntKind.u64.bits)))=(((i+j) / 2:Nat):Int):=by
 rw[wrapId (n:=(i:Int)+(j:Int)) om om]
 have e:IntKind.u64.wrap ((i:Int)+(j:Int))=(i:Int)+(j:Int):=by
  simp only[IntKind.wrap,IntKind.bits,IntKind.signed]
  simp
  omega
 rw[e]
 have e2:(2:Int) ^ (min (1:Int).toNat IntKind.u64.bits)=2:=dk
 rw[e2,Int.fdiv_eq_ediv_of_nonneg _ om,wrapId om om]
 omega
theorem RtOk.len (h:RtOk r):r.B.length<=1000000:=by have:=z3u h.1; omega
theorem zdi (hg:∀ x∈l,RtOk x) (k:Nat):(l.getD k dF).B.length<=1000000:=by
 by_cases h:k<l.length
 ·exact (hg _ (z8 h)).len
 ·rw[ya,yk om]; exact y1g _
theorem z9o (hl:l.length<=1000000) (hS:Srt l) (hg:∀ x∈l,RtOk x) (hr:RtOk r) :
  F_q2o r l=some ((posR l r:Int),decide (posR l r<l.length)&&(cmpR (l.getD (posR l r) dF) r==0)):=by
 have hc:∀ k,F_q3p (l.getD k dF) r=some (cmpR (l.getD k dF) r):=fun k=>z7h (zdi hg k) hr.len
 have hp:=z71 l r
 simp only[F_q2o,S_q2o,Scr.den]
 obtain⟨s,e,hJ⟩:=z2i (step:=fun s=>(S_q2o_b1 r l s).den) (fun s=>(s.2-s.1).toNat) (fun s=>∃ i j:Nat,s=((i:Int),(j:Int))/\i<=posR l r/\posR l r<=j/\j<=l.length) (fun s=>s.1=(posR l r:Int)) (fun s hI=>by
  obtain⟨i,j,rfl,h1,h2,h3⟩:=hI
  simp only[S_q2o_b1,Scr.den,zfp (show i+j<4611686018427387904 from om),hc,obind,yg]
  by_cases hij:i<j
  ·left
   rw[y8 (by simpa using hij),Gc,yo]
   by_cases hlt:cmpR (l.getD ((i+j) / 2) dF) r<0
   ·rw[y8 (by simpa using hlt),wrapId om om]
    have:(i+j) / 2<posR l r:=by
     by_cases h:(i+j) / 2<posR l r
     ·exact h
     ·have:=zu7 (r:=r) hS hg (show (i+j) / 2<l.length from om) om
      omega
    exact⟨_,rfl,⟨(i+j) / 2+1,j,sj,om,h2,h3⟩,by simp only; omega⟩
   ·rw[y7 (by simpa using hlt)]
    have:posR l r<=(i+j) / 2:=by
     by_cases h:posR l r<=(i+j) / 2
     ·exact h
     ·have:=zby (show (i+j) / 2<posR l r from om)
      omega
    exact⟨_,rfl,⟨i,(i+j) / 2,rfl,h1,this,om⟩,by simp only; omega⟩
  ·right
   rw[y7 (by simpa using hij)]
   exact⟨_,rfl,by simp only; omega⟩) _ (0,(l.length:Int)) (y4b _) ⟨0,l.length,rfl,om,hp,om⟩
 rw[e]
 simp only[outM,hJ,yg,hc,zd,yo]
 by_cases h:posR l r<l.length
 ·rw[ze (by exact⟨sk,trivial⟩),obind,z7 ⟨fun _=>om,fun _=>h,fun _=>h,trivial⟩]
  simp[h]
 ·rw[zj (by simp[AllP]; omega),obind,z7 ⟨fun _=>om,fun h'=>absurd h (by simp[AllP] at h'; omega),fun h'=>absurd h (by simp[AllP] at h'; omega),trivial⟩]
  simp[h]
theorem zfq (hS:Srt l) (hg:∀ x∈l,RtOk x) (hr:RtOk r) :
  (decide (posR l r<l.length)&&(cmpR (l.getD (posR l r) dF) r==0))=hasR l r.B r.D/\(hasR l r.B r.D=true->rix l r.B r.D=posR l r):=by
 have key:hasR l r.B r.D=true->rix l r.B r.D=posR l r:=fun h=>by
  obtain⟨h1,h2,h3⟩:=z3w h
  have h4:=hg _ (z8 h1)
  have h5:cmpR (l.getD (rix l r.B r.D) dF) r=0:=(z5w h4.1 hr.1).2 ⟨h2,h3⟩
  rcases y3v (rix l r.B r.D) (posR l r) with h | h | h
  ·have:=zby h; omega
  ·exact h
  ·have h6:=hS.lt hg h h1
   have h7:=zbz (l:=l) (r:=r) om
   have h8:=hg _ (z8 (show posR l r<l.length from om))
   have:cmpR (l.getD (posR l r) dF) r<0:=by
    rw[z8r (.inl h8.1)] at h6 |-
    rw[h2,h3] at h6
    exact h6
   omega
 refine⟨?_,key⟩
 rw[y1q]
 simp only[yj,y9,y15]
 constructor
 ·rintro⟨h1,h2⟩
  obtain⟨h3,h4⟩:=(z5w (hg _ (z8 h1)).1 hr.1).1 h2
  exact has_iff.2 ⟨_,z8 h1,h3,h4⟩
 ·intro h
  obtain⟨h1,h2,h3⟩:=z3w h
  rw[key h] at h1 h2 h3
  exact⟨h1,(z5w (hg _ (z8 h1)).1 hr.1).2 ⟨h2,h3⟩⟩
theorem zn9 (hl:l.length<=1000000):F_q5l l=some l:=by
 simp only[F_q5l,S_q5l,Scr.den]
 rw[Ga]
theorem zji (l:List TRi) (r:TRi):(putL l r).length<=l.length+1:=by
 unfold putL
 split
 ·rw[yl]; omega
 ·rw[zu]; omega
theorem zpm (hl:o.L.length<=1000000) (hS:Srt o.L) (hg:∀ x∈o.L,RtOk x) (hr:RtOk r):F_q4r o r=some ⟨o.Q,putL o.L r,o.Ag⟩:=by
 obtain⟨h1,h2⟩:=zfq hS hg hr
 have hp:=z71 o.L r
 have hlen:=zji o.L r
 simp only[F_q4r,S_q4r,Scr.den,zn9 hl,z9o hl hS hg hr,obind,h1,yg,yo]
 unfold putL at hlen |-
 by_cases h:hasR o.L r.B r.D=true
 ·have h3:=(z3w h).1
  rw[h2 h] at h3
  rw[y8 h] at hlen
  rw[y8 h,y8 h,z7 ⟨om,h3,h3,trivial⟩,h2 h]
  simp only[outM]
  rw[z7 ⟨by rw[yl]; omega,trivial⟩]
 ·rw[y7 h] at hlen
  rw[y7 h,y7 h]
  simp only[F_q7v,yg]
  rw[z7 ⟨om,om,om⟩]
  simp only[obind,outM]
  rw[Ga]
end Go.Proofs.YtkhgaalekilaeaaGreatDoor
