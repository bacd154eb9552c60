/- A part of the proof: plain laws of what the functions compute. No condition. -/
import Derived.Test.YtiohhffifhaboaaGreatDoorG6
import Derived.Test.YtiohhffifhaboaaGreatDoorT7
import Derived.Test.YtiohhffifhaboaaGreatDoorT5
namespace Go.Proofs.YtiohhffifhaboaaGreatDoor
open Go Go.TA
open Go.IntKind (i64)
def dayP (d:Int):Prop:=0<=d/\d<=35990
def amtP (n:Int):Prop:=1<=n/\n<=1000000000000
instance (d:Int):Decidable (dayP d):=inferInstanceAs (Decidable (_/\_))
instance (d:Int):Decidable (amtP d):=inferInstanceAs (Decidable (_/\_))
def yr (d:Int):Int:=if 0<=d/\d<=36000 then d / 360 else -1
variable {d:Int}
theorem zhf (h:0<=d/\d<=36000):i64.wrap (d.tdiv 360)=d / 360:=by
 rw[Int.tdiv_eq_ediv_of_nonneg h.1,wrapId om om]
theorem z2m (d:Int):F_qu d=some (decide (dayP d)):=by
 simp only[F_qu,S_qu,Scr.den,zf]
 exact y29 some (Bool.eq_iff_iff.mpr (by rw[decide_eq_true_iff (p:=dayP d)]; simp[dayP]))
theorem z1w (d:Int):F_q1a d=some (decide (amtP d)):=by
 simp only[F_q1a,S_q1a,Scr.den,zf]
 exact y29 some (Bool.eq_iff_iff.mpr (by rw[decide_eq_true_iff (p:=amtP d)]; simp[amtP]))
theorem z4n (n a b:Int):F_qx n a b=some (decide (a<=n/\n<=b)):=by
 simp only[F_qx,S_qx,Scr.den,zf,y2k,Bool.decide_and]
theorem zb6 (d:Int):F_q1v d=some (decide (dayP d)):=by
 simp only[F_q1v,S_q1v,Scr.den,z4n,obind]
 rfl
theorem z8h (d:Int):F_q28 d=some (decide (amtP d)):=by
 simp only[F_q28,S_q28,Scr.den,z4n,obind]
 rfl
theorem z2a (d:Int):F_q19 d=some (yr d):=by
 simp only[F_q19,S_q19,F_q40,S_q40,Scr.den,obind,zf,yr]
 by_cases h:0<=d/\d<=36000
 ·rw[y8 (by simp[h]),y9 h,zhf h]
 ·rw[y9 (by simp only[yv,y3y,yo,y2k]; omega),y8 h]
theorem z94 (d:Int):F_q1y d=some (yr d):=by
 simp only[F_q1y,S_q1y,F_q3u,S_q3u,Scr.den,obind,zf,yr]
 by_cases h:0<=d/\d<=36000
 ·rw[y8 (by simp[h]),y9 h,zhf h]
 ·rw[y9 (by simp only[yv,y3y,yo,y2k]; omega),y8 h]
def cmt (b:TBo) (n:Int):Int:=sm b.B (fun c=>c.H==n) (·.L)
def rel (b:TBo) (n:Int):Int:=sm b.B (fun c=>c.H==n) (·.P)
def ver (b:TBo) (n:Int):Int:=sm b.C (fun v=>v.I==n) (·.L)
def leftV (b:TBo) (r:TRe):Int:=i64.wrap (r.L-r.P-cmt b r.D)
def restV (b:TBo) (c:TCo):Int:=i64.wrap (c.L-c.P-ver b c.D)
def leftN (b:TBo) (n:Int):Int:=match b.A.find? (fun r=>r.D==n) with
 | some r=>leftV b r
 | none=>0
def usedV (b:TBo) (code:Y8) (y:Int):Int:=i64.wrap (sm b.A (fun r=>r.J==code&&r.K==y) (fun r=>r.L-r.P-rel b r.D))
theorem z8i (b:TBo) (n:Int):F_q1f b n=some (i64.wrap (cmt b n),i64.wrap (rel b n)):=by
 simp only[F_q1f,S_q1f,Scr.den]
 rw[z21 b.B (fun (s:Int×Int) c=>if (c.H==n)=true then (i64.wrap (s.1+c.L),i64.wrap (s.2+c.P)) else s)]
 ·simp only[outM]
  have key:∀ (l:List TCo) (x y:Int),l.foldl (fun (s:Int×Int) c=>if (c.H==n)=true then (i64.wrap (s.1+c.L),i64.wrap (s.2+c.P)) else s) (i64.wrap x,i64.wrap y)=(i64.wrap (x+sm l (fun c=>c.H==n) (·.L)),i64.wrap (y+sm l (fun c=>c.H==n) (·.P))):=by
   intro l
   induction l with
   | nil=>intro x y; simp[sm]
   | cons c l ih =>
    intro x y
    rw[y34,z13,z13]
    split
    ·simp only[zcv]; rw[ih]; simp only[Int.add_assoc]
    ·rw[ih]; simp
  have e0:i64.wrap 0=0:=wrapId om om
  have:=key b.B 0 0
  rw[e0] at this
  rw[this]
  simp[cmt,rel]
 ·intro i s hi
  simp only[S_q1f_b1,Scr.den]
  split <;> rfl
theorem zgg (b:TBo) (r:TRe):F_q33 b r=some (leftV b r):=by
 simp only[F_q33,S_q33,Scr.den,z8i,obind]
 rw[z41,z8c]
 rfl
theorem zgh (b:TBo) (n:Int):F_q1n b n=some (i64.wrap (ver b n)):=by
 simp only[F_q1n,S_q1n,Scr.den]
 rw[z21 b.C (fun (s:Int) v=>if (v.I==n)=true then i64.wrap (s+v.L) else s)]
 ·have e0:i64.wrap 0=0:=wrapId om om
  have:=z8e b.C (fun v=>v.I==n) (·.L) 0
  rw[e0] at this
  simp only[outM,this]
  simp[ver]
 ·intro i s hi
  simp only[S_q1n_b1,Scr.den]
  split <;> rfl
theorem zoj (b:TBo) (c:TCo):F_q34 b c=some (restV b c):=by
 simp only[F_q34,S_q34,Scr.den,zgh,obind]
 rw[z41,z8c]
 rfl
theorem z6m (b:TBo) (c:TCo):F_q1c b c=some (restV b c):=by
 simp only[F_q1c,S_q1c,Scr.den]
 rw[z21 b.C (fun (s:Int) v=>if (v.I==c.D)=true then i64.wrap (s-v.L) else s)]
 ·have:=z8f b.C (fun v=>v.I==c.D) (·.L) (c.L-c.P)
  simp only[outM,this]
  rfl
 ·intro i s hi
  simp only[S_q1c_b1,Scr.den]
  split <;> rfl
variable {α ρ:Type} {body:Nat->Unit->Option (Step Unit ρ)}
theorem ziu [Inhabited α] (l:List α) (p:α->Bool) (v:α->ρ) (hs:∀ i,i<l.length->body i ()=some (if p (l.getD i dF)=true then .ret (v (l.getD i dF)) else .cont ())) :
  rangeM body l.length 0 ()=some (match l.find? p with | some x=>.ret (v x) | none=>.next ()):=by
 have key:∀ (k i:Nat),i+k=l.length->rangeM body k i ()=some (match (l.drop i).find? p with | some x=>.ret (v x) | none=>.next ()):=by
  intro k
  induction k with
  | zero=>intro i hk; rw[y1f om]; rfl
  | succ k ih =>
   intro i hk
   have hi:i<l.length:=om
   have e:l.getD i dF=l[i]:=by simp[List.getD_eq_getElem?_getD,List.getElem?_eq_getElem hi]
   rw[y19 hi]
   simp only[rangeM,hs i hi,List.find?_cons,e]
   cases hp:p l[i] with
   | true=>simp
   | false=>simp only[y1j,y32]; exact ih (i+1) om
 have:=key l.length 0 om
 simpa using this
theorem z6n (b:TBo) (n:Int):F_qk b n=some (leftN b n):=by
 simp only[F_qk,S_qk,Scr.den]
 rw[ziu b.A (fun r=>r.D==n) (leftV b)]
 ·unfold leftN
  cases b.A.find? (fun r=>r.D==n) <;> rfl
 ·intro i hi
  simp only[S_qk_b2,Scr.den]
  split
  ·rename_i hn
   rw[z21 b.B (fun (s:Int) c=>if (c.H==n)=true then i64.wrap (s-c.L) else s)]
   ·have:=z8f b.B (fun c=>c.H==n) (·.L) ((b.A.getD i dF).L-(b.A.getD i dF).P)
    simp only[outM,this]
    unfold leftV cmt
    rw[eq_of_beq hn]
   ·intro j s hj
    simp only[S_qk_b1,Scr.den]
    split <;> rfl
  ·rfl
theorem zok (b:TBo) (code:Y8) (y:Int):F_q1p b code y=some (usedV b code y):=by
 simp only[F_q1p,S_q1p,Scr.den]
 rw[z21 b.A (fun (s:Int) r=>if (r.J==code&&r.K==y)=true then i64.wrap (s+(r.L-r.P-rel b r.D)) else s)]
 ·have e0:i64.wrap 0=0:=wrapId om om
  have:=z8e b.A (fun r=>r.J==code&&r.K==y) (fun r=>r.L-r.P-rel b r.D) 0
  rw[e0] at this
  simp only[outM,this]
  simp[usedV]
 ·intro i s hi
  simp only[S_q1p_b1,Scr.den,z8i,obind,zf]
  split
  ·rw[z41,z8c,zcw]
  ·rfl
def goodR:Y8->Nat->Nat->Bool
 | [],d,p=>decide (0<d)&&decide (p<=4)
 | c :: l,d,p=>if c.toNat=46 then (if d=0 then false else goodR l 0 (p+1)) else
  if c.toNat<48\/57<c.toNat\/(d=0/\c.toNat=48)\/d=2 then false else goodR l (d+1) p
def dig (c:UInt8):Prop:=48<=c.toNat/\c.toNat<=57
def preOk:Y8->Prop
 | []=>True
 | [a]=>dig a/\a.toNat≠48
 | [a,b]=>dig a/\a.toNat≠48/\dig b
 | _=>False
def cntOk (ws:List Y8) (p:Nat):Bool:=match nums ws with
 | none=>false
 | some ns=>decide (ns.length+p<=5)
theorem z5n (w:Y8) (ws:List Y8) (p:Nat):cntOk (w :: ws) p=match pv w with
  | none=>false
  | some _=>cntOk ws (p+1):=by
 unfold cntOk
 simp only[nums]
 cases pv w with
 | none=>rfl
 | some n =>
  cases nums ws with
  | none=>rfl
  | some ns =>
   simp only[y1k,yd]
   congr 1
   rw[eq_iff_iff]; omega
theorem z9t:∀ {w:Y8},preOk w->w≠[]->∃ n,pv w=some n
 | [a],h,_=>⟨_,by simp only[pv]; rw[y9 ⟨by have:=h.1.1; have:=h.2; omega,h.1.2⟩]⟩
 | [a,b],h,_=>⟨_,by simp only[pv]; rw[y9 ⟨⟨by have:=h.1.1; have:=h.2.1; omega,h.1.2⟩,h.2.2⟩]⟩
 | [],_,h=>absurd rfl h
 | _ :: _ :: _ :: _,h,_=>h.elim
variable {w:Y8}
theorem ziv {pre:Y8} {c:UInt8} (hc:¬ dig c):pv (pre++c :: w)=none:=by
 match pre,w with
 | [],[]=>simp only[y1y,pv]; rw[y8]; intro h; exact hc ⟨om,h.2⟩
 | [],[b]=>simp only[y1y,pv]; rw[y8]; intro h; exact hc ⟨om,h.1.2⟩
 | [],b :: d :: w=>rfl
 | [a],[]=>simp only[y21,y1y,pv]; rw[y8]; intro h; exact hc h.2
 | [a],b :: w=>rfl
 | [a,b],w=>rfl
 | a :: b :: d :: pre,w=>rfl
theorem zf2 {c:UInt8} (hc:c.toNat=48):pv (c :: w)=none:=by
 match w with
 | []=>simp only[pv]; rw[y8]; omega
 | [b]=>simp only[pv]; rw[y8]; omega
 | b :: d :: w=>rfl
theorem z8j:∀ (l pre p0:Y8) (ps:List Y8) (p:Nat),preOk pre->pieces l=p0 :: ps->goodR l pre.length p=cntOk ((pre++p0) :: ps) p
 | [],pre,p0,ps,p,hp,he=>by
  cases he
  rw[y3d,z5n]
  simp only[goodR]
  match pre,hp with
  | [],_=>rfl
  | a :: pre,hp =>
   obtain⟨n,hn⟩:=z9t hp sj
   rw[hn]
   simp[cntOk,nums]
 | c :: l,pre,p0,ps,p,hp,he=>by
  rw[z20] at he
  simp only[goodR]
  by_cases hc:c.toNat=46
  ·rw[y9 (by rw[show c=46 from UInt8.toNat_inj.mp hc]; rfl)] at he
   cases he
   rw[y9 hc,y3d,z5n]
   match pre,hp with
   | [],_=>rfl
   | a :: pre,hp =>
    obtain⟨n,hn⟩:=z9t hp sj
    rw[hn,y8 sj]
    simp only
    cases hl:pieces l with
    | nil=>exact absurd hl (z1l l)
    | cons q qs =>
     have:=z8j l [] q qs (p+1) trivial hl
     simpa using this
  ·rw[y8 (by intro h; rw[eq_of_beq h] at hc; exact hc rfl)] at he
   rw[y8 hc]
   cases hl:pieces l with
   | nil=>exact absurd hl (z1l l)
   | cons q qs =>
    rw[hl] at he
    injection he with e1 e2
    subst e1
    subst e2
    have ih:=z8j l (pre++[c]) q qs p
    by_cases hd:dig c
    ·match pre,hp with
     | [],_ =>
      by_cases h0:c.toNat=48
      ·rw[y9 (by right; right; left; exact⟨rfl,h0⟩),z5n,y1y,zf2 h0]
      ·rw[y8 (by have:=hd.1; have:=hd.2; simp; omega)]
       exact ih ⟨hd,h0⟩ hl
     | [a],hp =>
      rw[y8 (by have:=hd.1; have:=hd.2; simp; omega)]
      have:=ih ⟨hp.1,hp.2,hd⟩ hl
      simpa using this
     | [a,b],hp =>
      rw[y9 (by right; right; right; rfl),z5n]
      rfl
     | _ :: _ :: _ :: _,hp=>exact hp.elim
    ·rw[y9 (by unfold dig at hd; omega),z5n,ziv hd]
theorem z4o:∀ {ws:List Y8} {ns:List Int},nums ws=some ns->ns.length=ws.length
 | [],ns,h=>by cases h; rfl
 | w :: ws,ns,h=>by
  simp only[nums] at h
  split at h
  ·cases h
  ·cases hn:nums ws with
   | none=>rw[hn] at h; cases h
   | some ms =>
    rw[hn] at h
    cases h
    simp[z4o hn]
def good (l:Y8):Bool:=goodR l 0 1
theorem z5a (l:Y8):decide ((parts l).length>0)=good l:=by
 unfold good
 cases hl:pieces l with
 | nil=>exact absurd hl (z1l l)
 | cons q qs =>
  have:=z8j l [] q qs 1 trivial hl
  simp only[yl,y1y] at this
  rw[this]
  unfold parts cntOk
  rw[hl]
  cases hn:nums (q :: qs) with
  | none=>rfl
  | some ns =>
   have h1:=z4o hn
   simp only[yd] at h1
   simp only
   by_cases h4:ns.length>4
   ·simp only[y9 h4]; simp; omega
   ·simp only[y8 h4]; rw[y1p]; simp; omega
theorem z3r {l:Y8} (hl:l.length<4611686018427387904):F_ql l=some (good l):=by
 simp only[F_ql,S_ql,Scr.den,zf]
 generalize hF:(fun s=>(S_ql_b1 l s).den)=F
 have key:∀ (k i d p:Nat),i+k=l.length->d<=i->p<=i+1->outM (iterM F ((d:Int),(p:Int),(i:Int))) (fun s=>some (decide (s.1>0)&&decide (s.2.1<=4))) (fun x=>some (id x))=some (goodR (l.drop i) d p):=by
  intro k
  induction k with
  | zero =>
   intro i d p hk hd hp
   rw[z1s,y1f om,<- hF]
   simp only[S_ql_b1,Scr.den]
   rw[y8 sk]
   simp only[outM,goodR]
   congr 1
   rw[y1p]; simp; omega
  | succ k ih =>
   intro i d p hk hd hp
   have hi:i<l.length:=om
   have ei:l.getD i 0=l[i]:=by simp[List.getD_eq_getElem?_getD,List.getElem?_eq_getElem hi]
   rw[z1s,y19 hi,<- y44 hF]
   simp only[S_ql_b1,Scr.den,yh,ei,zf,zi]
   generalize hcc:l[i]=c
   rw[y9 sk,z8 ⟨om,hi,trivial⟩]
   have w1:i64.wrap ((p:Int)+1)=((p+1:Nat):Int):=by rw[wrapId om om]; omega
   have w2:i64.wrap ((i:Int)+1)=((i+1:Nat):Int):=by rw[wrapId om om]; omega
   have w3:i64.wrap ((d:Int)+1)=((d+1:Nat):Int):=by rw[wrapId om om]; omega
   simp only[w1,w2,w3,goodR]
   by_cases hc:c.toNat=46
   ·rw[y9 (by simp[hc]),y9 hc]
    by_cases h0:d=0
    ·rw[y9 (by simp[h0]),y9 h0]; rfl
    ·rw[y8 (by simpa using h0),y8 h0]
     have h:=ih (i+1) 0 (p+1) om om om
     rw[show ((0:Nat):Int)=0 from rfl] at h
     exact h
   ·rw[y8 sk,y8 hc,z8 ⟨fun _=>om,fun _=>hi,fun _=>om,fun _=>hi,trivial⟩]
    by_cases hb:c.toNat<48\/57<c.toNat\/(d=0/\c.toNat=48)\/d=2
    ·rw[y9 sk,y9 hb]; rfl
    ·rw[y8 sk,y8 hb]
     exact ih (i+1) (d+1) p om om om
 exact key l.length 0 0 1 om om om
theorem z5o {l:Y8} (hl:l.length<=1099511627776):F_q46 l=some (parts l):=by
 unfold F_q46
 exact zcu hl rfl
def lexC:List Int->List Int->Int
 | [],[]=>0
 | [],_ :: _=>-1
 | _ :: _,[]=>1
 | a :: x,b :: y=>if a<b then -1 else if a>b then 1 else lexC x y
theorem zd0:∀ x,lexC x x=0
 | []=>rfl
 | a :: x=>by simp[lexC,zd0 x]
theorem z5f:∀ {x y:List Int},lexC x y=0->x=y
 | [],[],_=>rfl
 | [],_ :: _,h=>by simp[lexC] at h
 | _ :: _,[],h=>by simp[lexC] at h
 | a :: x,b :: y,h=>by
  simp only[lexC] at h
  split at h
  ·omega
  ·split at h
   ·omega
   ·rw[z5f h,show a=b from om]
theorem zd1:∀ x y:List Int,lexC y x=-lexC x y
 | [],[]=>rfl
 | [],_ :: _=>rfl
 | _ :: _,[]=>rfl
 | a :: x,b :: y=>by
  simp only[lexC]
  by_cases h1:a<b
  ·rw[y9 h1,y8 om,y9 om]; rfl
  ·by_cases h2:a>b
   ·rw[y9 om,y8 h1,y9 h2]
   ·rw[y8 h1,y8 h2,y8 om,y8 om,zd1 x y]
theorem zb7:∀ {x y z:List Int},lexC x y<0->lexC y z<0->lexC x z<0
 | [],_,[],h,h'=>by
  rename_i y
  cases y with
  | nil=>simp[lexC] at h
  | cons b y=>simp[lexC] at h'
 | [],_,c :: z,_,_=>by simp[lexC]
 | a :: x,[],_,h,_=>by simp[lexC] at h
 | a :: x,b :: y,[],_,h'=>by simp[lexC] at h'
 | a :: x,b :: y,c :: z,h,h'=>by
  simp only[lexC] at h h' |-
  by_cases h1:a<b
  ·by_cases h2:b<c
   ·rw[y9 om]; omega
   ·rw[y8 h2] at h'
    by_cases h3:b>c
    ·rw[y9 h3] at h'; omega
    ·rw[y9 om]; omega
  ·rw[y8 h1] at h
   by_cases h2:a>b
   ·rw[y9 h2] at h; omega
   ·rw[y8 h2] at h
    by_cases h3:b<c
    ·rw[y9 om]; omega
    ·rw[y8 h3] at h'
     by_cases h4:b>c
     ·rw[y9 h4] at h'; omega
     ·rw[y8 h4] at h'
      rw[y8 om,y8 om]
      exact zb7 h h'
theorem zpt:∀ {w w':Y8} {n:Int},pv w=some n->pv w'=some n->w=w'
 | [],_,_,h,_=>by simp[pv] at h
 | [a],[],_,_,h=>by simp[pv] at h
 | [a,b],[],_,_,h=>by simp[pv] at h
 | [a],[c],n,h,h'=>by
  simp only[pv] at h h'
  split at h <;> split at h' <;> simp at h h'
  have:a.toNat=c.toNat:=om
  rw[y4c.1 this]
 | [a],[c,d],n,h,h'=>by
  simp only[pv] at h h'
  split at h <;> split at h' <;> simp at h h'
  omega
 | [a,b],[c],n,h,h'=>by
  simp only[pv] at h h'
  split at h <;> split at h' <;> simp at h h'
  omega
 | [a,b],[c,d],n,h,h'=>by
  simp only[pv] at h h'
  split at h <;> split at h' <;> simp at h h'
  have h1:a.toNat=c.toNat:=om
  have h2:b.toNat=d.toNat:=om
  rw[y4c.1 h1,y4c.1 h2]
 | _ :: _ :: _ :: _,_,_,h,_=>by simp[pv] at h
 | _,_ :: _ :: _ :: _,_,_,h=>by simp[pv] at h
theorem zf3:∀ {ws ws':List Y8} {ns:List Int},nums ws=some ns->nums ws'=some ns->ws=ws'
 | [],[],_,_,_=>rfl
 | [],w :: ws,ns,h,h'=>by
  have h1:=z4o h; have h2:=z4o h'; simp only[yl,yd] at h1 h2; omega
 | w :: ws,[],ns,h,h'=>by
  have h1:=z4o h; have h2:=z4o h'; simp only[yl,yd] at h1 h2; omega
 | w :: ws,w' :: ws',ns,h,h'=>by
  simp only[nums] at h h'
  split at h
  ·cases h
  ·rename_i n hn
   split at h'
   ·cases h'
   ·rename_i n' hn'
    cases hm:nums ws with
    | none=>rw[hm] at h; cases h
    | some ms =>
     cases hm':nums ws' with
     | none=>rw[hm'] at h'; cases h'
     | some ms' =>
      rw[hm] at h; rw[hm'] at h'
      simp only[y1k,yw] at h h'
      rw[<- h] at h'
      simp only[y3k] at h'
      obtain⟨rfl,rfl⟩:=h'
      rw[zpt hn hn',zf3 hm hm']
theorem z7i:∀ {l l':Y8},pieces l=pieces l'->l=l'
 | [],[],_=>rfl
 | [],b :: m,h=>by
  rw[z20] at h
  split at h
  ·simp[pieces] at h; first | exact absurd h (z1l m) | exact absurd h.symm (z1l m)
  ·split at h <;> simp[pieces] at h
 | b :: m,[],h=>by
  rw[z20] at h
  split at h
  ·simp[pieces] at h; first | exact absurd h (z1l m) | exact absurd h.symm (z1l m)
  ·split at h <;> simp[pieces] at h
 | b :: l,c :: m,h=>by
  rw[z20,z20] at h
  cases hl:pieces l with
  | nil=>exact absurd hl (z1l l)
  | cons p ps =>
   cases hm:pieces m with
   | nil=>exact absurd hm (z1l m)
   | cons q qs =>
    rw[hl,hm] at h
    by_cases hb:(b==46)=true
    ·by_cases hc:(c==46)=true
     ·rw[y9 hb,y9 hc] at h
      have e:pieces l=pieces m:=by rw[hl,hm]; simpa using h
      rw[z7i e,show b=c by rw[eq_of_beq hb,eq_of_beq hc]]
     ·rw[y9 hb,y8 hc] at h; simp at h
    ·by_cases hc:(c==46)=true
     ·rw[y8 hb,y9 hc] at h; simp at h
     ·rw[y8 hb,y8 hc] at h
      simp only[y3k] at h
      obtain⟨⟨rfl,rfl⟩,rfl⟩:=h
      rw[z7i (hl.trans hm.symm)]
theorem z2u {l:Y8} (h:good l=true):nums (pieces l)=some (parts l)/\0<(parts l).length/\(parts l).length<=4:=by
 rw[<- z5a] at h
 have h0:0<(parts l).length:=by simpa using h
 unfold parts at h0 |-
 split at h0
 ·simp at h0
 ·rename_i ns hn
  split at h0
  ·simp at h0
  ·rename_i h4
   rw[hn]
   simp only[y8 h4]
   exact⟨trivial,h0,om⟩
theorem zd2 {l l':Y8} (h:good l=true) (h':good l'=true) (e:parts l=parts l'):l=l' :=
 z7i (zf3 (z2u h).1 (e▸(z2u h').1))
def valW (w:Y8):Int:=w.foldl (fun n c=>10 * n+((c.toNat:Int)-48)) 0
theorem zf4:∀ {w:Y8} {n:Int},pv w=some n->valW w=n/\1<=w.length/\w.length<=2/\(w.getD 0 0).toNat≠48/\∀ c∈w,48<=c.toNat/\c.toNat<=57
 | [],_,h=>by simp[pv] at h
 | [a],n,h=>by
  simp only[pv] at h
  split at h <;> simp at h
  rename_i h1
  refine⟨by simp[valW]; omega,sj,sj,sk,fun c hc=>by simp at hc; subst hc; omega⟩
 | [a,b],n,h=>by
  simp only[pv] at h
  split at h <;> simp at h
  rename_i h1
  refine⟨by simp[valW]; omega,sj,sj,sk,fun c hc=>?_⟩
  simp at hc
  rcases hc with rfl | rfl <;> omega
 | _ :: _ :: _ :: _,_,h=>by simp[pv] at h
theorem z5p {l:Y8} (h:good l=true):l.length<=11:=by
 have key:∀ (l:Y8) (ns:List Int),nums (pieces l)=some ns->l.length+1<=3 * ns.length:=by
  intro l
  suffices H:∀ (l p0:Y8) (ps:List Y8),pieces l=p0 :: ps->l.length=p0.length+(ps.map fun q=>q.length+1).sum by
   intro ns hn
   cases hp:pieces l with
   | nil=>exact absurd hp (z1l l)
   | cons p0 ps =>
    rw[hp] at hn
    rw[H l p0 ps hp]
    have hall:∀ (ws:List Y8) (ms:List Int),nums ws=some ms->(ws.map fun q=>q.length+1).sum<=3 * ms.length:=by
     intro ws
     induction ws with
     | nil=>intro ms hm; simp
     | cons w ws ih =>
      intro ms hm
      simp only[nums] at hm
      split at hm
      ·cases hm
      ·rename_i n hpv
       cases hw:nums ws with
       | none=>rw[hw] at hm; cases hm
       | some ks =>
        rw[hw] at hm; cases hm
        have:=ih ks hw
        have:=(zf4 hpv).2.2.1
        simp only[y2o,List.sum_cons,yd]
        omega
    have:=hall _ _ hn
    simp only[y2o,List.sum_cons] at this
    omega
  intro l
  induction l with
  | nil=>intro p0 ps hp; simp[pieces] at hp; obtain⟨rfl,rfl⟩:=hp; simp
  | cons b l ih =>
   intro p0 ps hp
   rw[z20] at hp
   cases hl:pieces l with
   | nil=>exact absurd hl (z1l l)
   | cons q qs =>
    have:=ih q qs hl
    rw[hl] at hp
    split at hp
    ·simp only[y3k] at hp
     obtain⟨rfl,rfl⟩:=hp
     simp only[yd,yl,y2o,List.sum_cons]; omega
    ·simp only[y3k] at hp
     obtain⟨rfl,rfl⟩:=hp
     simp only[yd]; omega
 obtain⟨h1,h2,h3⟩:=z2u h
 have:=key l _ h1
 omega
def cmpI (a b:Int):Int:=if a<b then -1 else if a>b then 1 else 0
theorem zc0 (a b:Int):F_q2b a b=some (cmpI a b):=by
 simp only[F_q2b,S_q2b,F_q3b,S_q3b,Scr.den,obind,cmpI,bne_self_eq_false,y1j,y32,ya]
 by_cases h1:a<b
 ·rw[y9 h1,y9 h1]
 ·rw[y8 h1,y8 h1]
  by_cases h2:a>b
  ·rw[y9 h2,y9 h2]
  ·rw[y8 h2,y8 h2]
variable {i:Nat}
theorem z95 {l:List Int} (hi:i<l.length):l.getD i dF=l[i]:=by simp[List.getD_eq_getElem?_getD,List.getElem?_eq_getElem hi]
theorem zag (x y:List Int):F_q1g x y=some (lexC x y):=by
 simp only[F_q1g,S_q1g,Scr.den]
 generalize hB:(fun i s=>(S_q1g_b1 x y i s).den)=B
 have key:∀ (k i:Nat),i+k=x.length->i<=y.length->outM (rangeM B k i ()) (fun _=>if decide ((x.length:Int)<(y.length:Int))=true then some (-1) else some 0) (fun r=>some (id r))=some (lexC (x.drop i) (y.drop i)):=by
  intro k
  induction k with
  | zero =>
   intro i hk hy
   rw[y1f om]
   by_cases h:y.length<=i
   ·rw[y1f h]
    simp only[rangeM,outM]
    rw[y8 sk]
    rfl
   ·rw[y19 (by omega:i<y.length)]
    simp only[rangeM,outM]
    rw[y9 sk]
    rfl
  | succ k ih =>
   intro i hk hy
   have hi:i<x.length:=om
   rw[y19 hi]
   simp only[rangeM]
   rw[<- y44 (y44 hB i) ()]
   simp only[S_q1g_b1,Scr.den]
   by_cases h:y.length<=i
   ·rw[y9 sk,y1f h]
    rfl
   ·have hj:i<y.length:=om
    rw[y8 sk,z8 ⟨hj,trivial⟩,y19 hj]
    simp only[zc0,obind,z95 hi,z95 hj,lexC,cmpI]
    by_cases h1:x[i]<y[i]
    ·simp only[y9 h1]; rfl
    ·simp only[y8 h1]
     by_cases h2:x[i]>y[i]
     ·simp only[y9 h2]; rfl
     ·simp only[y8 h2]
      exact ih (i+1) om om
 have:=key x.length 0 om om
 simpa using this
def strC (a b:Y8):Int:=if Op.bytesLess a b=true then -1 else if (!(Op.bytesLess a b||a==b))=true then 1 else 0
def cmpC (a b:Y8):Int:=if (parts a).length=0/\(parts b).length=0 then strC a b else lexC (parts a) (parts b)
theorem ziw {a b:Y8} (ha:a.length<=1000000) (hb:b.length<=1000000):F_q3c a b=some (cmpC a b):=by
 simp only[F_q3c,S_q3c,Scr.den,z5o (show a.length<=1099511627776 from om),z5o (show b.length<=1099511627776 from om),obind,zf,cmpC,zag]
 by_cases h:(parts a).length=0/\(parts b).length=0
 ·rw[y9 (by simp[h]),y9 h]
  simp only[F_q3x,S_q3x,F_q3a,S_q3a,Scr.den,obind,beq_self_eq_true,y58,y1j,y32,strC]
  by_cases h1:Op.bytesLess a b=true
  ·rw[y9 h1,y9 h1]; rfl
  ·rw[y8 h1,y8 h1]
   by_cases h2:(!(Op.bytesLess a b||a==b))=true
   ·rw[y9 h2,y9 h2]; rfl
   ·rw[y8 h2,y8 h2]; rfl
 ·rw[y8 (by simpa using h),y8 h]
theorem z6c {a b:Y8} (h:good a=true\/good b=true):cmpC a b=lexC (parts a) (parts b):=by
 unfold cmpC
 rw[y8]
 rintro⟨h1,h2⟩
 rcases h with h | h
 ·have:=(z2u h).2.1; omega
 ·have:=(z2u h).2.1; omega
def cmpR (a b:TRi):Int:=if cmpC a.J b.J≠0 then cmpC a.J b.J else cmpI a.K b.K
variable {a:TRi}
theorem zah {b:TRi} (ha:a.J.length<=1000000) (hb:b.J.length<=1000000):F_q3d a b=some (cmpR a b):=by
 simp only[F_q3d,S_q3d,Scr.den,ziw ha hb,zc0,obind,F_q1w,S_q1w,S_q1w_b1,cmpR]
 by_cases h:cmpC a.J b.J=0
 ·rw[y8 (by simpa using h)]
  by_cases h2:cmpI a.K b.K=0
  ·simp[rangeM,h,h2,outM]
  ·simp[rangeM,h,h2,outM]
 ·rw[y9 h]
  simp[rangeM,h,outM]
theorem z8k {l:Y8} (hg:good l=true):F_qp l=some (parts l):=by
 obtain⟨hn,h0,h4⟩:=z2u hg
 have hlen:=z5p hg
 simp only[F_qp,S_qp,Scr.den]
 rw[y8 sk]
 generalize hF:(fun s=>(S_qp_b1 l s).den)=F
 have w1:∀ i:Nat,i<=11->i64.wrap ((i:Int)+1)=((i+1:Nat):Int):=fun i hi=>by rw[wrapId om om]; omega
 have flush:∀ (i:Nat) (w:Y8) (out:List Int) (n:Int),i<=l.length->w.length<=i->(∀ j,j<w.length->l.getD (i-w.length+j) 0=w.getD j 0)->pv w=some n->(i=l.length\/(l.getD i 0).toNat=46)->out.length<=4 ->
   F (out,valW w,(w.length:Int),(i:Int))=some (.cont (out++[n],0,0,((i+1:Nat):Int))):=by
  intro i w out n hi hw hg hpv hor ho
  obtain⟨e1,e2,e3,e4,e5⟩:=zf4 hpv
  have hk:i64.wrap ((i:Int)-(w.length:Int))=((i-w.length:Nat):Int):=by rw[wrapId om om]; omega
  have h0:=hg 0 om
  rw[y2y] at h0
  rw[<- y44 hF]
  simp only[S_qp_b1,Scr.den,yh,zi,hk,h0]
  rw[y9 sk,z8 ⟨fun _=>om,fun h=>by have h:=h.1; simp at h; omega,trivial⟩,y9 (by
   rcases hor with rfl | h
   ·simp
   ·simp only[yj,y1a]; right; omega),z8 ⟨fun _=>om,fun _=>om,trivial⟩,y8 (by
    simp only[yj,y1a,ya]; omega),Ga,w1 i om,e1]
 have digit:∀ (i:Nat) (w:Y8) (out:List Int),i<l.length->(l.getD i 0).toNat≠46->48<=(l.getD i 0).toNat/\(l.getD i 0).toNat<=57->w.length<=1->(∀ c∈w,48<=c.toNat/\c.toNat<=57) ->
   F (out,valW w,(w.length:Int),(i:Int))=some (.cont (out,valW (w++[l.getD i 0]),((w++[l.getD i 0]).length:Int),((i+1:Nat):Int))):=by
  intro i w out hi h46 hd hw hall
  have hv:0<=valW w/\valW w<=9:=by
   match w,hw with
   | [],_=>simp[valW]
   | [a],_=>have:=hall a sj; simp[valW]; omega
  have e1:valW (w++[l.getD i 0])=10 * valW w+(((l.getD i 0).toNat:Int)-48):=by simp[valW]
  have e2:IntKind.u8.wrap (((l.getD i 0).toNat:Int)-48)=((l.getD i 0).toNat:Int)-48:=by
   generalize (l.getD i 0).toNat=m at hd
   simp only[IntKind.wrap,IntKind.bits,IntKind.signed]
   simp
   omega
  rw[<- y44 hF]
  simp only[S_qp_b1,Scr.den,yh,zi,e1,e2]
  rw[y9 sk,z8 ⟨fun _=>om,fun _=>om,trivial⟩,y8 (by simp only[yj,y1a]; omega),z8 ⟨om,hi,fun _=>om,fun _=>hi,trivial⟩,y8 (by simp only[yj,ya]; omega),w1 i om,w1 w.length om,
   wrapId (n:=10 * valW w) om om,wrapId (n:=((l.getD i 0).toNat:Int)-48) om om,wrapId om om]
  simp
 have key:∀ (k i:Nat) (w p0:Y8) (ps:List Y8) (out ns:List Int),i+k=l.length->w.length<=i->(∀ j,j<w.length->l.getD (i-w.length+j) 0=w.getD j 0)->pieces (l.drop i)=p0 :: ps->nums ((w++p0) :: ps)=some ns->out.length+ns.length<=4 ->
   iterM F (out,valW w,(w.length:Int),(i:Int))=some (.next (out++ns,0,0,((l.length+1:Nat):Int))):=by
  intro k
  induction k with
  | zero =>
   intro i w p0 ps out ns hk hw hgd hpc hnm ho
   obtain rfl:i=l.length:=om
   rw[y1f (yf _)] at hpc
   simp only[pieces,y3k] at hpc
   obtain⟨rfl,rfl⟩:=hpc
   simp only[y3d,nums] at hnm
   split at hnm
   ·cases hnm
   ·rename_i n hpv
    simp only[y1k,yw] at hnm
    subst hnm
    rw[z1s,flush l.length w out n (yf _) hw hgd hpv (.inl rfl) (by simp at ho; omega)]
    simp only
    rw[z1s,<- y44 hF]
    simp only[S_qp_b1,Scr.den]
    rw[y8 sk]
  | succ k ih =>
   intro i w p0 ps out ns hk hw hgd hpc hnm ho
   have hi:i<l.length:=om
   have ei:l.getD i 0=l[i]:=by simp[List.getD_eq_getElem?_getD,List.getElem?_eq_getElem hi]
   rw[y19 hi,z20] at hpc
   cases hq:pieces (l.drop (i+1)) with
   | nil=>exact absurd hq (z1l _)
   | cons q qs =>
    rw[hq] at hpc
    by_cases hc:(l[i]==46)=true
    ·rw[y9 hc] at hpc
     simp only[y3k] at hpc
     obtain⟨rfl,rfl⟩:=hpc
     simp only[y3d,nums] at hnm
     split at hnm
     ·cases hnm
     ·rename_i n hpv
      cases hm:nums (q :: qs) with
      | none=>simp only[nums] at hm; rw[hm] at hnm; cases hnm
      | some ms =>
       have hm':=hm
       simp only[nums] at hm'
       rw[hm'] at hnm
       simp only[y1k,yw] at hnm
       subst hnm
       simp only[yd] at ho
       have h46:(l.getD i 0).toNat=46:=by rw[ei,eq_of_beq hc]; rfl
       rw[z1s,flush i w out n om hw hgd hpv (.inr h46) om]
       simp only
       have:=ih (i+1) [] q qs (out++[n]) ms om sj sj hq (by simpa using hm) sk
       simpa [valW] using this
    ·rw[y8 hc] at hpc
     simp only[y3k] at hpc
     obtain⟨rfl,rfl⟩:=hpc
     have hpv:∃ n,pv (w++l[i] :: q)=some n:=by
      simp only[nums] at hnm
      split at hnm
      ·cases hnm
      ·rename_i n h; exact⟨n,h⟩
     obtain⟨n,hpv⟩:=hpv
     obtain⟨_,_,g3,_,g5⟩:=zf4 hpv
     simp only[ye,yd] at g3
     have hne:(l.getD i 0).toNat≠46:=by
      rw[ei]; intro h; exact hc (by rw[y4c.1 (show l[i].toNat=(46:UInt8).toNat from h)]; rfl)
     rw[z1s,digit i w out hi hne (by rw[ei]; exact g5 l[i] sj) om (fun c hc=>g5 c (by simp[hc]))]
     simp only
     refine ih (i+1) (w++[l.getD i 0]) q qs out ns om sk (fun j hj=>?_) hq (by rw[ei]; simpa using hnm) ho
     simp only[ye,yd,yl] at hj |-
     by_cases hjw:j<w.length
     ·have:=hgd j hjw
      rw[show i+1-(w.length+(0+1))+j=i-w.length+j from om,this]
      simp[List.getD_eq_getElem?_getD,List.getElem?_append_left hjw]
     ·obtain rfl:j=w.length:=om
      rw[show i+1-(w.length+(0+1))+w.length=i from om]
      simp[List.getD_eq_getElem?_getD]
 cases hp:pieces l with
 | nil=>exact absurd hp (z1l l)
 | cons p0 ps =>
  rw[hp] at hn
  have h:=key l.length 0 [] p0 ps [] (parts l) om sj sj (by simpa using hp) (by simpa using hn) sk
  have h':iterM F (([]:List Int),(0:Int),(0:Int),(0:Int))=some (.next (parts l,0,0,((l.length+1:Nat):Int))):=by simpa [valW] using h
  rw[h']
  simp only[outM]
  rw[y8 sk,Ga]
def ordersOf (l:List TOr) (v:Int):List TOr:=l.filter (fun o=>o.E==v)
theorem zf5 [Inhabited α] (l:List α) (p:α->Bool) (v:Nat->ρ) (hs:∀ i,i<l.length->body i ()=some (if p (l.getD i dF)=true then .ret (v i) else .cont ())) :
  (rangeM body l.length 0 ()=some (.next ())/\∀ x∈l,p x=false)\/∃ i,i<l.length/\p (l.getD i dF)=true/\(∀ x∈l.take i,p x=false)/\rangeM body l.length 0 ()=some (.ret (v i)):=by
 have key:∀ (k i:Nat),i+k=l.length->(∀ x∈l.take i,p x=false)->(rangeM body k i ()=some (.next ())/\∀ x∈l,p x=false)\/∃ i,i<l.length/\p (l.getD i dF)=true/\(∀ x∈l.take i,p x=false)/\rangeM body k (l.length-k) ()=some (.ret (v i)):=by
  intro k
  induction k with
  | zero =>
   intro i hk h
   left
   rw[y2f om] at h
   exact⟨rfl,h⟩
  | succ k ih =>
   intro i hk h
   have hi:i<l.length:=om
   have e:l.length-(k+1)=i:=om
   have e':l.length-k=i+1:=om
   rw[e]
   simp only[rangeM,hs i hi]
   cases hp:p (l.getD i dF) with
   | true =>
    right
    exact⟨i,hi,hp,h,sj⟩
   | false =>
    simp only[y1j,y32]
    rw[e'] at ih
    refine ih (i+1) om fun x hx=>?_
    rw[y3x,y1b] at hx
    rcases hx with hx | hx
    ·exact h x hx
    ·rw[yc hi] at hx
     simp only[Option.toList_some,y1z] at hx
     rw[hx]
     simpa [List.getD_eq_getElem?_getD,List.getElem?_eq_getElem hi] using hp
 have:=key l.length 0 om sj
 simpa using this
theorem zix (l:List α) (i n:Nat) (z:α):(clearL l (0+i) n z).take i=l.take i:=by
 apply y2q
 intro k
 simp only[y56,clearL,List.getElem?_mapIdx]
 split
 ·cases l[k]? with
  | none=>rfl
  | some x=>simp only[y1k]; rw[y8 om]
 ·rfl
theorem z9u {l:List α} {q:α->Bool} (h:∀ x∈l,q x=true):l.filter q=l:=List.filter_eq_self.mpr h
theorem zkr {l:List TOr} (v:Int) (hl:l.length<4611686018427387904):F_q13 l v=some (ordersOf l v):=by
 have hI:(F_q12 l v=some (-1)/\∀ x∈l,(x.E==v)=true)\/∃ i:Nat,i<l.length/\((l.getD i dF).E==v)=false/\(∀ x∈l.take i,(x.E==v)=true)/\F_q12 l v=some (i:Int):=by
  simp only[F_q12,S_q12,Scr.den]
  rw[Ga]
  have:=zf5 l (fun x=>x.E != v) (fun i=>(i:Int)) (body:=fun i s=>(S_q12_b1 l v i s).den) fun i hi=>by
   simp only[S_q12_b1,F_q29,S_q29,Scr.den,obind,y14]
   rw[z8 ⟨hi,trivial⟩]
   split <;> rfl
  rcases this with ⟨h1,h2⟩ | ⟨i,h1,h2,h3,h4⟩
  ·left
   rw[h1]
   exact⟨rfl,fun x hx=>by simpa using h2 x hx⟩
  ·right
   refine⟨i,h1,by simpa [bne] using h2,fun x hx=>by simpa using h3 x hx,?_⟩
   rw[h4]
   rfl
 simp only[F_q13,S_q13,Scr.den]
 rcases hI with ⟨h1,h2⟩ | ⟨i0,h1,h2,h3,h4⟩
 ·rw[h1,obind,y9 (show ((-1:Int)==-1)=true from rfl),Ga]
  unfold ordersOf
  rw[z9u h2]
 ·rw[h4,obind,y8 sj]
  obtain⟨s,h5,h6⟩:=z15 (step:=fun s=>(S_q13_b1 v s).den) (fun s=>l.length-s.2.2.toNat)
   (fun s=>s.1.length=l.length/\0<=s.2.1/\s.2.1<=s.2.2/\s.2.2<=l.length/\s.1.take s.2.1.toNat=ordersOf (l.take s.2.2.toNat) v/\s.1.drop s.2.2.toNat=l.drop s.2.2.toNat)
   (fun s=>s.1.length=l.length/\0<=s.2.1/\s.2.1<=l.length/\s.1.take s.2.1.toNat=ordersOf l v) (fun s hs=>by
    obtain⟨sl,i,j⟩:=s
    obtain⟨a1,a2,a3,a4,a5,a6⟩:=hs
    simp only at a1 a2 a3 a4 a5 a6
    by_cases hj:j<(l.length:Int)
    ·left
     have hjn:j.toNat<sl.length:=om
     have hjl:j.toNat<l.length:=om
     have ex:sl.getD j.toNat dF=l.getD j.toNat dF:=by
      have:=y29 (fun t=>t[0]?) a6
      simp only[y2i,y2y] at this
      rw[yb,yb,this]
     have et:ordersOf (l.take (j.toNat+1)) v=ordersOf (l.take j.toNat) v++if ((l.getD j.toNat dF).E==v)=true then [l.getD j.toNat dF] else []:=by
      unfold ordersOf
      rw[y3x,List.filter_append,yc hjl]
      simp only[Option.toList_some,yb,yc hjl,y41,y30,List.filter_nil]
     have w1:i64.wrap (i+1)=i+1:=wrapId om om
     have w2:i64.wrap (j+1)=j+1:=wrapId om om
     have en:(j+1).toNat=j.toNat+1:=om
     have em:(i+1).toNat=i.toNat+1:=om
     have dj:sl.drop (j.toNat+1)=l.drop (j.toNat+1):=by
      have:=y29 (List.drop 1) a6
      simpa [List.drop_drop] using this
     simp only[S_q13_b1,F_q29,S_q29,Scr.den,obind,y14,ex,w1,w2]
     rw[y9 sk,Gc]
     by_cases hv:((l.getD j.toNat dF).E==v)=true
     ·rw[y9 (by simp only[bne,hv]; rfl),Gc]
      refine⟨_,rfl,⟨by simpa using a1,by simp only; omega,by simp only; omega,by simp only; omega,?_,?_⟩,by simp only; omega⟩
      ·simp only[en,em]
       rw[et,y9 hv,<- a5,y3x,List.take_set_of_le om,yx om]
       rfl
      ·simp only[en]
       rw[List.drop_set_of_lt om,dj]
     ·rw[y8 (by simp only[bne,hv]; simp)]
      refine⟨_,rfl,⟨a1,a2,by simp only; omega,by simp only; omega,?_,?_⟩,by simp only; omega⟩
      ·simp only[en]
       rw[et,y8 hv,y3d,a5]
      ·simp only[en]
       exact dj
    ·right
     simp only[S_q13_b1,Scr.den]
     rw[y8 sk]
     refine⟨_,rfl,a1,a2,by simp only; omega,?_⟩
     simp only
     rw[a5,y2f om]) _ (l,(i0:Int),i64.wrap ((i0:Int)+1)) (y1o _) (by
    have w2:i64.wrap ((i0:Int)+1)=i0+1:=wrapId om om
    have en:((i0:Int)+1).toNat=i0+1:=om
    simp only[w2,en,yh]
    refine⟨trivial,om,om,om,?_,trivial⟩
    unfold ordersOf
    rw[y3x,List.filter_append,z9u h3,yc h1]
    simp only[yb,yc h1,y41] at h2
    simp[h2])
  obtain⟨b1,b2,b3,b4⟩:=h6
  rw[h5]
  simp only[outM]
  rw[z8 ⟨b2,om,trivial⟩,z8 ⟨by rw[z3t]; omega,trivial⟩,z8 ⟨by rw[z3t]; omega,trivial⟩,zix,b4]
def Few (b:TBo):Prop:=b.A.length<=1000000/\b.B.length<=1000000/\b.C.length<=1000000/\b.G.length<=1000000
theorem zks {l:List TOr} (hl:l.length<=1000000):F_q35 l=some l:=by
 simp only[F_q35,S_q35,Scr.den]
 rw[Ga]
variable {b:TBo}
theorem z28 (h:Few b):F_q1j b=some (b.A,b.B,b.C,b.G):=by
 obtain⟨h1,h2,h3,h4⟩:=h
 simp only[F_q1j,S_q1j,Scr.den]
 rw[z8 ⟨om,om,om,om,trivial⟩]
theorem zkt (h:b.G.length<=1000000) (v:Int):F_q36 b v=some (ordersOf b.G v):=by
 simp only[F_q36,S_q36,Scr.den,zks h,obind,zkr v (show b.G.length<4611686018427387904 from om)]
theorem z9g (l:List TOr) (o:TOr):F_q37 l o=some (l.any fun x=>!x.Z||decide (x.N>o.N)):=by
 simp only[F_q37,S_q37,F_q1o,S_q1o,Scr.den]
 rcases zf5 l (fun x=>!x.Z||decide (x.N>o.N)) (fun i=>(i:Int)) (body:=fun i s=>(S_q1o_b1 l o i s).den) (fun i hi=>by
  simp only[S_q1o_b1,F_q3v,S_q3v,Scr.den,obind,zi]
  split <;> rfl) with ⟨h1,h2⟩ | ⟨i,h1,h2,h3,h4⟩
 ·rw[h1]
  simp only[outM,obind]
  rw[List.any_eq_false.mpr fun x hx=>by rw[h2 x hx]; simp]
  rfl
 ·rw[h4]
  simp only[outM,obind]
  rw[List.any_eq_true.mpr ⟨_,zk h1,h2⟩]
  simp
def noOrder:TOr:=⟨0,0,0,0,false⟩
def lastV (b:TBo) (v:Int):TOr:=(ordersOf b.G v).getLastD noOrder
theorem zhg (h:b.G.length<=1000000) (v:Int):F_q1k b v=some (lastV b v,((ordersOf b.G v).length:Int)):=by
 simp only[F_q1k,S_q1k,Scr.den]
 rw[z21 b.G (fun (s:TOr×Int) o=>if (o.E==v)=true then (o,i64.wrap (s.2+1)) else s)]
 ·have key:∀ (l:List TOr) (x:TOr) (n:Nat),n+l.length<=1000000->l.foldl (fun (s:TOr×Int) o=>if (o.E==v)=true then (o,i64.wrap (s.2+1)) else s) (x,(n:Int))=((ordersOf l v).getLastD x,((n+(ordersOf l v).length:Nat):Int)):=by
   intro l
   induction l with
   | nil=>intro x n _; rfl
   | cons o l ih =>
    intro x n hn
    simp only[yd] at hn
    rw[y34]
    unfold ordersOf
    rw[y30]
    by_cases ho:(o.E==v)=true
    ·rw[y9 ho,y9 ho]
     rw[show i64.wrap ((n:Int)+1)=((n+1:Nat):Int) by rw[wrapId om om]; omega,ih o (n+1) om]
     rw[List.getLastD_cons]
     simp only[yd,ordersOf]
     congr 2
     omega
    ·rw[y8 ho,y8 ho,ih x n om]
     rfl
  have:=key b.G noOrder 0 om
  rw[show (((0:Nat)):Int)=0 from rfl] at this
  simp only[outM]
  unfold noOrder at this
  rw[this]
  simp[lastV,noOrder]
 ·intro i s hi
  simp only[S_q1k_b1,Scr.den]
  split <;> rfl
theorem z16 (gs:List Prop) (x d:α) [Decidable (AllP gs)]:optD gs (some x) d=some (if AllP gs then x else d):=by
 unfold optD
 by_cases h:AllP gs
 ·rw[y9 h,y9 h]
 ·rw[y8 h,y8 h]
variable {x:Option α}
theorem z8l {gs:List Prop} {y d:α} [Decidable (AllP gs)] (h:AllP gs->x=some y):optD gs x d=some (if AllP gs then y else d):=by
 by_cases hg:AllP gs
 ·rw[y9 hg,z17 hg,h hg]
 ·rw[y8 hg,zx hg]
theorem z2r (a x d:Bool) [Decidable (AllP [a=false])]:(a||!(if AllP [a=false] then x else d))=(a||!x):=by
 cases a <;> simp[AllP]
theorem zku (a:Bool) (x d y:Int) [Decidable (AllP [a=false])]:(a||((if AllP [a=false] then x else d) != y))=(a||(x != y)):=by
 cases a <;> simp[AllP]
theorem znm (a:Bool) (x d y z:Int) [Decidable (AllP [a=false])]:(a||decide ((if AllP [a=false] then x else d)>i64.wrap ((if AllP [a=false] then y else z)+1)))=(a||decide (x>i64.wrap (y+1))):=by
 cases a <;> simp[AllP]
theorem z38 (a x d:Bool) [Decidable (AllP [a=true])]:(a&&(if AllP [a=true] then x else d))=(a&&x):=by
 cases a <;> simp[AllP]
theorem zhh (a:Bool) (x d y:Int) [Decidable (AllP [a=true])]:(a&&((if AllP [a=true] then x else d)==y))=(a&&(x==y)):=by
 cases a <;> simp[AllP]
theorem zkv (a:Bool) (x d y:Int) [Decidable (AllP [a=true])]:(a&&decide ((if AllP [a=true] then x else d)>=y))=(a&&decide (x>=y)):=by
 cases a <;> simp[AllP]
theorem zkw (a:Bool) (x d y z:Int) [Decidable (AllP [a=true])]:(a&&decide ((if AllP [a=true] then x else d)<=i64.wrap ((if AllP [a=true] then y else z)+1)))=(a&&decide (x<=i64.wrap (y+1))):=by
 cases a <;> simp[AllP]
theorem zol (a:Bool) (x d:List α) [Decidable (AllP [a=true])]:(a&&decide (((if AllP [a=true] then x else d).length:Int)>0))=(a&&decide (x.length>0)):=by
 cases a <;> simp[AllP]
def RFld (r:TRe) (n:Int):Prop:=r.D=n/\good r.J=true/\(0<=r.K/\r.K<=99)/\dayP r.N/\yr r.N=r.K/\amtP r.L/\(0<=r.P/\r.P<=r.L)
def rAt (b:TBo) (n:Int):TRe:=b.A.getD (n-1).toNat dF
def cAt (b:TBo) (n:Int):TCo:=b.B.getD (n-1).toNat dF
def vAt (b:TBo) (n:Int):TVe:=b.C.getD (n-1).toNat dF
def Small (b:TBo):Prop:=Few b/\∀ r∈b.A,r.J.length<=1000000
theorem z50 {n:Nat} (hi:i<n) (hn:n<=1000000):i64.wrap ((i:Int)+1)=(i:Int)+1:=wrapId om om
theorem resC (hb:Small b) (hi:i<b.A.length):∃ C:Bool,(S_q1b_b1 b i ()).den=(if C=true then some (.ret false) else some (.cont ()))/\(C=false↔RFld (b.A.getD i dF) (i+1)):=by
 have hw:=z50 hi hb.1.1
 have hc:=hb.2 _ (zk hi)
 simp only[S_q1b_b1,Scr.den]
 generalize b.A.getD i dF=r at hc |-
 rw[hw,z3r om]
 open Classical in simp only[z2m,z2a,z1w,z16,obind,zi,z2r,zku]
 refine⟨_,rfl,?_⟩
 simp only[RFld,y3n,bne_eq_false_iff_eq,Bool.not_eq_false',yo,ya]
 constructor
 ·rintro⟨⟨⟨⟨⟨⟨⟨⟨h1,h2⟩,h3⟩,h4⟩,h5⟩,h6⟩,h7⟩,h8⟩,h9⟩
  exact⟨h1,h2,om,h5,h6,h7,om⟩
 ·rintro⟨h1,h2,h3,h4,h5,h6,h7⟩
  exact⟨⟨⟨⟨⟨⟨⟨⟨h1,h2⟩,om⟩,om⟩,h4⟩,h5⟩,h6⟩,om⟩,om⟩
theorem resP (hb:Small b) (hi:i<b.A.length):∃ C:Bool,F_q2p b i=some C/\(C=true↔RFld (b.A.getD i dF) (i+1)/\0<=leftV b (b.A.getD i dF)):=by
 have hw:=z50 hi hb.1.1
 have hc:=hb.2 _ (zk hi)
 simp only[F_q2p,S_q2p,Scr.den,yh]
 rw[z8 ⟨om,hi,trivial⟩]
 generalize b.A.getD i dF=r at hc |-
 rw[hw,z5o om]
 open Classical in simp only[zb6,z94,z8h,z4n,zgg,z16,obind,zf,z38,zhh,zkv,zol]
 refine⟨_,rfl,?_⟩
 simp only[z5a,RFld,yg,y1a,ya,y2k,and_assoc]
theorem z2g {x:Int} {n:Nat} (h:1<=x/\x<=(n:Int)) (hn:n<=1000000):i64.wrap (x-1)=x-1:=wrapId om om
def CFld (b:TBo) (c:TCo) (n:Int):Prop:=c.D=n/\(1<=c.H/\c.H<=b.A.length)/\dayP c.N/\amtP c.L/\(0<=c.P/\c.P<=c.L)/\(1<=c.S/\c.S<=1000000)/\dayP c.X/\(rAt b c.H).N<=c.N/\yr c.N=(rAt b c.H).K
theorem comC (hb:Small b) (hi:i<b.B.length):(CFld b (b.B.getD i dF) (i+1)->(S_qc_b1 b i ()).den=some (.cont ()))/\(¬ CFld b (b.B.getD i dF) (i+1)->(S_qc_b1 b i ()).den=some (.ret false)):=by
 have hw:=z50 hi hb.1.2.1
 simp only[S_qc_b1,Scr.den]
 generalize b.B.getD i dF=c
 rw[hw]
 open Classical in simp only[z2m,z2a,z1w,z16,obind,zi,z2r,zku]
 split
 ·rename_i h
  refine⟨fun hp=>?_,fun _=>rfl⟩
  exfalso
  obtain⟨h1,h2,h3,h4,h5,h6,h7,_⟩:=hp
  simp only[yj,y1t,ne_eq,yv,yo,ya] at h
  rcases h with (((((((((h | h) | h) | h) | h) | h) | h) | h) | h) | h) <;> first | exact h h1 | exact h h3 | exact h h4 | exact h h7 | omega
 ·rename_i h
  simp only[yj,y1t,ne_eq,yv,yo,ya,y4g,y2t] at h
  obtain⟨⟨⟨⟨⟨⟨⟨⟨⟨h1,h2⟩,h3⟩,h4⟩,h5⟩,h6⟩,h7⟩,h8⟩,h9⟩,h10⟩:=h
  rw[z2g (n:=b.A.length) om hb.1.1,Gb]
  change (_->(if (_||_)=true then _ else _)=_)/\_
  have e:CFld b c (i+1)↔(rAt b c.H).N<=c.N/\yr c.N=(rAt b c.H).K :=
   ⟨fun h=>⟨h.2.2.2.2.2.2.2.1,h.2.2.2.2.2.2.2.2⟩,fun h=>⟨h1,om,h4,h5,om,om,h10,h.1,h.2⟩⟩
  rw[e]
  unfold rAt
  split
  ·rename_i h
   refine⟨fun hp=>?_,fun _=>rfl⟩
   exfalso
   simp only[yj,y1t,ne_eq,ya] at h
   rcases h with h | h
   ·omega
   ·exact h hp.2
  ·rename_i h
   refine⟨fun _=>rfl,fun hp=>?_⟩
   exfalso
   simp only[yj,y1t,ne_eq,ya,y4g,y2t] at h
   exact hp ⟨om,h.2⟩
theorem comP (hb:Small b) (hi:i<b.B.length):∃ C:Bool,F_q2q b i=some C/\(C=true↔CFld b (b.B.getD i dF) (i+1)/\0<=restV b (b.B.getD i dF)):=by
 have hw:=z50 hi hb.1.2.1
 obtain⟨c,hc⟩:∃ c,b.B.getD i dF=c:=⟨_,rfl⟩
 simp only[F_q2q,S_q2q,Scr.den,yh]
 rw[z8 ⟨om,hi,trivial⟩]
 open Classical in simp only[hc,hw,zb6,z94,z8h,z4n,zoj,z16,obind,zf,zi,z2r]
 by_cases h:(c.D != (i:Int)+1||!decide (1<=c.H/\c.H<=b.A.length))=true
 ·rw[y9 h]
  refine⟨false,rfl,?_⟩
  simp only[yj,y1t,ne_eq,yv,yo] at h
  constructor
  ·intro h; cases h
  ·intro hp
   rcases h with h | h
   ·exact absurd hp.1.1 h
   ·exact absurd hp.1.2.1 h
 ·rw[y8 h]
  simp only[yj,y1t,ne_eq,yv,yo,y4g,y2t] at h
  rw[z2g (n:=b.A.length) h.2 hb.1.1,Gb]
  open Classical in simp only[z38,zhh,zkv]
  refine⟨_,rfl,?_⟩
  simp only[CFld,yg,y1a,ya,y2k]
  constructor
  ·rintro⟨⟨⟨⟨⟨⟨⟨h1,h2⟩,h3⟩,h4⟩,h5⟩,h6⟩,h7⟩,h8⟩
   exact⟨⟨h.1,h.2,h1,h4,h5,h6,h7,h2,h3⟩,h8⟩
  ·rintro⟨⟨_,_,h1,h4,h5,h6,h7,h2,h3⟩,h8⟩
   exact⟨⟨⟨⟨⟨⟨⟨h1,h2⟩,h3⟩,h4⟩,h5⟩,h6⟩,h7⟩,h8⟩
def RAll (b:TBo):Prop:=∀ i,i<b.A.length->RFld (b.A.getD i dF) (i+1)
def CAll (b:TBo):Prop:=∀ i,i<b.B.length->CFld b (b.B.getD i dF) (i+1)
def yearOf (b:TBo) (n:Int):Int:=(rAt b (cAt b n).H).K
theorem RAll.at {b:TBo} (h:RAll b) {n:Int} (hn:1<=n/\n<=b.A.length):RFld (rAt b n) n:=by
 have:=h (n-1).toNat om
 rwa [show (((n-1).toNat:Nat):Int)+1=n from om] at this
theorem CAll.at {b:TBo} (h:CAll b) {n:Int} (hn:1<=n/\n<=b.B.length):CFld b (cAt b n) n:=by
 have:=h (n-1).toNat om
 rwa [show (((n-1).toNat:Nat):Int)+1=n from om] at this
variable {n:Int}
theorem zom (hR:RAll b) (hC:CAll b) (hn:1<=n/\n<=b.B.length):0<=yearOf b n/\yearOf b n<=99 :=
 (hR.at (hC.at hn).2.1).2.2.1
theorem z4u (hb:Small b) (hC:CAll b) (hn:1<=n/\n<=b.B.length):F_q1i b n=some (yearOf b n):=by
 have h:=(hC.at hn).2.1
 unfold cAt at h
 simp only[F_q1i,S_q1i,Scr.den]
 rw[z2g hn hb.1.2.1,z2g h hb.1.1,z8 ⟨om,om,om,om,trivial⟩]
 rfl
theorem zhi (hb:Small b) {c:TCo} (h:1<=c.H/\c.H<=b.A.length):F_q21 b c=some (rAt b c.H).K:=by
 simp only[F_q21,S_q21,Scr.den]
 rw[z2g h hb.1.1,Gb]
 rfl
theorem z6u (hR:RAll b) (hC:CAll b) (hn:1<=n/\n<=b.B.length):i64.wrap (yearOf b n+1)=yearOf b n+1:=by
 have:=zom hR hC hn
 exact wrapId om om
def VFld (b:TBo) (v:TVe) (n:Int):Prop:=v.D=n/\(1<=v.I/\v.I<=b.B.length)/\dayP v.N/\amtP v.L/\(cAt b v.I).N<=v.N/\yr v.N<=yearOf b v.I+1
theorem verC (hb:Small b) (hR:RAll b) (hC:CAll b) (hi:i<b.C.length):(VFld b (b.C.getD i dF) (i+1)->(S_q3_b1 b i ()).den=some (.cont ()))/\(¬ VFld b (b.C.getD i dF) (i+1)->(S_q3_b1 b i ()).den=some (.ret false)):=by
 have hw:=z50 hi hb.1.2.2.1
 obtain⟨v,hv⟩:∃ v,b.C.getD i dF=v:=⟨_,rfl⟩
 open Classical in simp only[S_q3_b1,Scr.den,hv,hw,z2m,z2a,z1w,z16,obind,zi,z2r]
 by_cases hA:(v.D != (i:Int)+1||decide (v.I<1)||decide (v.I>b.B.length))=true
 ·rw[hA]
  simp only[Bool.true_or]
  rw[Gh,obind,z8 (by simp[AllP]),y9 trivial]
  refine⟨fun hp=>?_,fun _=>rfl⟩
  exfalso
  obtain⟨h1,h2,_⟩:=hp
  simp only[yj,y1t,ne_eq,ya] at hA
  rcases hA with (h | h) | h
  ·exact h h1
  ·omega
  ·omega
 ·simp only[yj,y1t,ne_eq,ya,y4g,y2t] at hA
  have hn:1<=v.I/\v.I<=b.B.length:=om
  open Classical in rw[z8l (y:=yearOf b v.I) fun _=>z4u hb hC hn]
  rw[z2g hn hb.1.2.1,obind,z8 ⟨fun _=>om,fun _=>om,trivial⟩]
  open Classical in simp only[znm]
  rw[z6u hR hC hn]
  split
  ·rename_i h
   refine⟨fun hp=>?_,fun _=>rfl⟩
   exfalso
   obtain⟨h1,h2,h3,h4,h5,h6⟩:=hp
   unfold cAt at h5
   simp only[yj,y1t,ne_eq,yv,yo,ya] at h
   rcases h with ((((((h | h) | h) | h) | h) | h) | h) <;> first | exact h h1 | exact h h3 | exact h h4 | omega
  ·rename_i h
   refine⟨fun _=>rfl,fun hp=>?_⟩
   exfalso
   simp only[yj,y1t,ne_eq,yv,yo,ya,y4g,y2t] at h
   obtain⟨⟨⟨⟨⟨⟨h1,h2⟩,h3⟩,h4⟩,h5⟩,h6⟩,h7⟩:=h
   exact hp ⟨h1,hn,h4,h5,by unfold cAt; omega,om⟩
theorem verP (hb:Small b) (hR:RAll b) (hC:CAll b) (hi:i<b.C.length):∃ C:Bool,F_q2r b i=some C/\(C=true↔VFld b (b.C.getD i dF) (i+1)):=by
 have hw:=z50 hi hb.1.2.2.1
 obtain⟨v,hv⟩:∃ v,b.C.getD i dF=v:=⟨_,rfl⟩
 simp only[F_q2r,S_q2r,Scr.den,yh]
 rw[z8 ⟨om,hi,trivial⟩]
 open Classical in simp only[hv,hw,zb6,z94,z8h,z4n,z16,obind,zf,zi,z2r]
 by_cases h:(v.D != (i:Int)+1||!decide (1<=v.I/\v.I<=b.B.length))=true
 ·rw[y9 h]
  refine⟨false,rfl,?_⟩
  simp only[yj,y1t,ne_eq,yv,yo] at h
  constructor
  ·intro h; cases h
  ·intro hp
   rcases h with h | h
   ·exact absurd hp.1 h
   ·exact absurd hp.2.1 h
 ·rw[y8 h]
  simp only[yj,y1t,ne_eq,yv,yo,y4g,y2t] at h
  have hn:=h.2
  have hc:=(hC.at hn).2.1
  rw[z2g hn hb.1.2.1,Gb]
  change ∃ C,(optD _ (F_q21 b (cAt b v.I)) _).bind _=_/\_
  open Classical in rw[z8l fun _=>zhi hb hc]
  open Classical in simp only[obind,z38,zkw]
  refine⟨_,rfl,?_⟩
  have hy:=z6u hR hC hn
  unfold yearOf at hy
  rw[hy]
  simp only[VFld,yg,ya,y2k]
  constructor
  ·rintro⟨⟨⟨h1,h2⟩,h3⟩,h4⟩
   exact⟨h.1,h.2,h1,h4,h2,h3⟩
  ·rintro⟨_,_,h1,h4,h2,h3⟩
   exact⟨⟨⟨h1,h2⟩,h3⟩,h4⟩
def VAll (b:TBo):Prop:=∀ i,i<b.C.length->VFld b (b.C.getD i dF) (i+1)
theorem VAll.at {b:TBo} (h:VAll b) {n:Int} (hn:1<=n/\n<=b.C.length):VFld b (vAt b n) n:=by
 have:=h (n-1).toNat om
 rwa [show (((n-1).toNat:Nat):Int)+1=n from om] at this
def OFld (b:TBo) (o:TOr) (bef:List TOr) (n:Int):Prop:=o.D=n/\(1<=o.E/\o.E<=b.C.length)/\dayP o.N/\(vAt b o.E).N<=o.N/\yr o.N<=yearOf b (vAt b o.E).I+1/\o.Q=(ordersOf bef o.E).length+1/\(ordersOf bef o.E).any (fun x=>!x.Z||decide (x.N>o.N))=false
theorem zkx (hi:i<b.G.length) (hb:Small b):rangeM (fun j s=>(S_q3_b3 b i j s).den) (b.G.take i).length 0 1=some (if (ordersOf (b.G.take i) (b.G.getD i dF).E).any (fun x=>!x.Z||decide (x.N>(b.G.getD i dF).N))=true then .ret false else .next ((ordersOf (b.G.take i) (b.G.getD i dF).E).length+1)):=by
 have hl:=hb.1.2.2.2
 have hlt:(b.G.take i).length<=1000000:=by rw[y1m]; omega
 simp only[S_q3_b3,Scr.den,zi]
 generalize b.G.take i=l at hlt |-
 generalize b.G.getD i dF=o
 generalize hF:(fun (j:Nat) (s:Int)=>_)=F
 have key:∀ (k j n:Nat),j+k=l.length->n<=j+1->rangeM F k j (n:Int)=some (if (ordersOf (l.drop j) o.E).any (fun x=>!x.Z||decide (x.N>o.N))=true then .ret false else .next (((ordersOf (l.drop j) o.E).length+n:Nat):Int)):=by
  intro k
  induction k with
  | zero=>intro j n hk hn; rw[y1f om]; simp[rangeM,ordersOf]
  | succ k ih =>
   intro j n hk hn
   have hj:j<l.length:=om
   have e:l.getD j dF=l[j]:=by simp[List.getD_eq_getElem?_getD,List.getElem?_eq_getElem hj]
   have w1:i64.wrap ((n:Int)+1)=((n+1:Nat):Int):=by rw[wrapId om om]; omega
   rw[y19 hj]
   unfold ordersOf
   simp only[rangeM,y30]
   rw[<- y44 (y44 hF j) (n:Int)]
   simp only[e,w1]
   generalize l[j]=x
   by_cases hv:x.E=o.E
   ·have e1:(x.E != o.E)=false:=by simp[hv]
    have e2:(x.E==o.E)=true:=by simp[hv]
    simp only[e1,e2,y1j,y32,y3p]
    by_cases hx:(!x.Z||decide (x.N>o.N))=true
    ·rw[y9 hx,y9 (by rw[y47,hx]; rfl)]
    ·rw[y8 hx]
     simp only
     rw[ih (j+1) (n+1) om om]
     rw[y47,Bool.eq_false_iff.mpr hx,y48]
     unfold ordersOf
     simp only[yd]
     congr 3
     omega
   ·have e1:(x.E != o.E)=true:=by simp[hv]
    have e2:(x.E==o.E)=false:=by simp[hv]
    simp only[e1,e2,y1j,y32,y3p]
    rw[ih (j+1) n om om]
    rfl
 have:=key l.length 0 1 om om
 simpa using this
theorem ordC (hb:Small b) (hR:RAll b) (hC:CAll b) (hV:VAll b) (hi:i<b.G.length):(OFld b (b.G.getD i dF) (b.G.take i) (i+1)->(S_q3_b4 b i ()).den=some (.cont ()))/\(¬ OFld b (b.G.getD i dF) (b.G.take i) (i+1)->(S_q3_b4 b i ()).den=some (.ret false)):=by
 have hw:=z50 hi hb.1.2.2.2
 have hcnt:=zkx hi hb
 obtain⟨o,ho⟩:∃ v,b.G.getD i dF=v:=⟨_,rfl⟩
 open Classical in simp only[S_q3_b4,Scr.den,hcnt,ho,hw,z2m,z2a,z16,obind,zi,z2r]
 split
 ·rename_i h
  refine⟨fun hp=>?_,fun _=>rfl⟩
  exfalso
  obtain⟨h1,h2,h3,_⟩:=hp
  simp only[yj,y1t,ne_eq,yv,yo,ya] at h
  rcases h with ((h | h) | h) | h <;> first | exact h h1 | exact h h3 | omega
 ·rename_i h
  simp only[yj,y1t,ne_eq,yv,yo,ya,y4g,y2t] at h
  obtain⟨⟨⟨h1,h2⟩,h3⟩,h4⟩:=h
  have hn:1<=o.E/\o.E<=b.C.length:=om
  have hv:=(hV.at hn).2.1
  rw[z2g hn hb.1.2.2.1,Gb]
  change (_->(optD _ (F_q1i b (vAt b o.E).I) _).bind _=_)/\(_->(optD _ (F_q1i b (vAt b o.E).I) _).bind _=_)
  open Classical in rw[z8l fun _=>z4u hb hC hv]
  open Classical in simp only[obind,znm]
  rw[z6u hR hC hv]
  have hle:i<=b.G.length:=om
  rw[z8 ⟨hle,trivial⟩]
  by_cases hG:(decide (o.N<(b.C.getD (o.E-1).toNat dF).N)||decide (yr o.N>yearOf b (vAt b o.E).I+1))=true
  ·rw[y9 hG]
   refine⟨fun hp=>?_,fun _=>rfl⟩
   exfalso
   obtain⟨_,_,_,h5,h6,_⟩:=hp
   change (decide (o.N<(vAt b o.E).N)||_)=true at hG
   simp only[yj,ya] at hG
   omega
  ·rw[y8 hG]
   change ¬ (decide (o.N<(vAt b o.E).N)||_)=true at hG
   simp only[yj,ya,y4g] at hG
   by_cases hx:(ordersOf (b.G.take i) o.E).any (fun x=>!x.Z||decide (x.N>o.N))=true
   ·rw[y9 hx]
    refine⟨fun hp=>?_,fun _=>rfl⟩
    exfalso
    rw[hp.2.2.2.2.2.2] at hx
    cases hx
   ·rw[y8 hx]
    simp only[outM]
    split
    ·rename_i ha
     refine⟨fun hp=>?_,fun _=>rfl⟩
     exfalso
     simp only[y1t,ne_eq] at ha
     exact ha hp.2.2.2.2.2.1
    ·rename_i ha
     refine⟨fun _=>rfl,fun hp=>?_⟩
     exfalso
     simp only[y1t,ne_eq,y2t] at ha
     exact hp ⟨h1,hn,h4,om,om,ha,Bool.eq_false_iff.mpr hx⟩
theorem ordP (hb:Small b) (hR:RAll b) (hC:CAll b) (hV:VAll b) (hi:i<b.G.length):∃ C:Bool,F_q2s b i=some C/\(C=true↔OFld b (b.G.getD i dF) (b.G.take i) (i+1)):=by
 have hw:=z50 hi hb.1.2.2.2
 have hl:=hb.1.2.2.2
 obtain⟨o,ho⟩:∃ v,b.G.getD i dF=v:=⟨_,rfl⟩
 have hlt:(b.G.take i).length<=1000000:=by rw[y1m]; omega
 have hle:i<=b.G.length:=om
 simp only[F_q2s,S_q2s,Scr.den,yh]
 rw[z8 ⟨om,hi,trivial⟩]
 open Classical in simp only[ho,hw,zb6,z94,z4n,z16,obind,zf,zi,z2r]
 by_cases h:(o.D != (i:Int)+1||!decide (1<=o.E/\o.E<=b.C.length))=true
 ·rw[y9 h]
  refine⟨false,rfl,?_⟩
  simp only[yj,y1t,ne_eq,yv,yo] at h
  constructor
  ·intro h; cases h
  ·intro hp
   rcases h with h | h
   ·exact absurd hp.1 h
   ·exact absurd hp.2.1 h
 ·rw[y8 h]
  simp only[yj,y1t,ne_eq,yv,yo,y4g,y2t] at h
  have hn:=h.2
  have hv:=(hV.at hn).2.1
  have hc:=(hC.at hv).2.1
  rw[z2g hn hb.1.2.2.1,Gb,zkt hlt,obind,z8 ⟨hle,trivial⟩]
  simp only[z9g]
  have hp:i64.wrap ((vAt b o.E).I-1)=(vAt b o.E).I-1:=z2g hv hb.1.2.1
  have hyr:F_q21 b (b.B.getD ((vAt b o.E).I-1).toNat dF)=some (yearOf b (vAt b o.E).I):=zhi hb hc
  unfold vAt at hp hyr
  open Classical in rw[hp,hyr,z16,obind,z16,obind,z8 ⟨fun _=>by unfold vAt at hv; omega,fun _=>by unfold vAt at hv; omega,trivial⟩]
  open Classical in simp only[zkw]
  have hy:=z6u hR hC hv
  unfold vAt at hy
  rw[hy]
  have e3:∀ (a x d:Bool) [Decidable (AllP [a=true])],(a&&!(if AllP [a=true] then x else d))=(a&&!x):=fun a x d _=>by cases a <;> simp[AllP]
  rw[e3]
  refine⟨_,rfl,?_⟩
  have hlw:i64.wrap (((ordersOf (b.G.take i) o.E).length:Int)+1)=((ordersOf (b.G.take i) o.E).length:Int)+1:=by
   have:(ordersOf (b.G.take i) o.E).length<=(b.G.take i).length:=List.length_filter_le _ _
   exact wrapId om om
  rw[hlw]
  simp only[OFld,yg,y1a,ya,y2k,yv]
  constructor
  ·rintro⟨⟨⟨⟨h1,h2⟩,h3⟩,h4⟩,h5⟩
   exact⟨h.1,h.2,h1,h2,h3,h4,h5⟩
  ·rintro⟨_,_,h1,h2,h3,h4,h5⟩
   exact⟨⟨⟨⟨h1,h2⟩,h3⟩,h4⟩,h5⟩
variable {P:Prop}
theorem noC {x:Option Bool} (h:P->False) (e:x=some false:=by rfl):∃ C:Bool,x=some C/\(C=true↔P):=⟨false,e,⟨fun h=>(Bool.false_ne_true h).elim,fun p=>(h p).elim⟩⟩
def Val (b:TBo):Prop:=RAll b/\CAll b/\(∀ r∈b.A,0<=leftV b r)/\VAll b/\(∀ c∈b.B,0<=restV b c)/\(∀ i,i<b.G.length->OFld b (b.G.getD i dF) (b.G.take i) (i+1)) /\
 b.A.length<=200/\b.B.length<=200/\b.C.length<=200/\b.G.length<=200
def OAll (b:TBo):Prop:=∀ i,i<b.G.length->OFld b (b.G.getD i dF) (b.G.take i) (i+1)
theorem z7z (hb:Small b):∃ C,F_q1b b=some C/\(C=true↔RAll b):=by
 simp only[F_q1b,S_q1b,Scr.den]
 obtain⟨h1,h2⟩:=zt (body:=fun i s=>(S_q1b_b1 b i s).den) (n:=b.A.length) (c:=false) (fun i=>RFld (b.A.getD i dF) (i+1)) (fun i hi hp=>by
  obtain⟨C,e,hc⟩:=resC hb hi
  simp only[e,hc.mpr hp]; rfl) (fun i hi hp=>by
  obtain⟨C,e,hc⟩:=resC hb hi
  cases C with
  | true=>simp only[e]; rfl
  | false=>exact absurd (hc.mp rfl) hp)
 by_cases h:∀ j,j<b.A.length->RFld (b.A.getD j dF) (j+1)
 ·rw[h1 h]; exact⟨true,rfl,fun _=>h,fun _=>rfl⟩
 ·rw[h2 h]; exact noC <| (fun h'=>absurd h' h)
theorem z8m (hb:Small b) (hR:RAll b):∃ C,F_qc b=some C/\(C=true↔CAll b/\∀ r∈b.A,0<=leftV b r):=by
 simp only[F_qc,S_qc,Scr.den]
 obtain⟨h1,h2⟩:=zt (body:=fun i s=>(S_qc_b1 b i s).den) (n:=b.B.length) (c:=false) (fun i=>CFld b (b.B.getD i dF) (i+1)) (fun i hi hp=>(comC hb hi).1 hp) (fun i hi hp=>(comC hb hi).2 hp)
 by_cases h:∀ j,j<b.B.length->CFld b (b.B.getD j dF) (j+1)
 ·rw[h1 h]
  simp only[outM]
  have eL:∀ i,i<b.A.length->(S_qc_b2 b i ()).den=if leftV b (b.A.getD i dF)<0 then some (.ret false) else some (.cont ()):=fun i hi=>by
   simp only[S_qc_b2,Scr.den,z6n,obind]
   have:leftN b (b.A.getD i dF).D=leftV b (b.A.getD i dF):=by
    unfold leftN
    have hf:b.A.find? (fun r=>r.D==(b.A.getD i dF).D)=some (b.A.getD i dF):=by
     rw[List.find?_eq_some_iff_getElem]
     refine⟨sj,i,hi,by simp[List.getD_eq_getElem?_getD,List.getElem?_eq_getElem hi],fun j hj=>?_⟩
     have e1:=(hR i hi).1
     have e2:=(hR j om).1
     have e3:b.A.getD j dF=b.A[j]:=by simp[List.getD_eq_getElem?_getD,List.getElem?_eq_getElem (show j<b.A.length from om)]
     rw[e3] at e2
     rw[e1]
     simp only[yv,y2u,ne_eq]
     omega
    rw[hf]
   rw[this]
   by_cases hl:leftV b (b.A.getD i dF)<0 <;> simp
  obtain⟨h3,h4⟩:=zt (body:=fun i s=>(S_qc_b2 b i s).den) (n:=b.A.length) (c:=false) (fun i=>0<=leftV b (b.A.getD i dF)) (fun i hi hp=>by
   simp only[eL i hi]; rw[y8 om]) (fun i hi hp=>by
   simp only[eL i hi]; rw[y9 om])
  by_cases h':∀ j,j<b.A.length->0<=leftV b (b.A.getD j dF)
  ·rw[h3 h']
   refine⟨true,rfl,fun _=>⟨h,fun r hr=>?_⟩,fun _=>rfl⟩
   obtain⟨i,hi,e⟩:=z1j hr
   rw[<- e]; exact h' i hi
  ·rw[h4 h']
   exact noC <| (fun hh=>absurd (fun j hj=>hh.2 _ (zk hj)) h')
 ·rw[h2 h]; exact noC <| (fun h'=>absurd h'.1 h)
theorem zdn (hb:Small b) (hR:RAll b) (hC:CAll b):∃ C,F_q3 b=some C/\(C=true↔VAll b/\(∀ c∈b.B,0<=restV b c)/\OAll b):=by
 simp only[F_q3,S_q3,Scr.den]
 obtain⟨h1,h2⟩:=zt (body:=fun i s=>(S_q3_b1 b i s).den) (n:=b.C.length) (c:=false) (fun i=>VFld b (b.C.getD i dF) (i+1)) (fun i hi hp=>(verC hb hR hC hi).1 hp) (fun i hi hp=>(verC hb hR hC hi).2 hp)
 by_cases h:∀ j,j<b.C.length->VFld b (b.C.getD j dF) (j+1)
 ·rw[h1 h]
  simp only[outM]
  have eL:∀ i,i<b.B.length->(S_q3_b2 b i ()).den=if restV b (b.B.getD i dF)<0 then some (.ret false) else some (.cont ()):=fun i hi=>by
   simp only[S_q3_b2,Scr.den,z6m,obind]
   by_cases hl:restV b (b.B.getD i dF)<0 <;> simp
  obtain⟨h3,h4⟩:=zt (body:=fun i s=>(S_q3_b2 b i s).den) (n:=b.B.length) (c:=false) (fun i=>0<=restV b (b.B.getD i dF)) (fun i hi hp=>by
   simp only[eL i hi]; rw[y8 om]) (fun i hi hp=>by
   simp only[eL i hi]; rw[y9 om])
  by_cases h':∀ j,j<b.B.length->0<=restV b (b.B.getD j dF)
  ·rw[h3 h']
   skip
   obtain⟨h5,h6⟩:=zt (body:=fun i s=>(S_q3_b4 b i s).den) (n:=b.G.length) (c:=false) (fun i=>OFld b (b.G.getD i dF) (b.G.take i) (i+1)) (fun i hi hp=>(ordC hb hR hC h hi).1 hp) (fun i hi hp=>(ordC hb hR hC h hi).2 hp)
   by_cases ho:∀ j,j<b.G.length->OFld b (b.G.getD j dF) (b.G.take j) (j+1)
   ·rw[h5 ho]
    refine⟨true,rfl,fun _=>⟨h,fun r hr=>?_,ho⟩,fun _=>rfl⟩
    obtain⟨i,hi,e⟩:=z1j hr
    rw[<- e]; exact h' i hi
   ·rw[h6 ho]
    exact noC <| (fun hh=>absurd hh.2.2 ho)
  ·rw[h4 h']
   exact noC <| (fun hh=>absurd (fun j hj=>hh.2.1 _ (zk hj)) h')
 ·rw[h2 h]; exact noC <| (fun h'=>absurd h'.1 h)
open Classical in
theorem z24 (hb:Small b):F_q1d b=some (decide (Val b)):=by
 simp only[F_q1d,S_q1d,Scr.den,zi,zf]
 by_cases hl:b.A.length<=200/\b.B.length<=200/\b.C.length<=200/\b.G.length<=200
 ·rw[y8 (by simp only[yj,ya]; omega)]
  obtain⟨C1,e1,c1⟩:=z7z hb
  rw[e1,obind]
  by_cases hR:RAll b
  ·obtain⟨C2,e2,c2⟩:=z8m hb hR
   rw[c1.mpr hR,Gg,e2,obind]
   by_cases hC:CAll b/\∀ r∈b.A,0<=leftV b r
   ·obtain⟨C3,e3,c3⟩:=zdn hb hR hC.1
    rw[c2.mpr hC,Gg,e3,obind]
    congr 1
    rw[y1p,ya]
    simp only[Bool.and_self,y59]
    rw[c3]
    exact⟨fun h=>⟨hR,hC.1,hC.2,h.1,h.2.1,h.2.2,hl⟩,fun h=>⟨h.2.2.2.1,h.2.2.2.2.1,h.2.2.2.2.2.1⟩⟩
   ·have:C2=false:=Bool.eq_false_iff.mpr fun h=>hC (c2.mp h)
    rw[this,Gh,obind]
    rw[y10 (fun h:Val b=>hC ⟨h.2.1,h.2.2.1⟩)]
    rfl
  ·have:C1=false:=Bool.eq_false_iff.mpr fun h=>hR (c1.mp h)
   rw[this,Gh,obind,Gh,obind]
   rw[y10 (fun h:Val b=>hR h.1)]
   rfl
 ·rw[y9 (by simp only[yj,ya]; omega)]
  rw[y10 (fun h:Val b=>hl h.2.2.2.2.2.2)]
theorem zb8 {n:Nat} (hn:n<=1000000) {body:Nat->Unit->Option (Step Unit Bool)} {F:Int->Option Bool} (hF:∀ (i:Nat) s,body i s=(F i).bind fun r=>if (!r)=true then some (.ret false) else some (.cont ())) (p:Nat->Prop) (h:∀ i,i<n->∃ C,F i=some C/\(C=true↔p i)) :
  ∃ C,guardP (AllP [((n:Int)).toNat<2 ^ 63]) (outM (rangeM body ((n:Int)).toNat 0 ()) (fun _=>some (decide ((n:Int)<=200))) (fun x=>some (id x)))=some C/\(C=true↔(∀ i,i<n->p i)/\n<=200):=by
 rw[yh,Ga]
 obtain⟨h1,h2⟩:=zt (body:=body) (n:=n) (c:=false) p (fun i hi hp=>by
  obtain⟨C,e,hc⟩:=h i hi
  rw[hF,e,hc.mpr hp]; rfl) (fun i hi hp=>by
  obtain⟨C,e,hc⟩:=h i hi
  rw[hF,e,Bool.eq_false_iff.mpr fun h=>hp (hc.mp h)]; rfl)
 by_cases hp:∀ i,i<n->p i
 ·rw[h1 hp]
  refine⟨_,rfl,?_⟩
  rw[ya]
  exact⟨fun h=>⟨hp,om⟩,fun h=>om⟩
 ·rw[h2 hp]
  exact noC <| (fun h=>absurd h.1 hp)
open Classical in
theorem zmr (hb:Small b):F_q38 b=some (decide (Val b)):=by
 simp only[F_q38,S_q38,Scr.den,zf]
 obtain⟨C1,e1,c1⟩:=zb8 hb.1.1 (body:=fun i s=>(S_q1z_b1 b i s).den) (F:=F_q2p b) (fun i s=>rfl) _ (fun i hi=>resP hb hi)
 have e1:F_q1z b (b.A.length:Int)=some C1:=e1
 rw[e1,obind]
 by_cases hR:(∀ i,i<b.A.length->RFld (b.A.getD i dF) (i+1)/\0<=leftV b (b.A.getD i dF))/\b.A.length<=200
 ·have hRA:RAll b:=fun i hi=>(hR.1 i hi).1
  obtain⟨C2,e2,c2⟩:=zb8 hb.1.2.1 (body:=fun i s=>(S_q20_b1 b i s).den) (F:=F_q2q b) (fun i s=>rfl) _ (fun i hi=>comP hb hi)
  have e2:F_q20 b (b.B.length:Int)=some C2:=e2
  rw[c1.mpr hR,Gg,e2,obind]
  by_cases hC:(∀ i,i<b.B.length->CFld b (b.B.getD i dF) (i+1)/\0<=restV b (b.B.getD i dF))/\b.B.length<=200
  ·have hCA:CAll b:=fun i hi=>(hC.1 i hi).1
   obtain⟨C3,e3,c3⟩:=zb8 hb.1.2.2.1 (body:=fun i s=>(S_q22_b1 b i s).den) (F:=F_q2r b) (fun i s=>rfl) _ (fun i hi=>verP hb hRA hCA hi)
   have e3:F_q22 b (b.C.length:Int)=some C3:=e3
   rw[c2.mpr hC,Gg,e3,obind]
   by_cases hV:VAll b/\b.C.length<=200
   ·obtain⟨C4,e4,c4⟩:=zb8 hb.1.2.2.2 (body:=fun i s=>(S_q23_b1 b i s).den) (F:=F_q2s b) (fun i s=>rfl) _ (fun i hi=>ordP hb hRA hCA hV.1 hi)
    have e4:F_q23 b (b.G.length:Int)=some C4:=e4
    rw[c3.mpr hV,Gg,e4,obind]
    congr 1
    rw[y1p,ya]
    simp only[Bool.and_self,y59]
    rw[c4]
    refine⟨fun h=>⟨hRA,hCA,fun r hr=>?_,hV.1,fun r hr=>?_,h.1,hR.2,hC.2,hV.2,h.2⟩,fun h=>⟨h.2.2.2.2.2.1,h.2.2.2.2.2.2.2.2.2⟩⟩
    ·obtain⟨i,hi,e⟩:=z1j hr
     rw[<- e]; exact (hR.1 i hi).2
    ·obtain⟨i,hi,e⟩:=z1j hr
     rw[<- e]; exact (hC.1 i hi).2
   ·have:C3=false:=Bool.eq_false_iff.mpr fun h=>hV (c3.mp h)
    rw[this,Gh,obind]
    rw[y10 (fun h:Val b=>hV ⟨h.2.2.2.1,h.2.2.2.2.2.2.2.2.1⟩)]
    rfl
  ·have:C2=false:=Bool.eq_false_iff.mpr fun h=>hC (c2.mp h)
   rw[this,Gh,obind,Gh,obind]
   rw[y10 (fun h:Val b=>hC ⟨fun i hi=>⟨h.2.1 i hi,h.2.2.2.2.1 _ (zk hi)⟩,h.2.2.2.2.2.2.2.1⟩)]
   rfl
 ·have:C1=false:=Bool.eq_false_iff.mpr fun h=>hR (c1.mp h)
  rw[this,Gh,obind,Gh,obind,Gh,obind]
  rw[y10 (fun h:Val b=>hR ⟨fun i hi=>⟨h.1 i hi,h.2.2.1 _ (zk hi)⟩,h.2.2.2.2.2.2.1⟩)]
  rfl
theorem st {c:Bool} {_:Decidable P} {y:Option α} {a b:α} (h:c=true↔P) (hx:P->x=some a) (hy:¬ P->y=some b):(if c=true then x else y)=some (if P then a else b):=by
 by_cases hp:P
 ·rw[y9 (h.mpr hp),y9 hp,hx hp]
 ·rw[y8 (fun hc=>hp (h.mp hc)),y8 hp,hy hp]
def nb:TBo:=⟨[],[],[],[]⟩
def withR (b:TBo) (l:List TRe):TBo:=⟨l,b.B,b.C,b.G⟩
def withC (b:TBo) (l:List TCo):TBo:=⟨b.A,l,b.C,b.G⟩
def withV (b:TBo) (l:List TVe):TBo:=⟨b.A,b.B,l,b.G⟩
def withO (b:TBo) (l:List TOr):TBo:=⟨b.A,b.B,b.C,l⟩
theorem sa {p:Prop} (h:p:=by (simp only[yj,yg,yv,ya,yo,y1a,y1t,ne_eq,gt_iff_lt] <;> (try unfold dayP) <;> (try unfold amtP) <;> omega)):p:=h
theorem sr {c:Bool} {_:Decidable P} {y:Option α} {a b:α} (hy:¬ P->y=some b) (h:c=true↔P:=by (simp only[yj,yg,yv,ya,yo,y1a,y1t,ne_eq,gt_iff_lt] <;> (try unfold dayP) <;> (try unfold amtP) <;> omega)):(if c=true then some a else y)=some (if P then a else b):=st h (fun _=>rfl) hy
section
open Classical
noncomputable def reserveS (b:TBo) (code:Y8) (y d n:Int):TBo×Int :=
 if ¬ Val b then (nb,1) else
 if good code=false then (nb,5) else
 if ¬ ((0<=y/\y<=99)/\dayP d/\amtP n) then (nb,2) else
 if yr d≠y then (nb,16) else
 if (b.A.length:Int)=200 then (nb,3) else
 (withR b (b.A++[⟨b.A.length+1,code,y,d,n,0⟩]),0)
noncomputable def commitS (b:TBo) (r d n p u:Int):TBo×Int :=
 if ¬ Val b then (nb,1) else
 if ¬ (1<=r/\r<=b.A.length) then (nb,6) else
 if ¬ (dayP d/\amtP n/\(1<=p/\p<=1000000)/\dayP u) then (nb,2) else
 if yr d≠(rAt b r).K then (nb,16) else
 if d<(rAt b r).N then (nb,8) else
 if leftV b (rAt b r)<n then (nb,15) else
 if (b.B.length:Int)=200 then (nb,3) else
 (withC b (b.B++[⟨b.B.length+1,r,d,n,0,p,u⟩]),0)
noncomputable def verifyS (b:TBo) (c d n:Int):TBo×Int :=
 if ¬ Val b then (nb,1) else
 if ¬ (1<=c/\c<=b.B.length) then (nb,6) else
 if ¬ (dayP d/\amtP n) then (nb,2) else
 if yearOf b c+1<yr d then (nb,16) else
 if d<(cAt b c).N then (nb,8) else
 if restV b (cAt b c)<n then (nb,15) else
 if (b.C.length:Int)=200 then (nb,3) else
 (withV b (b.C++[⟨b.C.length+1,c,d,n⟩]),0)
noncomputable def orderS (b:TBo) (v d:Int):TBo×Int :=
 if ¬ Val b then (nb,1) else
 if ¬ (1<=v/\v<=b.C.length) then (nb,6) else
 if ¬ dayP d then (nb,2) else
 if yearOf b (vAt b v).I+1<yr d then (nb,16) else
 if (ordersOf b.G v).length>0/\(lastV b v).Z=false then (nb,20) else
 if d<(vAt b v).N\/((ordersOf b.G v).length>0/\d<(lastV b v).N) then (nb,8) else
 if (b.G.length:Int)=200 then (nb,3) else
 (withO b (b.G++[⟨b.G.length+1,v,(ordersOf b.G v).length+1,d,false⟩]),0)
noncomputable def releaseS (b:TBo) (r n:Int):TBo×Int :=
 if ¬ Val b then (nb,1) else
 if ¬ (1<=r/\r<=b.A.length) then (nb,6) else
 if ¬ amtP n then (nb,2) else
 if leftN b r<n then (nb,15) else
 (withR b (b.A.set (r-1).toNat ⟨(rAt b r).D,(rAt b r).J,(rAt b r).K,(rAt b r).N,(rAt b r).L,i64.wrap ((rAt b r).P+n)⟩),0)
noncomputable def dropS (b:TBo) (c n:Int):TBo×Int :=
 if ¬ Val b then (nb,1) else
 if ¬ (1<=c/\c<=b.B.length) then (nb,6) else
 if ¬ amtP n then (nb,2) else
 if restV b (cAt b c)<n then (nb,15) else
 (withC b (b.B.set (c-1).toNat ⟨(cAt b c).D,(cAt b c).H,(cAt b c).N,(cAt b c).L,i64.wrap ((cAt b c).P+n),(cAt b c).S,(cAt b c).X⟩),0)
noncomputable def backS (b:TBo) (v:Int):TBo×Int :=
 if ¬ Val b then (nb,1) else
 if ¬ (1<=v/\v<=b.C.length) then (nb,6) else
 if (ordersOf b.G v).length=0\/(lastV b v).Z=true then (nb,9) else
 (withO b (b.G.set ((lastV b v).D-1).toNat ⟨(lastV b v).D,(lastV b v).E,(lastV b v).Q,(lastV b v).N,true⟩),0)
end
theorem zf6 (hR:RAll b) (hn:1<=n/\n<=b.A.length):leftN b n=leftV b (rAt b n):=by
 unfold leftN
 have hi:(n-1).toNat<b.A.length:=om
 have hf:b.A.find? (fun r=>r.D==n)=some (rAt b n):=by
  rw[List.find?_eq_some_iff_getElem]
  refine⟨by simpa using (hR.at hn).1,(n-1).toNat,hi,by unfold rAt; rw[yb,yc hi]; rfl,fun j hj=>?_⟩
  have e2:=(hR j om).1
  have e3:b.A.getD j dF=b.A[j]:=by simp[List.getD_eq_getElem?_getD,List.getElem?_eq_getElem (show j<b.A.length from om)]
  rw[e3] at e2
  simp only[yv,y2u,ne_eq]
  omega
 rw[hf]
variable {code:Y8}
theorem zc1 (hb:Small b) (hc:code.length<=1000000) (y d n:Int):F_q3k b code y d n=some (reserveS b code y d n):=by
 have h1:=hb.1.1
 have h2:=hb.1
 have hw:i64.wrap ((b.A.length:Int)+1)=b.A.length+1:=wrapId om om
 open Classical in simp only[F_q3k,S_q3k,Scr.den,z24 hb,z3r (show code.length<4611686018427387904 from om),z2m,z1w,z2a,z16,obind,zi,z2r,z28 hb.1,hw]
 unfold reserveS
 refine st (by (simp only[yv,yo])) (fun _=>rfl) fun hV=>?_
 refine st (by (simp only[yv])) (fun _=>rfl) fun hg=>?_
 refine sr fun _=>?_
 refine sr fun _=>?_
 refine sr fun _=>?_
 obtain⟨_,h3,h4,h5⟩:=h2
 simp only[ye,yd,yl]
 rw[Ga,Ga,Ga,Ga,Ga]
 rfl
theorem zdo (hb:Small b) (r d n p u:Int):F_q3l b r d n p u=some (commitS b r d n p u):=by
 have h2:=hb.1
 obtain⟨h1,h3,h4,h5⟩:=h2
 have hw:i64.wrap ((b.B.length:Int)+1)=b.B.length+1:=wrapId om om
 open Classical in simp only[F_q3l,S_q3l,Scr.den,z24 hb,z2m,z1w,z2a,z6n,z16,obind,zi,z2r,z28 hb.1,hw]
 unfold commitS
 refine st (by (simp only[yv,yo])) (fun _=>rfl) fun hV=>?_
 refine sr fun hn=>?_
 refine sr fun _=>?_
 have hn:=nnm hn
 have hV:=nnm hV
 rw[z2g hn h1,Gb,zf6 hV.1 hn]
 refine st (by unfold rAt; exact sa) (fun _=>rfl) fun _=>?_
 refine st (by unfold rAt; exact sa) (fun _=>rfl) fun _=>?_
 refine sr fun _=>?_
 refine sr fun _=>?_
 simp only[ye,yd,yl]
 rw[Ga,Ga,Ga,Ga,Ga]
 rfl
theorem zdp (hb:Small b) (c d n:Int):F_q3m b c d n=some (verifyS b c d n):=by
 have h2:=hb.1
 obtain⟨h1,h3,h4,h5⟩:=h2
 have hw:i64.wrap ((b.C.length:Int)+1)=b.C.length+1:=wrapId om om
 open Classical in simp only[F_q3m,S_q3m,Scr.den,z24 hb,z2m,z1w,z2a,z6m,z16,obind,zi,z2r,z28 hb.1,hw]
 unfold verifyS
 refine st (by (simp only[yv,yo])) (fun _=>rfl) fun hV=>?_
 refine sr fun hn=>?_
 refine sr fun _=>?_
 have hn:=nnm hn
 have hV:=nnm hV
 rw[z4u hb hV.2.1 hn,obind,z2g hn h3,z6u hV.1 hV.2.1 hn]
 refine sr fun _=>?_
 rw[Gb]
 refine st (by unfold cAt; exact sa) (fun _=>rfl) fun _=>?_
 refine st (by unfold cAt; exact sa) (fun _=>rfl) fun _=>?_
 refine sr fun _=>?_
 simp only[ye,yd,yl]
 rw[Ga,Ga,Ga,Ga,Ga]
 rfl
theorem zf7 (hb:Small b) (v d:Int):F_q3n b v d=some (orderS b v d):=by
 have h2:=hb.1
 obtain⟨h1,h3,h4,h5⟩:=h2
 have hw:i64.wrap ((b.G.length:Int)+1)=b.G.length+1:=wrapId om om
 have hol:(ordersOf b.G v).length<=b.G.length:=List.length_filter_le _ _
 have hw2:i64.wrap (((ordersOf b.G v).length:Int)+1)=(ordersOf b.G v).length+1:=wrapId om om
 open Classical in simp only[F_q3n,S_q3n,Scr.den,z24 hb,z2m,z2a,zhg h5,obind,zi,zf,z28 hb.1,hw,hw2]
 unfold orderS
 refine st (by (simp only[yv,yo])) (fun _=>rfl) fun hV=>?_
 refine sr fun hn=>?_
 refine sr fun _=>?_
 have hn:=nnm hn
 have hV:=nnm hV
 have hv:=(hV.2.2.2.1.at hn).2.1
 have hy:F_q1i b (b.C.getD (v-1).toNat dF).I=some (yearOf b (vAt b v).I):=z4u hb hV.2.1 hv
 rw[z2g hn h4,Gb,hy,obind,z6u hV.1 hV.2.1 hv]
 refine sr fun _=>?_
 refine st sj (fun _=>rfl) fun _=>?_
 refine st (by unfold vAt; exact sa) (fun _=>rfl) fun _=>?_
 refine sr fun _=>?_
 simp only[ye,yd,yl]
 rw[Ga,Ga,Ga,Ga,Ga]
 rfl
theorem zc2 (hb:Small b) (r n:Int):F_q3o b r n=some (releaseS b r n):=by
 have h2:=hb.1
 obtain⟨h1,h3,h4,h5⟩:=h2
 open Classical in simp only[F_q3o,S_q3o,Scr.den,z24 hb,z1w,z6n,obind,zi,z28 hb.1,y14]
 unfold releaseS
 refine st (by (simp only[yv,yo])) (fun _=>rfl) fun hV=>?_
 refine sr fun hn=>?_
 refine sr fun _=>?_
 refine sr fun _=>?_
 have hn:=nnm hn
 rw[z2g hn h1]
 simp only[y13]
 rw[Ga,Ga,Ga,Gc,Ga]
 rfl
theorem zgi (hb:Small b) (c n:Int):F_q3p b c n=some (dropS b c n):=by
 have h2:=hb.1
 obtain⟨h1,h3,h4,h5⟩:=h2
 open Classical in simp only[F_q3p,S_q3p,Scr.den,z24 hb,z1w,z6m,obind,zi,z28 hb.1,y14]
 unfold dropS
 refine st (by (simp only[yv,yo])) (fun _=>rfl) fun hV=>?_
 refine sr fun hn=>?_
 refine sr fun _=>?_
 have hn:=nnm hn
 rw[z2g hn h3,Gb]
 refine st (by unfold cAt; exact sa) (fun _=>rfl) fun _=>?_
 simp only[y13]
 rw[Ga,Ga,Ga,Gb,Ga]
 rfl
variable {v:Int}
theorem zc3 (h:0<(ordersOf b.G v).length):∃ i,i<b.G.length/\b.G.getD i dF=lastV b v/\(lastV b v).E=v/\ordersOf (b.G.drop (i+1)) v=[]:=by
 have key:∀ l:List TOr,0<(ordersOf l v).length->∃ i,i<l.length/\l.getD i dF=(ordersOf l v).getLastD noOrder/\((ordersOf l v).getLastD noOrder).E=v/\ordersOf (l.drop (i+1)) v=[]:=by
  intro l
  induction l with
  | nil=>intro h; simp[ordersOf] at h
  | cons o l ih =>
   intro h
   by_cases h':0<(ordersOf l v).length
   ·obtain⟨i,h1,h2,h3,h4⟩:=ih h'
    have e:(ordersOf (o :: l) v).getLastD noOrder=(ordersOf l v).getLastD noOrder:=by
     unfold ordersOf at h' |-
     rw[y30]
     split
     ·rw[List.getLastD_cons,List.getLastD_eq_getLast?,List.getLastD_eq_getLast?]
      rw[List.getLast?_eq_getElem?,yc om]
      rfl
     ·rfl
    exact⟨i+1,sk,by rw[y2v,e]; exact h2,by rw[e]; exact h3,by rw[y51]; exact h4⟩
   ·have e:ordersOf l v=[]:=List.eq_nil_of_length_eq_zero om
    have e2:ordersOf (o :: l) v=if (o.E==v)=true then [o] else []:=by
     unfold ordersOf at e |-
     rw[y30,e]
    rw[e2] at h |-
    by_cases ho:(o.E==v)=true
    ·rw[y9 ho]
     exact⟨0,sj,rfl,eq_of_beq ho,by simpa using e⟩
    ·rw[y8 ho] at h; simp at h
 exact key b.G h
theorem z5q {l:List TOr} {x:TOr}:x∈ordersOf l v↔x∈l/\x.E=v:=by
 unfold ordersOf; rw[y2e,y1a]
variable {j:Nat}
theorem zgj (hO:OAll b) (hij:i<j) (hj:j<b.G.length) (hv:(b.G.getD i dF).E=(b.G.getD j dF).E):(b.G.getD i dF).Z=true/\(b.G.getD i dF).N<=(b.G.getD j dF).N:=by
 have h:=(hO j hj).2.2.2.2.2.2
 have hm:b.G.getD i dF∈ordersOf (b.G.take j) (b.G.getD j dF).E:=by
  rw[z5q]
  refine⟨?_,hv⟩
  have e:b.G.getD i dF=(b.G.take j).getD i dF:=by
   simp only[yb,y56]
   rw[y9 hij]
  rw[e]
  exact zk (by rw[y1m]; omega)
 have:=List.any_eq_false.mp h _ hm
 simp only[yj,yv,ya,y4g] at this
 exact⟨by simpa using this.1,om⟩
theorem zgk (hb:Small b) (v:Int):F_q3q b v=some (backS b v):=by
 have h2:=hb.1
 obtain⟨h1,h3,h4,h5⟩:=h2
 open Classical in simp only[F_q3q,S_q3q,Scr.den,z24 hb,zhg h5,obind,zi,z28 hb.1,y14]
 unfold backS
 refine st (by (simp only[yv,yo])) (fun _=>rfl) fun hV=>?_
 refine sr fun hn=>?_
 refine st sj (fun _=>rfl) fun hl=>?_
 have hV:=nnm hV
 obtain⟨i,hi,he,_,_⟩:=zc3 (b:=b) (v:=v) om
 have hnum:=(hV.2.2.2.2.2.1 i hi).1
 rw[he] at hnum
 have w:i64.wrap ((lastV b v).D-1)=i:=by rw[wrapId om om]; omega
 rw[w]
 simp only[y13,yh,he]
 rw[Ga,Ga,Ga,Gc,Ga]
 rw[show ((lastV b v).D-1).toNat=i from om]
 rfl
theorem z2x [Inhabited α] (l:List α) (x:α) (i:Nat) (hi:i<l.length):(l++[x]).getD i dF=l.getD i dF:=by
 simp only[yb]
 rw[yk hi]
theorem z3v [Inhabited α] (l:List α) (x:α):(l++[x]).getD l.length dF=x:=by
 simp[List.getD_eq_getElem?_getD]
theorem z4p [Inhabited α] (l:List α) (x:α) (k i:Nat) (hk:k<l.length):(l.set k x).getD i dF=if i=k then x else l.getD i dF:=by
 simp only[yb,List.getElem?_set]
 by_cases h:k=i
 ·subst h; simp[hk]
 ·rw[y8 h,y8 (fun e=>h e.symm)]
variable {c:Int} {p:α->Bool} {f:α->Int}
theorem ziy {l:List α} (h:∀ x∈l,0<=f x/\f x<=c) (hl:l.length<=200) (hc:0<=c):0<=sm l p f/\sm l p f<=200 * c:=by
 have h1:=zcx (p:=p) fun x hx=>(h x hx).1
 have h2:=zqa (p:=p) (fun x hx=>(h x hx).2) hc
 have h3:(l.length:Int) * c<=200 * c:=Int.mul_le_mul_of_nonneg_right om hc
 omega
theorem CAll.mem (h:CAll b) {c:TCo} (hc:c∈b.B):CFld b c c.D/\c=cAt b c.D/\1<=c.D/\c.D<=b.B.length:=by
 obtain⟨i,hi,e⟩:=z1j hc
 have h1:=h i hi
 rw[e] at h1
 have hn:=h1.1
 rw[hn]
 refine⟨h1,?_,om,om⟩
 unfold cAt
 rw[<- e]
 congr 1
 omega
theorem RAll.mem (h:RAll b) {r:TRe} (hr:r∈b.A):RFld r r.D/\r=rAt b r.D/\1<=r.D/\r.D<=b.A.length:=by
 obtain⟨i,hi,e⟩:=z1j hr
 have h1:=h i hi
 rw[e] at h1
 have hn:=h1.1
 rw[hn]
 refine⟨h1,?_,om,om⟩
 unfold rAt
 rw[<- e]
 congr 1
 omega
theorem VAll.mem (h:VAll b) {v:TVe} (hv:v∈b.C):VFld b v v.D/\v=vAt b v.D/\1<=v.D/\v.D<=b.C.length:=by
 obtain⟨i,hi,e⟩:=z1j hv
 have h1:=h i hi
 rw[e] at h1
 have hn:=h1.1
 rw[hn]
 refine⟨h1,?_,om,om⟩
 unfold vAt
 rw[<- e]
 congr 1
 omega
theorem zf8 (h:Val b) (n:Int):0<=cmt b n/\cmt b n<=200000000000000:=by
 have:=ziy (l:=b.B) (p:=fun c=>c.H==n) (f:=(·.L)) (c:=1000000000000) (fun c hc=>by
  have:=(h.2.1.mem hc).1.2.2.2.1
  unfold amtP at this
  omega) h.2.2.2.2.2.2.2.1 om
 exact this
theorem zf9 (h:Val b) (n:Int):0<=ver b n/\ver b n<=200000000000000:=by
 have:=ziy (l:=b.C) (p:=fun c=>c.I==n) (f:=(·.L)) (c:=1000000000000) (fun c hc=>by
  have:=(h.2.2.2.1.mem hc).1.2.2.2.1
  unfold amtP at this
  omega) h.2.2.2.2.2.2.2.2.1 om
 exact this
theorem z7j (h:Val b) {r:TRe} (hr:r∈b.A):leftV b r=r.L-r.P-cmt b r.D/\0<=leftV b r:=by
 have h1:=zf8 h r.D
 have h2:=(h.1.mem hr).1
 have h3:=h2.2.2.2.2.2.1
 have h4:=h2.2.2.2.2.2.2
 unfold amtP at h3
 exact⟨wrapId om om,h.2.2.1 r hr⟩
theorem zfa (h:Val b) {c:TCo} (hc:c∈b.B):restV b c=c.L-c.P-ver b c.D/\0<=restV b c:=by
 have h1:=zf9 h c.D
 have h2:=(h.2.1.mem hc).1
 have h3:=h2.2.2.2.1
 have h4:=h2.2.2.2.2.1
 unfold amtP at h3
 exact⟨wrapId om om,h.2.2.2.2.1 c hc⟩
theorem zc4 (hn:1<=n/\n<=b.A.length):rAt b n∈b.A:=zk om
theorem zon (hn:1<=n/\n<=b.B.length):cAt b n∈b.B:=zk om
theorem valR (h:Val b) {l:List TRe} (hl:b.A.length<=l.length) (h200:l.length<=200) (hR:∀ i,i<l.length->RFld (l.getD i dF) (i+1)) (hs:∀ i,i<b.A.length->(l.getD i dF).N=(b.A.getD i dF).N/\(l.getD i dF).K=(b.A.getD i dF).K) (hL:∀ r∈l,0<=leftV b r):Val (withR b l):=by
 have hr:∀ n:Int,1<=n/\n<=b.A.length->(rAt (withR b l) n).N=(rAt b n).N/\(rAt (withR b l) n).K=(rAt b n).K:=fun n hn=>hs (n-1).toNat om
 have hy:∀ n:Int,1<=n/\n<=b.B.length->yearOf (withR b l) n=yearOf b n:=fun n hn=>(hr _ (h.2.1.at hn).2.1).2
 refine⟨hR,fun i hi=>?_,hL,fun i hi=>?_,h.2.2.2.2.1,fun i hi=>?_,h200,h.2.2.2.2.2.2.2⟩
 ·change CFld (withR b l) (b.B.getD i dF) _
  obtain⟨a1,a2,a3,a4,a5,a6,a7,a8,a9⟩:=h.2.1 i hi
  obtain⟨b1,b2⟩:=hr _ a2
  exact⟨a1,⟨a2.1,Int.le_trans a2.2 (by simpa [withR] using hl)⟩,a3,a4,a5,a6,a7,by rw[b1]; exact a8,by rw[b2]; exact a9⟩
 ·change VFld (withR b l) (b.C.getD i dF) _
  obtain⟨a1,a2,a3,a4,a5,a6⟩:=h.2.2.2.1 i hi
  exact⟨a1,a2,a3,a4,a5,by rw[hy _ a2]; exact a6⟩
 ·change OFld (withR b l) (b.G.getD i dF) (b.G.take i) _
  obtain⟨a1,a2,a3,a4,a5,a6⟩:=h.2.2.2.2.2.1 i hi
  exact⟨a1,a2,a3,a4,by rw[show vAt (withR b l)=vAt b from rfl,hy _ (h.2.2.2.1.at a2).2.1]; exact a5,a6⟩
theorem valC (h:Val b) {l:List TCo} (hl:b.B.length<=l.length) (h200:l.length<=200) (hC:∀ i,i<l.length->CFld b (l.getD i dF) (i+1)) (hs:∀ i,i<b.B.length->(l.getD i dF).N=(b.B.getD i dF).N/\(l.getD i dF).H=(b.B.getD i dF).H) (hL:∀ r∈b.A,0<=leftV (withC b l) r) (hV:∀ c∈l,0<=restV b c):Val (withC b l):=by
 have hr:∀ n:Int,1<=n/\n<=b.B.length->(cAt (withC b l) n).N=(cAt b n).N/\(cAt (withC b l) n).H=(cAt b n).H:=fun n hn=>hs (n-1).toNat om
 have hy:∀ n:Int,1<=n/\n<=b.B.length->yearOf (withC b l) n=yearOf b n:=fun n hn=>by
  unfold yearOf
  rw[(hr n hn).2]
  rfl
 refine⟨h.1,hC,hL,fun i hi=>?_,hV,fun i hi=>?_,h.2.2.2.2.2.2.1,h200,h.2.2.2.2.2.2.2.2⟩
 ·change VFld (withC b l) (b.C.getD i dF) _
  obtain⟨a1,a2,a3,a4,a5,a6⟩:=h.2.2.2.1 i hi
  exact⟨a1,⟨a2.1,Int.le_trans a2.2 (by simpa [withC] using hl)⟩,a3,a4,by rw[(hr _ a2).1]; exact a5,by rw[hy _ a2]; exact a6⟩
 ·change OFld (withC b l) (b.G.getD i dF) (b.G.take i) _
  obtain⟨a1,a2,a3,a4,a5,a6⟩:=h.2.2.2.2.2.1 i hi
  exact⟨a1,a2,a3,a4,by rw[show vAt (withC b l)=vAt b from rfl,hy _ (h.2.2.2.1.at a2).2.1]; exact a5,a6⟩
theorem valV (h:Val b) {l:List TVe} (hl:b.C.length<=l.length) (h200:l.length<=200) (hV:∀ i,i<l.length->VFld b (l.getD i dF) (i+1)) (hs:∀ i,i<b.C.length->l.getD i dF=b.C.getD i dF) (hL:∀ c∈b.B,0<=restV (withV b l) c):Val (withV b l):=by
 have hr:∀ n:Int,1<=n/\n<=b.C.length->vAt (withV b l) n=vAt b n:=fun n hn=>hs (n-1).toNat om
 refine⟨h.1,h.2.1,h.2.2.1,hV,hL,fun i hi=>?_,h.2.2.2.2.2.2.1,h.2.2.2.2.2.2.2.1,h200,h.2.2.2.2.2.2.2.2.2⟩
 change OFld (withV b l) (b.G.getD i dF) (b.G.take i) _
 obtain⟨a1,a2,a3,a4,a5,a6⟩:=h.2.2.2.2.2.1 i hi
 exact⟨a1,⟨a2.1,Int.le_trans a2.2 (by simpa [withV] using hl)⟩,a3,by rw[hr _ a2]; exact a4,by rw[hr _ a2]; exact a5,a6⟩
theorem valO (h:Val b) {l:List TOr} (h200:l.length<=200) (hO:∀ i,i<l.length->OFld b (l.getD i dF) (l.take i) (i+1)):Val (withO b l) :=
 ⟨h.1,h.2.1,h.2.2.1,h.2.2.2.1,h.2.2.2.2.1,hO,h.2.2.2.2.2.2.1,h.2.2.2.2.2.2.2.1,h.2.2.2.2.2.2.2.2.1,h200⟩
theorem zfb (h:Val b) (hn:(b.A.length:Int)<n):cmt b n=0:=by
 unfold cmt
 rw[z7e (q:=fun _=>false) (g:=fun _=>0) fun c hc=>by
  have:=(h.2.1.mem hc).1.2.1
  rw[y8 sk]; rfl]
 have:∀ l:List TCo,sm l (fun _=>false) (fun _=>0)=0:=fun l=>by induction l with
  | nil=>rfl
  | cons x l ih=>rw[z13,ih]; rfl
 exact this _
theorem zms (h:Val b) (hn:(b.B.length:Int)<n):ver b n=0:=by
 unfold ver
 rw[z7e (q:=fun _=>false) (g:=fun _=>0) fun c hc=>by
  have:=(h.2.2.2.1.mem hc).1.2.1
  rw[y8 sk]; rfl]
 have:∀ l:List TVe,sm l (fun _=>false) (fun _=>0)=0:=fun l=>by induction l with
  | nil=>rfl
  | cons x l ih=>rw[z13,ih]; rfl
 exact this _
variable {y:Int}
theorem zgl (h:Val b) (hg:good code=true) (hy:0<=y/\y<=99) (hd:dayP d) (hn:amtP n) (hyr:yr d=y) (hl:(b.A.length:Int)≠200):Val (withR b (b.A++[⟨b.A.length+1,code,y,d,n,0⟩])):=by
 have h200:=h.2.2.2.2.2.2.1
 have hn':=hn
 unfold amtP at hn'
 refine valR h sj sk (fun i hi=>?_) (fun i hi=>by rw[z2x _ _ _ hi]; exact⟨rfl,rfl⟩) fun r hr=>?_
 ·by_cases hi':i<b.A.length
  ·rw[z2x _ _ _ hi']; exact h.1 i hi'
  ·have:i=b.A.length:=by simp at hi; omega
   subst this
   rw[z3v]
   exact⟨rfl,hg,hy,hd,hyr,hn,by simp only; omega⟩
 ·rw[y1b,y1z] at hr
  rcases hr with hr | rfl
  ·exact h.2.2.1 r hr
  ·unfold leftV
   simp only
   rw[zfb h om,wrapId om om]
   omega
theorem zgm (h:Val b) {r:Int} (hr:1<=r/\r<=b.A.length) (hn:amtP n) (hL:n<=leftN b r):Val (withR b (b.A.set (r-1).toNat ⟨(rAt b r).D,(rAt b r).J,(rAt b r).K,(rAt b r).N,(rAt b r).L,i64.wrap ((rAt b r).P+n)⟩)):=by
 have h200:=h.2.2.2.2.2.2.1
 have hm:=zc4 hr
 obtain⟨f1,f2,f3,f4,f5,f6,f7⟩:=h.1.at hr
 obtain⟨l1,l2⟩:=z7j h hm
 have hc:=zf8 h (rAt b r).D
 rw[zf6 h.1 hr] at hL
 unfold amtP at hn f6
 have hw:i64.wrap ((rAt b r).P+n)=(rAt b r).P+n:=wrapId om om
 rw[hw]
 have hk:(r-1).toNat<b.A.length:=om
 refine valR h sj sk (fun i hi=>?_) (fun i hi=>?_) fun x hx=>?_
 ·rw[z4p _ _ _ _ hk]
  split
  ·rename_i e
   refine⟨by simp only; omega,f2,f3,f4,f5,f6,by simp only; omega⟩
  ·exact h.1 i (by simpa using hi)
 ·rw[z4p _ _ _ _ hk]
  split
  ·rename_i e
   subst e
   exact⟨rfl,rfl⟩
  ·exact⟨rfl,rfl⟩
 ·rcases y2w hx with hx | rfl
  ·exact h.2.2.1 x hx
  ·unfold leftV
   simp only
   rw[wrapId om om]
   omega
variable {u:Int}
theorem ziz (h:Val b) {r p:Int} (hr:1<=r/\r<=b.A.length) (hd:dayP d) (hn:amtP n) (hp:1<=p/\p<=1000000) (hu:dayP u) (hy:yr d=(rAt b r).K) (hdr:(rAt b r).N<=d) (hL:n<=leftV b (rAt b r)) (hl:(b.B.length:Int)≠200):Val (withC b (b.B++[⟨b.B.length+1,r,d,n,0,p,u⟩])):=by
 have h200:=h.2.2.2.2.2.2.2.1
 have hn':=hn
 unfold amtP at hn'
 have hrm:=zc4 hr
 obtain⟨l1,l2⟩:=z7j h hrm
 refine valC h sj sk (fun i hi=>?_) (fun i hi=>by rw[z2x _ _ _ hi]; exact⟨rfl,rfl⟩) (fun x hx=>?_) fun c hc=>?_
 ·by_cases hi':i<b.B.length
  ·rw[z2x _ _ _ hi']; exact h.2.1 i hi'
  ·have:i=b.B.length:=by simp at hi; omega
   subst this
   rw[z3v]
   exact⟨rfl,hr,hd,hn,by simp only; omega,hp,hu,hdr,hy⟩
 ·obtain⟨x1,x2⟩:=z7j h hx
  unfold leftV
  have e:cmt (withC b (b.B++[⟨b.B.length+1,r,d,n,0,p,u⟩])) x.D=cmt b x.D+if (r==x.D)=true then n else 0:=by
   unfold cmt withC
   simp only
   rw[z6b,z13,zb4]
   simp
  have hc:=zf8 h x.D
  have hf:=(h.1.mem hx)
  have hf6:=hf.1.2.2.2.2.2.1
  have hf7:=hf.1.2.2.2.2.2.2
  unfold amtP at hf6
  rw[e]
  split
  ·rename_i er
   have er:=eq_of_beq er
   have:x=rAt b r:=by rw[er]; exact hf.2.1
   rw[<- this] at hL
   rw[wrapId om om]
   omega
  ·rw[wrapId om om]
   omega
 ·rw[y1b,y1z] at hc
  rcases hc with hc | rfl
  ·exact h.2.2.2.2.1 c hc
  ·unfold restV
   simp only
   rw[zms h om,wrapId om om]
   omega
theorem zmt (h:Val b) (hc:1<=c/\c<=b.B.length) (hn:amtP n) (hL:n<=restV b (cAt b c)):Val (withC b (b.B.set (c-1).toNat ⟨(cAt b c).D,(cAt b c).H,(cAt b c).N,(cAt b c).L,i64.wrap ((cAt b c).P+n),(cAt b c).S,(cAt b c).X⟩)):=by
 have h200:=h.2.2.2.2.2.2.2.1
 have hm:=zon hc
 obtain⟨f1,f2,f3,f4,f5,f6,f7,f8,f9⟩:=h.2.1.at hc
 obtain⟨l1,l2⟩:=zfa h hm
 have hv:=zf9 h (cAt b c).D
 unfold amtP at hn
 have f4':=f4
 unfold amtP at f4'
 have hw:i64.wrap ((cAt b c).P+n)=(cAt b c).P+n:=wrapId om om
 rw[hw]
 have hk:(c-1).toNat<b.B.length:=om
 refine valC h sj sk (fun i hi=>?_) (fun i hi=>?_) (fun x hx=>?_) fun x hx=>?_
 ·rw[z4p _ _ _ _ hk]
  split
  ·rename_i e
   exact⟨by simp only; omega,f2,f3,f4,by simp only; omega,f6,f7,f8,f9⟩
  ·exact h.2.1 i (by simpa using hi)
 ·rw[z4p _ _ _ _ hk]
  split
  ·rename_i e
   subst e
   exact⟨rfl,rfl⟩
  ·exact⟨rfl,rfl⟩
 ·have e:∀ m,cmt (withC b (b.B.set (c-1).toNat ⟨(cAt b c).D,(cAt b c).H,(cAt b c).N,(cAt b c).L,(cAt b c).P+n,(cAt b c).S,(cAt b c).X⟩)) m=cmt b m:=fun m=>by
   unfold cmt withC
   simp only
   rw[zev hk _ _ _ dF]
   change _-(if ((cAt b c).H==m)=true then (cAt b c).L else 0)+(if ((cAt b c).H==m)=true then (cAt b c).L else 0)=_
   omega
  unfold leftV
  rw[e]
  exact h.2.2.1 x hx
 ·rcases y2w hx with hx | rfl
  ·exact h.2.2.2.2.1 x hx
  ·unfold restV
   simp only
   rw[wrapId om om]
   omega
theorem zj0 (h:Val b) (hc:1<=c/\c<=b.B.length) (hd:dayP d) (hn:amtP n) (hy:yr d<=yearOf b c+1) (hdc:(cAt b c).N<=d) (hL:n<=restV b (cAt b c)) (hl:(b.C.length:Int)≠200):Val (withV b (b.C++[⟨b.C.length+1,c,d,n⟩])):=by
 have h200:=h.2.2.2.2.2.2.2.2.1
 have hn':=hn
 unfold amtP at hn'
 refine valV h sj sk (fun i hi=>?_) (fun i hi=>z2x _ _ _ hi) fun x hx=>?_
 ·by_cases hi':i<b.C.length
  ·rw[z2x _ _ _ hi']; exact h.2.2.2.1 i hi'
  ·have:i=b.C.length:=by simp at hi; omega
   subst this
   rw[z3v]
   exact⟨rfl,hc,hd,hn,hdc,hy⟩
 ·obtain⟨x1,x2⟩:=zfa h hx
  unfold restV
  have e:ver (withV b (b.C++[⟨b.C.length+1,c,d,n⟩])) x.D=ver b x.D+if (c==x.D)=true then n else 0:=by
   unfold ver withV
   simp only
   rw[z6b,z13,zb4]
   simp
  have hv:=zf9 h x.D
  have hf:=(h.2.1.mem hx)
  have hf6:=hf.1.2.2.2.1
  have hf7:=hf.1.2.2.2.2.1
  unfold amtP at hf6
  rw[e]
  split
  ·rename_i er
   have er:=eq_of_beq er
   have:x=cAt b c:=by rw[er]; exact hf.2.1
   rw[<- this] at hL
   rw[wrapId om om]
   omega
  ·rw[wrapId om om]
   omega
theorem zky (h:Val b) (hv:1<=v/\v<=b.C.length) (hd:dayP d) (hy:yr d<=yearOf b (vAt b v).I+1) (hdv:(vAt b v).N<=d) (hb:0<(ordersOf b.G v).length->(lastV b v).Z=true/\(lastV b v).N<=d) (hl:(b.G.length:Int)≠200):Val (withO b (b.G++[⟨b.G.length+1,v,(ordersOf b.G v).length+1,d,false⟩])):=by
 have h200:=h.2.2.2.2.2.2.2.2.2
 refine valO h sk fun i hi=>?_
 by_cases hi':i<b.G.length
 ·rw[z2x _ _ _ hi',List.take_append_of_le_length om]; exact h.2.2.2.2.2.1 i hi'
 ·have:i=b.G.length:=by simp at hi; omega
  subst this
  rw[z3v,List.take_left]
  refine⟨rfl,hv,hd,hdv,hy,rfl,?_⟩
  rw[List.any_eq_false]
  intro x hx
  obtain⟨hx1,hx2⟩:=z5q.mp hx
  obtain⟨j,hj,he⟩:=z1j hx1
  obtain⟨k,hk,hke,hkv,hkd⟩:=zc3 (b:=b) (v:=v) (List.length_pos_of_mem hx)
  obtain⟨hb1,hb2⟩:=hb (List.length_pos_of_mem hx)
  simp only at hx2
  have:x.Z=true/\x.N<=d:=by
   rcases Nat.lt_trichotomy j k with hjk | hjk | hjk
   ·have:=zgj h.2.2.2.2.2.1 hjk hk (by rw[he,hke,hx2,hkv])
    rw[he,hke] at this
    exact⟨this.1,om⟩
   ·subst hjk
    rw[<- he,hke]; exact⟨hb1,hb2⟩
   ·exfalso
    have hm:x∈ordersOf (b.G.drop (k+1)) v:=by
     rw[z5q]
     refine⟨?_,hx2⟩
     have e:x=(b.G.drop (k+1)).getD (j-(k+1)) dF:=by
      rw[<- he]
      simp only[yb,y2i]
      rw[show k+1+(j-(k+1))=j from om]
     rw[e]
     exact zk (by rw[y2a]; omega)
    rw[hkd] at hm; cases hm
  simp only[this.1,y58,y48,ya]
  omega
theorem zkz (l:List TOr) (i:Nat) (y:TOr) (hi:i<l.length) (hy:y.E=(l.getD i dF).E/\y.N=(l.getD i dF).N/\y.Z=true) (v d:Int) :
  (ordersOf (l.set i y) v).length=(ordersOf l v).length/\((ordersOf l v).any (fun x=>!x.Z||decide (x.N>d))=false->(ordersOf (l.set i y) v).any (fun x=>!x.Z||decide (x.N>d))=false):=by
 induction l generalizing i with
 | nil=>simp at hi
 | cons x l ih =>
  unfold ordersOf at ih |-
  cases i with
  | zero =>
   rw[y4d,y30,y30]
   rw[y3g] at hy
   rw[hy.1]
   split
   ·simp only[yd,y47,hy.2.1,hy.2.2,y58,y48,y3n]
    exact⟨trivial,fun h=>⟨h.1.2,h.2⟩⟩
   ·exact⟨rfl,fun h=>h⟩
  | succ i =>
   rw[y2v] at hy
   have:=ih i (by simpa using hi) hy
   rw[y4e,y30,y30]
   split
   ·simp only[yd,y47,y3n]
    exact⟨by rw[this.1],fun h=>⟨h.1,this.2 h.2⟩⟩
   ·exact this
theorem zmu (h:Val b) (hl:0<(ordersOf b.G v).length):Val (withO b (b.G.set ((lastV b v).D-1).toNat ⟨(lastV b v).D,(lastV b v).E,(lastV b v).Q,(lastV b v).N,true⟩)):=by
 have h200:=h.2.2.2.2.2.2.2.2.2
 obtain⟨i,hi,he,hv,hd⟩:=zc3 hl
 have hf:=h.2.2.2.2.2.1 i hi
 rw[he] at hf
 rw[show ((lastV b v).D-1).toNat=i by have:=hf.1; omega]
 refine valO h sk fun j hj=>?_
 rw[y13] at hj
 have hj':=h.2.2.2.2.2.1 j hj
 have key:∀ u d:Int,(ordersOf ((b.G.set i ⟨(lastV b v).D,(lastV b v).E,(lastV b v).Q,(lastV b v).N,true⟩).take j) u).length=(ordersOf (b.G.take j) u).length/\((ordersOf (b.G.take j) u).any (fun x=>!x.Z||decide (x.N>d))=false->(ordersOf ((b.G.set i ⟨(lastV b v).D,(lastV b v).E,(lastV b v).Q,(lastV b v).N,true⟩).take j) u).any (fun x=>!x.Z||decide (x.N>d))=false):=fun u d=>by
  rw[List.take_set]
  by_cases hij:i<j
  ·have e:(b.G.take j).getD i dF=lastV b v:=by
    rw[<- he]
    simp only[yb,y56]
    rw[y9 hij]
   exact zkz _ i _ (by rw[y1m]; omega) (by rw[e]; exact⟨rfl,rfl,rfl⟩) u d
  ·rw[List.set_eq_of_length_le (by rw[y1m]; omega)]
   exact⟨rfl,fun h=>h⟩
 rw[z4p _ _ _ _ hi]
 split
 ·rename_i e
  subst e
  rw[he] at hj'
  obtain⟨a1,a2,a3,a4,a5,a6,a7⟩:=hj'
  exact⟨a1,a2,a3,a4,a5,by rw[(key _ 0).1]; exact a6,(key _ _).2 a7⟩
 ·obtain⟨a1,a2,a3,a4,a5,a6,a7⟩:=hj'
  exact⟨a1,a2,a3,a4,a5,by rw[(key _ 0).1]; exact a6,(key _ _).2 a7⟩
def TapeOk (s:TTape):Prop:=0<=s.at_/\s.l.length<=500/\s.at_<=s.l.length
theorem zmv (t:List Int):∃ s,F_q2z t=some s/\TapeOk s:=by
 simp only[F_q2z,S_q2z,Scr.den]
 refine⟨_,zcu ⟨?_,?_,trivial⟩ rfl,sj,?_,sj⟩
 ·split <;> omega
 ·split <;> omega
 ·simp only[y1m]
  split <;> omega
variable {s:TTape}
theorem zw (hs:TapeOk s) (h1:1<=n) (hn:n<=4611686018427387904):∃ v s',F_q1 n s=some (v,s')/\TapeOk s'/\0<=v/\v<n:=by
 obtain⟨a1,a2,a3⟩:=hs
 simp only[F_q1,S_q1,Scr.den]
 by_cases hc:s.at_>=(s.l.length:Int)
 ·rw[y9 (by simp[hc])]
  exact⟨0,s,rfl,⟨a1,a2,a3⟩,om,om⟩
 ·rw[y8 sk]
  have e1:i64.wrap (s.at_+1)=s.at_+1:=wrapId om om
  rw[e1,Gc]
  generalize s.l.getD s.at_.toNat dF=x
  have t1:x.tmod n<n:=Int.tmod_lt_of_pos x om
  have t2:-n<x.tmod n:=Int.lt_tmod_of_pos x om
  have e3:i64.wrap (x.tmod n+n)=x.tmod n+n:=wrapId om om
  rw[e3]
  have ht:TapeOk ⟨s.l,s.at_+1⟩:=⟨by simp only; omega,a2,by simp only; omega⟩
  split
  ·rename_i h
   simp only[ya] at h
   exact⟨_,_,rfl,ht,om,om⟩
  ·rename_i h
   simp only[ya] at h
   exact⟨_,_,rfl,ht,om,om⟩
theorem zm {lo hi:Int} (hs:TapeOk s) (h0:-1000000000000000<=lo) (h1:lo<=hi) (h2:hi<=1000000000000000):∃ v s',F_q7 lo hi s=some (v,s')/\TapeOk s'/\lo<=v/\v<=hi:=by
 simp only[F_q7,S_q7,Scr.den]
 rw[wrapId (n:=hi-lo) om om,wrapId (n:=hi-lo+1) om om]
 obtain⟨v,s',h3,h4,h5,h6⟩:=zw (n:=hi-lo+1) hs om om
 refine⟨lo+v,s',?_,h4,om,om⟩
 rw[h3,obind]
 simp only
 rw[wrapId (n:=lo+v) om om]
theorem zp {l:List Int} (hs:TapeOk s) (h0:1<=l.length) (h1:l.length<=100):∃ v s',F_q5 l s=some (v,s')/\TapeOk s'/\v∈l:=by
 simp only[F_q5,S_q5,Scr.den]
 obtain⟨v,s',h3,h4,h5,h6⟩:=zw (n:=(l.length:Int)) hs om om
 refine⟨_,s',?_,h4,zk (show v.toNat<l.length from om)⟩
 rw[h3,obind,z8 ⟨by simpa using h5,by simp only; omega,trivial⟩]
theorem z5r (hs:TapeOk s):∃ c s',F_q2j s=some (c,s')/\TapeOk s'/\c.length<=60/\good c=true:=by
 simp only[F_q2j,S_q2j,Scr.den]
 obtain⟨v,s',h3,h4,h5,h6⟩:=zw (n:=3) hs om om
 have h:∀ c∈([[49],[49,46,50],[50]]:List Y8),c.length<=60/\good c=true:=dk
 refine⟨_,s',?_,h4,h _ (zk (show v.toNat<3 from om))⟩
 rw[h3,obind,z8 ⟨by simpa using h5,by simp only; omega,trivial⟩]
theorem zpu:Val nb:=by
 refine⟨fun i hi=>?_,fun i hi=>?_,fun r hr=>?_,fun i hi=>?_,fun r hr=>?_,fun i hi=>?_,dk,dk,dk,dk⟩
 ·exact absurd hi (y4w _)
 ·exact absurd hi (y4w _)
 ·cases hr
 ·exact absurd hi (y4w _)
 ·cases hr
 ·exact absurd hi (y4w _)
def mt (b:TBo) (code:Y8) (y n:Int):Bool:=(rAt b n).J==code&&(rAt b n).K==y
theorem zqh:i64.wrap 0=0:=wrapId om om
theorem zoo (b:TBo) (c:TCo) (m:Int):rel (withC b (b.B++[c])) m=rel b m+if (c.H==m)=true then c.P else 0:=by
 unfold rel withC
 simp only
 rw[z6b,z13,zb4]
 simp
theorem zmw (b:TBo) (c:TCo) (h0:c.P=0) (code:Y8) (y:Int):usedV (withC b (b.B++[c])) code y=usedV b code y:=by
 unfold usedV
 congr 1
 change sm b.A _ _=sm b.A _ _
 refine z7e fun r _=>?_
 simp only[zoo,h0]
 simp
theorem zop (l:List α) (p:α->Bool):sm l p (fun _=>0)=0:=by
 induction l with
 | nil=>rfl
 | cons x l ih=>rw[z13,ih]; split <;> rfl
theorem zl0 {α:Type} [Inhabited α] {num:α->Int} {q:Int->Bool} {p:α->Bool} (a:Int):∀ (l:List α) (i:Nat),i<l.length->(∀ j,j<l.length->j≠i->num (l.getD j dF)≠num (l.getD i dF))->p (l.getD i dF)=q (num (l.getD i dF)) ->
  sm l p (fun x=>if (num (l.getD i dF)==num x)=true then a else 0)=if q (num (l.getD i dF))=true then a else 0
 | [],i,hi,_,_=>by simp at hi
 | x :: l,0,hi,hd,hp=>by
  rw[y3g] at hp hd |-
  rw[z13,hp]
  have:sm l p (fun y=>if (num x==num y)=true then a else 0)=sm l p (fun _=>0):=z7e fun y hy=>by
   obtain⟨j,hj,e⟩:=z1j hy
   have:=hd (j+1) sk om
   rw[y2v,e] at this
   have e2:(num x==num y)=false:=by simpa using fun h=>this h.symm
   rw[e2]; simp
  rw[this,zop]
  simp
 | x :: l,i+1,hi,hd,hp=>by
  rw[y2v] at hp hd |-
  rw[z13,zl0 a l i (by simpa using hi) (fun j hj hji=>by
   have:=hd (j+1) sk om
   rwa [y2v] at this) hp]
  have:=hd 0 sj om
  rw[y3g] at this
  have e2:(num (l.getD i dF)==num x)=false:=by simpa using fun h=>this h.symm
  rw[e2]; simp
theorem zpv (h:Val b) (code:Y8) (y:Int) {r:TRe} (hr:r∈b.A):mt b code y r.D=(r.J==code&&r.K==y):=by
 unfold mt
 rw[<- (h.1.mem hr).2.1]
theorem zo {_:Decidable P} {a b:TBo×Int} (h:(if P then a else b).2=0) (ha:a.2≠0):(if P then a else b)=b/\¬ P:=by
 by_cases hp:P
 ·rw[y9 hp] at h; exact absurd h ha
 ·exact⟨y8 hp,hp⟩
theorem zfc {r p:Int} (h0:(commitS b r d n p u).2=0) (code:Y8) (y:Int):usedV (commitS b r d n p u).1 code y=usedV b code y:=by
 unfold commitS at h0 |-
 obtain⟨e,_⟩:=zo h0 dk; rw[e] at h0 |-; clear e
 obtain⟨e,_⟩:=zo h0 dk; rw[e] at h0 |-; clear e
 obtain⟨e,_⟩:=zo h0 dk; rw[e] at h0 |-; clear e
 obtain⟨e,_⟩:=zo h0 dk; rw[e] at h0 |-; clear e
 obtain⟨e,_⟩:=zo h0 dk; rw[e] at h0 |-; clear e
 obtain⟨e,_⟩:=zo h0 dk; rw[e] at h0 |-; clear e
 obtain⟨e,_⟩:=zo h0 dk; rw[e] at h0 |-; clear e
 exact zmw _ _ rfl _ _
theorem zfd (h0:(verifyS b c d n).2=0) (code:Y8) (y:Int):usedV (verifyS b c d n).1 code y=usedV b code y:=by
 unfold verifyS at h0 |-
 obtain⟨e,_⟩:=zo h0 dk; rw[e] at h0 |-; clear e
 obtain⟨e,_⟩:=zo h0 dk; rw[e] at h0 |-; clear e
 obtain⟨e,_⟩:=zo h0 dk; rw[e] at h0 |-; clear e
 obtain⟨e,_⟩:=zo h0 dk; rw[e] at h0 |-; clear e
 obtain⟨e,_⟩:=zo h0 dk; rw[e] at h0 |-; clear e
 obtain⟨e,_⟩:=zo h0 dk; rw[e] at h0 |-; clear e
 obtain⟨e,_⟩:=zo h0 dk; rw[e] at h0 |-; clear e
 rfl
theorem zgn (h0:(orderS b v d).2=0) (code:Y8) (y:Int):usedV (orderS b v d).1 code y=usedV b code y:=by
 unfold orderS at h0 |-
 obtain⟨e,_⟩:=zo h0 dk; rw[e] at h0 |-; clear e
 obtain⟨e,_⟩:=zo h0 dk; rw[e] at h0 |-; clear e
 obtain⟨e,_⟩:=zo h0 dk; rw[e] at h0 |-; clear e
 obtain⟨e,_⟩:=zo h0 dk; rw[e] at h0 |-; clear e
 obtain⟨e,_⟩:=zo h0 dk; rw[e] at h0 |-; clear e
 obtain⟨e,_⟩:=zo h0 dk; rw[e] at h0 |-; clear e
 obtain⟨e,_⟩:=zo h0 dk; rw[e] at h0 |-; clear e
 rfl
theorem zhj {l:List α} (h:∀ x∈l,p x=false):sm l p f=0:=by
 induction l with
 | nil=>rfl
 | cons x l ih=>rw[z13,h x sj,ih fun y hy=>h y (by simp[hy])]; rfl
def SmN (k:Nat) (b:TBo):Prop:=(b.A.length<=k/\b.B.length<=k/\b.C.length<=k/\b.G.length<=k)/\∀ r∈b.A,r.J.length<=1000
variable {k:Nat}
theorem SmN.small (h:SmN k b) (hk:k<=1000):Small b:=by
 obtain⟨⟨h1,h2,h3,h4⟩,hc⟩:=h
 exact⟨⟨om,om,om,om⟩,fun r hr=>by have:=hc r hr; omega⟩
theorem z49 (hs:TapeOk s):∃ c s',F_q24 s=some (c,s')/\TapeOk s'/\c.length<=1000:=by
 simp only[F_q24,S_q24,Scr.den]
 obtain⟨v,s',h3,h4,h5,h6⟩:=zw (n:=12) hs om om
 have h:∀ c∈([[],[48],[48,49],[49,46],[46,49],[49,46,46,50],[49,48,48],[49,46,50,46,51,46,52,46,53],[120],[49,32],[57,57,46,57,57,46,57,57,46,57,57],[52]]:List Y8),c.length<=1000:=dk
 refine⟨_,s',?_,h4,h _ (zk (show v.toNat<12 from om))⟩
 rw[h3,obind,z8 ⟨by simpa using h5,by simp only; omega,trivial⟩]
theorem zmx (hs:TapeOk s):∃ c s',F_q3s [] s=some (c,s')/\TapeOk s'/\c.length<=1000:=by
 simp only[F_q3s,S_q3s,Scr.den]
 rw[Gh,obind,y9 sj]
 obtain⟨c,s',h1,h2,h3⟩:=z49 hs
 simp only[h1,obind]
 exact⟨_,_,rfl,h2,h3⟩
theorem zai (h:SmN k b) (hi:i<b.A.length) {x:TRe} (hx:x.J=(b.A.getD i dF).J):∀ r∈b.A.set i x,r.J.length<=1000:=fun r hr=>by
 rcases y2w hr with hr | rfl
 ·exact h.2 r hr
 ·rw[hx]; exact h.2 _ (zk hi)
theorem zfe (b:TBo):∃ C,F_q14 b=some C/\(C=true->SmN 40 b):=by
 simp only[F_q14,S_q14,Scr.den,zf]
 obtain⟨h1,h2⟩:=zt (body:=fun i s=>(S_q14_b1 b i s).den) (n:=b.A.length) (c:=false) (fun i=>(b.A.getD i dF).J.length<=60) (fun i hi hp=>by
  simp only[S_q14_b1,Scr.den]; rw[y8 (by rw[ya]; omega)]) (fun i hi hp=>by
  simp only[S_q14_b1,Scr.den]; rw[y9 (by rw[ya]; omega)])
 by_cases h:∀ j,j<b.A.length->(b.A.getD j dF).J.length<=60
 ·rw[h1 h]
  refine⟨_,rfl,fun hc=>?_⟩
  simp only[yg,ya] at hc
  refine⟨om,fun r hr=>?_⟩
  obtain⟨i,hi,e⟩:=z1j hr
  have:=h i hi
  rw[e] at this
  omega
 ·rw[h2 h]
  exact⟨false,rfl,fun h=>by cases h⟩
theorem z9v (b:TBo) (code:Y8) (y:Int):F_qo b code y=some (usedV b code y):=by
 simp only[F_qo,S_qo,Scr.den]
 rw[z21 b.A (fun (s:Int) r=>if (r.J==code&&r.K==y)=true then i64.wrap (s+(r.L-r.P-rel b r.D)) else s)]
 ·have:=z8e b.A (fun r=>r.J==code&&r.K==y) (fun r=>r.L-r.P-rel b r.D) 0
  rw[zqh] at this
  simp only[outM,this]
  simp[usedV]
 ·intro i s hi
  simp only[S_qo_b2,Scr.den,zi]
  obtain⟨r,hr⟩:∃ r,b.A.getD i dF=r:=⟨_,rfl⟩
  simp only[hr]
  cases hp:(r.J==code&&r.K==y)
  ·rw[y9 (by
    cases h1:r.J==code
    ·rfl
    ·rw[h1] at hp; simpa [bne] using hp)]
   rfl
  ·simp only[yg] at hp
   rw[y8 (by simp only[bne,hp.1,hp.2]; decide),zcw]
   rw[z21 b.B (fun (s:Int) c=>if (c.H==r.D)=true then i64.wrap (s-c.P) else s)]
   ·have:=z8f b.B (fun c=>c.H==r.D) (·.P) (s+(r.L-r.P))
    simp only[outM,this,y3p]
    unfold rel
    congr 3
    omega
   ·intro j s hj
    simp only[S_qo_b1,Scr.den,hr]
    split <;> rfl
theorem z6v {a b:Y8} (ha:good a=true) (hb:good b=true):F_q11 a b=some (lexC (parts a) (parts b)):=by
 have h1:=(z2u ha).2
 have h2:=(z2u hb).2
 simp only[F_q11,S_q11,Scr.den,z8k ha,z8k hb,obind,zi]
 rw[y8 (by simp only[yj,y1a]; omega)]
 generalize parts a=x at h1
 generalize parts b=y at h2
 generalize hF:(fun s=>(S_q11_b1 x y s).den)=F
 have key:∀ (k i:Nat),i+k=x.length->i<=y.length->outM (iterM F (i:Int)) (fun _=>if decide ((x.length:Int)<(y.length:Int))=true then some (-1) else if decide ((x.length:Int)>(y.length:Int))=true then some 1 else some 0) (fun r=>some (id r))=some (lexC (x.drop i) (y.drop i)):=by
  intro k
  induction k with
  | zero =>
   intro i hk hy
   rw[z1s,<- y44 hF]
   simp only[S_q11_b1,Scr.den,zf]
   rw[y8 (by simp only[yg,ya]; omega),y1f om]
   simp only[outM]
   by_cases h:y.length<=i
   ·rw[y1f h,y8 sk,y8 sk]; rfl
   ·rw[y19 (by omega:i<y.length),y9 sk]; rfl
  | succ k ih =>
   intro i hk hy
   have hi:i<x.length:=om
   rw[z1s,<- y44 hF,y19 hi]
   simp only[S_q11_b1,Scr.den,zf]
   by_cases h:y.length<=i
   ·rw[y8 (by simp only[yg,ya]; omega),y1f h]
    simp only[outM]
    rw[y8 sk,y9 sk]; rfl
   ·have hj:i<y.length:=om
    have w1:i64.wrap ((i:Int)+1)=((i+1:Nat):Int):=by rw[wrapId om om]; omega
    rw[y9 (by simp only[yg,ya]; omega),Gc,y19 hj]
    simp only[yh,z95 hi,z95 hj,lexC]
    by_cases h1:x[i]<y[i]
    ·rw[y9 (y15 h1),y9 h1]; rfl
    ·rw[y8 (by simpa using h1),y8 h1]
     by_cases h2:x[i]>y[i]
     ·rw[y9 (y15 h2),y9 h2]; rfl
     ·rw[y8 (by simpa using h2),y8 h2,w1]
      exact ih (i+1) om om
 have:=key x.length 0 om om
 simpa using this
def RtOk (r:TRi):Prop:=good r.J=true/\(0<=r.K/\r.K<=99)/\(0<=r.R/\r.R<=1000000000000000)/\(0<=r.W/\r.W<=1000000000000000)/\(0<=r.T/\r.T<=r.R)
instance (r:TRi):Decidable (RtOk r):=inferInstanceAs (Decidable (_/\_))
theorem z6d (n a b:Int):F_q2a n a b=some (decide (a<=n/\n<=b)):=by
 simp only[F_q2a,S_q2a,Scr.den,zf,y2k,Bool.decide_and]
theorem zb9 (n:Int):F_q2t n=some (decide (0<=n/\n<=1000000000000000)):=by
 simp only[F_q2t,S_q2t,Scr.den,z6d,obind]
variable {r:TRi}
theorem zba (h:r.J.length<=1000000):F_q39 r=some (decide (RtOk r)):=by
 open Classical in simp only[F_q39,S_q39,F_q3w,S_q3w,Scr.den,z5o (show r.J.length<=1099511627776 from om),z6d,zb9,z16,obind,zf,z38]
 refine y29 some ?_
 have e:decide (((parts r.J).length:Int)>0)=good r.J:=by rw[<- z5a]; rw[y1p]; simp
 rw[e,y1p]
 simp only[RtOk,yg,ya,and_assoc]
theorem z5s (h:r.J.length<=1000000):F_q2f r=some (decide (RtOk r)):=by
 open Classical in simp only[F_q2f,S_q2f,F_q1r,S_q1r,Scr.den,z3r (show r.J.length<4611686018427387904 from om),z16,obind,zf,z38]
 refine y29 some ?_
 rw[y1p]
 simp only[RtOk,yg,ya,and_assoc,y2k]
theorem zaj [Inhabited α] (l:List α) (p:α->Bool) (v:Nat->ρ) (hs:∀ i,i<l.length->body i ()=some (if p (l.getD i dF)=true then .ret (v i) else .cont ())) :
  rangeM body l.length 0 ()=some (if l.any p=true then .ret (v (l.findIdx p)) else .next ()):=by
 have key:∀ (k i:Nat),i+k=l.length->rangeM body k i ()=some (if (l.drop i).any p=true then .ret (v (i+(l.drop i).findIdx p)) else .next ()):=by
  intro k
  induction k with
  | zero=>intro i hk; rw[y1f om]; rfl
  | succ k ih =>
   intro i hk
   have hi:i<l.length:=om
   have e:l.getD i dF=l[i]:=by simp[List.getD_eq_getElem?_getD,List.getElem?_eq_getElem hi]
   rw[y19 hi]
   simp only[rangeM,hs i hi,e,y47,List.findIdx_cons]
   cases hp:p l[i] with
   | true=>simp
   | false =>
    simp only[y1j,y32,y48,cond_false]
    rw[ih (i+1) om,show i+1+(l.drop (i+1)).findIdx p=i+((l.drop (i+1)).findIdx p+1) from om]
 have:=key l.length 0 om
 simpa using this
def isR (c:Y8) (y:Int) (r:TRi):Bool:=r.J==c&&r.K==y
theorem zhk {c:Y8}:isR c y r=true↔r.J=c/\r.K=y:=by simp[isR]
def hasR (l:List TRi) (c:Y8) (y:Int):Bool:=l.any (isR c y)
def rix (l:List TRi) (c:Y8) (y:Int):Nat:=l.findIdx (isR c y)
def rightV (l:List TRi) (c:Y8) (y:Int):TRi:=if hasR l c y=true then l.getD (rix l c y) dF else ⟨c,y,0,0,0⟩
def unusedV (o:TOf) (c:Y8) (y:Int):Int:=i64.wrap (i64.wrap ((rightV o.F c y).R-(rightV o.F c y).T)-usedV o.M c y)
variable {l:List TRi}
theorem z51 {c:Y8} (h:hasR l c y=true):rix l c y<l.length/\(l.getD (rix l c y) dF).J=c/\(l.getD (rix l c y) dF).K=y:=by
 have hlt:rix l c y<l.length:=by
  unfold rix
  rw[List.findIdx_lt_length]
  simpa [hasR] using h
 refine⟨hlt,?_⟩
 have:=y4x (xs:=l) (p:=isR c y) (w:=hlt)
 rw[zhk] at this
 rw[show l.getD (rix l c y) dF=l[rix l c y] by simp[List.getD_eq_getElem?_getD,List.getElem?_eq_getElem hlt]]
 exact this
theorem zhl (o:TOf) (c:Y8) (y:Int):F_q2u o c y=some (if hasR o.F c y=true then (rix o.F c y:Int) else -1):=by
 simp only[F_q2u,S_q2u,F_q1x,S_q1x,Scr.den]
 rw[zaj o.F (isR c y) (fun i=>(i:Int))]
 ·unfold hasR
  by_cases h:o.F.any (isR c y)=true
  ·rw[y9 h,y9 h]; rfl
  ·rw[y8 h,y8 h]; rfl
 ·intro i hi
  simp only[S_q1x_b1,F_q3y,S_q3y,Scr.den,obind,zf]
  unfold isR
  split <;> rfl
theorem zdy (o:TOf) (c:Y8) (y:Int):F_q10 o c y=some (if hasR o.F c y=true then (rix o.F c y:Int) else -1):=by
 simp only[F_q10,S_q10,Scr.den]
 rw[zaj o.F (isR c y) (fun i=>(i:Int))]
 ·unfold hasR
  by_cases h:o.F.any (isR c y)=true
  ·rw[y9 h,y9 h]; rfl
  ·rw[y8 h,y8 h]; rfl
 ·intro i hi
  simp only[S_q10_b1,Scr.den,zf]
  unfold isR
  split <;> rfl
theorem zpw (o:TOf) (c:Y8) (y:Int):F_q3e o c y=some (hasR o.F c y):=by
 simp only[F_q3e,S_q3e,Scr.den,zhl,obind]
 cases h:hasR o.F c y
 ·simp
 ·simp
theorem zmy (o:TOf) (c:Y8) (y:Int):F_q3f o c y=some (rightV o.F c y):=by
 simp only[F_q3f,S_q3f,Scr.den,zhl,obind,rightV]
 by_cases h:hasR o.F c y=true
 ·have:=(z51 h).1
  simp only[y9 h,yh]
  rw[y9 sj,Gb]
 ·simp only[y8 h]
  rw[y8 dk]
theorem z8n (o:TOf) (c:Y8) (y:Int):F_q2w o c y=some (rightV o.F c y):=by
 simp only[F_q2w,S_q2w,Scr.den,zdy,obind,rightV]
 by_cases h:hasR o.F c y=true
 ·have:=(z51 h).1
  simp only[y9 h,yh]
  rw[y9 sj,Gb]
 ·simp only[y8 h]
  rw[y8 dk]
theorem zl1 (o:TOf) (c:Y8) (y:Int):F_q3g o c y=some (unusedV o c y):=by
 simp only[F_q3g,S_q3g,Scr.den,zmy,zok,obind,unusedV]
theorem z7w (o:TOf) (c:Y8) (y:Int):F_q2x o c y=some (unusedV o c y):=by
 simp only[F_q2x,S_q2x,Scr.den,z8n,z9v,obind,unusedV]
def SmO (o:TOf):Prop:=Small o.M/\o.F.length<=1000000/\∀ r∈o.F,r.J.length<=1000000
def Srt (l:List TRi):Prop:=∀ i,i<l.length->i=0\/cmpR (l.getD (i-1) dF) (l.getD i dF)<0
def VO (o:TOf):Prop:=(1<=o.D/\o.D<=6)/\o.F.length<=60/\Val o.M/\(∀ r∈o.F,RtOk r)/\Srt o.F/\∀ x∈o.M.A,hasR o.F x.J x.K=true/\0<=unusedV o x.J x.K
theorem z96 {b:TRi} (h:good a.J=true\/good b.J=true):cmpR a b<0↔lexC (parts a.J) (parts b.J)<0\/(lexC (parts a.J) (parts b.J)=0/\a.K<b.K):=by
 unfold cmpR
 rw[z6c h]
 generalize lexC (parts a.J) (parts b.J)=c
 by_cases hc:c=0
 ·rw[y8 (by simpa using hc)]
  unfold cmpI
  by_cases h1:a.K<b.K
  ·rw[y9 h1]; simp[hc,h1]
  ·rw[y8 h1]
   split <;> simp[hc,h1]
 ·rw[y9 hc]; simp[hc]
theorem z97 {b:TRi} (ha:good a.J=true) (hb:good b.J=true):cmpR a b=0↔a.J=b.J/\a.K=b.K:=by
 unfold cmpR
 rw[z6c (.inl ha)]
 by_cases hc:lexC (parts a.J) (parts b.J)=0
 ·rw[y8 (by simpa using hc)]
  have e:=zd2 ha hb (z5f hc)
  unfold cmpI
  by_cases h1:a.K<b.K
  ·rw[y9 h1]; simp; omega
  ·rw[y8 h1]
   by_cases h2:a.K>b.K
   ·rw[y9 h2]; simp; omega
   ·rw[y8 h2]; simp[e]; omega
 ·rw[y9 hc]
  constructor
  ·intro h; exact absurd h hc
  ·rintro⟨h1,_⟩
   exact absurd (by rw[h1]; exact zd0 _) hc
theorem zj1 {b c:TRi} (ha:good a.J=true) (hb:good b.J=true) (h:cmpR a b<0) (h':cmpR b c<0):cmpR a c<0:=by
 rw[z96 (.inl ha)] at h |-
 rw[z96 (.inl hb)] at h'
 rcases h with h | ⟨h,h2⟩
 ·rcases h' with h' | ⟨h',_⟩
  ·exact .inl (zb7 h h')
  ·rw[<- z5f h']; exact .inl h
 ·rcases h' with h' | ⟨h',h3⟩
  ·rw[z5f h]; exact .inl h'
  ·rw[z5f h]; exact .inr ⟨h',om⟩
theorem zd3 {b:TRi} (ha:good a.J=true):cmpR b a=-cmpR a b:=by
 unfold cmpR
 rw[z6c (.inl ha),z6c (.inr ha),zd1 (parts a.J) (parts b.J)]
 by_cases h:lexC (parts a.J) (parts b.J)=0
 ·rw[y8 om,y8 om]
  unfold cmpI
  by_cases h1:a.K<b.K
  ·rw[y8 om,y9 om,y9 h1]; rfl
  ·by_cases h2:b.K<a.K
   ·rw[y9 h2,y8 h1,y9 om]
   ·rw[y8 h2,y8 om,y8 h1,y8 om]; rfl
 ·rw[y9 om,y9 h]
theorem Srt.lt (h:Srt l) (hg:∀ r∈l,RtOk r):∀ {i j:Nat},i<j->j<l.length->cmpR (l.getD i dF) (l.getD j dF)<0:=by
 intro i j hij
 induction j with
 | zero=>omega
 | succ j ih =>
  intro hj
  have h1:=(h (j+1) hj).resolve_left om
  rw[show j+1-1=j from om] at h1
  by_cases e:i=j
  ·subst e; exact h1
  ·exact zj1 (hg _ (zk om)).1 (hg _ (zk om)).1 (ih om om) h1
theorem zgo {n:Nat} {c:ρ} (p:Nat->Prop) (hy:∀ i,i<n->(∀ j,j<i->p j)->p i->body i ()=some (.cont ())) (hn:∀ i,i<n->(∀ j,j<i->p j)->¬ p i->body i ()=some (.ret c)) :
  ((∀ j,j<n->p j)->rangeM body n 0 ()=some (.next ()))/\((¬ ∀ j,j<n->p j)->rangeM body n 0 ()=some (.ret c)):=by
 have key:∀ (k i:Nat),i+k=n->(∀ j,j<i->p j)->((∀ j,j<n->p j)->rangeM body k i ()=some (.next ()))/\((¬ ∀ j,j<n->p j)->rangeM body k i ()=some (.ret c)):=by
  intro k
  induction k with
  | zero =>
   intro i hk hp
   exact⟨fun _=>rfl,fun h=>absurd (fun j hj=>hp j om) h⟩
  | succ k ih =>
   intro i hk hp
   by_cases hpi:p i
   ·have hp':∀ j,j<i+1->p j:=fun j hj=>by
     rcases yp j i with h | h
     ·exact hp j h
     ·obtain rfl:j=i:=om
      exact hpi
    have:=ih (i+1) om hp'
    simp only[rangeM,hy i om hp hpi]
    exact this
   ·simp only[rangeM,hn i om hp hpi]
    exact⟨fun h=>absurd (h i om) hpi,fun _=>trivial⟩
 exact key n 0 om (fun j hj=>om)
theorem zff (i:Nat) (hi:i<9223372036854775808):(i64.wrap ((i:Int)-1)).toNat=i-1:=by rw[wrapId om om]; omega
variable {o:TOf}
theorem z6e (hs:SmO o) (hi:i<o.F.length) :
  (S_qf_b1 o i ()).den=if RtOk (o.F.getD i dF)/\(i=0\/cmpR (o.F.getD (i-1) dF) (o.F.getD i dF)<0) then some (.cont ()) else some (.ret false):=by
 have h1:=hs.2.2 _ (zk hi)
 have h2:=hs.2.2 _ (zk (l:=o.F) (i:=i-1) om)
 have hl:=hs.2.1
 simp only[S_qf_b1,Scr.den,zff i (show i<9223372036854775808 from om)]
 generalize o.F.getD i dF=r at h1 |-
 generalize o.F.getD (i-1) dF=r' at h2 |-
 simp only[zba h1,zah h2 h1,obind,zf,zi]
 by_cases hR:RtOk r
 ·by_cases h0:i=0
  ·subst h0
   rw[Gh,obind,z8 ⟨fun h=>by simp[AllP] at h,fun h=>by simp[AllP] at h,trivial⟩,y8 (by simp[hR]),y9 ⟨hR,.inl rfl⟩]
  ·rw[z17 (by exact⟨sk,by simp[hR],trivial⟩),obind,z8 ⟨fun _=>by rw[wrapId om om]; omega,fun _=>om,trivial⟩]
   by_cases hc:cmpR r' r<0
   ·rw[y8 (by intro h; simp[hR] at h; exact absurd hc (y45.2 h.2)),y9 ⟨hR,.inr hc⟩]
   ·rw[y9 (by simp[hR]; exact⟨om,y45.1 hc⟩),y8 (fun h=>h.2.elim h0 hc)]
 ·rw[zx (by simp[AllP,hR]),obind,z8 ⟨fun h=>by simp[AllP,hR] at h,fun h=>by simp[AllP,hR] at h,trivial⟩,y9 (by simp[hR]),y8 (fun h=>hR h.1)]
theorem z6f (o:TOf) (i:Nat) :
  (S_qf_b2 o i ()).den=if hasR o.F (o.M.A.getD i dF).J (o.M.A.getD i dF).K=true/\0<=unusedV o (o.M.A.getD i dF).J (o.M.A.getD i dF).K then some (.cont ()) else some (.ret false):=by
 simp only[S_qf_b2,Scr.den,zpw,zl1,obind,zi]
 generalize o.M.A.getD i dF=r
 by_cases hh:hasR o.F r.J r.K=true
 ·rw[z17 (by exact⟨by simp[hh],trivial⟩),obind]
  by_cases hu:0<=unusedV o r.J r.K
  ·rw[y8 (by intro h; simp[hh] at h; exact absurd hu (Int.not_le.2 h)),y9 ⟨hh,hu⟩]
  ·rw[y9 (by simp[hh]; exact Int.not_le.1 hu),y8 (fun h=>hu h.2)]
 ·rw[zx (by simp[AllP,hh]),obind,y9 (by simp[hh]),y8 (fun h=>hh h.1)]
theorem z3j [Inhabited α] {l:List α} {p:α->Prop} (h:∀ i,i<l.length->p (l.getD i dF)):∀ x∈l,p x:=fun x hx=>by
 obtain⟨i,hi,rfl⟩:=y3f hx
 have:=h i hi
 rwa [show l.getD i dF=l[i] by simp[List.getD_eq_getElem?_getD,List.getElem?_eq_getElem hi]] at this
open Classical in
theorem z4q (hs:SmO o):F_qf o=some (decide (VO o)):=by
 simp only[F_qf,S_qf,Scr.den,zmr hs.1,z16,obind,zi,z2r]
 by_cases h0:(1<=o.D/\o.D<=6)/\o.F.length<=60/\Val o.M
 ·obtain⟨⟨a1,a2⟩,a3,a4⟩:=h0
  rw[y8 (by simp[a4]; omega)]
  by_cases h1:∀ j,j<o.F.length->RtOk (o.F.getD j dF)/\(j=0\/cmpR (o.F.getD (j-1) dF) (o.F.getD j dF)<0)
  ·rw[(zt _ (fun i hi h=>by rw[z6e hs hi,y9 h]) (fun i hi h=>by rw[z6e hs hi,y8 h])).1 h1]
   simp only[outM]
   by_cases h2:∀ j,j<o.M.A.length->hasR o.F (o.M.A.getD j dF).J (o.M.A.getD j dF).K=true/\0<=unusedV o (o.M.A.getD j dF).J (o.M.A.getD j dF).K
   ·rw[(zt _ (fun i hi h=>by rw[z6f o i,y9 h]) (fun i hi h=>by rw[z6f o i,y8 h])).1 h2]
    simp only
    rw[y15 ⟨⟨a1,a2⟩,a3,a4,z3j fun i hi=>(h1 i hi).1,fun i hi=>(h1 i hi).2,z3j h2⟩]
   ·rw[(zt _ (fun i hi h=>by rw[z6f o i,y9 h]) (fun i hi h=>by rw[z6f o i,y8 h])).2 h2]
    simp only
    rw[y10 (fun h=>h2 fun j hj=>h.2.2.2.2.2 _ (zk hj))]; rfl
  ·rw[(zt _ (fun i hi h=>by rw[z6e hs hi,y9 h]) (fun i hi h=>by rw[z6e hs hi,y8 h])).2 h1]
   simp only[outM]
   rw[y10 (fun h=>h1 fun j hj=>⟨h.2.2.2.1 _ (zk hj),h.2.2.2.2.1 j hj⟩)]; rfl
 ·rw[y9,y10 (fun h=>h0 ⟨h.1,h.2.1,h.2.2.1⟩)]
  simp only[yj,ya,yv,yo]
  by_cases hv:Val o.M
  ·left
   have:¬ ((1<=o.D/\o.D<=6)/\o.F.length<=60):=fun h=>h0 ⟨h.1,h.2,hv⟩
   omega
  ·exact .inr hv
theorem zl2 {c:Y8} (h:∀ x∈b.A,¬ (x.J=c/\x.K=y)):usedV b c y=0:=by
 unfold usedV
 rw[zhj fun x hx=>by
  have:=h x hx
  simp only[y3y,y2u,ne_eq]
  by_cases h1:x.J=c
  ·exact .inr fun h2=>this ⟨h1,h2⟩
  ·exact .inl h1]
 exact wrapId om om
theorem z3k {c:Y8}:hasR l c y=true↔∃ r∈l,r.J=c/\r.K=y:=by
 simp only[hasR,y39,zhk]
theorem z2n {c:Y8} (h:hasR l c y=true):rightV l c y∈l/\(rightV l c y).J=c/\(rightV l c y).K=y:=by
 unfold rightV
 rw[y9 h]
 obtain⟨h1,h2,h3⟩:=z51 h
 exact⟨zk h1,h2,h3⟩
theorem zl3 (hR:∀ r∈o.F,RtOk r):(∀ x∈o.M.A,hasR o.F x.J x.K=true/\0<=unusedV o x.J x.K) ↔
  (∀ r∈o.F,0<=unusedV o r.J r.K)/\∀ x∈o.M.A,hasR o.F x.J x.K=true:=by
 constructor
 ·intro h
  refine⟨fun r hr=>?_,fun x hx=>(h x hx).1⟩
  by_cases hx:∃ x∈o.M.A,x.J=r.J/\x.K=r.K
  ·obtain⟨x,hx,e1,e2⟩:=hx
   rw[<- e1,<- e2]; exact (h x hx).2
  ·unfold unusedV
   rw[zl2 fun x hx' e=>hx ⟨x,hx',e⟩]
   obtain⟨h1,h2,h3⟩:=z2n (z3k.2 ⟨r,hr,rfl,rfl⟩:hasR o.F r.J r.K=true)
   have h4:=hR _ h1
   unfold RtOk at h4
   rw[wrapId (n:=(rightV o.F r.J r.K).R-(rightV o.F r.J r.K).T) om om,wrapId om om]
   omega
 ·rintro⟨h1,h2⟩ x hx
  refine⟨h2 x hx,?_⟩
  obtain⟨k1,k2,k3⟩:=z2n (h2 x hx)
  have:=h1 _ k1
  rwa [k2,k3] at this
variable {y':Int}
theorem ltr (h:c<0\/(c=0/\y<y')):¬ (c>0\/c=0/\y>=y'):=om
theorem ltr' (h:¬ (c<0\/(c=0/\y<y'))):c>0\/c=0/\y>=y':=om
theorem zhm (hs:SmO o) (hi:i<o.F.length) (hp:∀ j,j<i->RtOk (o.F.getD j dF)) :
  (S_qd_b1 o i ()).den=if RtOk (o.F.getD i dF)/\0<=unusedV o (o.F.getD i dF).J (o.F.getD i dF).K/\(i=0\/cmpR (o.F.getD (i-1) dF) (o.F.getD i dF)<0) then some (.cont ()) else some (.ret false):=by
 have h1:=hs.2.2 _ (zk hi)
 have hl:=hs.2.1
 have hq:i≠0->RtOk (o.F.getD (i-1) dF):=fun h=>hp _ om
 have hw:i≠0->i64.wrap ((i:Int)-1)=(i:Int)-1:=fun _=>wrapId om om
 simp only[S_qd_b1,Scr.den,zff i (show i<9223372036854775808 from om)]
 generalize o.F.getD i dF=r at h1 |-
 generalize o.F.getD (i-1) dF=r' at hq |-
 simp only[z5s h1,z7w,obind,zi,zf]
 by_cases hR:RtOk r
 ·rw[z17 (by exact⟨by simp[hR],trivial⟩),obind]
  by_cases hu:0<=unusedV o r.J r.K
  ·rw[y8 (by simp[hR]; exact hu)]
   by_cases h0:i=0
   ·subst h0
    rw[y8 sj,y9 ⟨hR,hu,.inl rfl⟩]
   ·rw[y9 sk,z6v (hq h0).1 hR.1,obind,hw h0,Gb,z8 ⟨fun _=>om,fun _=>om,trivial⟩]
    have hc:=z96 (a:=r') (b:=r) (.inr hR.1)
    by_cases hc':cmpR r' r<0
    ·rw[y8 (by
      have:=hc.1 hc'
      simp only[yj,yg,ya,y1a]
      exact ltr this),y9 ⟨hR,hu,.inr hc'⟩]
    ·rw[y9 (by
      simp only[yj,yg,ya,y1a]
      exact ltr' fun h=>hc' (hc.2 h)),y8 (fun h=>h.2.2.elim h0 hc')]
  ·rw[y9 (by simp[hR]; exact Int.not_le.1 hu),y8 (fun h=>hu h.2.1)]
 ·rw[zx (by simp[AllP,hR]),obind,y9 (by simp[hR]),y8 (fun h=>hR h.1)]
theorem z98 (o:TOf) (i:Nat) :
  (S_qd_b2 o i ()).den=if hasR o.F (o.M.A.getD i dF).J (o.M.A.getD i dF).K=true then some (.cont ()) else some (.ret false):=by
 simp only[S_qd_b2,Scr.den,zdy,obind]
 generalize o.M.A.getD i dF=r
 by_cases hh:hasR o.F r.J r.K=true
 ·rw[y9 hh,y9 hh,y8 sj]
 ·rw[y8 hh,y8 hh,y9 dk]
open Classical in
theorem z5t (hs:SmO o):F_qd o=some (decide (VO o)):=by
 simp only[F_qd,S_qd,Scr.den,z24 hs.1,z16,obind,zi,z2r]
 by_cases h0:(1<=o.D/\o.D<=6)/\o.F.length<=60/\Val o.M
 ·obtain⟨⟨a1,a2⟩,a3,a4⟩:=h0
  rw[y8 (by simp[a4]; omega)]
  obtain⟨r1,r2⟩:=zgo (body:=fun i s=>(S_qd_b1 o i s).den) (n:=o.F.length) (c:=false) (fun j=>RtOk (o.F.getD j dF)/\0<=unusedV o (o.F.getD j dF).J (o.F.getD j dF).K/\(j=0\/cmpR (o.F.getD (j-1) dF) (o.F.getD j dF)<0))
   (fun i hi hp h=>by rw[zhm hs hi (fun j hj=>(hp j hj).1),y9 h]) (fun i hi hp h=>by rw[zhm hs hi (fun j hj=>(hp j hj).1),y8 h])
  by_cases h1:∀ j,j<o.F.length->RtOk (o.F.getD j dF)/\0<=unusedV o (o.F.getD j dF).J (o.F.getD j dF).K/\(j=0\/cmpR (o.F.getD (j-1) dF) (o.F.getD j dF)<0)
  ·rw[r1 h1]
   simp only[outM]
   have hR:∀ r∈o.F,RtOk r:=z3j fun i hi=>(h1 i hi).1
   by_cases h2:∀ j,j<o.M.A.length->hasR o.F (o.M.A.getD j dF).J (o.M.A.getD j dF).K=true
   ·rw[(zt _ (fun i hi h=>by rw[z98 o i,y9 h]) (fun i hi h=>by rw[z98 o i,y8 h])).1 h2]
    simp only
    rw[y15 ⟨⟨a1,a2⟩,a3,a4,hR,fun i hi=>(h1 i hi).2.2,(zl3 hR).2 ⟨z3j fun i hi=>(h1 i hi).2.1,z3j h2⟩⟩]
   ·rw[(zt _ (fun i hi h=>by rw[z98 o i,y9 h]) (fun i hi h=>by rw[z98 o i,y8 h])).2 h2]
    simp only
    rw[y10 (fun h=>h2 fun j hj=>(h.2.2.2.2.2 _ (zk hj)).1)]; rfl
  ·rw[r2 h1]
   simp only[outM]
   rw[y10 (fun h=>h1 fun j hj=>⟨h.2.2.2.1 _ (zk hj),((zl3 h.2.2.2.1).1 h.2.2.2.2.2).1 _ (zk hj),h.2.2.2.2.1 j hj⟩)]; rfl
 ·rw[y9,y10 (fun h=>h0 ⟨h.1,h.2.1,h.2.2.1⟩)]
  simp only[yj,ya,yv,yo]
  by_cases hv:Val o.M
  ·left
   have:¬ ((1<=o.D/\o.D<=6)/\o.F.length<=60):=fun h=>h0 ⟨h.1,h.2,hv⟩
   omega
  ·exact .inr hv
def noR:TRi:=⟨[],0,0,0,0⟩
def tot (n:Int):Prop:=0<=n/\n<=1000000000000000
instance (n:Int):Decidable (tot n):=inferInstanceAs (Decidable (_/\_))
def learnS (r:TRi) (m:TMe):TRi×Int :=
 if ¬ (RtOk r/\m.Ab=0/\m.J=r.J/\m.K=r.K) then (noR,1) else
 if ¬ (tot m.R/\tot m.W) then (noR,2) else
 (⟨r.J,r.K,if m.R>r.R then m.R else r.R,if m.W>r.W then m.W else r.W,r.T⟩,0)
def returnS (r:TRi) (u n:Int):TRi×Int :=
 if ¬ (RtOk r/\(0<=u/\u<=i64.wrap (r.R-r.T))) then (noR,1) else
 if ¬ (1<=n/\n<=1000000000000000) then (noR,2) else
 if n>i64.wrap (i64.wrap (r.R-r.T)-u) then (noR,15) else
 (⟨r.J,r.K,r.R,r.W,i64.wrap (r.T+n)⟩,0)
theorem zfg (n:Int):F_q1r n=some (decide (tot n)):=by
 simp only[F_q1r,S_q1r,Scr.den,zf,y2k]
 refine y29 some ?_
 rw[y1p,ya]; simp[tot]
theorem zfh (h:r.J.length<=1000000) (m:TMe):F_q2g r m=some (learnS r m):=by
 open Classical in simp only[F_q2g,S_q2g,Scr.den,z5s h,zfg,z16,obind,zi,z2r]
 unfold learnS
 refine st (by by_cases hR:RtOk r <;> by_cases h2:m.Ab=0 <;> by_cases h3:m.J=r.J <;> by_cases h4:m.K=r.K <;> simp[hR,h2,h3,h4]) (fun _=>rfl) fun _=>?_
 refine st (by by_cases h2:tot m.R <;> by_cases h3:tot m.W <;> simp[h2,h3]) (fun _=>rfl) fun _=>rfl
theorem zdq (h:r.J.length<=1000000) (u n:Int):F_q3r r u n=some (returnS r u n):=by
 open Classical in simp only[F_q3r,S_q3r,Scr.den,z5s h,obind,zi]
 unfold returnS
 refine st (by
   simp only[yj,yv,yo,ya,gt_iff_lt]
   constructor
   ·rintro ((h | h) | h) <;> intro k
    ·exact h k.1
    ·omega
    ·omega
   ·intro h; by_cases hR:RtOk r
    ·by_cases hu:u<0
     ·exact .inl (.inr hu)
     ·exact .inr (by have:¬ (0<=u/\u<=_):=fun k=>h ⟨hR,k⟩; omega)
    ·exact .inl (.inl hR)) (fun _=>rfl) fun _=>?_
 refine st (by simp only[yj,ya]; omega) (fun _=>rfl) fun _=>?_
 refine st (by simp only[ya]) (fun _=>rfl) fun _=>rfl
def posR (l:List TRi) (r:TRi):Nat:=l.findIdx (fun x=>decide (0<=cmpR x r))
def putL (l:List TRi) (r:TRi):List TRi:=if hasR l r.J r.K=true then l.set (rix l r.J r.K) r else insL l (posR l r) r
theorem z26 [Inhabited α] {l:List α} (hi:i<l.length):l.getD i dF=l[i]:=by simp[List.getD_eq_getElem?_getD,List.getElem?_eq_getElem hi]
theorem z99 (l:List TRi) (r:TRi):posR l r<=l.length:=List.findIdx_le_length
theorem zhn (hi:i<posR l r):cmpR (l.getD i dF) r<0:=by
 have hl:i<l.length:=y11 hi (z99 l r)
 have:=List.not_of_lt_findIdx hi
 rw[z26 hl]
 simpa using this
theorem zho (hi:posR l r<l.length):0<=cmpR (l.getD (posR l r) dF) r:=by
 have:=y4x (xs:=l) (p:=fun x=>decide (0<=cmpR x r)) (w:=hi)
 rw[z26 hi]
 exact y2s this
theorem zoq (h:i+j<4611686018427387904):i64.wrap ((IntKind.u64.wrap (i64.wrap ((i:Int)+(j:Int)))).fdiv (2 ^ (min (1:Int).toNat IntKind.u64.bits)))=(((i+j) / 2:Nat):Int):=by
 rw[wrapId (n:=(i:Int)+(j:Int)) om om]
 have e:IntKind.u64.wrap ((i:Int)+(j:Int))=(i:Int)+(j:Int):=by
  simp only[IntKind.wrap,IntKind.bits,IntKind.signed]
  simp
  omega
 rw[e]
 have e2:(2:Int) ^ (min (1:Int).toNat IntKind.u64.bits)=2:=dk
 rw[e2,y49 _ om,wrapId om om]
 omega
theorem RtOk.len (h:RtOk r):r.J.length<=1000000:=by have:=z5p h.1; omega
theorem zfi (l:List TRi) (r:TRi):(putL l r).length<=l.length+1:=by
 unfold putL
 split
 ·rw[y13]; omega
 ·rw[z1c]; omega
def noO:TOf:=⟨0,[],nb⟩
def msgOf (p:TOp):TMe:=⟨0,0,p.J,p.K,p.R,p.Aa,0,0⟩
def hearS (o:TOf) (p:TOp):TOf×Int :=
 if ¬ good p.J=true then (noO,5) else
 if p.K<0\/p.K>99 then (noO,2) else
 if hasR o.F p.J p.K=false/\(o.F.length:Int)=60 then (noO,3) else
 if (learnS (rightV o.F p.J p.K) (msgOf p)).2≠0 then (noO,(learnS (rightV o.F p.J p.K) (msgOf p)).2) else
 (⟨o.D,putL o.F (learnS (rightV o.F p.J p.K) (msgOf p)).1,o.M⟩,0)
def giveS (o:TOf) (p:TOp):TOf×Int :=
 if ¬ hasR o.F p.J p.K=true then (noO,6) else
 if (returnS (rightV o.F p.J p.K) (usedV o.M p.J p.K) p.L).2≠0 then (noO,(returnS (rightV o.F p.J p.K) (usedV o.M p.J p.K) p.L).2) else
 (⟨o.D,putL o.F (returnS (rightV o.F p.J p.K) (usedV o.M p.J p.K) p.L).1,o.M⟩,0)
noncomputable def bookS (b:TBo) (p:TOp):TBo×Int :=
 if p.Y=1 then reserveS b p.J p.K p.N p.L else
 if p.Y=2 then commitS b p.Of p.N p.L p.S p.X else
 if p.Y=3 then verifyS b p.Of p.N p.L else
 if p.Y=4 then orderS b p.Of p.N else
 if p.Y=5 then releaseS b p.Of p.L else
 if p.Y=6 then dropS b p.Of p.L else backS b p.Of
noncomputable def stepS (o:TOf) (p:TOp):TOf×Int :=
 if p.Y=8 then hearS o p else
 if p.Y=7 then giveS o p else
 if (bookS o.M p).2≠0 then (noO,(bookS o.M p).2) else
 if p.Y=1/\p.L>unusedV o p.J p.K then (noO,15) else
 (⟨o.D,o.F,(bookS o.M p).1⟩,0)
open Classical in
noncomputable def doS (o:TOf) (p:TOp):TOf×Int :=
 if ¬ VO o\/p.Y<1\/p.Y>9 then (noO,1) else stepS o p
theorem VO.srt (h:VO o):Srt o.F:=h.2.2.2.2.1
theorem VO.ok (h:VO o):∀ x∈o.F,RtOk x:=h.2.2.2.1
theorem VO.val (h:VO o):Val o.M:=h.2.2.1
theorem VO.len (h:VO o):o.F.length<=60:=h.2.1
theorem z43 (l:List TRi) (c:Y8) (y:Int):(rightV l c y).J=c/\(rightV l c y).K=y:=by
 by_cases h:hasR l c y=true
 ·exact (z2n h).2
 ·unfold rightV; rw[y8 h]; exact⟨rfl,rfl⟩
theorem zj2 (_hg:∀ x∈l,RtOk x) {c:Y8} (hc:c.length<=1000000) (y:Int):(rightV l c y).J.length<=1000000:=by
 rw[(z43 l c y).1]; exact hc
theorem zd4 {m:TMe} (h:(learnS r m).2=0):RtOk r/\tot m.R/\tot m.W/\(learnS r m).1=⟨r.J,r.K,if m.R>r.R then m.R else r.R,if m.W>r.W then m.W else r.W,r.T⟩/\RtOk (learnS r m).1:=by
 unfold learnS at h |-
 split at h
 ·cases h
 ·rename_i h1
  split at h
  ·cases h
  ·rename_i h2
   have h1:=nnm h1
   have h2:=nnm h2
   rw[y8 (fun k=>k h1),y8 (fun k=>k h2)]
   refine⟨h1.1,h2.1,h2.2,rfl,?_⟩
   have h3:=h1.1
   unfold RtOk tot at *
   refine⟨h3.1,h3.2.1,?_,?_,?_⟩
   ·simp only; split <;> omega
   ·simp only; split <;> omega
   ·simp only; split <;> omega
theorem zbb (h:(returnS r u n).2=0):RtOk r/\(0<=u/\u<=r.R-r.T)/\1<=n/\n<=r.R-r.T-u/\(returnS r u n).1=⟨r.J,r.K,r.R,r.W,r.T+n⟩/\RtOk (returnS r u n).1:=by
 unfold returnS at h |-
 split at h
 ·cases h
 ·rename_i h1
  split at h
  ·cases h
  ·rename_i h2
   split at h
   ·cases h
   ·rename_i h3
    have h1:=nnm h1
    have h2:=nnm h2
    have h4:=h1.1
    unfold RtOk at h4
    have w1:i64.wrap (r.R-r.T)=r.R-r.T:=wrapId om om
    rw[y8 (fun k=>k h1),y8 (fun k=>k h2),y8 h3]
    obtain⟨h5,h6,h7⟩:=h1
    rw[w1] at h7 h3
    rw[wrapId (n:=r.R-r.T-u) om om] at h3
    rw[wrapId (n:=r.T+n) om om]
    refine⟨h5,⟨h6,h7⟩,h2.1,om,rfl,h4.1,h4.2.1,h4.2.2.1,h4.2.2.2.1,?_⟩
    simp only; omega
theorem zmz (l:List TRi) (p:Nat) (hp:p<=l.length) (z r:TRi) :
  (copyL (l++[z]) (0+(p+1)) (min ((l++[z]).length-p) ((l++[z]).length-(p+1))) (fun i=>(l++[z]).getD ((0+p)+i) dF)).set (0+p) r=insL l p r:=by
 refine List.ext_getElem (by simp[copyL,insL]; omega) fun i h1 h2=>?_
 have hi:i<l.length+1:=by rw[z1c] at h2; exact h2
 rw[<- z26 h2,z4k hp,List.getElem_set]
 by_cases e:i<p
 ·rw[y8 om,y9 e]
  simp only[copyL,List.getElem_map,List.getElem_range]
  rw[y8 om,yb,yb,yk om]
 ·by_cases e2:i=p
  ·rw[y9 om,y8 e,y9 e2]
  ·rw[y8 om,y8 e,y8 e2]
   simp only[copyL,List.getElem_map,List.getElem_range,ye,y1g]
   rw[y9 om,show 0+p+(i-(0+(p+1)))=i-1 from om,yb,yb,yk om]
theorem zl4 (hv:VO o) {q:(TRi×Int)} (hr:RtOk q.1) (hn:hasR o.F q.1.J q.1.K=false) :
  iterM (fun s=>(S_q1e_b1 o q s).den) 0=some (.next (posR o.F q.1:Int)):=by
 have hl:=hv.len
 have hp:=z99 o.F q.1
 obtain⟨s,e,hJ⟩:=z15 (step:=fun s=>(S_q1e_b1 o q s).den) (fun s=>(61-s).toNat) (fun s=>0<=s/\s<=(posR o.F q.1:Int)) (fun s=>s=(posR o.F q.1:Int)) (fun s hI=>by
  obtain⟨i,rfl⟩:=Int.eq_ofNat_of_zero_le hI.1
  have hi:i<=posR o.F q.1:=om
  simp only[S_q1e_b1,Scr.den,yh,y14,zi,zf]
  by_cases h:i<o.F.length
  ·have hg:=hv.ok _ (zk h)
   rw[y9 sk,z6v hg.1 hr.1,obind,z8 ⟨om,h,h,trivial⟩,z8 ⟨fun _=>om,fun _=>h,fun _=>h,trivial⟩]
   have hc:=z96 (a:=o.F.getD i dF) (b:=q.1) (.inl hg.1)
   have hne:cmpR (o.F.getD i dF) q.1≠0:=fun h0=>by
    obtain⟨k1,k2⟩:=(z97 hg.1 hr.1).1 h0
    have:hasR o.F q.1.J q.1.K=true:=z3k.2 ⟨_,zk h,k1,k2⟩
    rw[hn] at this; cases this
   by_cases hip:i<posR o.F q.1
   ·left
    have hlt:=hc.1 (zhn hip)
    rw[y8 (by
     simp only[yj,yg,ya,y1a]
     exact fun k=>ltr hlt (k.imp id fun k=>⟨k.1,om⟩)),wrapId om om]
    exact⟨_,rfl,⟨om,om⟩,om⟩
   ·right
    have hge:0<=cmpR (o.F.getD i dF) q.1:=by
     have:i=posR o.F q.1:=om
     subst this; exact zho h
    rw[y9 (by
     have k1:¬ _:=fun k=>absurd (hc.2 k) om
     have k2:¬ (lexC (parts (o.F.getD i dF).J) (parts q.1.J)=0/\(o.F.getD i dF).K=q.1.K):=fun k=>hne ((z97 hg.1 hr.1).2 ⟨zd2 hg.1 hr.1 (z5f k.1),k.2⟩)
     simp only[yj,yg,ya,y1a]
     rcases ltr' k1 with k | ⟨k,k'⟩
     ·exact .inl k
     ·exact .inr ⟨k,by have:¬ _:=fun e=>k2 ⟨k,e⟩; omega⟩)]
    exact⟨_,rfl,om⟩
  ·right
   rw[y8 (by simpa using h)]
   exact⟨_,rfl,om⟩) _ 0 (y1o _) ⟨om,om⟩
 rw[e,hJ]
theorem zgp (hv:VO o) {p:TOp} (hc:p.J.length<=1000000):F_q1e o p=some (hearS o p):=by
 have hl:=hv.len
 have hr:=zj2 hv.ok hc p.K
 simp only[F_q1e,S_q1e,Scr.den,z3r (show p.J.length<4611686018427387904 from om),zdy,z8n,zfh hr,obind,zi,zf]
 unfold hearS
 refine st sj (fun _=>rfl) fun _=>?_
 refine st sj (fun _=>rfl) fun _=>?_
 refine st (by cases hh:hasR o.F p.J p.K <;> simp <;> (try exact fun h1=>absurd h1 (y45.2 (y3h _)))) (fun _=>rfl) fun _=>?_
 refine st (by simp only[y1t,ne_eq]; exact Iff.rfl) (fun _=>rfl) fun h=>?_
 have h:=nnm h
 have h1:=zd4 h
 rw[show (⟨0,0,p.J,p.K,p.R,p.Aa,0,0⟩:TMe)=msgOf p from rfl,Ga]
 have hcy:(learnS (rightV o.F p.J p.K) (msgOf p)).1.J=p.J/\(learnS (rightV o.F p.J p.K) (msgOf p)).1.K=p.K:=by rw[h1.2.2.2.1]; exact z43 _ _ _
 generalize hq:learnS (rightV o.F p.J p.K) (msgOf p)=q at h h1 hcy |-
 have hlen:=zfi o.F q.1
 have hp:=z99 o.F q.1
 unfold putL at hlen |-
 rw[hcy.1,hcy.2] at hlen |-
 by_cases hh:hasR o.F p.J p.K=true
 ·have h3:=(z51 hh).1
  rw[y9 hh] at hlen
  simp only[y9 hh]
  rw[y8 sj]
  simp only[outM,yh,y14]
  rw[z8 ⟨om,h3,h3,trivial⟩,z8 ⟨by rw[y13]; omega,trivial⟩]
 ·rw[y8 hh] at hlen
  simp only[y8 hh]
  have hn:hasR o.F q.1.J q.1.K=false:=by rw[hcy.1,hcy.2]; simpa using hh
  have hw:(i64.wrap ((posR o.F q.1:Int)+1)).toNat=posR o.F q.1+1:=by rw[wrapId om om]; omega
  have hw':i64.wrap ((posR o.F q.1:Int)+1)=(posR o.F q.1:Int)+1:=wrapId om om
  rw[y9 dk,zl4 hv h1.2.2.2.2 hn]
  simp only[outM,yh,hw]
  rw[Ga,z8 ⟨by rw[hw']; omega,by rw[ye,y1g]; omega,om,by rw[ye,y1g]; omega,trivial⟩]
  simp only[yh]
  rw[zmz o.F (posR o.F q.1) hp]
  rw[z1c] at hlen
  rw[z8 ⟨om,by rw[z48,ye,y1g]; omega,by rw[z48,ye,y1g]; omega,trivial⟩,z8 ⟨by rw[z1c]; omega,trivial⟩]
theorem zd5 (hs:SmO o) {p:TOp} (hc:p.J.length<=1000000):F_q2y o p=some (doS o p):=by
 simp only[F_q2y,S_q2y,Scr.den,z5t hs,zc1 hs.1 hc,zdo hs.1,zdp hs.1,zf7 hs.1,zc2 hs.1,zgi hs.1,zgk hs.1,z7w,z9v,zdy,obind,zf]
 by_cases hv:VO o
 ·rw[y8 (by simp[hv])]
  have hl:=hv.len
  have fin:∀ x:TBo×Int,outM (some (Out.next (x.1,x.2))) (fun (s:TBo×Int)=>if (s.2 != 0)=true then some (noO,s.2) else some ((⟨o.D,o.F,s.1⟩:TOf),(0:Int))) some=some (if x.2≠0 then (noO,x.2) else (⟨o.D,o.F,x.1⟩,0)):=fun x=>by
   simp only[outM]
   by_cases h:x.2=0 <;> simp[h]
  have hd:∀ {k:Int},p.Y=k->1<=k->k<=9->doS o p=stepS o p:=fun h h1 h2=>by
   unfold doS; rw[y8 (fun k=>k.elim (fun k=>k hv) fun k=>om)]
  by_cases c1:p.Y=1
  ·rw[y9 (by simpa using c1),hd c1 om om]
   unfold stepS bookS
   rw[y8 om,y8 om,y9 c1]
   generalize reserveS o.M p.J p.K p.N p.L=x
   by_cases hx:x.2=0
   ·rw[z17 (by exact⟨by simp[hx],trivial⟩),obind]
    by_cases hu:p.L>unusedV o p.J p.K
    ·rw[y9 (by simp[hx]; exact hu),y8 (by simp[hx]),y9 ⟨c1,hu⟩]
     exact fin (x.1,15)
    ·rw[y8 (by simp[hx]; exact y45.1 hu),y8 (by simp[hx]),y8 (fun k=>hu k.2)]
     rw[show (⟨o.D,o.F,x.1⟩,(0:Int))=if x.2≠0 then (noO,x.2) else (⟨o.D,o.F,x.1⟩,0) by rw[y8 (by simp[hx])]]
     exact fin x
   ·rw[zx (by simp[AllP,hx]),obind,y8 (by simp[hx]),y9 hx]
    rw[show (noO,x.2)=if x.2≠0 then (noO,x.2) else (⟨o.D,o.F,x.1⟩,0) by rw[y9 hx]]
    exact fin x
  rw[y8 (by simpa using c1)]
  have hb:∀ {k:Int} (x:TBo×Int),p.Y=k->2<=k->k<=9->k≠7->k≠8->bookS o.M p=x->outM (some (Out.next (x.1,x.2))) (fun (s:TBo×Int)=>if (s.2 != 0)=true then some (noO,s.2) else some ((⟨o.D,o.F,s.1⟩:TOf),(0:Int))) some=some (doS o p):=fun x hk h1 h2 h3 h4 e=>by
   have h5:stepS o p=if x.2≠0 then (noO,x.2) else (⟨o.D,o.F,x.1⟩,0):=by
    unfold stepS
    rw[y8 (show ¬ p.Y=8 from om),y8 (show ¬ p.Y=7 from om),e,y8 (fun k:p.Y=1/\_=>c1 k.1)]
   rw[hd hk om h2,fin,h5]
  by_cases c2:p.Y=2
  ·rw[y9 (by simpa using c2)]
   exact hb _ c2 om om om om (by unfold bookS; rw[y8 c1,y9 c2])
  rw[y8 (by simpa using c2)]
  by_cases c3:p.Y=3
  ·rw[y9 (by simpa using c3)]
   exact hb _ c3 om om om om (by unfold bookS; rw[y8 c1,y8 c2,y9 c3])
  rw[y8 (by simpa using c3)]
  by_cases c4:p.Y=4
  ·rw[y9 (by simpa using c4)]
   exact hb _ c4 om om om om (by unfold bookS; rw[y8 c1,y8 c2,y8 c3,y9 c4])
  rw[y8 (by simpa using c4)]
  by_cases c5:p.Y=5
  ·rw[y9 (by simpa using c5)]
   exact hb _ c5 om om om om (by unfold bookS; rw[y8 c1,y8 c2,y8 c3,y8 c4,y9 c5])
  rw[y8 (by simpa using c5)]
  by_cases c6:p.Y=6
  ·rw[y9 (by simpa using c6)]
   exact hb _ c6 om om om om (by unfold bookS; rw[y8 c1,y8 c2,y8 c3,y8 c4,y8 c5,y9 c6])
  rw[y8 (by simpa using c6)]
  by_cases c9:p.Y=9
  ·rw[y9 (by simpa using c9)]
   exact hb _ c9 om om om om (by unfold bookS; rw[y8 c1,y8 c2,y8 c3,y8 c4,y8 c5,y8 c6])
  rw[y8 (by simpa using c9)]
  by_cases c8:p.Y=8
  ·rw[y9 (by simpa using c8),zgp hv hc,hd c8 om om]
   unfold stepS
   rw[y9 c8]
   rfl
  rw[y8 (by simpa using c8)]
  by_cases c7:p.Y=7
  ·rw[y9 (by simpa using c7),hd c7 om om]
   unfold stepS giveS
   rw[y8 c8,y9 c7]
   by_cases hh:hasR o.F p.J p.K=true
   ·have h3:=(z51 hh).1
    have hg:=hv.ok _ (zk h3)
    have hrt:o.F.getD (rix o.F p.J p.K) dF=rightV o.F p.J p.K:=by unfold rightV; rw[y9 hh]
    simp only[y9 hh,yh,y14,zdq hg.len,obind]
    rw[y8 sj,z8 ⟨om,h3,trivial⟩,hrt,y8 (show ¬ ¬ hasR o.F p.J p.K=true from fun k=>k hh)]
    by_cases hx:(returnS (rightV o.F p.J p.K) (usedV o.M p.J p.K) p.L).2=0
    ·have h1:=zbb hx
     have hcy:(returnS (rightV o.F p.J p.K) (usedV o.M p.J p.K) p.L).1.J=p.J/\(returnS (rightV o.F p.J p.K) (usedV o.M p.J p.K) p.L).1.K=p.K:=by rw[h1.2.2.2.2.1]; exact z43 _ _ _
     rw[y8 (by simp[hx]),Ga,z8 ⟨h3,trivial⟩,z8 ⟨by rw[y13]; omega,trivial⟩,y8 (by simp[hx])]
     unfold putL
     rw[hcy.1,hcy.2,y9 hh]
     rfl
    ·rw[y9 (by simpa using hx),y9 hx]
     rfl
   ·simp only[y8 hh]
    rw[y9 dk,y9 hh]
    rfl
  rw[y8 (by simpa using c7)]
  have:doS o p=(noO,1):=by
   unfold doS
   split
   ·rfl
   ·rename_i h
    exact absurd om h
  rw[this]
  rfl
 ·rw[y9 (by simp[hv])]
  unfold doS
  rw[y9 (.inl hv)]
  rfl
end Go.Proofs.YtiohhffifhaboaaGreatDoor
