/- A part of the proof: plain laws of what the functions compute. No condition. -/
import Derived.Test.YtgbpiaddmclccaaGreatDoorG7
import Derived.Test.YtgbpiaddmclccaaGreatDoorT9
import Derived.Test.YtgbpiaddmclccaaGreatDoorT4
namespace Go.Proofs.YtgbpiaddmclccaaGreatDoor
open Go Go.TA
open Go.IntKind (i64)
def dayP (d:Int):Prop:=0<=d/\d<=35990
def amtP (n:Int):Prop:=1<=n/\n<=1000000000000
instance (d:Int):Decidable (dayP d):=inferInstanceAs (Decidable (_/\_))
instance (d:Int):Decidable (amtP d):=inferInstanceAs (Decidable (_/\_))
def yr (d:Int):Int:=if 0<=d/\d<=36000 then d / 360 else -1
variable {d:Int}
theorem zlq (h:0<=d/\d<=36000):i64.wrap (d.tdiv 360)=d / 360:=by
 rw[Int.tdiv_eq_ediv_of_nonneg h.1,wrapId om om]
theorem z2s (d:Int):F_q18 d=some (decide (dayP d)):=by
 simp only[F_q18,S_q18,Scr.den,za]
 exact y15 some (Bool.eq_iff_iff.mpr (by rw[decide_eq_true_iff (p:=dayP d)]; simp[dayP]))
theorem z23 (d:Int):F_q1t d=some (decide (amtP d)):=by
 simp only[F_q1t,S_q1t,Scr.den,za]
 exact y15 some (Bool.eq_iff_iff.mpr (by rw[decide_eq_true_iff (p:=amtP d)]; simp[amtP]))
theorem z26 (n a b:Int):F_qf n a b=some (decide (a<=n/\n<=b)):=by
 simp only[F_qf,S_qf,Scr.den,za,y41,Bool.decide_and]
theorem z6c (d:Int):F_q1c d=some (decide (dayP d)):=by
 simp only[F_q1c,S_q1c,Scr.den,z26,obind]
 rfl
theorem z34 (d:Int):F_q23 d=some (decide (amtP d)):=by
 simp only[F_q23,S_q23,Scr.den,z26,obind]
 rfl
theorem z2f (d:Int):F_q1s d=some (yr d):=by
 simp only[F_q1s,S_q1s,F_q7b,S_q7b,Scr.den,obind,za,yr]
 by_cases h:0<=d/\d<=36000
 ·rw[y5 (by simp[h]),y6 h,zlq h]
 ·rw[y6 (by simp only[yi,y3w,yf,y41]; omega),y5 h]
theorem z4r (d:Int):F_q22 d=some (yr d):=by
 simp only[F_q22,S_q22,F_q7l,S_q7l,Scr.den,obind,za,yr]
 by_cases h:0<=d/\d<=36000
 ·rw[y5 (by simp[h]),y6 h,zlq h]
 ·rw[y6 (by simp only[yi,y3w,yf,y41]; omega),y5 h]
def cmt (b:TBo) (n:Int):Int:=sm b.H (fun c=>c.Y==n) (·.V)
def rel (b:TBo) (n:Int):Int:=sm b.H (fun c=>c.Y==n) (·.Ad)
def ver (b:TBo) (n:Int):Int:=sm b.J (fun v=>v.Ac==n) (·.V)
def leftV (b:TBo) (r:TRe):Int:=i64.wrap (r.V-r.Ad-cmt b r.S)
def restV (b:TBo) (c:TCo):Int:=i64.wrap (c.V-c.Ad-ver b c.S)
def leftN (b:TBo) (n:Int):Int:=match b.C.find? (fun r=>r.S==n) with
 | some r=>leftV b r
 | none=>0
def usedV (b:TBo) (code:Y8) (y:Int):Int:=i64.wrap (sm b.C (fun r=>r.B==code&&r.D==y) (fun r=>r.V-r.Ad-rel b r.S))
theorem zb4 (b:TBo) (n:Int):F_q2p b n=some (i64.wrap (cmt b n),i64.wrap (rel b n)):=by
 simp only[F_q2p,S_q2p,Scr.den]
 rw[z1x b.H (fun (s:Int×Int) c=>if (c.Y==n)=true then (i64.wrap (s.1+c.V),i64.wrap (s.2+c.Ad)) else s)]
 ·simp only[outM]
  have key:∀ (l:List TCo) (x y:Int),l.foldl (fun (s:Int×Int) c=>if (c.Y==n)=true then (i64.wrap (s.1+c.V),i64.wrap (s.2+c.Ad)) else s) (i64.wrap x,i64.wrap y)=(i64.wrap (x+sm l (fun c=>c.Y==n) (·.V)),i64.wrap (y+sm l (fun c=>c.Y==n) (·.Ad))):=by
   intro l
   induction l with
   | nil=>intro x y; simp[sm]
   | cons c l ih =>
    intro x y
    rw[y2y,z19,z19]
    split
    ·simp only[z6b]; rw[ih]; simp only[y5q]
    ·rw[ih]; simp
  have e0:i64.wrap 0=0:=wrapId om om
  have:=key b.H 0 0
  rw[e0] at this
  rw[this]
  simp[cmt,rel]
 ·intro i s hi
  simp only[S_q2p_b1,Scr.den]
  split <;> rfl
theorem z89 (b:TBo) (r:TRe):F_q48 b r=some (leftV b r):=by
 simp only[F_q48,S_q48,Scr.den,zb4,obind]
 rw[z33,z4q]
 rfl
theorem zkl (b:TBo) (n:Int):F_q30 b n=some (i64.wrap (ver b n)):=by
 simp only[F_q30,S_q30,Scr.den]
 rw[z1x b.J (fun (s:Int) v=>if (v.Ac==n)=true then i64.wrap (s+v.V) else s)]
 ·have e0:i64.wrap 0=0:=wrapId om om
  have:=zb2 b.J (fun v=>v.Ac==n) (·.V) 0
  rw[e0] at this
  simp only[outM,this]
  simp[ver]
 ·intro i s hi
  simp only[S_q30_b1,Scr.den]
  split <;> rfl
theorem zfg (b:TBo) (c:TCo):F_q49 b c=some (restV b c):=by
 simp only[F_q49,S_q49,Scr.den,zkl,obind]
 rw[z33,z4q]
 rfl
theorem z8a (b:TBo) (c:TCo):F_q1v b c=some (restV b c):=by
 simp only[F_q1v,S_q1v,Scr.den]
 rw[z1x b.J (fun (s:Int) v=>if (v.Ac==c.S)=true then i64.wrap (s-v.V) else s)]
 ·have:=zb3 b.J (fun v=>v.Ac==c.S) (·.V) (c.V-c.Ad)
  simp only[outM,this]
  rfl
 ·intro i s hi
  simp only[S_q1v_b1,Scr.den]
  split <;> rfl
variable {α ρ:Type} {body:Nat->Unit->Option (Step Unit ρ)}
theorem ze5 [Inhabited α] (l:List α) (p:α->Bool) (v:α->ρ) (hs:∀ i,i<l.length->body i ()=some (if p (l.getD i dF)=true then .ret (v (l.getD i dF)) else .cont ())) :
  rangeM body l.length 0 ()=some (match l.find? p with | some x=>.ret (v x) | none=>.next ()):=by
 have key:∀ (k i:Nat),i+k=l.length->rangeM body k i ()=some (match (l.drop i).find? p with | some x=>.ret (v x) | none=>.next ()):=by
  intro k
  induction k with
  | zero=>intro i hk; rw[y1j om]; rfl
  | succ k ih =>
   intro i hk
   have hi:i<l.length:=om
   have e:l.getD i dF=l[i]:=by simp[List.getD_eq_getElem?_getD,List.getElem?_eq_getElem hi]
   rw[y1g hi]
   simp only[rangeM,hs i hi,List.find?_cons,e]
   cases hp:p l[i] with
   | true=>simp
   | false=>simp only[yo,yx]; exact ih (i+1) om
 have:=key l.length 0 om
 simpa using this
theorem ztq (b:TBo) (n:Int):F_q32 b n=some (leftN b n):=by
 simp only[F_q32,S_q32,Scr.den]
 rw[ze5 b.C (fun r=>r.S==n) (leftV b)]
 ·unfold leftN
  cases b.C.find? (fun r=>r.S==n) <;> rfl
 ·intro i hi
  simp only[S_q32_b1,Scr.den,z89,obind]
  split <;> rfl
theorem z8b (b:TBo) (n:Int):F_qy b n=some (leftN b n):=by
 simp only[F_qy,S_qy,Scr.den]
 rw[ze5 b.C (fun r=>r.S==n) (leftV b)]
 ·unfold leftN
  cases b.C.find? (fun r=>r.S==n) <;> rfl
 ·intro i hi
  simp only[S_qy_b2,Scr.den]
  split
  ·rename_i hn
   rw[z1x b.H (fun (s:Int) c=>if (c.Y==n)=true then i64.wrap (s-c.V) else s)]
   ·have:=zb3 b.H (fun c=>c.Y==n) (·.V) ((b.C.getD i dF).V-(b.C.getD i dF).Ad)
    simp only[outM,this]
    unfold leftV cmt
    rw[eq_of_beq hn]
   ·intro j s hj
    simp only[S_qy_b1,Scr.den]
    split <;> rfl
  ·rfl
theorem zbw (b:TBo) (code:Y8) (y:Int):F_q1k b code y=some (usedV b code y):=by
 simp only[F_q1k,S_q1k,Scr.den]
 rw[z1x b.C (fun (s:Int) r=>if (r.B==code&&r.D==y)=true then i64.wrap (s+(r.V-r.Ad-rel b r.S)) else s)]
 ·have e0:i64.wrap 0=0:=wrapId om om
  have:=zb2 b.C (fun r=>r.B==code&&r.D==y) (fun r=>r.V-r.Ad-rel b r.S) 0
  rw[e0] at this
  simp only[outM,this]
  simp[usedV]
 ·intro i s hi
  simp only[S_q1k_b1,Scr.den,zb4,obind,za]
  split
  ·rw[z33,z4q,zb0]
  ·rfl
def goodR:Y8->Nat->Nat->Bool
 | [],d,p=>decide (0<d)&&decide (p<=4)
 | c :: l,d,p=>if c.toNat=46 then (if d=0 then false else goodR l 0 (p+1)) else
  if c.toNat<48\/57<c.toNat\/(d=0/\c.toNat=48)\/d=2 then false else goodR l (d+1) p
def dig (c:UInt8):Prop:=48<=c.toNat/\c.toNat<=57
def preOk:Y8->Prop
 | []=>True
 | [a]=>dig a/\a.toNat≠48
 | [a,b]=>dig a/\a.toNat≠48/\dig b
 | _=>False
def cntOk (ws:List Y8) (p:Nat):Bool:=match nums ws with
 | none=>false
 | some ns=>decide (ns.length+p<=5)
theorem z7f (w:Y8) (ws:List Y8) (p:Nat):cntOk (w :: ws) p=match pv w with
  | none=>false
  | some _=>cntOk ws (p+1):=by
 unfold cntOk
 simp only[nums]
 cases pv w with
 | none=>rfl
 | some n =>
  cases nums ws with
  | none=>rfl
  | some ns =>
   simp only[y1r,yn]
   congr 1
   rw[eq_iff_iff]; omega
theorem zcm:∀ {w:Y8},preOk w->w≠[]->∃ n,pv w=some n
 | [a],h,_=>⟨_,by simp only[pv]; rw[y6 ⟨by have:=h.1.1; have:=h.2; omega,h.1.2⟩]⟩
 | [a,b],h,_=>⟨_,by simp only[pv]; rw[y6 ⟨⟨by have:=h.1.1; have:=h.2.1; omega,h.1.2⟩,h.2.2⟩]⟩
 | [],_,h=>absurd rfl h
 | _ :: _ :: _ :: _,h,_=>h.elim
variable {w:Y8}
theorem zmv {pre:Y8} {c:UInt8} (hc:¬ dig c):pv (pre++c :: w)=none:=by
 match pre,w with
 | [],[]=>simp only[y2l,pv]; rw[y5]; intro h; exact hc ⟨om,h.2⟩
 | [],[b]=>simp only[y2l,pv]; rw[y5]; intro h; exact hc ⟨om,h.1.2⟩
 | [],b :: d :: w=>rfl
 | [a],[]=>simp only[y3r,y2l,pv]; rw[y5]; intro h; exact hc h.2
 | [a],b :: w=>rfl
 | [a,b],w=>rfl
 | a :: b :: d :: pre,w=>rfl
theorem zj1 {c:UInt8} (hc:c.toNat=48):pv (c :: w)=none:=by
 match w with
 | []=>simp only[pv]; rw[y5]; omega
 | [b]=>simp only[pv]; rw[y5]; omega
 | b :: d :: w=>rfl
theorem zb5:∀ (l pre p0:Y8) (ps:List Y8) (p:Nat),preOk pre->pieces l=p0 :: ps->goodR l pre.length p=cntOk ((pre++p0) :: ps) p
 | [],pre,p0,ps,p,hp,he=>by
  cases he
  rw[y4c,z7f]
  simp only[goodR]
  match pre,hp with
  | [],_=>rfl
  | a :: pre,hp =>
   obtain⟨n,hn⟩:=zcm hp sj
   rw[hn]
   simp[cntOk,nums]
 | c :: l,pre,p0,ps,p,hp,he=>by
  rw[z29] at he
  simp only[goodR]
  by_cases hc:c.toNat=46
  ·rw[y6 (by rw[show c=46 from UInt8.toNat_inj.mp hc]; rfl)] at he
   cases he
   rw[y6 hc,y4c,z7f]
   match pre,hp with
   | [],_=>rfl
   | a :: pre,hp =>
    obtain⟨n,hn⟩:=zcm hp sj
    rw[hn,y5 sj]
    simp only
    cases hl:pieces l with
    | nil=>exact absurd hl (z1m l)
    | cons q qs =>
     have:=zb5 l [] q qs (p+1) trivial hl
     simpa using this
  ·rw[y5 (by intro h; rw[eq_of_beq h] at hc; exact hc rfl)] at he
   rw[y5 hc]
   cases hl:pieces l with
   | nil=>exact absurd hl (z1m l)
   | cons q qs =>
    rw[hl] at he
    injection he with e1 e2
    subst e1
    subst e2
    have ih:=zb5 l (pre++[c]) q qs p
    by_cases hd:dig c
    ·match pre,hp with
     | [],_ =>
      by_cases h0:c.toNat=48
      ·rw[y6 (by right; right; left; exact⟨rfl,h0⟩),z7f,y2l,zj1 h0]
      ·rw[y5 (by have:=hd.1; have:=hd.2; simp; omega)]
       exact ih ⟨hd,h0⟩ hl
     | [a],hp =>
      rw[y5 (by have:=hd.1; have:=hd.2; simp; omega)]
      have:=ih ⟨hp.1,hp.2,hd⟩ hl
      simpa using this
     | [a,b],hp =>
      rw[y6 (by right; right; right; rfl),z7f]
      rfl
     | _ :: _ :: _ :: _,hp=>exact hp.elim
    ·rw[y6 (by unfold dig at hd; omega),z7f,zmv hd]
theorem z5p:∀ {ws:List Y8} {ns:List Int},nums ws=some ns->ns.length=ws.length
 | [],ns,h=>by cases h; rfl
 | w :: ws,ns,h=>by
  simp only[nums] at h
  split at h
  ·cases h
  ·cases hn:nums ws with
   | none=>rw[hn] at h; cases h
   | some ms =>
    rw[hn] at h
    cases h
    simp[z5p hn]
def good (l:Y8):Bool:=goodR l 0 1
theorem z3b (l:Y8):decide ((parts l).length>0)=good l:=by
 unfold good
 cases hl:pieces l with
 | nil=>exact absurd hl (z1m l)
 | cons q qs =>
  have:=zb5 l [] q qs 1 trivial hl
  simp only[y1k,y2l] at this
  rw[this]
  unfold parts cntOk
  rw[hl]
  cases hn:nums (q :: qs) with
  | none=>rfl
  | some ns =>
   have h1:=z5p hn
   simp only[yn] at h1
   simp only
   by_cases h4:ns.length>4
   ·simp only[y6 h4]; simp; omega
   ·simp only[y5 h4]; rw[y1s]; simp; omega
theorem z2w {l:Y8} (hl:l.length<4611686018427387904):F_qt l=some (good l):=by
 simp only[F_qt,S_qt,Scr.den,za]
 generalize hF:(fun s=>(S_qt_b1 l s).den)=F
 have key:∀ (k i d p:Nat),i+k=l.length->d<=i->p<=i+1->outM (iterM F ((d:Int),(p:Int),(i:Int))) (fun s=>some (decide (s.1>0)&&decide (s.2.1<=4))) (fun x=>some (id x))=some (goodR (l.drop i) d p):=by
  intro k
  induction k with
  | zero =>
   intro i d p hk hd hp
   rw[z2j,y1j om,<- hF]
   simp only[S_qt_b1,Scr.den]
   rw[y5 sk]
   simp only[outM,goodR]
   congr 1
   rw[y1s]; simp; omega
  | succ k ih =>
   intro i d p hk hd hp
   have hi:i<l.length:=om
   have ei:l.getD i 0=l[i]:=by simp[List.getD_eq_getElem?_getD,List.getElem?_eq_getElem hi]
   rw[z2j,y1g hi,<- y4i hF]
   simp only[S_qt_b1,Scr.den,yb,ei,za,z8]
   generalize hcc:l[i]=c
   rw[y6 sk,z6 ⟨om,hi,trivial⟩]
   have w1:i64.wrap ((p:Int)+1)=((p+1:Nat):Int):=by rw[wrapId om om]; omega
   have w2:i64.wrap ((i:Int)+1)=((i+1:Nat):Int):=by rw[wrapId om om]; omega
   have w3:i64.wrap ((d:Int)+1)=((d+1:Nat):Int):=by rw[wrapId om om]; omega
   simp only[w1,w2,w3,goodR]
   by_cases hc:c.toNat=46
   ·rw[y6 (by simp[hc]),y6 hc]
    by_cases h0:d=0
    ·rw[y6 (by simp[h0]),y6 h0]; rfl
    ·rw[y5 (by simpa using h0),y5 h0]
     have h:=ih (i+1) 0 (p+1) om om om
     rw[show ((0:Nat):Int)=0 from rfl] at h
     exact h
   ·rw[y5 sk,y5 hc,z6 ⟨fun _=>om,fun _=>hi,fun _=>om,fun _=>hi,trivial⟩]
    by_cases hb:c.toNat<48\/57<c.toNat\/(d=0/\c.toNat=48)\/d=2
    ·rw[y6 sk,y6 hb]; rfl
    ·rw[y5 sk,y5 hb]
     exact ih (i+1) (d+1) p om om om
 exact key l.length 0 0 1 om om om
theorem z3c {l:Y8} (hl:l.length<=1099511627776):F_q7v l=some (parts l):=by
 unfold F_q7v
 exact zgn hl rfl
def lexC:List Int->List Int->Int
 | [],[]=>0
 | [],_ :: _=>-1
 | _ :: _,[]=>1
 | a :: x,b :: y=>if a<b then -1 else if a>b then 1 else lexC x y
theorem zb6:∀ x,lexC x x=0
 | []=>rfl
 | a :: x=>by simp[lexC,zb6 x]
theorem z30:∀ {x y:List Int},lexC x y=0->x=y
 | [],[],_=>rfl
 | [],_ :: _,h=>by simp[lexC] at h
 | _ :: _,[],h=>by simp[lexC] at h
 | a :: x,b :: y,h=>by
  simp only[lexC] at h
  split at h
  ·omega
  ·split at h
   ·omega
   ·rw[z30 h,show a=b from om]
theorem zb7:∀ x y:List Int,lexC y x=-lexC x y
 | [],[]=>rfl
 | [],_ :: _=>rfl
 | _ :: _,[]=>rfl
 | a :: x,b :: y=>by
  simp only[lexC]
  by_cases h1:a<b
  ·rw[y6 h1,y5 om,y6 om]; rfl
  ·by_cases h2:a>b
   ·rw[y6 om,y5 h1,y6 h2]
   ·rw[y5 h1,y5 h2,y5 om,y5 om,zb7 x y]
theorem z9p:∀ {x y z:List Int},lexC x y<0->lexC y z<0->lexC x z<0
 | [],_,[],h,h'=>by
  rename_i y
  cases y with
  | nil=>simp[lexC] at h
  | cons b y=>simp[lexC] at h'
 | [],_,c :: z,_,_=>by simp[lexC]
 | a :: x,[],_,h,_=>by simp[lexC] at h
 | a :: x,b :: y,[],_,h'=>by simp[lexC] at h'
 | a :: x,b :: y,c :: z,h,h'=>by
  simp only[lexC] at h h' |-
  by_cases h1:a<b
  ·by_cases h2:b<c
   ·rw[y6 om]; omega
   ·rw[y5 h2] at h'
    by_cases h3:b>c
    ·rw[y6 h3] at h'; omega
    ·rw[y6 om]; omega
  ·rw[y5 h1] at h
   by_cases h2:a>b
   ·rw[y6 h2] at h; omega
   ·rw[y5 h2] at h
    by_cases h3:b<c
    ·rw[y6 om]; omega
    ·rw[y5 h3] at h'
     by_cases h4:b>c
     ·rw[y6 h4] at h'; omega
     ·rw[y5 h4] at h'
      rw[y5 om,y5 om]
      exact z9p h h'
theorem zvm:∀ {w w':Y8} {n:Int},pv w=some n->pv w'=some n->w=w'
 | [],_,_,h,_=>by simp[pv] at h
 | [a],[],_,_,h=>by simp[pv] at h
 | [a,b],[],_,_,h=>by simp[pv] at h
 | [a],[c],n,h,h'=>by
  simp only[pv] at h h'
  split at h <;> split at h' <;> simp at h h'
  have:a.toNat=c.toNat:=om
  rw[y5f.1 this]
 | [a],[c,d],n,h,h'=>by
  simp only[pv] at h h'
  split at h <;> split at h' <;> simp at h h'
  omega
 | [a,b],[c],n,h,h'=>by
  simp only[pv] at h h'
  split at h <;> split at h' <;> simp at h h'
  omega
 | [a,b],[c,d],n,h,h'=>by
  simp only[pv] at h h'
  split at h <;> split at h' <;> simp at h h'
  have h1:a.toNat=c.toNat:=om
  have h2:b.toNat=d.toNat:=om
  rw[y5f.1 h1,y5f.1 h2]
 | _ :: _ :: _ :: _,_,_,h,_=>by simp[pv] at h
 | _,_ :: _ :: _ :: _,_,_,h=>by simp[pv] at h
theorem zj2:∀ {ws ws':List Y8} {ns:List Int},nums ws=some ns->nums ws'=some ns->ws=ws'
 | [],[],_,_,_=>rfl
 | [],w :: ws,ns,h,h'=>by
  have h1:=z5p h; have h2:=z5p h'; simp only[y1k,yn] at h1 h2; omega
 | w :: ws,[],ns,h,h'=>by
  have h1:=z5p h; have h2:=z5p h'; simp only[y1k,yn] at h1 h2; omega
 | w :: ws,w' :: ws',ns,h,h'=>by
  simp only[nums] at h h'
  split at h
  ·cases h
  ·rename_i n hn
   split at h'
   ·cases h'
   ·rename_i n' hn'
    cases hm:nums ws with
    | none=>rw[hm] at h; cases h
    | some ms =>
     cases hm':nums ws' with
     | none=>rw[hm'] at h'; cases h'
     | some ms' =>
      rw[hm] at h; rw[hm'] at h'
      simp only[y1r,y13] at h h'
      rw[<- h] at h'
      simp only[y3x] at h'
      obtain⟨rfl,rfl⟩:=h'
      rw[zvm hn hn',zj2 hm hm']
theorem z9q:∀ {l l':Y8},pieces l=pieces l'->l=l'
 | [],[],_=>rfl
 | [],b :: m,h=>by
  rw[z29] at h
  split at h
  ·simp[pieces] at h; first | exact absurd h (z1m m) | exact absurd h.symm (z1m m)
  ·split at h <;> simp[pieces] at h
 | b :: m,[],h=>by
  rw[z29] at h
  split at h
  ·simp[pieces] at h; first | exact absurd h (z1m m) | exact absurd h.symm (z1m m)
  ·split at h <;> simp[pieces] at h
 | b :: l,c :: m,h=>by
  rw[z29,z29] at h
  cases hl:pieces l with
  | nil=>exact absurd hl (z1m l)
  | cons p ps =>
   cases hm:pieces m with
   | nil=>exact absurd hm (z1m m)
   | cons q qs =>
    rw[hl,hm] at h
    by_cases hb:(b==46)=true
    ·by_cases hc:(c==46)=true
     ·rw[y6 hb,y6 hc] at h
      have e:pieces l=pieces m:=by rw[hl,hm]; simpa using h
      rw[z9q e,show b=c by rw[eq_of_beq hb,eq_of_beq hc]]
     ·rw[y6 hb,y5 hc] at h; simp at h
    ·by_cases hc:(c==46)=true
     ·rw[y5 hb,y6 hc] at h; simp at h
     ·rw[y5 hb,y5 hc] at h
      simp only[y3x] at h
      obtain⟨⟨rfl,rfl⟩,rfl⟩:=h
      rw[z9q (hl.trans hm.symm)]
theorem z35 {l:Y8} (h:good l=true):nums (pieces l)=some (parts l)/\0<(parts l).length/\(parts l).length<=4:=by
 rw[<- z3b] at h
 have h0:0<(parts l).length:=by simpa using h
 unfold parts at h0 |-
 split at h0
 ·simp at h0
 ·rename_i ns hn
  split at h0
  ·simp at h0
  ·rename_i h4
   rw[hn]
   simp only[y5 h4]
   exact⟨trivial,h0,om⟩
theorem z7y {l l':Y8} (h:good l=true) (h':good l'=true) (e:parts l=parts l'):l=l' :=
 z9q (zj2 (z35 h).1 (e▸(z35 h').1))
def valW (w:Y8):Int:=w.foldl (fun n c=>10 * n+((c.toNat:Int)-48)) 0
theorem zj3:∀ {w:Y8} {n:Int},pv w=some n->valW w=n/\1<=w.length/\w.length<=2/\(w.getD 0 0).toNat≠48/\∀ c∈w,48<=c.toNat/\c.toNat<=57
 | [],_,h=>by simp[pv] at h
 | [a],n,h=>by
  simp only[pv] at h
  split at h <;> simp at h
  rename_i h1
  refine⟨by simp[valW]; omega,sj,sj,sk,fun c hc=>by simp at hc; subst hc; omega⟩
 | [a,b],n,h=>by
  simp only[pv] at h
  split at h <;> simp at h
  rename_i h1
  refine⟨by simp[valW]; omega,sj,sj,sk,fun c hc=>?_⟩
  simp at hc
  rcases hc with rfl | rfl <;> omega
 | _ :: _ :: _ :: _,_,h=>by simp[pv] at h
theorem z3q {l:Y8} (h:good l=true):l.length<=11:=by
 have key:∀ (l:Y8) (ns:List Int),nums (pieces l)=some ns->l.length+1<=3 * ns.length:=by
  intro l
  suffices H:∀ (l p0:Y8) (ps:List Y8),pieces l=p0 :: ps->l.length=p0.length+(ps.map fun q=>q.length+1).sum by
   intro ns hn
   cases hp:pieces l with
   | nil=>exact absurd hp (z1m l)
   | cons p0 ps =>
    rw[hp] at hn
    rw[H l p0 ps hp]
    have hall:∀ (ws:List Y8) (ms:List Int),nums ws=some ms->(ws.map fun q=>q.length+1).sum<=3 * ms.length:=by
     intro ws
     induction ws with
     | nil=>intro ms hm; simp
     | cons w ws ih =>
      intro ms hm
      simp only[nums] at hm
      split at hm
      ·cases hm
      ·rename_i n hpv
       cases hw:nums ws with
       | none=>rw[hw] at hm; cases hm
       | some ks =>
        rw[hw] at hm; cases hm
        have:=ih ks hw
        have:=(zj3 hpv).2.2.1
        simp only[y3m,y21,yn]
        omega
    have:=hall _ _ hn
    simp only[y3m,y21] at this
    omega
  intro l
  induction l with
  | nil=>intro p0 ps hp; simp[pieces] at hp; obtain⟨rfl,rfl⟩:=hp; simp
  | cons b l ih =>
   intro p0 ps hp
   rw[z29] at hp
   cases hl:pieces l with
   | nil=>exact absurd hl (z1m l)
   | cons q qs =>
    have:=ih q qs hl
    rw[hl] at hp
    split at hp
    ·simp only[y3x] at hp
     obtain⟨rfl,rfl⟩:=hp
     simp only[yn,y1k,y3m,y21]; omega
    ·simp only[y3x] at hp
     obtain⟨rfl,rfl⟩:=hp
     simp only[yn]; omega
 obtain⟨h1,h2,h3⟩:=z35 h
 have:=key l _ h1
 omega
def cmpI (a b:Int):Int:=if a<b then -1 else if a>b then 1 else 0
theorem zfh (a b:Int):F_q41 a b=some (cmpI a b):=by
 simp only[F_q41,S_q41,F_q5d,S_q5d,Scr.den,obind,cmpI,y5s,yo,yx,y7]
 by_cases h1:a<b
 ·rw[y6 h1,y6 h1]
 ·rw[y5 h1,y5 h1]
  by_cases h2:a>b
  ·rw[y6 h2,y6 h2]
  ·rw[y5 h2,y5 h2]
variable {i:Nat}
theorem z20 {l:List Int} (hi:i<l.length):l.getD i dF=l[i]:=by simp[List.getD_eq_getElem?_getD,List.getElem?_eq_getElem hi]
theorem zdd (x y:List Int):F_q2c x y=some (lexC x y):=by
 simp only[F_q2c,S_q2c,Scr.den]
 generalize hB:(fun i s=>(S_q2c_b1 x y i s).den)=B
 have key:∀ (k i:Nat),i+k=x.length->i<=y.length->outM (rangeM B k i ()) (fun _=>if decide ((x.length:Int)<(y.length:Int))=true then some (-1) else some 0) (fun r=>some (id r))=some (lexC (x.drop i) (y.drop i)):=by
  intro k
  induction k with
  | zero =>
   intro i hk hy
   rw[y1j om]
   by_cases h:y.length<=i
   ·rw[y1j h]
    simp only[rangeM,outM]
    rw[y5 sk]
    rfl
   ·rw[y1g (by omega:i<y.length)]
    simp only[rangeM,outM]
    rw[y6 sk]
    rfl
  | succ k ih =>
   intro i hk hy
   have hi:i<x.length:=om
   rw[y1g hi]
   simp only[rangeM]
   rw[<- y4i (y4i hB i) ()]
   simp only[S_q2c_b1,Scr.den]
   by_cases h:y.length<=i
   ·rw[y6 sk,y1j h]
    rfl
   ·have hj:i<y.length:=om
    rw[y5 sk,z6 ⟨hj,trivial⟩,y1g hj]
    simp only[zfh,obind,z20 hi,z20 hj,lexC,cmpI]
    by_cases h1:x[i]<y[i]
    ·simp only[y6 h1]; rfl
    ·simp only[y5 h1]
     by_cases h2:x[i]>y[i]
     ·simp only[y6 h2]; rfl
     ·simp only[y5 h2]
      exact ih (i+1) om om
 have:=key x.length 0 om om
 simpa using this
def strC (a b:Y8):Int:=if Op.bytesLess a b=true then -1 else if (!(Op.bytesLess a b||a==b))=true then 1 else 0
def cmpC (a b:Y8):Int:=if (parts a).length=0/\(parts b).length=0 then strC a b else lexC (parts a) (parts b)
theorem ze6 {a b:Y8} (ha:a.length<=1000000) (hb:b.length<=1000000):F_q4f a b=some (cmpC a b):=by
 simp only[F_q4f,S_q4f,Scr.den,z3c (show a.length<=1099511627776 from om),z3c (show b.length<=1099511627776 from om),obind,za,cmpC,zdd]
 by_cases h:(parts a).length=0/\(parts b).length=0
 ·rw[y6 (by simp[h]),y6 h]
  simp only[F_q78,S_q78,F_q5c,S_q5c,Scr.den,obind,beq_self_eq_true,y27,yo,yx,strC]
  by_cases h1:Op.bytesLess a b=true
  ·rw[y6 h1,y6 h1]; rfl
  ·rw[y5 h1,y5 h1]
   by_cases h2:(!(Op.bytesLess a b||a==b))=true
   ·rw[y6 h2,y6 h2]; rfl
   ·rw[y5 h2,y5 h2]; rfl
 ·rw[y5 (by simpa using h),y5 h]
theorem z2t {a b:Y8} (h:good a=true\/good b=true):cmpC a b=lexC (parts a) (parts b):=by
 unfold cmpC
 rw[y5]
 rintro⟨h1,h2⟩
 rcases h with h | h
 ·have:=(z35 h).2.1; omega
 ·have:=(z35 h).2.1; omega
def cmpR (a b:TRi):Int:=if cmpC a.B b.B≠0 then cmpC a.B b.B else cmpI a.D b.D
variable {a:TRi}
theorem z7g {b:TRi} (ha:a.B.length<=1000000) (hb:b.B.length<=1000000):F_q3s a b=some (cmpR a b):=by
 simp only[F_q3s,S_q3s,Scr.den,ze6 ha hb,zfh,obind,F_q1f,S_q1f,S_q1f_b1,cmpR]
 by_cases h:cmpC a.B b.B=0
 ·rw[y5 (by simpa using h)]
  by_cases h2:cmpI a.D b.D=0
  ·simp[rangeM,h,h2,outM]
  ·simp[rangeM,h,h2,outM]
 ·rw[y6 h]
  simp[rangeM,h,outM]
theorem zb8 {l:Y8} (hg:good l=true):F_q12 l=some (parts l):=by
 obtain⟨hn,h0,h4⟩:=z35 hg
 have hlen:=z3q hg
 simp only[F_q12,S_q12,Scr.den]
 rw[y5 sk]
 generalize hF:(fun s=>(S_q12_b1 l s).den)=F
 have w1:∀ i:Nat,i<=11->i64.wrap ((i:Int)+1)=((i+1:Nat):Int):=fun i hi=>by rw[wrapId om om]; omega
 have flush:∀ (i:Nat) (w:Y8) (out:List Int) (n:Int),i<=l.length->w.length<=i->(∀ j,j<w.length->l.getD (i-w.length+j) 0=w.getD j 0)->pv w=some n->(i=l.length\/(l.getD i 0).toNat=46)->out.length<=4 ->
   F (out,valW w,(w.length:Int),(i:Int))=some (.cont (out++[n],0,0,((i+1:Nat):Int))):=by
  intro i w out n hi hw hg hpv hor ho
  obtain⟨e1,e2,e3,e4,e5⟩:=zj3 hpv
  have hk:i64.wrap ((i:Int)-(w.length:Int))=((i-w.length:Nat):Int):=by rw[wrapId om om]; omega
  have h0:=hg 0 om
  rw[y3h] at h0
  rw[<- y4i hF]
  simp only[S_q12_b1,Scr.den,yb,z8,hk,h0]
  rw[y6 sk,z6 ⟨fun _=>om,fun h=>by have h:=h.1; simp at h; omega,trivial⟩,y6 (by
   rcases hor with rfl | h
   ·simp
   ·simp only[yc,y12]; right; omega),z6 ⟨fun _=>om,fun _=>om,trivial⟩,y5 (by
    simp only[yc,y12,y7]; omega),Ga,w1 i om,e1]
 have digit:∀ (i:Nat) (w:Y8) (out:List Int),i<l.length->(l.getD i 0).toNat≠46->48<=(l.getD i 0).toNat/\(l.getD i 0).toNat<=57->w.length<=1->(∀ c∈w,48<=c.toNat/\c.toNat<=57) ->
   F (out,valW w,(w.length:Int),(i:Int))=some (.cont (out,valW (w++[l.getD i 0]),((w++[l.getD i 0]).length:Int),((i+1:Nat):Int))):=by
  intro i w out hi h46 hd hw hall
  have hv:0<=valW w/\valW w<=9:=by
   match w,hw with
   | [],_=>simp[valW]
   | [a],_=>have:=hall a sj; simp[valW]; omega
  have e1:valW (w++[l.getD i 0])=10 * valW w+(((l.getD i 0).toNat:Int)-48):=by simp[valW]
  have e2:IntKind.u8.wrap (((l.getD i 0).toNat:Int)-48)=((l.getD i 0).toNat:Int)-48:=by
   generalize (l.getD i 0).toNat=m at hd
   simp only[IntKind.wrap,IntKind.bits,IntKind.signed]
   simp
   omega
  rw[<- y4i hF]
  simp only[S_q12_b1,Scr.den,yb,z8,e1,e2]
  rw[y6 sk,z6 ⟨fun _=>om,fun _=>om,trivial⟩,y5 (by simp only[yc,y12]; omega),z6 ⟨om,hi,fun _=>om,fun _=>hi,trivial⟩,y5 (by simp only[yc,y7]; omega),w1 i om,w1 w.length om,
   wrapId (n:=10 * valW w) om om,wrapId (n:=((l.getD i 0).toNat:Int)-48) om om,wrapId om om]
  simp
 have key:∀ (k i:Nat) (w p0:Y8) (ps:List Y8) (out ns:List Int),i+k=l.length->w.length<=i->(∀ j,j<w.length->l.getD (i-w.length+j) 0=w.getD j 0)->pieces (l.drop i)=p0 :: ps->nums ((w++p0) :: ps)=some ns->out.length+ns.length<=4 ->
   iterM F (out,valW w,(w.length:Int),(i:Int))=some (.next (out++ns,0,0,((l.length+1:Nat):Int))):=by
  intro k
  induction k with
  | zero =>
   intro i w p0 ps out ns hk hw hgd hpc hnm ho
   obtain rfl:i=l.length:=om
   rw[y1j (ye _)] at hpc
   simp only[pieces,y3x] at hpc
   obtain⟨rfl,rfl⟩:=hpc
   simp only[y4c,nums] at hnm
   split at hnm
   ·cases hnm
   ·rename_i n hpv
    simp only[y1r,y13] at hnm
    subst hnm
    rw[z2j,flush l.length w out n (ye _) hw hgd hpv (.inl rfl) (by simp at ho; omega)]
    simp only
    rw[z2j,<- y4i hF]
    simp only[S_q12_b1,Scr.den]
    rw[y5 sk]
  | succ k ih =>
   intro i w p0 ps out ns hk hw hgd hpc hnm ho
   have hi:i<l.length:=om
   have ei:l.getD i 0=l[i]:=by simp[List.getD_eq_getElem?_getD,List.getElem?_eq_getElem hi]
   rw[y1g hi,z29] at hpc
   cases hq:pieces (l.drop (i+1)) with
   | nil=>exact absurd hq (z1m _)
   | cons q qs =>
    rw[hq] at hpc
    by_cases hc:(l[i]==46)=true
    ·rw[y6 hc] at hpc
     simp only[y3x] at hpc
     obtain⟨rfl,rfl⟩:=hpc
     simp only[y4c,nums] at hnm
     split at hnm
     ·cases hnm
     ·rename_i n hpv
      cases hm:nums (q :: qs) with
      | none=>simp only[nums] at hm; rw[hm] at hnm; cases hnm
      | some ms =>
       have hm':=hm
       simp only[nums] at hm'
       rw[hm'] at hnm
       simp only[y1r,y13] at hnm
       subst hnm
       simp only[yn] at ho
       have h46:(l.getD i 0).toNat=46:=by rw[ei,eq_of_beq hc]; rfl
       rw[z2j,flush i w out n om hw hgd hpv (.inr h46) om]
       simp only
       have:=ih (i+1) [] q qs (out++[n]) ms om sj sj hq (by simpa using hm) sk
       simpa [valW] using this
    ·rw[y5 hc] at hpc
     simp only[y3x] at hpc
     obtain⟨rfl,rfl⟩:=hpc
     have hpv:∃ n,pv (w++l[i] :: q)=some n:=by
      simp only[nums] at hnm
      split at hnm
      ·cases hnm
      ·rename_i n h; exact⟨n,h⟩
     obtain⟨n,hpv⟩:=hpv
     obtain⟨_,_,g3,_,g5⟩:=zj3 hpv
     simp only[yp,yn] at g3
     have hne:(l.getD i 0).toNat≠46:=by
      rw[ei]; intro h; exact hc (by rw[y5f.1 (show l[i].toNat=(46:UInt8).toNat from h)]; rfl)
     rw[z2j,digit i w out hi hne (by rw[ei]; exact g5 l[i] sj) om (fun c hc=>g5 c (by simp[hc]))]
     simp only
     refine ih (i+1) (w++[l.getD i 0]) q qs out ns om sk (fun j hj=>?_) hq (by rw[ei]; simpa using hnm) ho
     simp only[yp,yn,y1k] at hj |-
     by_cases hjw:j<w.length
     ·have:=hgd j hjw
      rw[show i+1-(w.length+(0+1))+j=i-w.length+j from om,this]
      simp[List.getD_eq_getElem?_getD,List.getElem?_append_left hjw]
     ·obtain rfl:j=w.length:=om
      rw[show i+1-(w.length+(0+1))+w.length=i from om]
      simp[List.getD_eq_getElem?_getD]
 cases hp:pieces l with
 | nil=>exact absurd hp (z1m l)
 | cons p0 ps =>
  rw[hp] at hn
  have h:=key l.length 0 [] p0 ps [] (parts l) om sj sj (by simpa using hp) (by simpa using hn) sk
  have h':iterM F (([]:List Int),(0:Int),(0:Int),(0:Int))=some (.next (parts l,0,0,((l.length+1:Nat):Int))):=by simpa [valW] using h
  rw[h']
  simp only[outM]
  rw[y5 sk,Ga]
def ordersOf (l:List TOr) (v:Int):List TOr:=l.filter (fun o=>o.X==v)
theorem zde [Inhabited α] (l:List α) (p:α->Bool) (v:Nat->ρ) (hs:∀ i,i<l.length->body i ()=some (if p (l.getD i dF)=true then .ret (v i) else .cont ())) :
  (rangeM body l.length 0 ()=some (.next ())/\∀ x∈l,p x=false)\/∃ i,i<l.length/\p (l.getD i dF)=true/\(∀ x∈l.take i,p x=false)/\rangeM body l.length 0 ()=some (.ret (v i)):=by
 have key:∀ (k i:Nat),i+k=l.length->(∀ x∈l.take i,p x=false)->(rangeM body k i ()=some (.next ())/\∀ x∈l,p x=false)\/∃ i,i<l.length/\p (l.getD i dF)=true/\(∀ x∈l.take i,p x=false)/\rangeM body k (l.length-k) ()=some (.ret (v i)):=by
  intro k
  induction k with
  | zero =>
   intro i hk h
   left
   rw[y22 om] at h
   exact⟨rfl,h⟩
  | succ k ih =>
   intro i hk h
   have hi:i<l.length:=om
   have e:l.length-(k+1)=i:=om
   have e':l.length-k=i+1:=om
   rw[e]
   simp only[rangeM,hs i hi]
   cases hp:p (l.getD i dF) with
   | true =>
    right
    exact⟨i,hi,hp,h,sj⟩
   | false =>
    simp only[yo,yx]
    rw[e'] at ih
    refine ih (i+1) om fun x hx=>?_
    rw[y39,y1n] at hx
    rcases hx with hx | hx
    ·exact h x hx
    ·rw[yd hi] at hx
     simp only[Option.toList_some,y2k] at hx
     rw[hx]
     simpa [List.getD_eq_getElem?_getD,List.getElem?_eq_getElem hi] using hp
 have:=key l.length 0 om sj
 simpa using this
theorem zmw (l:List α) (i n:Nat) (z:α):(clearL l (0+i) n z).take i=l.take i:=by
 apply y2x
 intro k
 simp only[y4s,clearL,List.getElem?_mapIdx]
 split
 ·cases l[k]? with
  | none=>rfl
  | some x=>simp only[y1r]; rw[y5 om]
 ·rfl
theorem zcn {l:List α} {q:α->Bool} (h:∀ x∈l,q x=true):l.filter q=l:=List.filter_eq_self.mpr h
theorem zoz {l:List TOr} (v:Int) (hl:l.length<4611686018427387904):F_q26 l v=some (ordersOf l v):=by
 have hI:(F_q25 l v=some (-1)/\∀ x∈l,(x.X==v)=true)\/∃ i:Nat,i<l.length/\((l.getD i dF).X==v)=false/\(∀ x∈l.take i,(x.X==v)=true)/\F_q25 l v=some (i:Int):=by
  simp only[F_q25,S_q25,Scr.den]
  rw[Ga]
  have:=zde l (fun x=>x.X != v) (fun i=>(i:Int)) (body:=fun i s=>(S_q25_b1 l v i s).den) fun i hi=>by
   simp only[S_q25_b1,F_q4a,S_q4a,Scr.den,obind,yl]
   rw[z6 ⟨hi,trivial⟩]
   split <;> rfl
  rcases this with ⟨h1,h2⟩ | ⟨i,h1,h2,h3,h4⟩
  ·left
   rw[h1]
   exact⟨rfl,fun x hx=>by simpa using h2 x hx⟩
  ·right
   refine⟨i,h1,by simpa [bne] using h2,fun x hx=>by simpa using h3 x hx,?_⟩
   rw[h4]
   rfl
 simp only[F_q26,S_q26,Scr.den]
 rcases hI with ⟨h1,h2⟩ | ⟨i0,h1,h2,h3,h4⟩
 ·rw[h1,obind,y6 (show ((-1:Int)==-1)=true from rfl),Ga]
  unfold ordersOf
  rw[zcn h2]
 ·rw[h4,obind,y5 sj]
  obtain⟨s,h5,h6⟩:=z1n (step:=fun s=>(S_q26_b1 v s).den) (fun s=>l.length-s.2.2.toNat)
   (fun s=>s.1.length=l.length/\0<=s.2.1/\s.2.1<=s.2.2/\s.2.2<=l.length/\s.1.take s.2.1.toNat=ordersOf (l.take s.2.2.toNat) v/\s.1.drop s.2.2.toNat=l.drop s.2.2.toNat)
   (fun s=>s.1.length=l.length/\0<=s.2.1/\s.2.1<=l.length/\s.1.take s.2.1.toNat=ordersOf l v) (fun s hs=>by
    obtain⟨sl,i,j⟩:=s
    obtain⟨a1,a2,a3,a4,a5,a6⟩:=hs
    simp only at a1 a2 a3 a4 a5 a6
    by_cases hj:j<(l.length:Int)
    ·left
     have hjn:j.toNat<sl.length:=om
     have hjl:j.toNat<l.length:=om
     have ex:sl.getD j.toNat dF=l.getD j.toNat dF:=by
      have:=y15 (fun t=>t[0]?) a6
      simp only[y2i,y3h] at this
      rw[y8,y8,this]
     have et:ordersOf (l.take (j.toNat+1)) v=ordersOf (l.take j.toNat) v++if ((l.getD j.toNat dF).X==v)=true then [l.getD j.toNat dF] else []:=by
      unfold ordersOf
      rw[y39,List.filter_append,yd hjl]
      simp only[Option.toList_some,y8,yd hjl,y42,y32,List.filter_nil]
     have w1:i64.wrap (i+1)=i+1:=wrapId om om
     have w2:i64.wrap (j+1)=j+1:=wrapId om om
     have en:(j+1).toNat=j.toNat+1:=om
     have em:(i+1).toNat=i.toNat+1:=om
     have dj:sl.drop (j.toNat+1)=l.drop (j.toNat+1):=by
      have:=y15 (List.drop 1) a6
      simpa [List.drop_drop] using this
     simp only[S_q26_b1,F_q4a,S_q4a,Scr.den,obind,yl,ex,w1,w2]
     rw[y6 sk,Gc]
     by_cases hv:((l.getD j.toNat dF).X==v)=true
     ·rw[y6 (by simp only[bne,hv]; rfl),Gc]
      refine⟨_,rfl,⟨by simpa using a1,by simp only; omega,by simp only; omega,by simp only; omega,?_,?_⟩,by simp only; omega⟩
      ·simp only[en,em]
       rw[et,y6 hv,<- a5,y39,y5l om,y11 om]
       rfl
      ·simp only[en]
       rw[List.drop_set_of_lt om,dj]
     ·rw[y5 (by simp only[bne,hv]; simp)]
      refine⟨_,rfl,⟨a1,a2,by simp only; omega,by simp only; omega,?_,?_⟩,by simp only; omega⟩
      ·simp only[en]
       rw[et,y5 hv,y4c,a5]
      ·simp only[en]
       exact dj
    ·right
     simp only[S_q26_b1,Scr.den]
     rw[y5 sk]
     refine⟨_,rfl,a1,a2,by simp only; omega,?_⟩
     simp only
     rw[a5,y22 om]) _ (l,(i0:Int),i64.wrap ((i0:Int)+1)) (y2u _) (by
    have w2:i64.wrap ((i0:Int)+1)=i0+1:=wrapId om om
    have en:((i0:Int)+1).toNat=i0+1:=om
    simp only[w2,en,yb]
    refine⟨trivial,om,om,om,?_,trivial⟩
    unfold ordersOf
    rw[y39,List.filter_append,zcn h3,yd h1]
    simp only[y8,yd h1,y42] at h2
    simp[h2])
  obtain⟨b1,b2,b3,b4⟩:=h6
  rw[h5]
  simp only[outM]
  rw[z6 ⟨b2,om,trivial⟩,z6 ⟨by rw[z1r]; omega,trivial⟩,z6 ⟨by rw[z1r]; omega,trivial⟩,zmw,b4]
def Few (b:TBo):Prop:=b.C.length<=1000000/\b.H.length<=1000000/\b.J.length<=1000000/\b.W.length<=1000000
theorem zgp {l:List TOr} (hl:l.length<=1000000):F_q4z l=some l:=by
 simp only[F_q4z,S_q4z,Scr.den]
 rw[Ga]
theorem zp0 {l:List TRe} (hl:l.length<=1000000):F_q6c l=some l:=by
 simp only[F_q6c,S_q6c,Scr.den]
 rw[Ga]
theorem zp1 {l:List TCo} (hl:l.length<=1000000):F_q6d l=some l:=by
 simp only[F_q6d,S_q6d,Scr.den]
 rw[Ga]
theorem zp2 {l:List TVe} (hl:l.length<=1000000):F_q6e l=some l:=by
 simp only[F_q6e,S_q6e,Scr.den]
 rw[Ga]
variable {b:TBo}
theorem z2a (h:Few b):F_q28 b=some (b.C,b.H,b.J,b.W):=by
 simp only[F_q28,S_q28,Scr.den,zp0 h.1,zp1 h.2.1,zp2 h.2.2.1,zgp h.2.2.2,obind]
theorem z2e (h:Few b):F_q2k b=some (b.C,b.H,b.J,b.W):=by
 obtain⟨h1,h2,h3,h4⟩:=h
 simp only[F_q2k,S_q2k,Scr.den]
 rw[z6 ⟨om,om,om,om,trivial⟩]
theorem zgq (h:b.W.length<=1000000) (v:Int):F_q50 b v=some (ordersOf b.W v):=by
 simp only[F_q50,S_q50,Scr.den,zgp h,obind,zoz v (show b.W.length<4611686018427387904 from om)]
theorem zcc (l:List TOr) (o:TOr):F_q6b l o=some (l.any fun x=>!x.Al||decide (x.Ab>o.Ab)):=by
 simp only[F_q6b,S_q6b,F_q31,S_q31,Scr.den]
 rcases zde l (fun x=>!x.Al||decide (x.Ab>o.Ab)) (fun i=>(i:Int)) (body:=fun i s=>(S_q31_b1 l o i s).den) (fun i hi=>by
  simp only[S_q31_b1,F_q7m,S_q7m,Scr.den,obind,z8]
  split <;> rfl) with ⟨h1,h2⟩ | ⟨i,h1,h2,h3,h4⟩
 ·rw[h1]
  simp only[outM,obind]
  rw[List.any_eq_false.mpr fun x hx=>by rw[h2 x hx]; simp]
  rfl
 ·rw[h4]
  simp only[outM,obind]
  rw[List.any_eq_true.mpr ⟨_,z7 h1,h2⟩]
  simp
def noOrder:TOr:=⟨0,0,0,0,false⟩
def lastV (b:TBo) (v:Int):TOr:=(ordersOf b.W v).getLastD noOrder
theorem zlr (h:b.W.length<=1000000) (v:Int):F_q2l b v=some (lastV b v,((ordersOf b.W v).length:Int)):=by
 simp only[F_q2l,S_q2l,Scr.den]
 rw[z1x b.W (fun (s:TOr×Int) o=>if (o.X==v)=true then (o,i64.wrap (s.2+1)) else s)]
 ·have key:∀ (l:List TOr) (x:TOr) (n:Nat),n+l.length<=1000000->l.foldl (fun (s:TOr×Int) o=>if (o.X==v)=true then (o,i64.wrap (s.2+1)) else s) (x,(n:Int))=((ordersOf l v).getLastD x,((n+(ordersOf l v).length:Nat):Int)):=by
   intro l
   induction l with
   | nil=>intro x n _; rfl
   | cons o l ih =>
    intro x n hn
    simp only[yn] at hn
    rw[y2y]
    unfold ordersOf
    rw[y32]
    by_cases ho:(o.X==v)=true
    ·rw[y6 ho,y6 ho]
     rw[show i64.wrap ((n:Int)+1)=((n+1:Nat):Int) by rw[wrapId om om]; omega,ih o (n+1) om]
     rw[List.getLastD_cons]
     simp only[yn,ordersOf]
     congr 2
     omega
    ·rw[y5 ho,y5 ho,ih x n om]
     rfl
  have:=key b.W noOrder 0 om
  rw[show (((0:Nat)):Int)=0 from rfl] at this
  simp only[outM]
  unfold noOrder at this
  rw[this]
  simp[lastV,noOrder]
 ·intro i s hi
  simp only[S_q2l_b1,Scr.den]
  split <;> rfl
theorem z12 (gs:List Prop) (x d:α) [Decidable (AllP gs)]:optD gs (some x) d=some (if AllP gs then x else d):=by
 unfold optD
 by_cases h:AllP gs
 ·rw[y6 h,y6 h]
 ·rw[y5 h,y5 h]
theorem zb9 {gs:List Prop} {x:Option α} {y d:α} [Decidable (AllP gs)] (h:AllP gs->x=some y):optD gs x d=some (if AllP gs then y else d):=by
 by_cases hg:AllP gs
 ·rw[y6 hg,zg hg,h hg]
 ·rw[y5 hg,zj hg]
theorem z1y (a x d:Bool) [Decidable (AllP [a=false])]:(a||!(if AllP [a=false] then x else d))=(a||!x):=by
 cases a <;> simp[AllP]
theorem zp3 (a:Bool) (x d y:Int) [Decidable (AllP [a=false])]:(a||((if AllP [a=false] then x else d) != y))=(a||(x != y)):=by
 cases a <;> simp[AllP]
theorem zsu (a:Bool) (x d y z:Int) [Decidable (AllP [a=false])]:(a||decide ((if AllP [a=false] then x else d)>i64.wrap ((if AllP [a=false] then y else z)+1)))=(a||decide (x>i64.wrap (y+1))):=by
 cases a <;> simp[AllP]
theorem z6d (a x d:Bool) [Decidable (AllP [a=true])]:(a&&(if AllP [a=true] then x else d))=(a&&x):=by
 cases a <;> simp[AllP]
theorem zls (a:Bool) (x d y:Int) [Decidable (AllP [a=true])]:(a&&((if AllP [a=true] then x else d)==y))=(a&&(x==y)):=by
 cases a <;> simp[AllP]
theorem zp4 (a:Bool) (x d y:Int) [Decidable (AllP [a=true])]:(a&&decide ((if AllP [a=true] then x else d)>=y))=(a&&decide (x>=y)):=by
 cases a <;> simp[AllP]
theorem zp5 (a:Bool) (x d y z:Int) [Decidable (AllP [a=true])]:(a&&decide ((if AllP [a=true] then x else d)<=i64.wrap ((if AllP [a=true] then y else z)+1)))=(a&&decide (x<=i64.wrap (y+1))):=by
 cases a <;> simp[AllP]
theorem ztr (a:Bool) (x d:List α) [Decidable (AllP [a=true])]:(a&&decide (((if AllP [a=true] then x else d).length:Int)>0))=(a&&decide (x.length>0)):=by
 cases a <;> simp[AllP]
def RFld (r:TRe) (n:Int):Prop:=r.S=n/\good r.B=true/\(0<=r.D/\r.D<=99)/\dayP r.Ab/\yr r.Ab=r.D/\amtP r.V/\(0<=r.Ad/\r.Ad<=r.V)
def rAt (b:TBo) (n:Int):TRe:=b.C.getD (n-1).toNat dF
def cAt (b:TBo) (n:Int):TCo:=b.H.getD (n-1).toNat dF
def vAt (b:TBo) (n:Int):TVe:=b.J.getD (n-1).toNat dF
def Small (b:TBo):Prop:=Few b/\∀ r∈b.C,r.B.length<=1000000
theorem z6e {n:Nat} (hi:i<n) (hn:n<=1000000):i64.wrap ((i:Int)+1)=(i:Int)+1:=wrapId om om
theorem resC (hb:Small b) (hi:i<b.C.length):∃ C:Bool,(S_q1u_b1 b i ()).den=(if C=true then some (.ret false) else some (.cont ()))/\(C=false↔RFld (b.C.getD i dF) (i+1)):=by
 have hw:=z6e hi hb.1.1
 have hc:=hb.2 _ (z7 hi)
 simp only[S_q1u_b1,Scr.den]
 generalize b.C.getD i dF=r at hc |-
 rw[hw,z2w om]
 open Classical in simp only[z2s,z2f,z23,z12,obind,z8,z1y,zp3]
 refine⟨_,rfl,?_⟩
 simp only[RFld,y37,bne_eq_false_iff_eq,Bool.not_eq_false',yf,y7]
 constructor
 ·rintro⟨⟨⟨⟨⟨⟨⟨⟨h1,h2⟩,h3⟩,h4⟩,h5⟩,h6⟩,h7⟩,h8⟩,h9⟩
  exact⟨h1,h2,om,h5,h6,h7,om⟩
 ·rintro⟨h1,h2,h3,h4,h5,h6,h7⟩
  exact⟨⟨⟨⟨⟨⟨⟨⟨h1,h2⟩,om⟩,om⟩,h4⟩,h5⟩,h6⟩,om⟩,om⟩
theorem resP (hb:Small b) (hi:i<b.C.length):∃ C:Bool,F_q4w b i=some C/\(C=true↔RFld (b.C.getD i dF) (i+1)/\0<=leftV b (b.C.getD i dF)):=by
 have hw:=z6e hi hb.1.1
 have hc:=hb.2 _ (z7 hi)
 simp only[F_q4w,S_q4w,Scr.den,yb]
 rw[z6 ⟨om,hi,trivial⟩]
 generalize b.C.getD i dF=r at hc |-
 rw[hw,z3c om]
 open Classical in simp only[z6c,z4r,z34,z26,z89,z12,obind,za,z6d,zls,zp4,ztr]
 refine⟨_,rfl,?_⟩
 simp only[z3b,RFld,yg,y12,y7,y41,and_assoc]
variable {x:Int}
theorem z1o {n:Nat} (h:1<=x/\x<=(n:Int)) (hn:n<=1000000):i64.wrap (x-1)=x-1:=wrapId om om
def CFld (b:TBo) (c:TCo) (n:Int):Prop:=c.S=n/\(1<=c.Y/\c.Y<=b.C.length)/\dayP c.Ab/\amtP c.V/\(0<=c.Ad/\c.Ad<=c.V)/\(1<=c.Ah/\c.Ah<=1000000)/\dayP c.Ai/\(rAt b c.Y).Ab<=c.Ab/\yr c.Ab=(rAt b c.Y).D
theorem comC (hb:Small b) (hi:i<b.H.length):(CFld b (b.H.getD i dF) (i+1)->(S_qk_b1 b i ()).den=some (.cont ()))/\(¬ CFld b (b.H.getD i dF) (i+1)->(S_qk_b1 b i ()).den=some (.ret false)):=by
 have hw:=z6e hi hb.1.2.1
 simp only[S_qk_b1,Scr.den]
 generalize b.H.getD i dF=c
 rw[hw]
 open Classical in simp only[z2s,z2f,z23,z12,obind,z8,z1y,zp3]
 split
 ·rename_i h
  refine⟨fun hp=>?_,fun _=>rfl⟩
  exfalso
  obtain⟨h1,h2,h3,h4,h5,h6,h7,_⟩:=hp
  simp only[yc,y1i,ne_eq,yi,yf,y7] at h
  rcases h with (((((((((h | h) | h) | h) | h) | h) | h) | h) | h) | h) <;> first | exact h h1 | exact h h3 | exact h h4 | exact h h7 | omega
 ·rename_i h
  simp only[yc,y1i,ne_eq,yi,yf,y7,y4y,y2m] at h
  obtain⟨⟨⟨⟨⟨⟨⟨⟨⟨h1,h2⟩,h3⟩,h4⟩,h5⟩,h6⟩,h7⟩,h8⟩,h9⟩,h10⟩:=h
  rw[z1o (n:=b.C.length) om hb.1.1,Gb]
  change (_->(if (_||_)=true then _ else _)=_)/\_
  have e:CFld b c (i+1)↔(rAt b c.Y).Ab<=c.Ab/\yr c.Ab=(rAt b c.Y).D :=
   ⟨fun h=>⟨h.2.2.2.2.2.2.2.1,h.2.2.2.2.2.2.2.2⟩,fun h=>⟨h1,om,h4,h5,om,om,h10,h.1,h.2⟩⟩
  rw[e]
  unfold rAt
  split
  ·rename_i h
   refine⟨fun hp=>?_,fun _=>rfl⟩
   exfalso
   simp only[yc,y1i,ne_eq,y7] at h
   rcases h with h | h
   ·omega
   ·exact h hp.2
  ·rename_i h
   refine⟨fun _=>rfl,fun hp=>?_⟩
   exfalso
   simp only[yc,y1i,ne_eq,y7,y4y,y2m] at h
   exact hp ⟨om,h.2⟩
theorem comP (hb:Small b) (hi:i<b.H.length):∃ C:Bool,F_q4x b i=some C/\(C=true↔CFld b (b.H.getD i dF) (i+1)/\0<=restV b (b.H.getD i dF)):=by
 have hw:=z6e hi hb.1.2.1
 obtain⟨c,hc⟩:∃ c,b.H.getD i dF=c:=⟨_,rfl⟩
 simp only[F_q4x,S_q4x,Scr.den,yb]
 rw[z6 ⟨om,hi,trivial⟩]
 open Classical in simp only[hc,hw,z6c,z4r,z34,z26,zfg,z12,obind,za,z8,z1y]
 by_cases h:(c.S != (i:Int)+1||!decide (1<=c.Y/\c.Y<=b.C.length))=true
 ·rw[y6 h]
  refine⟨false,rfl,?_⟩
  simp only[yc,y1i,ne_eq,yi,yf] at h
  constructor
  ·intro h; cases h
  ·intro hp
   rcases h with h | h
   ·exact absurd hp.1.1 h
   ·exact absurd hp.1.2.1 h
 ·rw[y5 h]
  simp only[yc,y1i,ne_eq,yi,yf,y4y,y2m] at h
  rw[z1o (n:=b.C.length) h.2 hb.1.1,Gb]
  open Classical in simp only[z6d,zls,zp4]
  refine⟨_,rfl,?_⟩
  simp only[CFld,yg,y12,y7,y41]
  constructor
  ·rintro⟨⟨⟨⟨⟨⟨⟨h1,h2⟩,h3⟩,h4⟩,h5⟩,h6⟩,h7⟩,h8⟩
   exact⟨⟨h.1,h.2,h1,h4,h5,h6,h7,h2,h3⟩,h8⟩
  ·rintro⟨⟨_,_,h1,h4,h5,h6,h7,h2,h3⟩,h8⟩
   exact⟨⟨⟨⟨⟨⟨⟨h1,h2⟩,h3⟩,h4⟩,h5⟩,h6⟩,h7⟩,h8⟩
def RAll (b:TBo):Prop:=∀ i,i<b.C.length->RFld (b.C.getD i dF) (i+1)
def CAll (b:TBo):Prop:=∀ i,i<b.H.length->CFld b (b.H.getD i dF) (i+1)
def yearOf (b:TBo) (n:Int):Int:=(rAt b (cAt b n).Y).D
theorem RAll.at {b:TBo} (h:RAll b) {n:Int} (hn:1<=n/\n<=b.C.length):RFld (rAt b n) n:=by
 have:=h (n-1).toNat om
 rwa [show (((n-1).toNat:Nat):Int)+1=n from om] at this
theorem CAll.at {b:TBo} (h:CAll b) {n:Int} (hn:1<=n/\n<=b.H.length):CFld b (cAt b n) n:=by
 have:=h (n-1).toNat om
 rwa [show (((n-1).toNat:Nat):Int)+1=n from om] at this
variable {n:Int}
theorem zts (hR:RAll b) (hC:CAll b) (hn:1<=n/\n<=b.H.length):0<=yearOf b n/\yearOf b n<=99 :=
 (hR.at (hC.at hn).2.1).2.2.1
theorem z65 (hb:Small b) (hC:CAll b) (hn:1<=n/\n<=b.H.length):F_q2i b n=some (yearOf b n):=by
 have h:=(hC.at hn).2.1
 unfold cAt at h
 simp only[F_q2i,S_q2i,Scr.den]
 rw[z1o hn hb.1.2.1,z1o h hb.1.1,z6 ⟨om,om,om,om,trivial⟩]
 rfl
theorem zbx (hb:Small b) {c:TCo} (h:1<=c.Y/\c.Y<=b.C.length):F_q24 b c=some (rAt b c.Y).D:=by
 simp only[F_q24,S_q24,Scr.den]
 rw[z1o h hb.1.1,Gb]
 rfl
theorem z6f (hR:RAll b) (hC:CAll b) (hn:1<=n/\n<=b.H.length):i64.wrap (yearOf b n+1)=yearOf b n+1:=by
 have:=zts hR hC hn
 exact wrapId om om
def VFld (b:TBo) (v:TVe) (n:Int):Prop:=v.S=n/\(1<=v.Ac/\v.Ac<=b.H.length)/\dayP v.Ab/\amtP v.V/\(cAt b v.Ac).Ab<=v.Ab/\yr v.Ab<=yearOf b v.Ac+1
theorem verC (hb:Small b) (hR:RAll b) (hC:CAll b) (hi:i<b.J.length):(VFld b (b.J.getD i dF) (i+1)->(S_q3_b1 b i ()).den=some (.cont ()))/\(¬ VFld b (b.J.getD i dF) (i+1)->(S_q3_b1 b i ()).den=some (.ret false)):=by
 have hw:=z6e hi hb.1.2.2.1
 obtain⟨v,hv⟩:∃ v,b.J.getD i dF=v:=⟨_,rfl⟩
 open Classical in simp only[S_q3_b1,Scr.den,hv,hw,z2s,z2f,z23,z12,obind,z8,z1y]
 by_cases hA:(v.S != (i:Int)+1||decide (v.Ac<1)||decide (v.Ac>b.H.length))=true
 ·rw[hA]
  simp only[Bool.true_or]
  rw[Gh,obind,z6 (by simp[AllP]),y6 trivial]
  refine⟨fun hp=>?_,fun _=>rfl⟩
  exfalso
  obtain⟨h1,h2,_⟩:=hp
  simp only[yc,y1i,ne_eq,y7] at hA
  rcases hA with (h | h) | h
  ·exact h h1
  ·omega
  ·omega
 ·simp only[yc,y1i,ne_eq,y7,y4y,y2m] at hA
  have hn:1<=v.Ac/\v.Ac<=b.H.length:=om
  open Classical in rw[zb9 (y:=yearOf b v.Ac) fun _=>z65 hb hC hn]
  rw[z1o hn hb.1.2.1,obind,z6 ⟨fun _=>om,fun _=>om,trivial⟩]
  open Classical in simp only[zsu]
  rw[z6f hR hC hn]
  split
  ·rename_i h
   refine⟨fun hp=>?_,fun _=>rfl⟩
   exfalso
   obtain⟨h1,h2,h3,h4,h5,h6⟩:=hp
   unfold cAt at h5
   simp only[yc,y1i,ne_eq,yi,yf,y7] at h
   rcases h with ((((((h | h) | h) | h) | h) | h) | h) <;> first | exact h h1 | exact h h3 | exact h h4 | omega
  ·rename_i h
   refine⟨fun _=>rfl,fun hp=>?_⟩
   exfalso
   simp only[yc,y1i,ne_eq,yi,yf,y7,y4y,y2m] at h
   obtain⟨⟨⟨⟨⟨⟨h1,h2⟩,h3⟩,h4⟩,h5⟩,h6⟩,h7⟩:=h
   exact hp ⟨h1,hn,h4,h5,by unfold cAt; omega,om⟩
theorem verP (hb:Small b) (hR:RAll b) (hC:CAll b) (hi:i<b.J.length):∃ C:Bool,F_q4y b i=some C/\(C=true↔VFld b (b.J.getD i dF) (i+1)):=by
 have hw:=z6e hi hb.1.2.2.1
 obtain⟨v,hv⟩:∃ v,b.J.getD i dF=v:=⟨_,rfl⟩
 simp only[F_q4y,S_q4y,Scr.den,yb]
 rw[z6 ⟨om,hi,trivial⟩]
 open Classical in simp only[hv,hw,z6c,z4r,z34,z26,z12,obind,za,z8,z1y]
 by_cases h:(v.S != (i:Int)+1||!decide (1<=v.Ac/\v.Ac<=b.H.length))=true
 ·rw[y6 h]
  refine⟨false,rfl,?_⟩
  simp only[yc,y1i,ne_eq,yi,yf] at h
  constructor
  ·intro h; cases h
  ·intro hp
   rcases h with h | h
   ·exact absurd hp.1 h
   ·exact absurd hp.2.1 h
 ·rw[y5 h]
  simp only[yc,y1i,ne_eq,yi,yf,y4y,y2m] at h
  have hn:=h.2
  have hc:=(hC.at hn).2.1
  rw[z1o hn hb.1.2.1,Gb]
  change ∃ C,(optD _ (F_q24 b (cAt b v.Ac)) _).bind _=_/\_
  open Classical in rw[zb9 fun _=>zbx hb hc]
  open Classical in simp only[obind,z6d,zp5]
  refine⟨_,rfl,?_⟩
  have hy:=z6f hR hC hn
  unfold yearOf at hy
  rw[hy]
  simp only[VFld,yg,y7,y41]
  constructor
  ·rintro⟨⟨⟨h1,h2⟩,h3⟩,h4⟩
   exact⟨h.1,h.2,h1,h4,h2,h3⟩
  ·rintro⟨_,_,h1,h4,h2,h3⟩
   exact⟨⟨⟨h1,h2⟩,h3⟩,h4⟩
def VAll (b:TBo):Prop:=∀ i,i<b.J.length->VFld b (b.J.getD i dF) (i+1)
theorem VAll.at {b:TBo} (h:VAll b) {n:Int} (hn:1<=n/\n<=b.J.length):VFld b (vAt b n) n:=by
 have:=h (n-1).toNat om
 rwa [show (((n-1).toNat:Nat):Int)+1=n from om] at this
def OFld (b:TBo) (o:TOr) (bef:List TOr) (n:Int):Prop:=o.S=n/\(1<=o.X/\o.X<=b.J.length)/\dayP o.Ab/\(vAt b o.X).Ab<=o.Ab/\yr o.Ab<=yearOf b (vAt b o.X).Ac+1/\o.Ak=(ordersOf bef o.X).length+1/\(ordersOf bef o.X).any (fun x=>!x.Al||decide (x.Ab>o.Ab))=false
theorem zp6 (hi:i<b.W.length) (hb:Small b):rangeM (fun j s=>(S_q3_b3 b i j s).den) (b.W.take i).length 0 1=some (if (ordersOf (b.W.take i) (b.W.getD i dF).X).any (fun x=>!x.Al||decide (x.Ab>(b.W.getD i dF).Ab))=true then .ret false else .next ((ordersOf (b.W.take i) (b.W.getD i dF).X).length+1)):=by
 have hl:=hb.1.2.2.2
 have hlt:(b.W.take i).length<=1000000:=by rw[y1h]; omega
 simp only[S_q3_b3,Scr.den,z8]
 generalize b.W.take i=l at hlt |-
 generalize b.W.getD i dF=o
 generalize hF:(fun (j:Nat) (s:Int)=>_)=F
 have key:∀ (k j n:Nat),j+k=l.length->n<=j+1->rangeM F k j (n:Int)=some (if (ordersOf (l.drop j) o.X).any (fun x=>!x.Al||decide (x.Ab>o.Ab))=true then .ret false else .next (((ordersOf (l.drop j) o.X).length+n:Nat):Int)):=by
  intro k
  induction k with
  | zero=>intro j n hk hn; rw[y1j om]; simp[rangeM,ordersOf]
  | succ k ih =>
   intro j n hk hn
   have hj:j<l.length:=om
   have e:l.getD j dF=l[j]:=by simp[List.getD_eq_getElem?_getD,List.getElem?_eq_getElem hj]
   have w1:i64.wrap ((n:Int)+1)=((n+1:Nat):Int):=by rw[wrapId om om]; omega
   rw[y1g hj]
   unfold ordersOf
   simp only[rangeM,y32]
   rw[<- y4i (y4i hF j) (n:Int)]
   simp only[e,w1]
   generalize l[j]=x
   by_cases hv:x.X=o.X
   ·have e1:(x.X != o.X)=false:=by simp[hv]
    have e2:(x.X==o.X)=true:=by simp[hv]
    simp only[e1,e2,yo,yx,y17]
    by_cases hx:(!x.Al||decide (x.Ab>o.Ab))=true
    ·rw[y6 hx,y6 (by rw[y52,hx]; rfl)]
    ·rw[y5 hx]
     simp only
     rw[ih (j+1) (n+1) om om]
     rw[y52,Bool.eq_false_iff.mpr hx,y3n]
     unfold ordersOf
     simp only[yn]
     congr 3
     omega
   ·have e1:(x.X != o.X)=true:=by simp[hv]
    have e2:(x.X==o.X)=false:=by simp[hv]
    simp only[e1,e2,yo,yx,y17]
    rw[ih (j+1) n om om]
    rfl
 have:=key l.length 0 1 om om
 simpa using this
theorem ordC (hb:Small b) (hR:RAll b) (hC:CAll b) (hV:VAll b) (hi:i<b.W.length):(OFld b (b.W.getD i dF) (b.W.take i) (i+1)->(S_q3_b4 b i ()).den=some (.cont ()))/\(¬ OFld b (b.W.getD i dF) (b.W.take i) (i+1)->(S_q3_b4 b i ()).den=some (.ret false)):=by
 have hw:=z6e hi hb.1.2.2.2
 have hcnt:=zp6 hi hb
 obtain⟨o,ho⟩:∃ v,b.W.getD i dF=v:=⟨_,rfl⟩
 open Classical in simp only[S_q3_b4,Scr.den,hcnt,ho,hw,z2s,z2f,z12,obind,z8,z1y]
 split
 ·rename_i h
  refine⟨fun hp=>?_,fun _=>rfl⟩
  exfalso
  obtain⟨h1,h2,h3,_⟩:=hp
  simp only[yc,y1i,ne_eq,yi,yf,y7] at h
  rcases h with ((h | h) | h) | h <;> first | exact h h1 | exact h h3 | omega
 ·rename_i h
  simp only[yc,y1i,ne_eq,yi,yf,y7,y4y,y2m] at h
  obtain⟨⟨⟨h1,h2⟩,h3⟩,h4⟩:=h
  have hn:1<=o.X/\o.X<=b.J.length:=om
  have hv:=(hV.at hn).2.1
  rw[z1o hn hb.1.2.2.1,Gb]
  change (_->(optD _ (F_q2i b (vAt b o.X).Ac) _).bind _=_)/\(_->(optD _ (F_q2i b (vAt b o.X).Ac) _).bind _=_)
  open Classical in rw[zb9 fun _=>z65 hb hC hv]
  open Classical in simp only[obind,zsu]
  rw[z6f hR hC hv]
  have hle:i<=b.W.length:=om
  rw[z6 ⟨hle,trivial⟩]
  by_cases hG:(decide (o.Ab<(b.J.getD (o.X-1).toNat dF).Ab)||decide (yr o.Ab>yearOf b (vAt b o.X).Ac+1))=true
  ·rw[y6 hG]
   refine⟨fun hp=>?_,fun _=>rfl⟩
   exfalso
   obtain⟨_,_,_,h5,h6,_⟩:=hp
   change (decide (o.Ab<(vAt b o.X).Ab)||_)=true at hG
   simp only[yc,y7] at hG
   omega
  ·rw[y5 hG]
   change ¬ (decide (o.Ab<(vAt b o.X).Ab)||_)=true at hG
   simp only[yc,y7,y4y] at hG
   by_cases hx:(ordersOf (b.W.take i) o.X).any (fun x=>!x.Al||decide (x.Ab>o.Ab))=true
   ·rw[y6 hx]
    refine⟨fun hp=>?_,fun _=>rfl⟩
    exfalso
    rw[hp.2.2.2.2.2.2] at hx
    cases hx
   ·rw[y5 hx]
    simp only[outM]
    split
    ·rename_i ha
     refine⟨fun hp=>?_,fun _=>rfl⟩
     exfalso
     simp only[y1i,ne_eq] at ha
     exact ha hp.2.2.2.2.2.1
    ·rename_i ha
     refine⟨fun _=>rfl,fun hp=>?_⟩
     exfalso
     simp only[y1i,ne_eq,y2m] at ha
     exact hp ⟨h1,hn,h4,om,om,ha,Bool.eq_false_iff.mpr hx⟩
theorem ordP (hb:Small b) (hR:RAll b) (hC:CAll b) (hV:VAll b) (hi:i<b.W.length):∃ C:Bool,F_q51 b i=some C/\(C=true↔OFld b (b.W.getD i dF) (b.W.take i) (i+1)):=by
 have hw:=z6e hi hb.1.2.2.2
 have hl:=hb.1.2.2.2
 obtain⟨o,ho⟩:∃ v,b.W.getD i dF=v:=⟨_,rfl⟩
 have hlt:(b.W.take i).length<=1000000:=by rw[y1h]; omega
 have hle:i<=b.W.length:=om
 simp only[F_q51,S_q51,Scr.den,yb]
 rw[z6 ⟨om,hi,trivial⟩]
 open Classical in simp only[ho,hw,z6c,z4r,z26,z12,obind,za,z8,z1y]
 by_cases h:(o.S != (i:Int)+1||!decide (1<=o.X/\o.X<=b.J.length))=true
 ·rw[y6 h]
  refine⟨false,rfl,?_⟩
  simp only[yc,y1i,ne_eq,yi,yf] at h
  constructor
  ·intro h; cases h
  ·intro hp
   rcases h with h | h
   ·exact absurd hp.1 h
   ·exact absurd hp.2.1 h
 ·rw[y5 h]
  simp only[yc,y1i,ne_eq,yi,yf,y4y,y2m] at h
  have hn:=h.2
  have hv:=(hV.at hn).2.1
  have hc:=(hC.at hv).2.1
  rw[z1o hn hb.1.2.2.1,Gb,zgq hlt,obind,z6 ⟨hle,trivial⟩]
  simp only[zcc]
  have hp:i64.wrap ((vAt b o.X).Ac-1)=(vAt b o.X).Ac-1:=z1o hv hb.1.2.1
  have hyr:F_q24 b (b.H.getD ((vAt b o.X).Ac-1).toNat dF)=some (yearOf b (vAt b o.X).Ac):=zbx hb hc
  unfold vAt at hp hyr
  open Classical in rw[hp,hyr,z12,obind,z12,obind,z6 ⟨fun _=>by unfold vAt at hv; omega,fun _=>by unfold vAt at hv; omega,trivial⟩]
  open Classical in simp only[zp5]
  have hy:=z6f hR hC hv
  unfold vAt at hy
  rw[hy]
  have e3:∀ (a x d:Bool) [Decidable (AllP [a=true])],(a&&!(if AllP [a=true] then x else d))=(a&&!x):=fun a x d _=>by cases a <;> simp[AllP]
  rw[e3]
  refine⟨_,rfl,?_⟩
  have hlw:i64.wrap (((ordersOf (b.W.take i) o.X).length:Int)+1)=((ordersOf (b.W.take i) o.X).length:Int)+1:=by
   have:(ordersOf (b.W.take i) o.X).length<=(b.W.take i).length:=y58 _ _
   exact wrapId om om
  rw[hlw]
  simp only[OFld,yg,y12,y7,y41,yi]
  constructor
  ·rintro⟨⟨⟨⟨h1,h2⟩,h3⟩,h4⟩,h5⟩
   exact⟨h.1,h.2,h1,h2,h3,h4,h5⟩
  ·rintro⟨_,_,h1,h2,h3,h4,h5⟩
   exact⟨⟨⟨⟨h1,h2⟩,h3⟩,h4⟩,h5⟩
variable {P:Prop}
theorem noC {x:Option Bool} (h:P->False) (e:x=some false:=by rfl):∃ C:Bool,x=some C/\(C=true↔P):=⟨false,e,⟨fun h=>(y4t h).elim,fun p=>(h p).elim⟩⟩
def Val (b:TBo):Prop:=RAll b/\CAll b/\(∀ r∈b.C,0<=leftV b r)/\VAll b/\(∀ c∈b.H,0<=restV b c)/\(∀ i,i<b.W.length->OFld b (b.W.getD i dF) (b.W.take i) (i+1)) /\
 b.C.length<=200/\b.H.length<=200/\b.J.length<=200/\b.W.length<=200
def OAll (b:TBo):Prop:=∀ i,i<b.W.length->OFld b (b.W.getD i dF) (b.W.take i) (i+1)
theorem zap (hb:Small b):∃ C,F_q1u b=some C/\(C=true↔RAll b):=by
 simp only[F_q1u,S_q1u,Scr.den]
 obtain⟨h1,h2⟩:=zl (body:=fun i s=>(S_q1u_b1 b i s).den) (n:=b.C.length) (c:=false) (fun i=>RFld (b.C.getD i dF) (i+1)) (fun i hi hp=>by
  obtain⟨C,e,hc⟩:=resC hb hi
  simp only[e,hc.mpr hp]; rfl) (fun i hi hp=>by
  obtain⟨C,e,hc⟩:=resC hb hi
  cases C with
  | true=>simp only[e]; rfl
  | false=>exact absurd (hc.mp rfl) hp)
 by_cases h:∀ j,j<b.C.length->RFld (b.C.getD j dF) (j+1)
 ·rw[h1 h]; exact⟨true,rfl,fun _=>h,fun _=>rfl⟩
 ·rw[h2 h]; exact noC <| (fun h'=>absurd h' h)
theorem zba (hb:Small b) (hR:RAll b):∃ C,F_qk b=some C/\(C=true↔CAll b/\∀ r∈b.C,0<=leftV b r):=by
 simp only[F_qk,S_qk,Scr.den]
 obtain⟨h1,h2⟩:=zl (body:=fun i s=>(S_qk_b1 b i s).den) (n:=b.H.length) (c:=false) (fun i=>CFld b (b.H.getD i dF) (i+1)) (fun i hi hp=>(comC hb hi).1 hp) (fun i hi hp=>(comC hb hi).2 hp)
 by_cases h:∀ j,j<b.H.length->CFld b (b.H.getD j dF) (j+1)
 ·rw[h1 h]
  simp only[outM]
  have eL:∀ i,i<b.C.length->(S_qk_b2 b i ()).den=if leftV b (b.C.getD i dF)<0 then some (.ret false) else some (.cont ()):=fun i hi=>by
   simp only[S_qk_b2,Scr.den,z8b,obind]
   have:leftN b (b.C.getD i dF).S=leftV b (b.C.getD i dF):=by
    unfold leftN
    have hf:b.C.find? (fun r=>r.S==(b.C.getD i dF).S)=some (b.C.getD i dF):=by
     rw[List.find?_eq_some_iff_getElem]
     refine⟨sj,i,hi,by simp[List.getD_eq_getElem?_getD,List.getElem?_eq_getElem hi],fun j hj=>?_⟩
     have e1:=(hR i hi).1
     have e2:=(hR j om).1
     have e3:b.C.getD j dF=b.C[j]:=by simp[List.getD_eq_getElem?_getD,List.getElem?_eq_getElem (show j<b.C.length from om)]
     rw[e3] at e2
     rw[e1]
     simp only[yi,y3c,ne_eq]
     omega
    rw[hf]
   rw[this]
   by_cases hl:leftV b (b.C.getD i dF)<0 <;> simp
  obtain⟨h3,h4⟩:=zl (body:=fun i s=>(S_qk_b2 b i s).den) (n:=b.C.length) (c:=false) (fun i=>0<=leftV b (b.C.getD i dF)) (fun i hi hp=>by
   simp only[eL i hi]; rw[y5 om]) (fun i hi hp=>by
   simp only[eL i hi]; rw[y6 om])
  by_cases h':∀ j,j<b.C.length->0<=leftV b (b.C.getD j dF)
  ·rw[h3 h']
   refine⟨true,rfl,fun _=>⟨h,fun r hr=>?_⟩,fun _=>rfl⟩
   obtain⟨i,hi,e⟩:=z11 hr
   rw[<- e]; exact h' i hi
  ·rw[h4 h']
   exact noC <| (fun hh=>absurd (fun j hj=>hh.2 _ (z7 hj)) h')
 ·rw[h2 h]; exact noC <| (fun h'=>absurd h'.1 h)
theorem zhl (hb:Small b) (hR:RAll b) (hC:CAll b):∃ C,F_q3 b=some C/\(C=true↔VAll b/\(∀ c∈b.H,0<=restV b c)/\OAll b):=by
 simp only[F_q3,S_q3,Scr.den]
 obtain⟨h1,h2⟩:=zl (body:=fun i s=>(S_q3_b1 b i s).den) (n:=b.J.length) (c:=false) (fun i=>VFld b (b.J.getD i dF) (i+1)) (fun i hi hp=>(verC hb hR hC hi).1 hp) (fun i hi hp=>(verC hb hR hC hi).2 hp)
 by_cases h:∀ j,j<b.J.length->VFld b (b.J.getD j dF) (j+1)
 ·rw[h1 h]
  simp only[outM]
  have eL:∀ i,i<b.H.length->(S_q3_b2 b i ()).den=if restV b (b.H.getD i dF)<0 then some (.ret false) else some (.cont ()):=fun i hi=>by
   simp only[S_q3_b2,Scr.den,z8a,obind]
   by_cases hl:restV b (b.H.getD i dF)<0 <;> simp
  obtain⟨h3,h4⟩:=zl (body:=fun i s=>(S_q3_b2 b i s).den) (n:=b.H.length) (c:=false) (fun i=>0<=restV b (b.H.getD i dF)) (fun i hi hp=>by
   simp only[eL i hi]; rw[y5 om]) (fun i hi hp=>by
   simp only[eL i hi]; rw[y6 om])
  by_cases h':∀ j,j<b.H.length->0<=restV b (b.H.getD j dF)
  ·rw[h3 h']
   skip
   obtain⟨h5,h6⟩:=zl (body:=fun i s=>(S_q3_b4 b i s).den) (n:=b.W.length) (c:=false) (fun i=>OFld b (b.W.getD i dF) (b.W.take i) (i+1)) (fun i hi hp=>(ordC hb hR hC h hi).1 hp) (fun i hi hp=>(ordC hb hR hC h hi).2 hp)
   by_cases ho:∀ j,j<b.W.length->OFld b (b.W.getD j dF) (b.W.take j) (j+1)
   ·rw[h5 ho]
    refine⟨true,rfl,fun _=>⟨h,fun r hr=>?_,ho⟩,fun _=>rfl⟩
    obtain⟨i,hi,e⟩:=z11 hr
    rw[<- e]; exact h' i hi
   ·rw[h6 ho]
    exact noC <| (fun hh=>absurd hh.2.2 ho)
  ·rw[h4 h']
   exact noC <| (fun hh=>absurd (fun j hj=>hh.2.1 _ (z7 hj)) h')
 ·rw[h2 h]; exact noC <| (fun h'=>absurd h'.1 h)
open Classical in
theorem z2b (hb:Small b):F_q1w b=some (decide (Val b)):=by
 simp only[F_q1w,S_q1w,Scr.den,z8,za]
 by_cases hl:b.C.length<=200/\b.H.length<=200/\b.J.length<=200/\b.W.length<=200
 ·rw[y5 (by simp only[yc,y7]; omega)]
  obtain⟨C1,e1,c1⟩:=zap hb
  rw[e1,obind]
  by_cases hR:RAll b
  ·obtain⟨C2,e2,c2⟩:=zba hb hR
   rw[c1.mpr hR,Gg,e2,obind]
   by_cases hC:CAll b/\∀ r∈b.C,0<=leftV b r
   ·obtain⟨C3,e3,c3⟩:=zhl hb hR hC.1
    rw[c2.mpr hC,Gg,e3,obind]
    congr 1
    rw[y1s,y7]
    simp only[Bool.and_self,y49]
    rw[c3]
    exact⟨fun h=>⟨hR,hC.1,hC.2,h.1,h.2.1,h.2.2,hl⟩,fun h=>⟨h.2.2.2.1,h.2.2.2.2.1,h.2.2.2.2.2.1⟩⟩
   ·have:C2=false:=Bool.eq_false_iff.mpr fun h=>hC (c2.mp h)
    rw[this,Gh,obind]
    rw[ya (fun h:Val b=>hC ⟨h.2.1,h.2.2.1⟩)]
    rfl
  ·have:C1=false:=Bool.eq_false_iff.mpr fun h=>hR (c1.mp h)
   rw[this,Gh,obind,Gh,obind]
   rw[ya (fun h:Val b=>hR h.1)]
   rfl
 ·rw[y6 (by simp only[yc,y7]; omega)]
  rw[ya (fun h:Val b=>hl h.2.2.2.2.2.2)]
theorem ze7 {n:Nat} (hn:n<=1000000) {body:Nat->Unit->Option (Step Unit Bool)} {F:Int->Option Bool} (hF:∀ (i:Nat) s,body i s=(F i).bind fun r=>if (!r)=true then some (.ret false) else some (.cont ())) (p:Nat->Prop) (h:∀ i,i<n->∃ C,F i=some C/\(C=true↔p i)) :
  ∃ C,guardP (AllP [((n:Int)).toNat<2 ^ 63]) (outM (rangeM body ((n:Int)).toNat 0 ()) (fun _=>some (decide ((n:Int)<=200))) (fun x=>some (id x)))=some C/\(C=true↔(∀ i,i<n->p i)/\n<=200):=by
 rw[yb,Ga]
 obtain⟨h1,h2⟩:=zl (body:=body) (n:=n) (c:=false) p (fun i hi hp=>by
  obtain⟨C,e,hc⟩:=h i hi
  rw[hF,e,hc.mpr hp]; rfl) (fun i hi hp=>by
  obtain⟨C,e,hc⟩:=h i hi
  rw[hF,e,Bool.eq_false_iff.mpr fun h=>hp (hc.mp h)]; rfl)
 by_cases hp:∀ i,i<n->p i
 ·rw[h1 hp]
  refine⟨_,rfl,?_⟩
  rw[y7]
  exact⟨fun h=>⟨hp,om⟩,fun h=>om⟩
 ·rw[h2 hp]
  exact noC <| (fun h=>absurd h.1 hp)
open Classical in
theorem Valid_eq (hb:Small b):F_q27 b=some (decide (Val b)):=by
 simp only[F_q27,S_q27,Scr.den,za]
 obtain⟨C1,e1,c1⟩:=ze7 hb.1.1 (body:=fun i s=>(S_q3t_b1 b i s).den) (F:=F_q4w b) (fun i s=>rfl) _ (fun i hi=>resP hb hi)
 have e1:F_q3t b (b.C.length:Int)=some C1:=e1
 rw[e1,obind]
 by_cases hR:(∀ i,i<b.C.length->RFld (b.C.getD i dF) (i+1)/\0<=leftV b (b.C.getD i dF))/\b.C.length<=200
 ·have hRA:RAll b:=fun i hi=>(hR.1 i hi).1
  obtain⟨C2,e2,c2⟩:=ze7 hb.1.2.1 (body:=fun i s=>(S_q3u_b1 b i s).den) (F:=F_q4x b) (fun i s=>rfl) _ (fun i hi=>comP hb hi)
  have e2:F_q3u b (b.H.length:Int)=some C2:=e2
  rw[c1.mpr hR,Gg,e2,obind]
  by_cases hC:(∀ i,i<b.H.length->CFld b (b.H.getD i dF) (i+1)/\0<=restV b (b.H.getD i dF))/\b.H.length<=200
  ·have hCA:CAll b:=fun i hi=>(hC.1 i hi).1
   obtain⟨C3,e3,c3⟩:=ze7 hb.1.2.2.1 (body:=fun i s=>(S_q3v_b1 b i s).den) (F:=F_q4y b) (fun i s=>rfl) _ (fun i hi=>verP hb hRA hCA hi)
   have e3:F_q3v b (b.J.length:Int)=some C3:=e3
   rw[c2.mpr hC,Gg,e3,obind]
   by_cases hV:VAll b/\b.J.length<=200
   ·obtain⟨C4,e4,c4⟩:=ze7 hb.1.2.2.2 (body:=fun i s=>(S_q3w_b1 b i s).den) (F:=F_q51 b) (fun i s=>rfl) _ (fun i hi=>ordP hb hRA hCA hV.1 hi)
    have e4:F_q3w b (b.W.length:Int)=some C4:=e4
    rw[c3.mpr hV,Gg,e4,obind]
    congr 1
    rw[y1s,y7]
    simp only[Bool.and_self,y49]
    rw[c4]
    refine⟨fun h=>⟨hRA,hCA,fun r hr=>?_,hV.1,fun r hr=>?_,h.1,hR.2,hC.2,hV.2,h.2⟩,fun h=>⟨h.2.2.2.2.2.1,h.2.2.2.2.2.2.2.2.2⟩⟩
    ·obtain⟨i,hi,e⟩:=z11 hr
     rw[<- e]; exact (hR.1 i hi).2
    ·obtain⟨i,hi,e⟩:=z11 hr
     rw[<- e]; exact (hC.1 i hi).2
   ·have:C3=false:=Bool.eq_false_iff.mpr fun h=>hV (c3.mp h)
    rw[this,Gh,obind]
    rw[ya (fun h:Val b=>hV ⟨h.2.2.2.1,h.2.2.2.2.2.2.2.2.1⟩)]
    rfl
  ·have:C2=false:=Bool.eq_false_iff.mpr fun h=>hC (c2.mp h)
   rw[this,Gh,obind,Gh,obind]
   rw[ya (fun h:Val b=>hC ⟨fun i hi=>⟨h.2.1 i hi,h.2.2.2.2.1 _ (z7 hi)⟩,h.2.2.2.2.2.2.2.1⟩)]
   rfl
 ·have:C1=false:=Bool.eq_false_iff.mpr fun h=>hR (c1.mp h)
  rw[this,Gh,obind,Gh,obind,Gh,obind]
  rw[ya (fun h:Val b=>hR ⟨fun i hi=>⟨h.1 i hi,h.2.2.1 _ (z7 hi)⟩,h.2.2.2.2.2.2.1⟩)]
  rfl
theorem st {c:Bool} {_:Decidable P} {x y:Option α} {a b:α} (h:c=true↔P) (hx:P->x=some a) (hy:¬ P->y=some b):(if c=true then x else y)=some (if P then a else b):=by
 by_cases hp:P
 ·rw[y6 (h.mpr hp),y6 hp,hx hp]
 ·rw[y5 (fun hc=>hp (h.mp hc)),y5 hp,hy hp]
def nb:TBo:=⟨[],[],[],[]⟩
def withR (b:TBo) (l:List TRe):TBo:=⟨l,b.H,b.J,b.W⟩
def withC (b:TBo) (l:List TCo):TBo:=⟨b.C,l,b.J,b.W⟩
def withV (b:TBo) (l:List TVe):TBo:=⟨b.C,b.H,l,b.W⟩
def withO (b:TBo) (l:List TOr):TBo:=⟨b.C,b.H,b.J,l⟩
theorem sa {p:Prop} (h:p:=by (simp only[yc,yg,yi,y7,yf,y12,y1i,ne_eq,gt_iff_lt] <;> (try unfold dayP) <;> (try unfold amtP) <;> omega)):p:=h
theorem sr {c:Bool} {_:Decidable P} {y:Option α} {a b:α} (hy:¬ P->y=some b) (h:c=true↔P:=by (simp only[yc,yg,yi,y7,yf,y12,y1i,ne_eq,gt_iff_lt] <;> (try unfold dayP) <;> (try unfold amtP) <;> omega)):(if c=true then some a else y)=some (if P then a else b):=st h (fun _=>rfl) hy
section
open Classical
noncomputable def reserveS (b:TBo) (code:Y8) (y d n:Int):TBo×Int :=
 if ¬ Val b then (nb,1) else
 if good code=false then (nb,5) else
 if ¬ ((0<=y/\y<=99)/\dayP d/\amtP n) then (nb,2) else
 if yr d≠y then (nb,16) else
 if (b.C.length:Int)=200 then (nb,3) else
 (withR b (b.C++[⟨b.C.length+1,code,y,d,n,0⟩]),0)
noncomputable def commitS (b:TBo) (r d n p u:Int):TBo×Int :=
 if ¬ Val b then (nb,1) else
 if ¬ (1<=r/\r<=b.C.length) then (nb,6) else
 if ¬ (dayP d/\amtP n/\(1<=p/\p<=1000000)/\dayP u) then (nb,2) else
 if yr d≠(rAt b r).D then (nb,16) else
 if d<(rAt b r).Ab then (nb,8) else
 if leftV b (rAt b r)<n then (nb,15) else
 if (b.H.length:Int)=200 then (nb,3) else
 (withC b (b.H++[⟨b.H.length+1,r,d,n,0,p,u⟩]),0)
noncomputable def verifyS (b:TBo) (c d n:Int):TBo×Int :=
 if ¬ Val b then (nb,1) else
 if ¬ (1<=c/\c<=b.H.length) then (nb,6) else
 if ¬ (dayP d/\amtP n) then (nb,2) else
 if yearOf b c+1<yr d then (nb,16) else
 if d<(cAt b c).Ab then (nb,8) else
 if restV b (cAt b c)<n then (nb,15) else
 if (b.J.length:Int)=200 then (nb,3) else
 (withV b (b.J++[⟨b.J.length+1,c,d,n⟩]),0)
noncomputable def orderS (b:TBo) (v d:Int):TBo×Int :=
 if ¬ Val b then (nb,1) else
 if ¬ (1<=v/\v<=b.J.length) then (nb,6) else
 if ¬ dayP d then (nb,2) else
 if yearOf b (vAt b v).Ac+1<yr d then (nb,16) else
 if (ordersOf b.W v).length>0/\(lastV b v).Al=false then (nb,20) else
 if d<(vAt b v).Ab\/((ordersOf b.W v).length>0/\d<(lastV b v).Ab) then (nb,8) else
 if (b.W.length:Int)=200 then (nb,3) else
 (withO b (b.W++[⟨b.W.length+1,v,(ordersOf b.W v).length+1,d,false⟩]),0)
noncomputable def releaseS (b:TBo) (r n:Int):TBo×Int :=
 if ¬ Val b then (nb,1) else
 if ¬ (1<=r/\r<=b.C.length) then (nb,6) else
 if ¬ amtP n then (nb,2) else
 if leftN b r<n then (nb,15) else
 (withR b (b.C.set (r-1).toNat ⟨(rAt b r).S,(rAt b r).B,(rAt b r).D,(rAt b r).Ab,(rAt b r).V,i64.wrap ((rAt b r).Ad+n)⟩),0)
noncomputable def dropS (b:TBo) (c n:Int):TBo×Int :=
 if ¬ Val b then (nb,1) else
 if ¬ (1<=c/\c<=b.H.length) then (nb,6) else
 if ¬ amtP n then (nb,2) else
 if restV b (cAt b c)<n then (nb,15) else
 (withC b (b.H.set (c-1).toNat ⟨(cAt b c).S,(cAt b c).Y,(cAt b c).Ab,(cAt b c).V,i64.wrap ((cAt b c).Ad+n),(cAt b c).Ah,(cAt b c).Ai⟩),0)
noncomputable def backS (b:TBo) (v:Int):TBo×Int :=
 if ¬ Val b then (nb,1) else
 if ¬ (1<=v/\v<=b.J.length) then (nb,6) else
 if (ordersOf b.W v).length=0\/(lastV b v).Al=true then (nb,9) else
 (withO b (b.W.set ((lastV b v).S-1).toNat ⟨(lastV b v).S,(lastV b v).X,(lastV b v).Ak,(lastV b v).Ab,true⟩),0)
end
theorem zj4 (hR:RAll b) (hn:1<=n/\n<=b.C.length):leftN b n=leftV b (rAt b n):=by
 unfold leftN
 have hi:(n-1).toNat<b.C.length:=om
 have hf:b.C.find? (fun r=>r.S==n)=some (rAt b n):=by
  rw[List.find?_eq_some_iff_getElem]
  refine⟨by simpa using (hR.at hn).1,(n-1).toNat,hi,by unfold rAt; rw[y8,yd hi]; rfl,fun j hj=>?_⟩
  have e2:=(hR j om).1
  have e3:b.C.getD j dF=b.C[j]:=by simp[List.getD_eq_getElem?_getD,List.getElem?_eq_getElem (show j<b.C.length from om)]
  rw[e3] at e2
  simp only[yi,y3c,ne_eq]
  omega
 rw[hf]
variable {code:Y8}
theorem zfi (hb:Small b) (hc:code.length<=1000000) (y d n:Int):F_q5j b code y d n=some (reserveS b code y d n):=by
 have h1:=hb.1.1
 have h2:=hb.1
 have hw:i64.wrap ((b.C.length:Int)+1)=b.C.length+1:=wrapId om om
 open Classical in simp only[F_q5j,S_q5j,Scr.den,z2b hb,z2w (show code.length<4611686018427387904 from om),z2s,z23,z2f,z12,obind,z8,z1y,z2e hb.1,hw]
 unfold reserveS
 refine st (by (simp only[yi,yf])) (fun _=>rfl) fun hV=>?_
 refine st (by (simp only[yi])) (fun _=>rfl) fun hg=>?_
 refine sr fun _=>?_
 refine sr fun _=>?_
 refine sr fun _=>?_
 obtain⟨_,h3,h4,h5⟩:=h2
 simp only[yp,yn,y1k]
 rw[Ga,Ga,Ga,Ga,Ga]
 rfl
theorem zmx (hb:Small b) (hc:code.length<=1000000) (y d n:Int):F_q6f b code y d n=some (reserveS b code y d n):=by
 have h1:=hb.1.1
 have h2:=hb.1
 have hw:i64.wrap ((b.C.length:Int)+1)=b.C.length+1:=wrapId om om
 open Classical in simp only[F_q6f,S_q6f,Scr.den,Valid_eq hb,z3c (show code.length<=1099511627776 from om),z6c,z34,z26,z4r,z12,obind,z8,z1y,z2a hb.1,hw]
 unfold reserveS
 refine st (by (simp only[yi,yf])) (fun _=>rfl) fun hV=>?_
 refine st (by rw[<- z3b]; exact sa) (fun _=>rfl) fun hg=>?_
 refine sr fun _=>?_
 refine sr fun _=>?_
 refine sr fun _=>?_
 obtain⟨_,h3,h4,h5⟩:=h2
 simp only[yp,yn,y1k]
 rw[Ga,Ga,Ga,Ga,Ga]
 rfl
theorem zhm (hb:Small b) (r d n p u:Int):F_q5k b r d n p u=some (commitS b r d n p u):=by
 have h2:=hb.1
 obtain⟨h1,h3,h4,h5⟩:=h2
 have hw:i64.wrap ((b.H.length:Int)+1)=b.H.length+1:=wrapId om om
 open Classical in simp only[F_q5k,S_q5k,Scr.den,z2b hb,z2s,z23,z2f,z8b,z12,obind,z8,z1y,z2e hb.1,hw]
 unfold commitS
 refine st (by (simp only[yi,yf])) (fun _=>rfl) fun hV=>?_
 refine sr fun hn=>?_
 refine sr fun _=>?_
 have hn:=nnm hn
 have hV:=nnm hV
 rw[z1o hn h1,Gb,zj4 hV.1 hn]
 refine st (by unfold rAt; exact sa) (fun _=>rfl) fun _=>?_
 refine st (by unfold rAt; exact sa) (fun _=>rfl) fun _=>?_
 refine sr fun _=>?_
 refine sr fun _=>?_
 simp only[yp,yn,y1k]
 rw[Ga,Ga,Ga,Ga,Ga]
 rfl
theorem zp7 (hb:Small b) (r d n p u:Int):F_q6g b r d n p u=some (commitS b r d n p u):=by
 have h2:=hb.1
 obtain⟨h1,h3,h4,h5⟩:=h2
 have hw:i64.wrap ((b.H.length:Int)+1)=b.H.length+1:=wrapId om om
 open Classical in simp only[F_q6g,S_q6g,Scr.den,Valid_eq hb,z6c,z34,z26,z4r,z89,z12,obind,z8,z1y,z2a hb.1,hw]
 unfold commitS
 refine st (by (simp only[yi,yf])) (fun _=>rfl) fun hV=>?_
 refine sr fun hn=>?_
 refine sr fun _=>?_
 have hn:=nnm hn
 have hV:=nnm hV
 rw[z1o hn h1,Gb]
 refine st (by unfold rAt; exact sa) (fun _=>rfl) fun _=>?_
 refine st (by unfold rAt; exact sa) (fun _=>rfl) fun _=>?_
 refine st (by unfold rAt; exact sa) (fun _=>rfl) fun _=>?_
 refine sr fun _=>?_
 simp only[yp,yn,y1k]
 rw[Ga,Ga,Ga,Ga,Ga]
 rfl
theorem zhn (hb:Small b) (c d n:Int):F_q5l b c d n=some (verifyS b c d n):=by
 have h2:=hb.1
 obtain⟨h1,h3,h4,h5⟩:=h2
 have hw:i64.wrap ((b.J.length:Int)+1)=b.J.length+1:=wrapId om om
 open Classical in simp only[F_q5l,S_q5l,Scr.den,z2b hb,z2s,z23,z2f,z8a,z12,obind,z8,z1y,z2e hb.1,hw]
 unfold verifyS
 refine st (by (simp only[yi,yf])) (fun _=>rfl) fun hV=>?_
 refine sr fun hn=>?_
 refine sr fun _=>?_
 have hn:=nnm hn
 have hV:=nnm hV
 rw[z65 hb hV.2.1 hn,obind,z1o hn h3,z6f hV.1 hV.2.1 hn]
 refine sr fun _=>?_
 rw[Gb]
 refine st (by unfold cAt; exact sa) (fun _=>rfl) fun _=>?_
 refine st (by unfold cAt; exact sa) (fun _=>rfl) fun _=>?_
 refine sr fun _=>?_
 simp only[yp,yn,y1k]
 rw[Ga,Ga,Ga,Ga,Ga]
 rfl
theorem zp8 (hb:Small b) (c d n:Int):F_q6h b c d n=some (verifyS b c d n):=by
 have h2:=hb.1
 obtain⟨h1,h3,h4,h5⟩:=h2
 have hw:i64.wrap ((b.J.length:Int)+1)=b.J.length+1:=wrapId om om
 open Classical in simp only[F_q6h,S_q6h,Scr.den,Valid_eq hb,z6c,z34,z26,z4r,zfg,z12,obind,z8,z1y,z2a hb.1,hw]
 unfold verifyS
 refine st (by (simp only[yi,yf])) (fun _=>rfl) fun hV=>?_
 refine sr fun hn=>?_
 refine sr fun _=>?_
 have hn:=nnm hn
 have hV:=nnm hV
 have hy:F_q24 b (b.H.getD (c-1).toNat dF)=some (yearOf b c):=zbx hb (hV.2.1.at hn).2.1
 rw[z1o hn h3,Gb,hy,obind,z6f hV.1 hV.2.1 hn]
 refine sr fun _=>?_
 refine st (by unfold cAt; exact sa) (fun _=>rfl) fun _=>?_
 refine st (by unfold cAt; exact sa) (fun _=>rfl) fun _=>?_
 refine sr fun _=>?_
 simp only[yp,yn,y1k]
 rw[Ga,Ga,Ga,Ga,Ga]
 rfl
theorem zp9 (l:List TOr) (h:0<l.length) (x:TOr):l.getD (l.length-1) dF=l.getLastD x:=by
 rw[y8,yd om,y4q,List.getLast?_eq_getElem?,yd om]
 rfl
theorem zj5 (hb:Small b) (v d:Int):F_q5m b v d=some (orderS b v d):=by
 have h2:=hb.1
 obtain⟨h1,h3,h4,h5⟩:=h2
 have hw:i64.wrap ((b.W.length:Int)+1)=b.W.length+1:=wrapId om om
 have hol:(ordersOf b.W v).length<=b.W.length:=y58 _ _
 have hw2:i64.wrap (((ordersOf b.W v).length:Int)+1)=(ordersOf b.W v).length+1:=wrapId om om
 open Classical in simp only[F_q5m,S_q5m,Scr.den,z2b hb,z2s,z2f,zlr h5,obind,z8,za,z2e hb.1,hw,hw2]
 unfold orderS
 refine st (by (simp only[yi,yf])) (fun _=>rfl) fun hV=>?_
 refine sr fun hn=>?_
 refine sr fun _=>?_
 have hn:=nnm hn
 have hV:=nnm hV
 have hv:=(hV.2.2.2.1.at hn).2.1
 have hy:F_q2i b (b.J.getD (v-1).toNat dF).Ac=some (yearOf b (vAt b v).Ac):=z65 hb hV.2.1 hv
 rw[z1o hn h4,Gb,hy,obind,z6f hV.1 hV.2.1 hv]
 refine sr fun _=>?_
 refine st sj (fun _=>rfl) fun _=>?_
 refine st (by unfold vAt; exact sa) (fun _=>rfl) fun _=>?_
 refine sr fun _=>?_
 simp only[yp,yn,y1k]
 rw[Ga,Ga,Ga,Ga,Ga]
 rfl
theorem zco (l:List TOr) (hl:l.length<=1000000) (x:TOr) (f:TOr->Bool):(decide ((l.length:Int)>0)&&f (l.getD (i64.wrap ((l.length:Int)-1)).toNat dF))=(decide ((l.length:Int)>0)&&f (l.getLastD x)):=by
 by_cases h:0<l.length
 ·rw[wrapId om om,show ((l.length:Int)-1).toNat=l.length-1 from om,zp9 l h x]
 ·rw[ya om]; rfl
theorem zrp (hb:Small b) (v d:Int):F_q6i b v d=some (orderS b v d):=by
 have h2:=hb.1
 obtain⟨h1,h3,h4,h5⟩:=h2
 have hw:i64.wrap ((b.W.length:Int)+1)=b.W.length+1:=wrapId om om
 have hol:(ordersOf b.W v).length<=b.W.length:=y58 _ _
 have hw2:i64.wrap (((ordersOf b.W v).length:Int)+1)=(ordersOf b.W v).length+1:=wrapId om om
 have hg:∀ P:Prop,P->((ordersOf b.W v).length:Int)>0->(0:Int)<=i64.wrap (((ordersOf b.W v).length:Int)-1)/\(i64.wrap (((ordersOf b.W v).length:Int)-1)).toNat<(ordersOf b.W v).length:=fun _ _ h=>by
  rw[wrapId om om]; omega
 have a1:=zco (ordersOf b.W v) om noOrder (fun o=>!o.Al)
 have a2:=zco (ordersOf b.W v) om noOrder (fun o=>decide (d<o.Ab))
 open Classical in simp only[F_q6i,S_q6i,Scr.den,Valid_eq hb,z6c,z26,z4r,zgq h5,obind,z8,za,z2a hb.1,hw,hw2,a1,a2]
 unfold orderS
 refine st (by (simp only[yi,yf])) (fun _=>rfl) fun hV=>?_
 refine sr fun hn=>?_
 refine sr fun _=>?_
 have hn:=nnm hn
 have hV:=nnm hV
 have hv:=(hV.2.2.2.1.at hn).2.1
 have hv':1<=(b.J.getD (v-1).toNat dF).Ac/\(b.J.getD (v-1).toNat dF).Ac<=b.H.length:=hv
 have hy:F_q24 b (b.H.getD ((b.J.getD (v-1).toNat dF).Ac-1).toNat dF)=some (yearOf b (vAt b v).Ac):=zbx hb (hV.2.1.at hv).2.1
 rw[z1o hn h4,Gb,z1o hv' h3,hy,obind,Gb,z6f hV.1 hV.2.1 hv]
 refine sr fun _=>?_
 rw[z6 ⟨fun h=>(hg True trivial (by simpa [AllP] using h)).1,fun h=>(hg True trivial (by simpa [AllP] using h)).2,trivial⟩]
 refine st (by simp[lastV]) (fun _=>rfl) fun _=>?_
 rw[z6 ⟨fun h=>(hg True trivial (y1x h.1)).1,fun h=>(hg True trivial (y1x h.1)).2,trivial⟩]
 refine st (by unfold vAt lastV; exact sa) (fun _=>rfl) fun _=>?_
 refine sr fun _=>?_
 simp only[yp,yn,y1k]
 rw[Ga,Ga,Ga,Ga,Ga]
 rfl
theorem zfj (hb:Small b) (r n:Int):F_q5n b r n=some (releaseS b r n):=by
 have h2:=hb.1
 obtain⟨h1,h3,h4,h5⟩:=h2
 open Classical in simp only[F_q5n,S_q5n,Scr.den,z2b hb,z23,z8b,obind,z8,z2e hb.1,yl]
 unfold releaseS
 refine st (by (simp only[yi,yf])) (fun _=>rfl) fun hV=>?_
 refine sr fun hn=>?_
 refine sr fun _=>?_
 refine sr fun _=>?_
 have hn:=nnm hn
 rw[z1o hn h1]
 simp only[yh]
 rw[Ga,Ga,Ga,Gc,Ga]
 rfl
theorem zkm (hb:Small b) (c n:Int):F_q5o b c n=some (dropS b c n):=by
 have h2:=hb.1
 obtain⟨h1,h3,h4,h5⟩:=h2
 open Classical in simp only[F_q5o,S_q5o,Scr.den,z2b hb,z23,z8a,obind,z8,z2e hb.1,yl]
 unfold dropS
 refine st (by (simp only[yi,yf])) (fun _=>rfl) fun hV=>?_
 refine sr fun hn=>?_
 refine sr fun _=>?_
 have hn:=nnm hn
 rw[z1o hn h3,Gb]
 refine st (by unfold cAt; exact sa) (fun _=>rfl) fun _=>?_
 simp only[yh]
 rw[Ga,Ga,Ga,Gb,Ga]
 rfl
theorem zmy (hb:Small b) (r n:Int):F_q6j b r n=some (releaseS b r n):=by
 have h2:=hb.1
 obtain⟨h1,h3,h4,h5⟩:=h2
 open Classical in simp only[F_q6j,S_q6j,Scr.den,Valid_eq hb,z34,z26,ztq,obind,z2a hb.1,yl]
 unfold releaseS
 refine st (by (simp only[yi,yf])) (fun _=>rfl) fun hV=>?_
 refine st (by (simp only[yi,yf])) (fun _=>rfl) fun hn=>?_
 refine st (by (simp only[yi,yf])) (fun _=>rfl) fun _=>?_
 refine sr fun _=>?_
 have hn:=nnm hn
 rw[z1o hn h1]
 simp only[yh]
 rw[Ga,Ga,Ga,Gc,Ga]
 rfl
theorem ztt (hb:Small b) (c n:Int):F_q6k b c n=some (dropS b c n):=by
 have h2:=hb.1
 obtain⟨h1,h3,h4,h5⟩:=h2
 open Classical in simp only[F_q6k,S_q6k,Scr.den,Valid_eq hb,z34,z26,zfg,obind,z2a hb.1,yl]
 unfold dropS
 refine st (by (simp only[yi,yf])) (fun _=>rfl) fun hV=>?_
 refine st (by (simp only[yi,yf])) (fun _=>rfl) fun hn=>?_
 refine st (by (simp only[yi,yf])) (fun _=>rfl) fun _=>?_
 have hn:=nnm hn
 rw[z1o hn h3,Gb]
 refine st (by unfold cAt; exact sa) (fun _=>rfl) fun _=>?_
 simp only[yh]
 rw[Ga,Ga,Ga,Gb,Ga]
 rfl
variable {v:Int}
theorem z8q (h:0<(ordersOf b.W v).length):∃ i,i<b.W.length/\b.W.getD i dF=lastV b v/\(lastV b v).X=v/\ordersOf (b.W.drop (i+1)) v=[]:=by
 have key:∀ l:List TOr,0<(ordersOf l v).length->∃ i,i<l.length/\l.getD i dF=(ordersOf l v).getLastD noOrder/\((ordersOf l v).getLastD noOrder).X=v/\ordersOf (l.drop (i+1)) v=[]:=by
  intro l
  induction l with
  | nil=>intro h; simp[ordersOf] at h
  | cons o l ih =>
   intro h
   by_cases h':0<(ordersOf l v).length
   ·obtain⟨i,h1,h2,h3,h4⟩:=ih h'
    have e:(ordersOf (o :: l) v).getLastD noOrder=(ordersOf l v).getLastD noOrder:=by
     unfold ordersOf at h' |-
     rw[y32]
     split
     ·rw[List.getLastD_cons,y4q,y4q]
      rw[List.getLast?_eq_getElem?,yd om]
      rfl
     ·rfl
    exact⟨i+1,sk,by rw[y3d,e]; exact h2,by rw[e]; exact h3,by rw[List.drop_succ_cons]; exact h4⟩
   ·have e:ordersOf l v=[]:=List.eq_nil_of_length_eq_zero om
    have e2:ordersOf (o :: l) v=if (o.X==v)=true then [o] else []:=by
     unfold ordersOf at e |-
     rw[y32,e]
    rw[e2] at h |-
    by_cases ho:(o.X==v)=true
    ·rw[y6 ho]
     exact⟨0,sj,rfl,eq_of_beq ho,by simpa using e⟩
    ·rw[y5 ho] at h; simp at h
 exact key b.W h
theorem z3r {l:List TOr} {x:TOr}:x∈ordersOf l v↔x∈l/\x.X=v:=by
 unfold ordersOf; rw[y2j,y12]
variable {j:Nat}
theorem zcp (hO:OAll b) (hij:i<j) (hj:j<b.W.length) (hv:(b.W.getD i dF).X=(b.W.getD j dF).X):(b.W.getD i dF).Al=true/\(b.W.getD i dF).Ab<=(b.W.getD j dF).Ab:=by
 have h:=(hO j hj).2.2.2.2.2.2
 have hm:b.W.getD i dF∈ordersOf (b.W.take j) (b.W.getD j dF).X:=by
  rw[z3r]
  refine⟨?_,hv⟩
  have e:b.W.getD i dF=(b.W.take j).getD i dF:=by
   simp only[y8,y4s]
   rw[y6 hij]
  rw[e]
  exact z7 (by rw[y1h]; omega)
 have:=List.any_eq_false.mp h _ hm
 simp only[yc,yi,y7,y4y] at this
 exact⟨by simpa using this.1,om⟩
theorem zkn (hb:Small b) (v:Int):F_q5p b v=some (backS b v):=by
 have h2:=hb.1
 obtain⟨h1,h3,h4,h5⟩:=h2
 open Classical in simp only[F_q5p,S_q5p,Scr.den,z2b hb,zlr h5,obind,z8,z2e hb.1,yl]
 unfold backS
 refine st (by (simp only[yi,yf])) (fun _=>rfl) fun hV=>?_
 refine sr fun hn=>?_
 refine st sj (fun _=>rfl) fun hl=>?_
 have hV:=nnm hV
 obtain⟨i,hi,he,_,_⟩:=z8q (b:=b) (v:=v) om
 have hnum:=(hV.2.2.2.2.2.1 i hi).1
 rw[he] at hnum
 have w:i64.wrap ((lastV b v).S-1)=i:=by rw[wrapId om om]; omega
 rw[w]
 simp only[yh,yb,he]
 rw[Ga,Ga,Ga,Gc,Ga]
 rw[show ((lastV b v).S-1).toNat=i from om]
 rfl
theorem ztu (hb:Small b) (v:Int):F_q2q b v=some (backS b v):=by
 have h2:=hb.1
 obtain⟨h1,h3,h4,h5⟩:=h2
 open Classical in simp only[F_q2q,S_q2q,Scr.den,Valid_eq hb,z26,obind,z2a hb.1]
 unfold backS
 refine st (by (simp only[yi,yf])) (fun _=>rfl) fun hV=>?_
 refine st (by (simp only[yi,yf])) (fun _=>rfl) fun hn=>?_
 have hV:=nnm hV
 rw[Ga,Ga,Ga,Ga]
 rcases zde b.W (fun o=>o.X==v&&!o.Al) (fun i=>(withO b (b.W.set i ⟨(b.W.getD i dF).S,(b.W.getD i dF).X,(b.W.getD i dF).Ak,(b.W.getD i dF).Ab,true⟩),(0:Int))) (body:=fun i s=>(S_q2q_b1 v (b.C,b.H,b.J,b.W) i s).den) (fun i hi=>by
  simp only[S_q2q_b1,Scr.den,yl,za,yh]
  rw[z6 ⟨hi,fun _=>hi,trivial⟩,Ga]
  split <;> rfl) with ⟨e1,e2⟩ | ⟨i,e1,e2,e3,e4⟩
 ·rw[e1]
  simp only[outM]
  rw[y6]
  ·rfl
  ·by_cases hl:(ordersOf b.W v).length=0
   ·exact .inl hl
   ·right
    obtain⟨i,hi,he,hv,_⟩:=z8q (b:=b) (v:=v) om
    have:=e2 _ (z7 hi)
    rw[he,hv] at this
    simpa using this
 ·rw[e4]
  simp only[outM]
  simp only[yg,y12,yi] at e2
  have hmem:b.W.getD i dF∈ordersOf b.W v:=z3r.mpr ⟨z7 e1,e2.1⟩
  have hpos:0<(ordersOf b.W v).length:=y50 hmem
  obtain⟨j,hj,he,hv,hd⟩:=z8q hpos
  have hij:i=j:=by
   rcases y3k i j with h | h | h
   ·have:=(zcp hV.2.2.2.2.2.1 h hj (by rw[he,hv]; exact e2.1)).1
    rw[e2.2] at this; cases this
   ·exact h
   ·exfalso
    have:b.W.getD i dF∈ordersOf (b.W.drop (j+1)) v:=by
     rw[z3r]
     refine⟨?_,e2.1⟩
     have e:b.W.getD i dF=(b.W.drop (j+1)).getD (i-(j+1)) dF:=by
      simp only[y8,y2i]
      rw[show j+1+(i-(j+1))=i from om]
     rw[e]
     exact z7 (by rw[y2t]; omega)
    rw[hd] at this; cases this
  subst hij
  rw[he] at e2
  rw[y5 (by rw[e2.2]; simp; exact List.ne_nil_of_length_pos hpos),he]
  have hnum:=(hV.2.2.2.2.2.1 i hj).1
  rw[he] at hnum
  rw[show ((lastV b v).S-1).toNat=i from om]
  rfl
theorem z39 [Inhabited α] (l:List α) (x:α) (i:Nat) (hi:i<l.length):(l++[x]).getD i dF=l.getD i dF:=by
 simp only[y8]
 rw[ym hi]
theorem z4h [Inhabited α] (l:List α) (x:α):(l++[x]).getD l.length dF=x:=by
 simp[List.getD_eq_getElem?_getD]
theorem z5q [Inhabited α] (l:List α) (x:α) (k i:Nat) (hk:k<l.length):(l.set k x).getD i dF=if i=k then x else l.getD i dF:=by
 simp only[y8,y4x]
 by_cases h:k=i
 ·subst h; simp[hk]
 ·rw[y5 h,y5 (fun e=>h e.symm)]
variable {f:α->Int}
theorem zmz {l:List α} {p:α->Bool} {c:Int} (h:∀ x∈l,0<=f x/\f x<=c) (hl:l.length<=200) (hc:0<=c):0<=sm l p f/\sm l p f<=200 * c:=by
 have h1:=zgo (p:=p) fun x hx=>(h x hx).1
 have h2:=zwi (p:=p) (fun x hx=>(h x hx).2) hc
 have h3:(l.length:Int) * c<=200 * c:=Int.mul_le_mul_of_nonneg_right om hc
 omega
theorem CAll.mem (h:CAll b) {c:TCo} (hc:c∈b.H):CFld b c c.S/\c=cAt b c.S/\1<=c.S/\c.S<=b.H.length:=by
 obtain⟨i,hi,e⟩:=z11 hc
 have h1:=h i hi
 rw[e] at h1
 have hn:=h1.1
 rw[hn]
 refine⟨h1,?_,om,om⟩
 unfold cAt
 rw[<- e]
 congr 1
 omega
theorem RAll.mem (h:RAll b) {r:TRe} (hr:r∈b.C):RFld r r.S/\r=rAt b r.S/\1<=r.S/\r.S<=b.C.length:=by
 obtain⟨i,hi,e⟩:=z11 hr
 have h1:=h i hi
 rw[e] at h1
 have hn:=h1.1
 rw[hn]
 refine⟨h1,?_,om,om⟩
 unfold rAt
 rw[<- e]
 congr 1
 omega
theorem VAll.mem (h:VAll b) {v:TVe} (hv:v∈b.J):VFld b v v.S/\v=vAt b v.S/\1<=v.S/\v.S<=b.J.length:=by
 obtain⟨i,hi,e⟩:=z11 hv
 have h1:=h i hi
 rw[e] at h1
 have hn:=h1.1
 rw[hn]
 refine⟨h1,?_,om,om⟩
 unfold vAt
 rw[<- e]
 congr 1
 omega
theorem zj6 (h:Val b) (n:Int):0<=cmt b n/\cmt b n<=200000000000000:=by
 have:=zmz (l:=b.H) (p:=fun c=>c.Y==n) (f:=(·.V)) (c:=1000000000000) (fun c hc=>by
  have:=(h.2.1.mem hc).1.2.2.2.1
  unfold amtP at this
  omega) h.2.2.2.2.2.2.2.1 om
 exact this
theorem zj7 (h:Val b) (n:Int):0<=ver b n/\ver b n<=200000000000000:=by
 have:=zmz (l:=b.J) (p:=fun c=>c.Ac==n) (f:=(·.V)) (c:=1000000000000) (fun c hc=>by
  have:=(h.2.2.2.1.mem hc).1.2.2.2.1
  unfold amtP at this
  omega) h.2.2.2.2.2.2.2.2.1 om
 exact this
theorem z9r (h:Val b) {r:TRe} (hr:r∈b.C):leftV b r=r.V-r.Ad-cmt b r.S/\0<=leftV b r:=by
 have h1:=zj6 h r.S
 have h2:=(h.1.mem hr).1
 have h3:=h2.2.2.2.2.2.1
 have h4:=h2.2.2.2.2.2.2
 unfold amtP at h3
 exact⟨wrapId om om,h.2.2.1 r hr⟩
theorem zj8 (h:Val b) {c:TCo} (hc:c∈b.H):restV b c=c.V-c.Ad-ver b c.S/\0<=restV b c:=by
 have h1:=zj7 h c.S
 have h2:=(h.2.1.mem hc).1
 have h3:=h2.2.2.2.1
 have h4:=h2.2.2.2.2.1
 unfold amtP at h3
 exact⟨wrapId om om,h.2.2.2.2.1 c hc⟩
theorem zfk (hn:1<=n/\n<=b.C.length):rAt b n∈b.C:=z7 om
theorem ztv (hn:1<=n/\n<=b.H.length):cAt b n∈b.H:=z7 om
theorem valR (h:Val b) {l:List TRe} (hl:b.C.length<=l.length) (h200:l.length<=200) (hR:∀ i,i<l.length->RFld (l.getD i dF) (i+1)) (hs:∀ i,i<b.C.length->(l.getD i dF).Ab=(b.C.getD i dF).Ab/\(l.getD i dF).D=(b.C.getD i dF).D) (hL:∀ r∈l,0<=leftV b r):Val (withR b l):=by
 have hr:∀ n:Int,1<=n/\n<=b.C.length->(rAt (withR b l) n).Ab=(rAt b n).Ab/\(rAt (withR b l) n).D=(rAt b n).D:=fun n hn=>hs (n-1).toNat om
 have hy:∀ n:Int,1<=n/\n<=b.H.length->yearOf (withR b l) n=yearOf b n:=fun n hn=>(hr _ (h.2.1.at hn).2.1).2
 refine⟨hR,fun i hi=>?_,hL,fun i hi=>?_,h.2.2.2.2.1,fun i hi=>?_,h200,h.2.2.2.2.2.2.2⟩
 ·change CFld (withR b l) (b.H.getD i dF) _
  obtain⟨a1,a2,a3,a4,a5,a6,a7,a8,a9⟩:=h.2.1 i hi
  obtain⟨b1,b2⟩:=hr _ a2
  exact⟨a1,⟨a2.1,y3e a2.2 (by simpa [withR] using hl)⟩,a3,a4,a5,a6,a7,by rw[b1]; exact a8,by rw[b2]; exact a9⟩
 ·change VFld (withR b l) (b.J.getD i dF) _
  obtain⟨a1,a2,a3,a4,a5,a6⟩:=h.2.2.2.1 i hi
  exact⟨a1,a2,a3,a4,a5,by rw[hy _ a2]; exact a6⟩
 ·change OFld (withR b l) (b.W.getD i dF) (b.W.take i) _
  obtain⟨a1,a2,a3,a4,a5,a6⟩:=h.2.2.2.2.2.1 i hi
  exact⟨a1,a2,a3,a4,by rw[show vAt (withR b l)=vAt b from rfl,hy _ (h.2.2.2.1.at a2).2.1]; exact a5,a6⟩
theorem valC (h:Val b) {l:List TCo} (hl:b.H.length<=l.length) (h200:l.length<=200) (hC:∀ i,i<l.length->CFld b (l.getD i dF) (i+1)) (hs:∀ i,i<b.H.length->(l.getD i dF).Ab=(b.H.getD i dF).Ab/\(l.getD i dF).Y=(b.H.getD i dF).Y) (hL:∀ r∈b.C,0<=leftV (withC b l) r) (hV:∀ c∈l,0<=restV b c):Val (withC b l):=by
 have hr:∀ n:Int,1<=n/\n<=b.H.length->(cAt (withC b l) n).Ab=(cAt b n).Ab/\(cAt (withC b l) n).Y=(cAt b n).Y:=fun n hn=>hs (n-1).toNat om
 have hy:∀ n:Int,1<=n/\n<=b.H.length->yearOf (withC b l) n=yearOf b n:=fun n hn=>by
  unfold yearOf
  rw[(hr n hn).2]
  rfl
 refine⟨h.1,hC,hL,fun i hi=>?_,hV,fun i hi=>?_,h.2.2.2.2.2.2.1,h200,h.2.2.2.2.2.2.2.2⟩
 ·change VFld (withC b l) (b.J.getD i dF) _
  obtain⟨a1,a2,a3,a4,a5,a6⟩:=h.2.2.2.1 i hi
  exact⟨a1,⟨a2.1,y3e a2.2 (by simpa [withC] using hl)⟩,a3,a4,by rw[(hr _ a2).1]; exact a5,by rw[hy _ a2]; exact a6⟩
 ·change OFld (withC b l) (b.W.getD i dF) (b.W.take i) _
  obtain⟨a1,a2,a3,a4,a5,a6⟩:=h.2.2.2.2.2.1 i hi
  exact⟨a1,a2,a3,a4,by rw[show vAt (withC b l)=vAt b from rfl,hy _ (h.2.2.2.1.at a2).2.1]; exact a5,a6⟩
theorem valV (h:Val b) {l:List TVe} (hl:b.J.length<=l.length) (h200:l.length<=200) (hV:∀ i,i<l.length->VFld b (l.getD i dF) (i+1)) (hs:∀ i,i<b.J.length->l.getD i dF=b.J.getD i dF) (hL:∀ c∈b.H,0<=restV (withV b l) c):Val (withV b l):=by
 have hr:∀ n:Int,1<=n/\n<=b.J.length->vAt (withV b l) n=vAt b n:=fun n hn=>hs (n-1).toNat om
 refine⟨h.1,h.2.1,h.2.2.1,hV,hL,fun i hi=>?_,h.2.2.2.2.2.2.1,h.2.2.2.2.2.2.2.1,h200,h.2.2.2.2.2.2.2.2.2⟩
 change OFld (withV b l) (b.W.getD i dF) (b.W.take i) _
 obtain⟨a1,a2,a3,a4,a5,a6⟩:=h.2.2.2.2.2.1 i hi
 exact⟨a1,⟨a2.1,y3e a2.2 (by simpa [withV] using hl)⟩,a3,by rw[hr _ a2]; exact a4,by rw[hr _ a2]; exact a5,a6⟩
theorem valO (h:Val b) {l:List TOr} (h200:l.length<=200) (hO:∀ i,i<l.length->OFld b (l.getD i dF) (l.take i) (i+1)):Val (withO b l) :=
 ⟨h.1,h.2.1,h.2.2.1,h.2.2.2.1,h.2.2.2.2.1,hO,h.2.2.2.2.2.2.1,h.2.2.2.2.2.2.2.1,h.2.2.2.2.2.2.2.2.1,h200⟩
theorem zj9 (h:Val b) (hn:(b.C.length:Int)<n):cmt b n=0:=by
 unfold cmt
 rw[z9o (q:=fun _=>false) (g:=fun _=>0) fun c hc=>by
  have:=(h.2.1.mem hc).1.2.1
  rw[y5 sk]; rfl]
 have:∀ l:List TCo,sm l (fun _=>false) (fun _=>0)=0:=fun l=>by induction l with
  | nil=>rfl
  | cons x l ih=>rw[z19,ih]; rfl
 exact this _
theorem zrq (h:Val b) (hn:(b.H.length:Int)<n):ver b n=0:=by
 unfold ver
 rw[z9o (q:=fun _=>false) (g:=fun _=>0) fun c hc=>by
  have:=(h.2.2.2.1.mem hc).1.2.1
  rw[y5 sk]; rfl]
 have:∀ l:List TVe,sm l (fun _=>false) (fun _=>0)=0:=fun l=>by induction l with
  | nil=>rfl
  | cons x l ih=>rw[z19,ih]; rfl
 exact this _
variable {y:Int}
theorem zko (h:Val b) (hg:good code=true) (hy:0<=y/\y<=99) (hd:dayP d) (hn:amtP n) (hyr:yr d=y) (hl:(b.C.length:Int)≠200):Val (withR b (b.C++[⟨b.C.length+1,code,y,d,n,0⟩])):=by
 have h200:=h.2.2.2.2.2.2.1
 have hn':=hn
 unfold amtP at hn'
 refine valR h sj sk (fun i hi=>?_) (fun i hi=>by rw[z39 _ _ _ hi]; exact⟨rfl,rfl⟩) fun r hr=>?_
 ·by_cases hi':i<b.C.length
  ·rw[z39 _ _ _ hi']; exact h.1 i hi'
  ·have:i=b.C.length:=by simp at hi; omega
   subst this
   rw[z4h]
   exact⟨rfl,hg,hy,hd,hyr,hn,by simp only; omega⟩
 ·rw[y1n,y2k] at hr
  rcases hr with hr | rfl
  ·exact h.2.2.1 r hr
  ·unfold leftV
   simp only
   rw[zj9 h om,wrapId om om]
   omega
theorem zkp (h:Val b) {r:Int} (hr:1<=r/\r<=b.C.length) (hn:amtP n) (hL:n<=leftN b r):Val (withR b (b.C.set (r-1).toNat ⟨(rAt b r).S,(rAt b r).B,(rAt b r).D,(rAt b r).Ab,(rAt b r).V,i64.wrap ((rAt b r).Ad+n)⟩)):=by
 have h200:=h.2.2.2.2.2.2.1
 have hm:=zfk hr
 obtain⟨f1,f2,f3,f4,f5,f6,f7⟩:=h.1.at hr
 obtain⟨l1,l2⟩:=z9r h hm
 have hc:=zj6 h (rAt b r).S
 rw[zj4 h.1 hr] at hL
 unfold amtP at hn f6
 have hw:i64.wrap ((rAt b r).Ad+n)=(rAt b r).Ad+n:=wrapId om om
 rw[hw]
 have hk:(r-1).toNat<b.C.length:=om
 refine valR h sj sk (fun i hi=>?_) (fun i hi=>?_) fun x hx=>?_
 ·rw[z5q _ _ _ _ hk]
  split
  ·rename_i e
   refine⟨by simp only; omega,f2,f3,f4,f5,f6,by simp only; omega⟩
  ·exact h.1 i (by simpa using hi)
 ·rw[z5q _ _ _ _ hk]
  split
  ·rename_i e
   subst e
   exact⟨rfl,rfl⟩
  ·exact⟨rfl,rfl⟩
 ·rcases y20 hx with hx | rfl
  ·exact h.2.2.1 x hx
  ·unfold leftV
   simp only
   rw[wrapId om om]
   omega
variable {u:Int}
theorem zn0 (h:Val b) {r p:Int} (hr:1<=r/\r<=b.C.length) (hd:dayP d) (hn:amtP n) (hp:1<=p/\p<=1000000) (hu:dayP u) (hy:yr d=(rAt b r).D) (hdr:(rAt b r).Ab<=d) (hL:n<=leftV b (rAt b r)) (hl:(b.H.length:Int)≠200):Val (withC b (b.H++[⟨b.H.length+1,r,d,n,0,p,u⟩])):=by
 have h200:=h.2.2.2.2.2.2.2.1
 have hn':=hn
 unfold amtP at hn'
 have hrm:=zfk hr
 obtain⟨l1,l2⟩:=z9r h hrm
 refine valC h sj sk (fun i hi=>?_) (fun i hi=>by rw[z39 _ _ _ hi]; exact⟨rfl,rfl⟩) (fun x hx=>?_) fun c hc=>?_
 ·by_cases hi':i<b.H.length
  ·rw[z39 _ _ _ hi']; exact h.2.1 i hi'
  ·have:i=b.H.length:=by simp at hi; omega
   subst this
   rw[z4h]
   exact⟨rfl,hr,hd,hn,by simp only; omega,hp,hu,hdr,hy⟩
 ·obtain⟨x1,x2⟩:=z9r h hx
  unfold leftV
  have e:cmt (withC b (b.H++[⟨b.H.length+1,r,d,n,0,p,u⟩])) x.S=cmt b x.S+if (r==x.S)=true then n else 0:=by
   unfold cmt withC
   simp only
   rw[z7x,z19,ze4]
   simp
  have hc:=zj6 h x.S
  have hf:=(h.1.mem hx)
  have hf6:=hf.1.2.2.2.2.2.1
  have hf7:=hf.1.2.2.2.2.2.2
  unfold amtP at hf6
  rw[e]
  split
  ·rename_i er
   have er:=eq_of_beq er
   have:x=rAt b r:=by rw[er]; exact hf.2.1
   rw[<- this] at hL
   rw[wrapId om om]
   omega
  ·rw[wrapId om om]
   omega
 ·rw[y1n,y2k] at hc
  rcases hc with hc | rfl
  ·exact h.2.2.2.2.1 c hc
  ·unfold restV
   simp only
   rw[zrq h om,wrapId om om]
   omega
theorem zrr (h:Val b) {c:Int} (hc:1<=c/\c<=b.H.length) (hn:amtP n) (hL:n<=restV b (cAt b c)):Val (withC b (b.H.set (c-1).toNat ⟨(cAt b c).S,(cAt b c).Y,(cAt b c).Ab,(cAt b c).V,i64.wrap ((cAt b c).Ad+n),(cAt b c).Ah,(cAt b c).Ai⟩)):=by
 have h200:=h.2.2.2.2.2.2.2.1
 have hm:=ztv hc
 obtain⟨f1,f2,f3,f4,f5,f6,f7,f8,f9⟩:=h.2.1.at hc
 obtain⟨l1,l2⟩:=zj8 h hm
 have hv:=zj7 h (cAt b c).S
 unfold amtP at hn
 have f4':=f4
 unfold amtP at f4'
 have hw:i64.wrap ((cAt b c).Ad+n)=(cAt b c).Ad+n:=wrapId om om
 rw[hw]
 have hk:(c-1).toNat<b.H.length:=om
 refine valC h sj sk (fun i hi=>?_) (fun i hi=>?_) (fun x hx=>?_) fun x hx=>?_
 ·rw[z5q _ _ _ _ hk]
  split
  ·rename_i e
   exact⟨by simp only; omega,f2,f3,f4,by simp only; omega,f6,f7,f8,f9⟩
  ·exact h.2.1 i (by simpa using hi)
 ·rw[z5q _ _ _ _ hk]
  split
  ·rename_i e
   subst e
   exact⟨rfl,rfl⟩
  ·exact⟨rfl,rfl⟩
 ·have e:∀ m,cmt (withC b (b.H.set (c-1).toNat ⟨(cAt b c).S,(cAt b c).Y,(cAt b c).Ab,(cAt b c).V,(cAt b c).Ad+n,(cAt b c).Ah,(cAt b c).Ai⟩)) m=cmt b m:=fun m=>by
   unfold cmt withC
   simp only
   rw[zj0 hk _ _ _ dF]
   change _-(if ((cAt b c).Y==m)=true then (cAt b c).V else 0)+(if ((cAt b c).Y==m)=true then (cAt b c).V else 0)=_
   omega
  unfold leftV
  rw[e]
  exact h.2.2.1 x hx
 ·rcases y20 hx with hx | rfl
  ·exact h.2.2.2.2.1 x hx
  ·unfold restV
   simp only
   rw[wrapId om om]
   omega
theorem zn1 (h:Val b) {c:Int} (hc:1<=c/\c<=b.H.length) (hd:dayP d) (hn:amtP n) (hy:yr d<=yearOf b c+1) (hdc:(cAt b c).Ab<=d) (hL:n<=restV b (cAt b c)) (hl:(b.J.length:Int)≠200):Val (withV b (b.J++[⟨b.J.length+1,c,d,n⟩])):=by
 have h200:=h.2.2.2.2.2.2.2.2.1
 have hn':=hn
 unfold amtP at hn'
 refine valV h sj sk (fun i hi=>?_) (fun i hi=>z39 _ _ _ hi) fun x hx=>?_
 ·by_cases hi':i<b.J.length
  ·rw[z39 _ _ _ hi']; exact h.2.2.2.1 i hi'
  ·have:i=b.J.length:=by simp at hi; omega
   subst this
   rw[z4h]
   exact⟨rfl,hc,hd,hn,hdc,hy⟩
 ·obtain⟨x1,x2⟩:=zj8 h hx
  unfold restV
  have e:ver (withV b (b.J++[⟨b.J.length+1,c,d,n⟩])) x.S=ver b x.S+if (c==x.S)=true then n else 0:=by
   unfold ver withV
   simp only
   rw[z7x,z19,ze4]
   simp
  have hv:=zj7 h x.S
  have hf:=(h.2.1.mem hx)
  have hf6:=hf.1.2.2.2.1
  have hf7:=hf.1.2.2.2.2.1
  unfold amtP at hf6
  rw[e]
  split
  ·rename_i er
   have er:=eq_of_beq er
   have:x=cAt b c:=by rw[er]; exact hf.2.1
   rw[<- this] at hL
   rw[wrapId om om]
   omega
  ·rw[wrapId om om]
   omega
theorem zpa (h:Val b) (hv:1<=v/\v<=b.J.length) (hd:dayP d) (hy:yr d<=yearOf b (vAt b v).Ac+1) (hdv:(vAt b v).Ab<=d) (hb:0<(ordersOf b.W v).length->(lastV b v).Al=true/\(lastV b v).Ab<=d) (hl:(b.W.length:Int)≠200):Val (withO b (b.W++[⟨b.W.length+1,v,(ordersOf b.W v).length+1,d,false⟩])):=by
 have h200:=h.2.2.2.2.2.2.2.2.2
 refine valO h sk fun i hi=>?_
 by_cases hi':i<b.W.length
 ·rw[z39 _ _ _ hi',List.take_append_of_le_length om]; exact h.2.2.2.2.2.1 i hi'
 ·have:i=b.W.length:=by simp at hi; omega
  subst this
  rw[z4h,List.take_left]
  refine⟨rfl,hv,hd,hdv,hy,rfl,?_⟩
  rw[List.any_eq_false]
  intro x hx
  obtain⟨hx1,hx2⟩:=z3r.mp hx
  obtain⟨j,hj,he⟩:=z11 hx1
  obtain⟨k,hk,hke,hkv,hkd⟩:=z8q (b:=b) (v:=v) (y50 hx)
  obtain⟨hb1,hb2⟩:=hb (y50 hx)
  simp only at hx2
  have:x.Al=true/\x.Ab<=d:=by
   rcases y3k j k with hjk | hjk | hjk
   ·have:=zcp h.2.2.2.2.2.1 hjk hk (by rw[he,hke,hx2,hkv])
    rw[he,hke] at this
    exact⟨this.1,om⟩
   ·subst hjk
    rw[<- he,hke]; exact⟨hb1,hb2⟩
   ·exfalso
    have hm:x∈ordersOf (b.W.drop (k+1)) v:=by
     rw[z3r]
     refine⟨?_,hx2⟩
     have e:x=(b.W.drop (k+1)).getD (j-(k+1)) dF:=by
      rw[<- he]
      simp only[y8,y2i]
      rw[show k+1+(j-(k+1))=j from om]
     rw[e]
     exact z7 (by rw[y2t]; omega)
    rw[hkd] at hm; cases hm
  simp only[this.1,y27,y3n,y7]
  omega
theorem zpb (l:List TOr) (i:Nat) (y:TOr) (hi:i<l.length) (hy:y.X=(l.getD i dF).X/\y.Ab=(l.getD i dF).Ab/\y.Al=true) (v d:Int) :
  (ordersOf (l.set i y) v).length=(ordersOf l v).length/\((ordersOf l v).any (fun x=>!x.Al||decide (x.Ab>d))=false->(ordersOf (l.set i y) v).any (fun x=>!x.Al||decide (x.Ab>d))=false):=by
 induction l generalizing i with
 | nil=>simp at hi
 | cons x l ih =>
  unfold ordersOf at ih |-
  cases i with
  | zero =>
   rw[y4b,y32,y32]
   rw[y47] at hy
   rw[hy.1]
   split
   ·simp only[yn,y52,hy.2.1,hy.2.2,y27,y3n,y37]
    exact⟨trivial,fun h=>⟨h.1.2,h.2⟩⟩
   ·exact⟨rfl,fun h=>h⟩
  | succ i =>
   rw[y3d] at hy
   have:=ih i (by simpa using hi) hy
   rw[y3u,y32,y32]
   split
   ·simp only[yn,y52,y37]
    exact⟨by rw[this.1],fun h=>⟨h.1,this.2 h.2⟩⟩
   ·exact this
theorem zrs (h:Val b) (hl:0<(ordersOf b.W v).length):Val (withO b (b.W.set ((lastV b v).S-1).toNat ⟨(lastV b v).S,(lastV b v).X,(lastV b v).Ak,(lastV b v).Ab,true⟩)):=by
 have h200:=h.2.2.2.2.2.2.2.2.2
 obtain⟨i,hi,he,hv,hd⟩:=z8q hl
 have hf:=h.2.2.2.2.2.1 i hi
 rw[he] at hf
 rw[show ((lastV b v).S-1).toNat=i by have:=hf.1; omega]
 refine valO h sk fun j hj=>?_
 rw[yh] at hj
 have hj':=h.2.2.2.2.2.1 j hj
 have key:∀ u d:Int,(ordersOf ((b.W.set i ⟨(lastV b v).S,(lastV b v).X,(lastV b v).Ak,(lastV b v).Ab,true⟩).take j) u).length=(ordersOf (b.W.take j) u).length/\((ordersOf (b.W.take j) u).any (fun x=>!x.Al||decide (x.Ab>d))=false->(ordersOf ((b.W.set i ⟨(lastV b v).S,(lastV b v).X,(lastV b v).Ak,(lastV b v).Ab,true⟩).take j) u).any (fun x=>!x.Al||decide (x.Ab>d))=false):=fun u d=>by
  rw[List.take_set]
  by_cases hij:i<j
  ·have e:(b.W.take j).getD i dF=lastV b v:=by
    rw[<- he]
    simp only[y8,y4s]
    rw[y6 hij]
   exact zpb _ i _ (by rw[y1h]; omega) (by rw[e]; exact⟨rfl,rfl,rfl⟩) u d
  ·rw[List.set_eq_of_length_le (by rw[y1h]; omega)]
   exact⟨rfl,fun h=>h⟩
 rw[z5q _ _ _ _ hi]
 split
 ·rename_i e
  subst e
  rw[he] at hj'
  obtain⟨a1,a2,a3,a4,a5,a6,a7⟩:=hj'
  exact⟨a1,a2,a3,a4,a5,by rw[(key _ 0).1]; exact a6,(key _ _).2 a7⟩
 ·obtain⟨a1,a2,a3,a4,a5,a6,a7⟩:=hj'
  exact⟨a1,a2,a3,a4,a5,by rw[(key _ 0).1]; exact a6,(key _ _).2 a7⟩
def TapeOk (s:TTape):Prop:=0<=s.at_/\s.l.length<=500/\s.at_<=s.l.length
theorem zrt (t:List Int):∃ s,F_q5i t=some s/\TapeOk s:=by
 simp only[F_q5i,S_q5i,Scr.den]
 refine⟨_,zgn ⟨?_,?_,trivial⟩ rfl,sj,?_,sj⟩
 ·split <;> omega
 ·split <;> omega
 ·simp only[y1h]
  split <;> omega
variable {s:TTape}
theorem z1c (hs:TapeOk s) (h1:1<=n) (hn:n<=4611686018427387904):∃ v s',F_q2 n s=some (v,s')/\TapeOk s'/\0<=v/\v<n:=by
 obtain⟨a1,a2,a3⟩:=hs
 simp only[F_q2,S_q2,Scr.den]
 by_cases hc:s.at_>=(s.l.length:Int)
 ·rw[y6 (by simp[hc])]
  exact⟨0,s,rfl,⟨a1,a2,a3⟩,om,om⟩
 ·rw[y5 sk]
  have e1:i64.wrap (s.at_+1)=s.at_+1:=wrapId om om
  rw[e1,Gc]
  generalize s.l.getD s.at_.toNat dF=x
  have t1:x.tmod n<n:=Int.tmod_lt_of_pos x om
  have t2:-n<x.tmod n:=Int.lt_tmod_of_pos x om
  have e3:i64.wrap (x.tmod n+n)=x.tmod n+n:=wrapId om om
  rw[e3]
  have ht:TapeOk ⟨s.l,s.at_+1⟩:=⟨by simp only; omega,a2,by simp only; omega⟩
  split
  ·rename_i h
   simp only[y7] at h
   exact⟨_,_,rfl,ht,om,om⟩
  ·rename_i h
   simp only[y7] at h
   exact⟨_,_,rfl,ht,om,om⟩
theorem z2u {lo hi:Int} (hs:TapeOk s) (h0:-1000000000000000<=lo) (h1:lo<=hi) (h2:hi<=1000000000000000):∃ v s',F_q1g lo hi s=some (v,s')/\TapeOk s'/\lo<=v/\v<=hi:=by
 simp only[F_q1g,S_q1g,Scr.den]
 rw[wrapId (n:=hi-lo) om om,wrapId (n:=hi-lo+1) om om]
 obtain⟨v,s',h3,h4,h5,h6⟩:=z1c (n:=hi-lo+1) hs om om
 refine⟨lo+v,s',?_,h4,om,om⟩
 rw[h3,obind]
 simp only
 rw[wrapId (n:=lo+v) om om]
theorem z15 {l:List Int} (hs:TapeOk s) (h0:1<=l.length) (h1:l.length<=100):∃ v s',F_q8 l s=some (v,s')/\TapeOk s'/\v∈l:=by
 simp only[F_q8,S_q8,Scr.den]
 obtain⟨v,s',h3,h4,h5,h6⟩:=z1c (n:=(l.length:Int)) hs om om
 refine⟨_,s',?_,h4,z7 (show v.toNat<l.length from om)⟩
 rw[h3,obind,z6 ⟨by simpa using h5,by simp only; omega,trivial⟩]
theorem zja (hs:TapeOk s):∃ c s',F_q5r s=some (c,s')/\TapeOk s'/\c.length<=60/\good c=true:=by
 simp only[F_q5r,S_q5r,Scr.den]
 obtain⟨v,s',h3,h4,h5,h6⟩:=z1c (n:=3) hs om om
 have h:∀ c∈([[49],[49,46,50],[50]]:List Y8),c.length<=60/\good c=true:=dk
 refine⟨_,s',?_,h4,h _ (z7 (show v.toNat<3 from om))⟩
 rw[h3,obind,z6 ⟨by simpa using h5,by simp only; omega,trivial⟩]
theorem zpc:Val nb:=by
 refine⟨fun i hi=>?_,fun i hi=>?_,fun r hr=>?_,fun i hi=>?_,fun r hr=>?_,fun i hi=>?_,dk,dk,dk,dk⟩
 ·exact absurd hi (y3a _)
 ·exact absurd hi (y3a _)
 ·cases hr
 ·exact absurd hi (y3a _)
 ·cases hr
 ·exact absurd hi (y3a _)
def mt (b:TBo) (code:Y8) (y n:Int):Bool:=(rAt b n).B==code&&(rAt b n).D==y
theorem zwj:i64.wrap 0=0:=wrapId om om
def eV:TVe:=⟨1,1,4340,50⟩
theorem ztw (b:TBo) (c:TCo) (m:Int):rel (withC b (b.H++[c])) m=rel b m+if (c.Y==m)=true then c.Ad else 0:=by
 unfold rel withC
 simp only
 rw[z7x,z19,ze4]
 simp
theorem zru (b:TBo) (c:TCo) (h0:c.Ad=0) (code:Y8) (y:Int):usedV (withC b (b.H++[c])) code y=usedV b code y:=by
 unfold usedV
 congr 1
 change sm b.C _ _=sm b.C _ _
 refine z9o fun r _=>?_
 simp only[ztw,h0]
 simp
theorem ztx (l:List α) (p:α->Bool):sm l p (fun _=>0)=0:=by
 induction l with
 | nil=>rfl
 | cons x l ih=>rw[z19,ih]; split <;> rfl
theorem zpd {α:Type} [Inhabited α] {num:α->Int} {q:Int->Bool} {p:α->Bool} (a:Int):∀ (l:List α) (i:Nat),i<l.length->(∀ j,j<l.length->j≠i->num (l.getD j dF)≠num (l.getD i dF))->p (l.getD i dF)=q (num (l.getD i dF)) ->
  sm l p (fun x=>if (num (l.getD i dF)==num x)=true then a else 0)=if q (num (l.getD i dF))=true then a else 0
 | [],i,hi,_,_=>by simp at hi
 | x :: l,0,hi,hd,hp=>by
  rw[y47] at hp hd |-
  rw[z19,hp]
  have:sm l p (fun y=>if (num x==num y)=true then a else 0)=sm l p (fun _=>0):=z9o fun y hy=>by
   obtain⟨j,hj,e⟩:=z11 hy
   have:=hd (j+1) sk om
   rw[y3d,e] at this
   have e2:(num x==num y)=false:=by simpa using fun h=>this h.symm
   rw[e2]; simp
  rw[this,ztx]
  simp
 | x :: l,i+1,hi,hd,hp=>by
  rw[y3d] at hp hd |-
  rw[z19,zpd a l i (by simpa using hi) (fun j hj hji=>by
   have:=hd (j+1) sk om
   rwa [y3d] at this) hp]
  have:=hd 0 sj om
  rw[y47] at this
  have e2:(num (l.getD i dF)==num x)=false:=by simpa using fun h=>this h.symm
  rw[e2]; simp
theorem zvn (h:Val b) (code:Y8) (y:Int) {r:TRe} (hr:r∈b.C):mt b code y r.S=(r.B==code&&r.D==y):=by
 unfold mt
 rw[<- (h.1.mem hr).2.1]
theorem zu {_:Decidable P} {a b:TBo×Int} (h:(if P then a else b).2=0) (ha:a.2≠0):(if P then a else b)=b/\¬ P:=by
 by_cases hp:P
 ·rw[y6 hp] at h; exact absurd h ha
 ·exact⟨y5 hp,hp⟩
theorem zjb {r p:Int} (h0:(commitS b r d n p u).2=0) (code:Y8) (y:Int):usedV (commitS b r d n p u).1 code y=usedV b code y:=by
 unfold commitS at h0 |-
 obtain⟨e,_⟩:=zu h0 dk; rw[e] at h0 |-; clear e
 obtain⟨e,_⟩:=zu h0 dk; rw[e] at h0 |-; clear e
 obtain⟨e,_⟩:=zu h0 dk; rw[e] at h0 |-; clear e
 obtain⟨e,_⟩:=zu h0 dk; rw[e] at h0 |-; clear e
 obtain⟨e,_⟩:=zu h0 dk; rw[e] at h0 |-; clear e
 obtain⟨e,_⟩:=zu h0 dk; rw[e] at h0 |-; clear e
 obtain⟨e,_⟩:=zu h0 dk; rw[e] at h0 |-; clear e
 exact zru _ _ rfl _ _
theorem zjc {c:Int} (h0:(verifyS b c d n).2=0) (code:Y8) (y:Int):usedV (verifyS b c d n).1 code y=usedV b code y:=by
 unfold verifyS at h0 |-
 obtain⟨e,_⟩:=zu h0 dk; rw[e] at h0 |-; clear e
 obtain⟨e,_⟩:=zu h0 dk; rw[e] at h0 |-; clear e
 obtain⟨e,_⟩:=zu h0 dk; rw[e] at h0 |-; clear e
 obtain⟨e,_⟩:=zu h0 dk; rw[e] at h0 |-; clear e
 obtain⟨e,_⟩:=zu h0 dk; rw[e] at h0 |-; clear e
 obtain⟨e,_⟩:=zu h0 dk; rw[e] at h0 |-; clear e
 obtain⟨e,_⟩:=zu h0 dk; rw[e] at h0 |-; clear e
 rfl
theorem zkq (h0:(orderS b v d).2=0) (code:Y8) (y:Int):usedV (orderS b v d).1 code y=usedV b code y:=by
 unfold orderS at h0 |-
 obtain⟨e,_⟩:=zu h0 dk; rw[e] at h0 |-; clear e
 obtain⟨e,_⟩:=zu h0 dk; rw[e] at h0 |-; clear e
 obtain⟨e,_⟩:=zu h0 dk; rw[e] at h0 |-; clear e
 obtain⟨e,_⟩:=zu h0 dk; rw[e] at h0 |-; clear e
 obtain⟨e,_⟩:=zu h0 dk; rw[e] at h0 |-; clear e
 obtain⟨e,_⟩:=zu h0 dk; rw[e] at h0 |-; clear e
 obtain⟨e,_⟩:=zu h0 dk; rw[e] at h0 |-; clear e
 rfl
theorem zlt {p:α->Bool} {l:List α} (h:∀ x∈l,p x=false):sm l p f=0:=by
 induction l with
 | nil=>rfl
 | cons x l ih=>rw[z19,h x sj,ih fun y hy=>h y (by simp[hy])]; rfl
theorem z4b (b:TBo) (code:Y8) (y:Int):F_qp b code y=some (usedV b code y):=by
 simp only[F_qp,S_qp,Scr.den]
 rw[z1x b.C (fun (s:Int) r=>if (r.B==code&&r.D==y)=true then i64.wrap (s+(r.V-r.Ad-rel b r.S)) else s)]
 ·have:=zb2 b.C (fun r=>r.B==code&&r.D==y) (fun r=>r.V-r.Ad-rel b r.S) 0
  rw[zwj] at this
  simp only[outM,this]
  simp[usedV]
 ·intro i s hi
  simp only[S_qp_b2,Scr.den,z8]
  obtain⟨r,hr⟩:∃ r,b.C.getD i dF=r:=⟨_,rfl⟩
  simp only[hr]
  cases hp:(r.B==code&&r.D==y)
  ·rw[y6 (by
    cases h1:r.B==code
    ·rfl
    ·rw[h1] at hp; simpa [bne] using hp)]
   rfl
  ·simp only[yg] at hp
   rw[y5 (by simp only[bne,hp.1,hp.2]; decide),zb0]
   rw[z1x b.H (fun (s:Int) c=>if (c.Y==r.S)=true then i64.wrap (s-c.Ad) else s)]
   ·have:=zb3 b.H (fun c=>c.Y==r.S) (·.Ad) (s+(r.V-r.Ad))
    simp only[outM,this,y17]
    unfold rel
    congr 3
    omega
   ·intro j s hj
    simp only[S_qp_b1,Scr.den,hr]
    split <;> rfl
theorem z45 {a b:Y8} (ha:good a=true) (hb:good b=true):F_q14 a b=some (lexC (parts a) (parts b)):=by
 have h1:=(z35 ha).2
 have h2:=(z35 hb).2
 simp only[F_q14,S_q14,Scr.den,zb8 ha,zb8 hb,obind,z8]
 rw[y5 (by simp only[yc,y12]; omega)]
 generalize parts a=x at h1
 generalize parts b=y at h2
 generalize hF:(fun s=>(S_q14_b1 x y s).den)=F
 have key:∀ (k i:Nat),i+k=x.length->i<=y.length->outM (iterM F (i:Int)) (fun _=>if decide ((x.length:Int)<(y.length:Int))=true then some (-1) else if decide ((x.length:Int)>(y.length:Int))=true then some 1 else some 0) (fun r=>some (id r))=some (lexC (x.drop i) (y.drop i)):=by
  intro k
  induction k with
  | zero =>
   intro i hk hy
   rw[z2j,<- y4i hF]
   simp only[S_q14_b1,Scr.den,za]
   rw[y5 (by simp only[yg,y7]; omega),y1j om]
   simp only[outM]
   by_cases h:y.length<=i
   ·rw[y1j h,y5 sk,y5 sk]; rfl
   ·rw[y1g (by omega:i<y.length),y6 sk]; rfl
  | succ k ih =>
   intro i hk hy
   have hi:i<x.length:=om
   rw[z2j,<- y4i hF,y1g hi]
   simp only[S_q14_b1,Scr.den,za]
   by_cases h:y.length<=i
   ·rw[y5 (by simp only[yg,y7]; omega),y1j h]
    simp only[outM]
    rw[y5 sk,y6 sk]; rfl
   ·have hj:i<y.length:=om
    have w1:i64.wrap ((i:Int)+1)=((i+1:Nat):Int):=by rw[wrapId om om]; omega
    rw[y6 (by simp only[yg,y7]; omega),Gc,y1g hj]
    simp only[yb,z20 hi,z20 hj,lexC]
    by_cases h1:x[i]<y[i]
    ·rw[y6 (y9 h1),y6 h1]; rfl
    ·rw[y5 (by simpa using h1),y5 h1]
     by_cases h2:x[i]>y[i]
     ·rw[y6 (y9 h2),y6 h2]; rfl
     ·rw[y5 (by simpa using h2),y5 h2,w1]
      exact ih (i+1) om om
 have:=key x.length 0 om om
 simpa using this
def RtOk (r:TRi):Prop:=good r.B=true/\(0<=r.D/\r.D<=99)/\(0<=r.A/\r.A<=1000000000000000)/\(0<=r.F/\r.F<=1000000000000000)/\(0<=r.Q/\r.Q<=r.A)
instance (r:TRi):Decidable (RtOk r):=inferInstanceAs (Decidable (_/\_))
theorem z13 (n a b:Int):F_qh n a b=some (decide (a<=n/\n<=b)):=by
 simp only[F_qh,S_qh,Scr.den,za,y41,Bool.decide_and]
theorem z56 (n:Int):F_q1n n=some (decide (0<=n/\n<=1000000000000000)):=by
 simp only[F_q1n,S_q1n,Scr.den,z13,obind]
variable {r:TRi}
theorem z3l (h:r.B.length<=1000000):F_q3r r=some (decide (RtOk r)):=by
 open Classical in simp only[F_q3r,S_q3r,F_q37,S_q37,Scr.den,z3c (show r.B.length<=1099511627776 from om),z13,z56,z12,obind,za,z6d]
 refine y15 some ?_
 have e:decide (((parts r.B).length:Int)>0)=good r.B:=by rw[<- z3b]; rw[y1s]; simp
 rw[e,y1s]
 simp only[RtOk,yg,y7,and_assoc]
theorem z57 (h:r.B.length<=1000000):F_q3l r=some (decide (RtOk r)):=by
 open Classical in simp only[F_q3l,S_q3l,F_qo,S_qo,Scr.den,z2w (show r.B.length<4611686018427387904 from om),z12,obind,za,z6d]
 refine y15 some ?_
 rw[y1s]
 simp only[RtOk,yg,y7,and_assoc,y41]
theorem z3s [Inhabited α] (l:List α) (p:α->Bool) (v:Nat->ρ) (hs:∀ i,i<l.length->body i ()=some (if p (l.getD i dF)=true then .ret (v i) else .cont ())) :
  rangeM body l.length 0 ()=some (if l.any p=true then .ret (v (l.findIdx p)) else .next ()):=by
 have key:∀ (k i:Nat),i+k=l.length->rangeM body k i ()=some (if (l.drop i).any p=true then .ret (v (i+(l.drop i).findIdx p)) else .next ()):=by
  intro k
  induction k with
  | zero=>intro i hk; rw[y1j om]; rfl
  | succ k ih =>
   intro i hk
   have hi:i<l.length:=om
   have e:l.getD i dF=l[i]:=by simp[List.getD_eq_getElem?_getD,List.getElem?_eq_getElem hi]
   rw[y1g hi]
   simp only[rangeM,hs i hi,e,y52,List.findIdx_cons]
   cases hp:p l[i] with
   | true=>simp
   | false =>
    simp only[yo,yx,y3n,cond_false]
    rw[ih (i+1) om,show i+1+(l.drop (i+1)).findIdx p=i+((l.drop (i+1)).findIdx p+1) from om]
 have:=key l.length 0 om
 simpa using this
def isR (c:Y8) (y:Int) (r:TRi):Bool:=r.B==c&&r.D==y
variable {c:Y8}
theorem zlu:isR c y r=true↔r.B=c/\r.D=y:=by simp[isR]
def hasR (l:List TRi) (c:Y8) (y:Int):Bool:=l.any (isR c y)
def rix (l:List TRi) (c:Y8) (y:Int):Nat:=l.findIdx (isR c y)
def rightV (l:List TRi) (c:Y8) (y:Int):TRi:=if hasR l c y=true then l.getD (rix l c y) dF else ⟨c,y,0,0,0⟩
def unusedV (o:TOf) (c:Y8) (y:Int):Int:=i64.wrap (i64.wrap ((rightV o.L c y).A-(rightV o.L c y).Q)-usedV o.Ag c y)
variable {l:List TRi}
theorem z3t (h:hasR l c y=true):rix l c y<l.length/\(l.getD (rix l c y) dF).B=c/\(l.getD (rix l c y) dF).D=y:=by
 have hlt:rix l c y<l.length:=by
  unfold rix
  rw[List.findIdx_lt_length]
  simpa [hasR] using h
 refine⟨hlt,?_⟩
 have:=y3i (xs:=l) (p:=isR c y) (w:=hlt)
 rw[zlu] at this
 rw[show l.getD (rix l c y) dF=l[rix l c y] by simp[List.getD_eq_getElem?_getD,List.getElem?_eq_getElem hlt]]
 exact this
theorem z5r (o:TOf) (c:Y8) (y:Int):F_q4u o c y=some (if hasR o.L c y=true then (rix o.L c y:Int) else -1):=by
 simp only[F_q4u,S_q4u,F_q3e,S_q3e,Scr.den]
 rw[z3s o.L (isR c y) (fun i=>(i:Int))]
 ·unfold hasR
  by_cases h:o.L.any (isR c y)=true
  ·rw[y6 h,y6 h]; rfl
  ·rw[y5 h,y5 h]; rfl
 ·intro i hi
  simp only[S_q3e_b1,F_q7k,S_q7k,Scr.den,obind,za]
  unfold isR
  split <;> rfl
theorem at_eq (o:TOf) (c:Y8) (y:Int):F_q19 o c y=some (if hasR o.L c y=true then (rix o.L c y:Int) else -1):=by
 simp only[F_q19,S_q19,Scr.den]
 rw[z3s o.L (isR c y) (fun i=>(i:Int))]
 ·unfold hasR
  by_cases h:o.L.any (isR c y)=true
  ·rw[y6 h,y6 h]; rfl
  ·rw[y5 h,y5 h]; rfl
 ·intro i hi
  simp only[S_q19_b1,Scr.den,za]
  unfold isR
  split <;> rfl
theorem ze8 (o:TOf) (c:Y8) (y:Int):F_q3q o c y=some (hasR o.L c y):=by
 simp only[F_q3q,S_q3q,Scr.den,z5r,obind]
 cases h:hasR o.L c y
 ·simp
 ·simp
theorem z2k (o:TOf) (c:Y8) (y:Int):F_q21 o c y=some (rightV o.L c y):=by
 simp only[F_q21,S_q21,Scr.den,z5r,obind,rightV]
 by_cases h:hasR o.L c y=true
 ·have:=(z3t h).1
  simp only[y6 h,yb]
  rw[y6 sj,Gb]
 ·simp only[y5 h]
  rw[y5 dk]
theorem z1g (o:TOf) (c:Y8) (y:Int):F_q2j o c y=some (rightV o.L c y):=by
 simp only[F_q2j,S_q2j,Scr.den,at_eq,obind,rightV]
 by_cases h:hasR o.L c y=true
 ·have:=(z3t h).1
  simp only[y6 h,yb]
  rw[y6 sj,Gb]
 ·simp only[y5 h]
  rw[y5 dk]
theorem zbb (o:TOf) (c:Y8) (y:Int):F_q4b o c y=some (unusedV o c y):=by
 simp only[F_q4b,S_q4b,Scr.den,z2k,zbw,obind,unusedV]
theorem zad (o:TOf) (c:Y8) (y:Int):F_q4l o c y=some (unusedV o c y):=by
 simp only[F_q4l,S_q4l,Scr.den,z1g,z4b,obind,unusedV]
def SmO (o:TOf):Prop:=Small o.Ag/\o.L.length<=1000000/\∀ r∈o.L,r.B.length<=1000000
def Srt (l:List TRi):Prop:=∀ i,i<l.length->i=0\/cmpR (l.getD (i-1) dF) (l.getD i dF)<0
def VO (o:TOf):Prop:=(1<=o.S/\o.S<=6)/\o.L.length<=60/\Val o.Ag/\(∀ r∈o.L,RtOk r)/\Srt o.L/\∀ x∈o.Ag.C,hasR o.L x.B x.D=true/\0<=unusedV o x.B x.D
theorem z8r {b:TRi} (h:good a.B=true\/good b.B=true):cmpR a b<0↔lexC (parts a.B) (parts b.B)<0\/(lexC (parts a.B) (parts b.B)=0/\a.D<b.D):=by
 unfold cmpR
 rw[z2t h]
 generalize lexC (parts a.B) (parts b.B)=c
 by_cases hc:c=0
 ·rw[y5 (by simpa using hc)]
  unfold cmpI
  by_cases h1:a.D<b.D
  ·rw[y6 h1]; simp[hc,h1]
  ·rw[y5 h1]
   split <;> simp[hc,h1]
 ·rw[y6 hc]; simp[hc]
theorem z5s {b:TRi} (ha:good a.B=true) (hb:good b.B=true):cmpR a b=0↔a.B=b.B/\a.D=b.D:=by
 unfold cmpR
 rw[z2t (.inl ha)]
 by_cases hc:lexC (parts a.B) (parts b.B)=0
 ·rw[y5 (by simpa using hc)]
  have e:=z7y ha hb (z30 hc)
  unfold cmpI
  by_cases h1:a.D<b.D
  ·rw[y6 h1]; simp; omega
  ·rw[y5 h1]
   by_cases h2:a.D>b.D
   ·rw[y6 h2]; simp; omega
   ·rw[y5 h2]; simp[e]; omega
 ·rw[y6 hc]
  constructor
  ·intro h; exact absurd h hc
  ·rintro⟨h1,_⟩
   exact absurd (by rw[h1]; exact zb6 _) hc
theorem ze9 {b c:TRi} (ha:good a.B=true) (hb:good b.B=true) (h:cmpR a b<0) (h':cmpR b c<0):cmpR a c<0:=by
 rw[z8r (.inl ha)] at h |-
 rw[z8r (.inl hb)] at h'
 rcases h with h | ⟨h,h2⟩
 ·rcases h' with h' | ⟨h',_⟩
  ·exact .inl (z9p h h')
  ·rw[<- z30 h']; exact .inl h
 ·rcases h' with h' | ⟨h',h3⟩
  ·rw[z30 h]; exact .inl h'
  ·rw[z30 h]; exact .inr ⟨h',om⟩
theorem zgr {b:TRi} (ha:good a.B=true):cmpR b a=-cmpR a b:=by
 unfold cmpR
 rw[z2t (.inl ha),z2t (.inr ha),zb7 (parts a.B) (parts b.B)]
 by_cases h:lexC (parts a.B) (parts b.B)=0
 ·rw[y5 om,y5 om]
  unfold cmpI
  by_cases h1:a.D<b.D
  ·rw[y5 om,y6 om,y6 h1]; rfl
  ·by_cases h2:b.D<a.D
   ·rw[y6 h2,y5 h1,y6 om]
   ·rw[y5 h2,y5 om,y5 h1,y5 om]; rfl
 ·rw[y6 om,y6 h]
theorem Srt.lt (h:Srt l) (hg:∀ r∈l,RtOk r):∀ {i j:Nat},i<j->j<l.length->cmpR (l.getD i dF) (l.getD j dF)<0:=by
 intro i j hij
 induction j with
 | zero=>omega
 | succ j ih =>
  intro hj
  have h1:=(h (j+1) hj).resolve_left om
  rw[show j+1-1=j from om] at h1
  by_cases e:i=j
  ·subst e; exact h1
  ·exact ze9 (hg _ (z7 om)).1 (hg _ (z7 om)).1 (ih om om) h1
theorem zkr {n:Nat} {c:ρ} (p:Nat->Prop) (hy:∀ i,i<n->(∀ j,j<i->p j)->p i->body i ()=some (.cont ())) (hn:∀ i,i<n->(∀ j,j<i->p j)->¬ p i->body i ()=some (.ret c)) :
  ((∀ j,j<n->p j)->rangeM body n 0 ()=some (.next ()))/\((¬ ∀ j,j<n->p j)->rangeM body n 0 ()=some (.ret c)):=by
 have key:∀ (k i:Nat),i+k=n->(∀ j,j<i->p j)->((∀ j,j<n->p j)->rangeM body k i ()=some (.next ()))/\((¬ ∀ j,j<n->p j)->rangeM body k i ()=some (.ret c)):=by
  intro k
  induction k with
  | zero =>
   intro i hk hp
   exact⟨fun _=>rfl,fun h=>absurd (fun j hj=>hp j om) h⟩
  | succ k ih =>
   intro i hk hp
   by_cases hpi:p i
   ·have hp':∀ j,j<i+1->p j:=fun j hj=>by
     rcases y10 j i with h | h
     ·exact hp j h
     ·obtain rfl:j=i:=om
      exact hpi
    have:=ih (i+1) om hp'
    simp only[rangeM,hy i om hp hpi]
    exact this
   ·simp only[rangeM,hn i om hp hpi]
    exact⟨fun h=>absurd (h i om) hpi,fun _=>trivial⟩
 exact key n 0 om (fun j hj=>om)
theorem zjd (i:Nat) (hi:i<9223372036854775808):(i64.wrap ((i:Int)-1)).toNat=i-1:=by rw[wrapId om om]; omega
variable {o:TOf}
theorem z7z (hs:SmO o) (hi:i<o.L.length) :
  (S_qw_b1 o i ()).den=if RtOk (o.L.getD i dF)/\(i=0\/cmpR (o.L.getD (i-1) dF) (o.L.getD i dF)<0) then some (.cont ()) else some (.ret false):=by
 have h1:=hs.2.2 _ (z7 hi)
 have h2:=hs.2.2 _ (z7 (l:=o.L) (i:=i-1) om)
 have hl:=hs.2.1
 simp only[S_qw_b1,Scr.den,zjd i (show i<9223372036854775808 from om)]
 generalize o.L.getD i dF=r at h1 |-
 generalize o.L.getD (i-1) dF=r' at h2 |-
 simp only[z3l h1,z7g h2 h1,obind,za,z8]
 by_cases hR:RtOk r
 ·by_cases h0:i=0
  ·subst h0
   rw[Gh,obind,z6 ⟨fun h=>by simp[AllP] at h,fun h=>by simp[AllP] at h,trivial⟩,y5 (by simp[hR]),y6 ⟨hR,.inl rfl⟩]
  ·rw[zg (by exact⟨sk,by simp[hR],trivial⟩),obind,z6 ⟨fun _=>by rw[wrapId om om]; omega,fun _=>om,trivial⟩]
   by_cases hc:cmpR r' r<0
   ·rw[y5 (by intro h; simp[hR] at h; exact absurd hc (y2v.2 h.2)),y6 ⟨hR,.inr hc⟩]
   ·rw[y6 (by simp[hR]; exact⟨om,y2v.1 hc⟩),y5 (fun h=>h.2.elim h0 hc)]
 ·rw[zj (by simp[AllP,hR]),obind,z6 ⟨fun h=>by simp[AllP,hR] at h,fun h=>by simp[AllP,hR] at h,trivial⟩,y6 (by simp[hR]),y5 (fun h=>hR h.1)]
theorem z80 (o:TOf) (i:Nat) :
  (S_qw_b2 o i ()).den=if hasR o.L (o.Ag.C.getD i dF).B (o.Ag.C.getD i dF).D=true/\0<=unusedV o (o.Ag.C.getD i dF).B (o.Ag.C.getD i dF).D then some (.cont ()) else some (.ret false):=by
 simp only[S_qw_b2,Scr.den,ze8,zbb,obind,z8]
 generalize o.Ag.C.getD i dF=r
 by_cases hh:hasR o.L r.B r.D=true
 ·rw[zg (by exact⟨by simp[hh],trivial⟩),obind]
  by_cases hu:0<=unusedV o r.B r.D
  ·rw[y5 (by intro h; simp[hh] at h; exact absurd hu (y4j.2 h)),y6 ⟨hh,hu⟩]
  ·rw[y6 (by simp[hh]; exact y4j.1 hu),y5 (fun h=>hu h.2)]
 ·rw[zj (by simp[AllP,hh]),obind,y6 (by simp[hh]),y5 (fun h=>hh h.1)]
theorem z46 [Inhabited α] {l:List α} {p:α->Prop} (h:∀ i,i<l.length->p (l.getD i dF)):∀ x∈l,p x:=fun x hx=>by
 obtain⟨i,hi,rfl⟩:=y3q hx
 have:=h i hi
 rwa [show l.getD i dF=l[i] by simp[List.getD_eq_getElem?_getD,List.getElem?_eq_getElem hi]] at this
open Classical in
theorem z8s (hs:SmO o):F_qw o=some (decide (VO o)):=by
 simp only[F_qw,S_qw,Scr.den,Valid_eq hs.1,z12,obind,z8,z1y]
 by_cases h0:(1<=o.S/\o.S<=6)/\o.L.length<=60/\Val o.Ag
 ·obtain⟨⟨a1,a2⟩,a3,a4⟩:=h0
  rw[y5 (by simp[a4]; omega)]
  by_cases h1:∀ j,j<o.L.length->RtOk (o.L.getD j dF)/\(j=0\/cmpR (o.L.getD (j-1) dF) (o.L.getD j dF)<0)
  ·rw[(zl _ (fun i hi h=>by rw[z7z hs hi,y6 h]) (fun i hi h=>by rw[z7z hs hi,y5 h])).1 h1]
   simp only[outM]
   by_cases h2:∀ j,j<o.Ag.C.length->hasR o.L (o.Ag.C.getD j dF).B (o.Ag.C.getD j dF).D=true/\0<=unusedV o (o.Ag.C.getD j dF).B (o.Ag.C.getD j dF).D
   ·rw[(zl _ (fun i hi h=>by rw[z80 o i,y6 h]) (fun i hi h=>by rw[z80 o i,y5 h])).1 h2]
    simp only
    rw[y9 ⟨⟨a1,a2⟩,a3,a4,z46 fun i hi=>(h1 i hi).1,fun i hi=>(h1 i hi).2,z46 h2⟩]
   ·rw[(zl _ (fun i hi h=>by rw[z80 o i,y6 h]) (fun i hi h=>by rw[z80 o i,y5 h])).2 h2]
    simp only
    rw[ya (fun h=>h2 fun j hj=>h.2.2.2.2.2 _ (z7 hj))]; rfl
  ·rw[(zl _ (fun i hi h=>by rw[z7z hs hi,y6 h]) (fun i hi h=>by rw[z7z hs hi,y5 h])).2 h1]
   simp only[outM]
   rw[ya (fun h=>h1 fun j hj=>⟨h.2.2.2.1 _ (z7 hj),h.2.2.2.2.1 j hj⟩)]; rfl
 ·rw[y6,ya (fun h=>h0 ⟨h.1,h.2.1,h.2.2.1⟩)]
  simp only[yc,y7,yi,yf]
  by_cases hv:Val o.Ag
  ·left
   have:¬ ((1<=o.S/\o.S<=6)/\o.L.length<=60):=fun h=>h0 ⟨h.1,h.2,hv⟩
   omega
  ·exact .inr hv
theorem zpe (h:∀ x∈b.C,¬ (x.B=c/\x.D=y)):usedV b c y=0:=by
 unfold usedV
 rw[zlt fun x hx=>by
  have:=h x hx
  simp only[y3w,y3c,ne_eq]
  by_cases h1:x.B=c
  ·exact .inr fun h2=>this ⟨h1,h2⟩
  ·exact .inl h1]
 exact wrapId om om
theorem has_iff:hasR l c y=true↔∃ r∈l,r.B=c/\r.D=y:=by
 simp only[hasR,y43,zlu]
theorem z3d (h:hasR l c y=true):rightV l c y∈l/\(rightV l c y).B=c/\(rightV l c y).D=y:=by
 unfold rightV
 rw[y6 h]
 obtain⟨h1,h2,h3⟩:=z3t h
 exact⟨z7 h1,h2,h3⟩
theorem zpf (hR:∀ r∈o.L,RtOk r):(∀ x∈o.Ag.C,hasR o.L x.B x.D=true/\0<=unusedV o x.B x.D) ↔
  (∀ r∈o.L,0<=unusedV o r.B r.D)/\∀ x∈o.Ag.C,hasR o.L x.B x.D=true:=by
 constructor
 ·intro h
  refine⟨fun r hr=>?_,fun x hx=>(h x hx).1⟩
  by_cases hx:∃ x∈o.Ag.C,x.B=r.B/\x.D=r.D
  ·obtain⟨x,hx,e1,e2⟩:=hx
   rw[<- e1,<- e2]; exact (h x hx).2
  ·unfold unusedV
   rw[zpe fun x hx' e=>hx ⟨x,hx',e⟩]
   obtain⟨h1,h2,h3⟩:=z3d (has_iff.2 ⟨r,hr,rfl,rfl⟩:hasR o.L r.B r.D=true)
   have h4:=hR _ h1
   unfold RtOk at h4
   rw[wrapId (n:=(rightV o.L r.B r.D).A-(rightV o.L r.B r.D).Q) om om,wrapId om om]
   omega
 ·rintro⟨h1,h2⟩ x hx
  refine⟨h2 x hx,?_⟩
  obtain⟨k1,k2,k3⟩:=z3d (h2 x hx)
  have:=h1 _ k1
  rwa [k2,k3] at this
variable {y':Int}
theorem ltr {c:Int} (h:c<0\/(c=0/\y<y')):¬ (c>0\/c=0/\y>=y'):=om
theorem ltr' {c:Int} (h:¬ (c<0\/(c=0/\y<y'))):c>0\/c=0/\y>=y':=om
theorem zlv (hs:SmO o) (hi:i<o.L.length) (hp:∀ j,j<i->RtOk (o.L.getD j dF)) :
  (S_ql_b1 o i ()).den=if RtOk (o.L.getD i dF)/\0<=unusedV o (o.L.getD i dF).B (o.L.getD i dF).D/\(i=0\/cmpR (o.L.getD (i-1) dF) (o.L.getD i dF)<0) then some (.cont ()) else some (.ret false):=by
 have h1:=hs.2.2 _ (z7 hi)
 have hl:=hs.2.1
 have hq:i≠0->RtOk (o.L.getD (i-1) dF):=fun h=>hp _ om
 have hw:i≠0->i64.wrap ((i:Int)-1)=(i:Int)-1:=fun _=>wrapId om om
 simp only[S_ql_b1,Scr.den,zjd i (show i<9223372036854775808 from om)]
 generalize o.L.getD i dF=r at h1 |-
 generalize o.L.getD (i-1) dF=r' at hq |-
 simp only[z57 h1,zad,obind,z8,za]
 by_cases hR:RtOk r
 ·rw[zg (by exact⟨by simp[hR],trivial⟩),obind]
  by_cases hu:0<=unusedV o r.B r.D
  ·rw[y5 (by simp[hR]; exact hu)]
   by_cases h0:i=0
   ·subst h0
    rw[y5 sj,y6 ⟨hR,hu,.inl rfl⟩]
   ·rw[y6 sk,z45 (hq h0).1 hR.1,obind,hw h0,Gb,z6 ⟨fun _=>om,fun _=>om,trivial⟩]
    have hc:=z8r (a:=r') (b:=r) (.inr hR.1)
    by_cases hc':cmpR r' r<0
    ·rw[y5 (by
      have:=hc.1 hc'
      simp only[yc,yg,y7,y12]
      exact ltr this),y6 ⟨hR,hu,.inr hc'⟩]
    ·rw[y6 (by
      simp only[yc,yg,y7,y12]
      exact ltr' fun h=>hc' (hc.2 h)),y5 (fun h=>h.2.2.elim h0 hc')]
  ·rw[y6 (by simp[hR]; exact y4j.1 hu),y5 (fun h=>hu h.2.1)]
 ·rw[zj (by simp[AllP,hR]),obind,y6 (by simp[hR]),y5 (fun h=>hR h.1)]
theorem zby (o:TOf) (i:Nat) :
  (S_ql_b2 o i ()).den=if hasR o.L (o.Ag.C.getD i dF).B (o.Ag.C.getD i dF).D=true then some (.cont ()) else some (.ret false):=by
 simp only[S_ql_b2,Scr.den,at_eq,obind]
 generalize o.Ag.C.getD i dF=r
 by_cases hh:hasR o.L r.B r.D=true
 ·rw[y6 hh,y6 hh,y5 sj]
 ·rw[y5 hh,y5 hh,y6 dk]
open Classical in
theorem z7h (hs:SmO o):F_ql o=some (decide (VO o)):=by
 simp only[F_ql,S_ql,Scr.den,z2b hs.1,z12,obind,z8,z1y]
 by_cases h0:(1<=o.S/\o.S<=6)/\o.L.length<=60/\Val o.Ag
 ·obtain⟨⟨a1,a2⟩,a3,a4⟩:=h0
  rw[y5 (by simp[a4]; omega)]
  obtain⟨r1,r2⟩:=zkr (body:=fun i s=>(S_ql_b1 o i s).den) (n:=o.L.length) (c:=false) (fun j=>RtOk (o.L.getD j dF)/\0<=unusedV o (o.L.getD j dF).B (o.L.getD j dF).D/\(j=0\/cmpR (o.L.getD (j-1) dF) (o.L.getD j dF)<0))
   (fun i hi hp h=>by rw[zlv hs hi (fun j hj=>(hp j hj).1),y6 h]) (fun i hi hp h=>by rw[zlv hs hi (fun j hj=>(hp j hj).1),y5 h])
  by_cases h1:∀ j,j<o.L.length->RtOk (o.L.getD j dF)/\0<=unusedV o (o.L.getD j dF).B (o.L.getD j dF).D/\(j=0\/cmpR (o.L.getD (j-1) dF) (o.L.getD j dF)<0)
  ·rw[r1 h1]
   simp only[outM]
   have hR:∀ r∈o.L,RtOk r:=z46 fun i hi=>(h1 i hi).1
   by_cases h2:∀ j,j<o.Ag.C.length->hasR o.L (o.Ag.C.getD j dF).B (o.Ag.C.getD j dF).D=true
   ·rw[(zl _ (fun i hi h=>by rw[zby o i,y6 h]) (fun i hi h=>by rw[zby o i,y5 h])).1 h2]
    simp only
    rw[y9 ⟨⟨a1,a2⟩,a3,a4,hR,fun i hi=>(h1 i hi).2.2,(zpf hR).2 ⟨z46 fun i hi=>(h1 i hi).2.1,z46 h2⟩⟩]
   ·rw[(zl _ (fun i hi h=>by rw[zby o i,y6 h]) (fun i hi h=>by rw[zby o i,y5 h])).2 h2]
    simp only
    rw[ya (fun h=>h2 fun j hj=>(h.2.2.2.2.2 _ (z7 hj)).1)]; rfl
  ·rw[r2 h1]
   simp only[outM]
   rw[ya (fun h=>h1 fun j hj=>⟨h.2.2.2.1 _ (z7 hj),((zpf h.2.2.2.1).1 h.2.2.2.2.2).1 _ (z7 hj),h.2.2.2.2.1 j hj⟩)]; rfl
 ·rw[y6,ya (fun h=>h0 ⟨h.1,h.2.1,h.2.2.1⟩)]
  simp only[yc,y7,yi,yf]
  by_cases hv:Val o.Ag
  ·left
   have:¬ ((1<=o.S/\o.S<=6)/\o.L.length<=60):=fun h=>h0 ⟨h.1,h.2,hv⟩
   omega
  ·exact .inr hv
def noR:TRi:=⟨[],0,0,0,0⟩
def tot (n:Int):Prop:=0<=n/\n<=1000000000000000
instance (n:Int):Decidable (tot n):=inferInstanceAs (Decidable (_/\_))
def learnS (r:TRi) (m:TMe):TRi×Int :=
 if ¬ (RtOk r/\m.Aa=0/\m.B=r.B/\m.D=r.D) then (noR,1) else
 if ¬ (tot m.A/\tot m.F) then (noR,2) else
 (⟨r.B,r.D,if m.A>r.A then m.A else r.A,if m.F>r.F then m.F else r.F,r.Q⟩,0)
def returnS (r:TRi) (u n:Int):TRi×Int :=
 if ¬ (RtOk r/\(0<=u/\u<=i64.wrap (r.A-r.Q))) then (noR,1) else
 if ¬ (1<=n/\n<=1000000000000000) then (noR,2) else
 if n>i64.wrap (i64.wrap (r.A-r.Q)-u) then (noR,15) else
 (⟨r.B,r.D,r.A,r.F,i64.wrap (r.Q+n)⟩,0)
theorem z3u (n:Int):F_qo n=some (decide (tot n)):=by
 simp only[F_qo,S_qo,Scr.den,za,y41]
 refine y15 some ?_
 rw[y1s,y7]; simp[tot]
theorem zdf (n:Int):F_q1n n=some (decide (tot n)):=z56 n
theorem zea (h:r.B.length<=1000000) (m:TMe):F_q66 r m=some (learnS r m):=by
 open Classical in simp only[F_q66,S_q66,Scr.den,z3l h,zdf,z12,obind,z8,z1y]
 unfold learnS
 refine st (by by_cases hR:RtOk r <;> by_cases h2:m.Aa=0 <;> by_cases h3:m.B=r.B <;> by_cases h4:m.D=r.D <;> simp[hR,h2,h3,h4]) (fun _=>rfl) fun _=>?_
 refine st (by by_cases h2:tot m.A <;> by_cases h3:tot m.F <;> simp[h2,h3]) (fun _=>rfl) fun _=>rfl
theorem zje (h:r.B.length<=1000000) (m:TMe):F_q43 r m=some (learnS r m):=by
 open Classical in simp only[F_q43,S_q43,Scr.den,z57 h,z3u,z12,obind,z8,z1y]
 unfold learnS
 refine st (by by_cases hR:RtOk r <;> by_cases h2:m.Aa=0 <;> by_cases h3:m.B=r.B <;> by_cases h4:m.D=r.D <;> simp[hR,h2,h3,h4]) (fun _=>rfl) fun _=>?_
 refine st (by by_cases h2:tot m.A <;> by_cases h3:tot m.F <;> simp[h2,h3]) (fun _=>rfl) fun _=>rfl
theorem zdg (h:r.B.length<=1000000) (u n:Int):F_q69 r u n=some (returnS r u n):=by
 open Classical in simp only[F_q69,S_q69,Scr.den,z3l h,z13,z12,obind,z8,z1y]
 unfold returnS
 refine st (by by_cases h2:RtOk r <;> by_cases h3:0<=u/\u<=i64.wrap (r.A-r.Q) <;> simp[h2,h3]) (fun _=>rfl) fun _=>?_
 refine st (by simp only[yi,yf]) (fun _=>rfl) fun _=>?_
 refine st (by simp only[y7]) (fun _=>rfl) fun _=>rfl
theorem zho (h:r.B.length<=1000000) (u n:Int):F_q5q r u n=some (returnS r u n):=by
 open Classical in simp only[F_q5q,S_q5q,Scr.den,z57 h,obind,z8]
 unfold returnS
 refine st (by
   simp only[yc,yi,yf,y7,gt_iff_lt]
   constructor
   ·rintro ((h | h) | h) <;> intro k
    ·exact h k.1
    ·omega
    ·omega
   ·intro h; by_cases hR:RtOk r
    ·by_cases hu:u<0
     ·exact .inl (.inr hu)
     ·exact .inr (by have:¬ (0<=u/\u<=_):=fun k=>h ⟨hR,k⟩; omega)
    ·exact .inl (.inl hR)) (fun _=>rfl) fun _=>?_
 refine st (by simp only[yc,y7]; omega) (fun _=>rfl) fun _=>?_
 refine st (by simp only[y7]) (fun _=>rfl) fun _=>rfl
def posR (l:List TRi) (r:TRi):Nat:=l.findIdx (fun x=>decide (0<=cmpR x r))
def putL (l:List TRi) (r:TRi):List TRi:=if hasR l r.B r.D=true then l.set (rix l r.B r.D) r else insL l (posR l r) r
theorem z16 [Inhabited α] {l:List α} (hi:i<l.length):l.getD i dF=l[i]:=by simp[List.getD_eq_getElem?_getD,List.getElem?_eq_getElem hi]
theorem z73 (l:List TRi) (r:TRi):posR l r<=l.length:=List.findIdx_le_length
theorem zbz (hi:i<posR l r):cmpR (l.getD i dF) r<0:=by
 have hl:i<l.length:=y1a hi (z73 l r)
 have:=y51 hi
 rw[z16 hl]
 simpa using this
theorem zc0 (hi:posR l r<l.length):0<=cmpR (l.getD (posR l r) dF) r:=by
 have:=y3i (xs:=l) (p:=fun x=>decide (0<=cmpR x r)) (w:=hi)
 rw[z16 hi]
 exact y1x this
theorem zty (hS:Srt l) (hg:∀ x∈l,RtOk x) (hi:i<l.length) (hp:posR l r<=i):0<=cmpR (l.getD i dF) r:=by
 have h0:=zc0 (l:=l) (r:=r) om
 by_cases e:posR l r=i
 ·rwa [e] at h0
 ·have h1:=hS.lt hg (show posR l r<i from om) hi
  by_cases h:cmpR (l.getD i dF) r<0
  ·have:=ze9 (hg _ (z7 om)).1 (hg _ (z7 hi)).1 h1 h
   omega
  ·omega
theorem zfl (h:i+j<4611686018427387904):i64.wrap ((IntKind.u64.wrap (i64.wrap ((i:Int)+(j:Int)))).fdiv (2 ^ (min (1:Int).toNat IntKind.u64.bits)))=(((i+j) / 2:Nat):Int):=by
 rw[wrapId (n:=(i:Int)+(j:Int)) om om]
 have e:IntKind.u64.wrap ((i:Int)+(j:Int))=(i:Int)+(j:Int):=by
  simp only[IntKind.wrap,IntKind.bits,IntKind.signed]
  simp
  omega
 rw[e]
 have e2:(2:Int) ^ (min (1:Int).toNat IntKind.u64.bits)=2:=dk
 rw[e2,Int.fdiv_eq_ediv_of_nonneg _ om,wrapId om om]
 omega
theorem RtOk.len (h:RtOk r):r.B.length<=1000000:=by have:=z3q h.1; omega
theorem zdh (hg:∀ x∈l,RtOk x) (k:Nat):(l.getD k dF).B.length<=1000000:=by
 by_cases h:k<l.length
 ·exact (hg _ (z7 h)).len
 ·rw[y8,yj om]; exact y1e _
theorem z9s (hl:l.length<=1000000) (hS:Srt l) (hg:∀ x∈l,RtOk x) (hr:RtOk r) :
  F_q2o r l=some ((posR l r:Int),decide (posR l r<l.length)&&(cmpR (l.getD (posR l r) dF) r==0)):=by
 have hc:∀ k,F_q3s (l.getD k dF) r=some (cmpR (l.getD k dF) r):=fun k=>z7g (zdh hg k) hr.len
 have hp:=z73 l r
 simp only[F_q2o,S_q2o,Scr.den]
 obtain⟨s,e,hJ⟩:=z1n (step:=fun s=>(S_q2o_b1 r l s).den) (fun s=>(s.2-s.1).toNat) (fun s=>∃ i j:Nat,s=((i:Int),(j:Int))/\i<=posR l r/\posR l r<=j/\j<=l.length) (fun s=>s.1=(posR l r:Int)) (fun s hI=>by
  obtain⟨i,j,rfl,h1,h2,h3⟩:=hI
  simp only[S_q2o_b1,Scr.den,zfl (show i+j<4611686018427387904 from om),hc,obind,yb]
  by_cases hij:i<j
  ·left
   rw[y6 (by simpa using hij),Gc,yl]
   by_cases hlt:cmpR (l.getD ((i+j) / 2) dF) r<0
   ·rw[y6 (by simpa using hlt),wrapId om om]
    have:(i+j) / 2<posR l r:=by
     by_cases h:(i+j) / 2<posR l r
     ·exact h
     ·have:=zty (r:=r) hS hg (show (i+j) / 2<l.length from om) om
      omega
    exact⟨_,rfl,⟨(i+j) / 2+1,j,sj,om,h2,h3⟩,by simp only; omega⟩
   ·rw[y5 (by simpa using hlt)]
    have:posR l r<=(i+j) / 2:=by
     by_cases h:posR l r<=(i+j) / 2
     ·exact h
     ·have:=zbz (show (i+j) / 2<posR l r from om)
      omega
    exact⟨_,rfl,⟨i,(i+j) / 2,rfl,h1,this,om⟩,by simp only; omega⟩
  ·right
   rw[y5 (by simpa using hij)]
   exact⟨_,rfl,by simp only; omega⟩) _ (0,(l.length:Int)) (y2u _) ⟨0,l.length,rfl,om,hp,om⟩
 rw[e]
 simp only[outM,hJ,yb,hc,za,yl]
 by_cases h:posR l r<l.length
 ·rw[zg (by exact⟨sk,trivial⟩),obind,z6 ⟨fun _=>om,fun _=>h,fun _=>h,trivial⟩]
  simp[h]
 ·rw[zj (by simp[AllP]; omega),obind,z6 ⟨fun _=>om,fun h'=>absurd h (by simp[AllP] at h'; omega),fun h'=>absurd h (by simp[AllP] at h'; omega),trivial⟩]
  simp[h]
theorem zfm (hS:Srt l) (hg:∀ x∈l,RtOk x) (hr:RtOk r) :
  (decide (posR l r<l.length)&&(cmpR (l.getD (posR l r) dF) r==0))=hasR l r.B r.D/\(hasR l r.B r.D=true->rix l r.B r.D=posR l r):=by
 have key:hasR l r.B r.D=true->rix l r.B r.D=posR l r:=fun h=>by
  obtain⟨h1,h2,h3⟩:=z3t h
  have h4:=hg _ (z7 h1)
  have h5:cmpR (l.getD (rix l r.B r.D) dF) r=0:=(z5s h4.1 hr.1).2 ⟨h2,h3⟩
  rcases y3k (rix l r.B r.D) (posR l r) with h | h | h
  ·have:=zbz h; omega
  ·exact h
  ·have h6:=hS.lt hg h h1
   have h7:=zc0 (l:=l) (r:=r) om
   have h8:=hg _ (z7 (show posR l r<l.length from om))
   have:cmpR (l.getD (posR l r) dF) r<0:=by
    rw[z8r (.inl h8.1)] at h6 |-
    rw[h2,h3] at h6
    exact h6
   omega
 refine⟨?_,key⟩
 rw[y1s]
 simp only[yg,y7,y12]
 constructor
 ·rintro⟨h1,h2⟩
  obtain⟨h3,h4⟩:=(z5s (hg _ (z7 h1)).1 hr.1).1 h2
  exact has_iff.2 ⟨_,z7 h1,h3,h4⟩
 ·intro h
  obtain⟨h1,h2,h3⟩:=z3t h
  rw[key h] at h1 h2 h3
  exact⟨h1,(z5s (hg _ (z7 h1)).1 hr.1).2 ⟨h2,h3⟩⟩
theorem zn2 (hl:l.length<=1000000):F_q67 l=some l:=by
 simp only[F_q67,S_q67,Scr.den]
 rw[Ga]
theorem zjf (l:List TRi) (r:TRi):(putL l r).length<=l.length+1:=by
 unfold putL
 split
 ·rw[yh]; omega
 ·rw[zq]; omega
theorem zpg (hl:o.L.length<=1000000) (hS:Srt o.L) (hg:∀ x∈o.L,RtOk x) (hr:RtOk r):F_q4v o r=some ⟨o.S,putL o.L r,o.Ag⟩:=by
 obtain⟨h1,h2⟩:=zfm hS hg hr
 have hp:=z73 o.L r
 have hlen:=zjf o.L r
 simp only[F_q4v,S_q4v,Scr.den,zn2 hl,z9s hl hS hg hr,obind,h1,yb,yl]
 unfold putL at hlen |-
 by_cases h:hasR o.L r.B r.D=true
 ·have h3:=(z3t h).1
  rw[h2 h] at h3
  rw[y6 h] at hlen
  rw[y6 h,y6 h,z6 ⟨om,h3,h3,trivial⟩,h2 h]
  simp only[outM]
  rw[z6 ⟨by rw[yh]; omega,trivial⟩]
 ·rw[y5 h] at hlen
  rw[y5 h,y5 h]
  simp only[F_q7u,yb]
  rw[z6 ⟨om,om,om⟩]
  simp only[obind,outM]
  rw[Ga]
def noO:TOf:=⟨0,[],nb⟩
def msgOf (p:TOp):TMe:=⟨0,0,p.B,p.D,p.A,p.Ae,0,0⟩
def hearS (o:TOf) (p:TOp):TOf×Int :=
 if ¬ good p.B=true then (noO,5) else
 if p.D<0\/p.D>99 then (noO,2) else
 if hasR o.L p.B p.D=false/\(o.L.length:Int)=60 then (noO,3) else
 if (learnS (rightV o.L p.B p.D) (msgOf p)).2≠0 then (noO,(learnS (rightV o.L p.B p.D) (msgOf p)).2) else
 (⟨o.S,putL o.L (learnS (rightV o.L p.B p.D) (msgOf p)).1,o.Ag⟩,0)
def giveS (o:TOf) (p:TOp):TOf×Int :=
 if ¬ hasR o.L p.B p.D=true then (noO,6) else
 if (returnS (rightV o.L p.B p.D) (usedV o.Ag p.B p.D) p.V).2≠0 then (noO,(returnS (rightV o.L p.B p.D) (usedV o.Ag p.B p.D) p.V).2) else
 (⟨o.S,putL o.L (returnS (rightV o.L p.B p.D) (usedV o.Ag p.B p.D) p.V).1,o.Ag⟩,0)
noncomputable def bookS (b:TBo) (p:TOp):TBo×Int :=
 if p.U=1 then reserveS b p.B p.D p.Ab p.V else
 if p.U=2 then commitS b p.Of p.Ab p.V p.Ah p.Ai else
 if p.U=3 then verifyS b p.Of p.Ab p.V else
 if p.U=4 then orderS b p.Of p.Ab else
 if p.U=5 then releaseS b p.Of p.V else
 if p.U=6 then dropS b p.Of p.V else backS b p.Of
noncomputable def stepS (o:TOf) (p:TOp):TOf×Int :=
 if p.U=8 then hearS o p else
 if p.U=7 then giveS o p else
 if (bookS o.Ag p).2≠0 then (noO,(bookS o.Ag p).2) else
 if p.U=1/\p.V>unusedV o p.B p.D then (noO,15) else
 (⟨o.S,o.L,(bookS o.Ag p).1⟩,0)
open Classical in
noncomputable def doS (o:TOf) (p:TOp):TOf×Int :=
 if ¬ VO o\/p.U<1\/p.U>9 then (noO,1) else stepS o p
theorem VO.srt (h:VO o):Srt o.L:=h.2.2.2.2.1
theorem VO.ok (h:VO o):∀ x∈o.L,RtOk x:=h.2.2.2.1
theorem VO.val (h:VO o):Val o.Ag:=h.2.2.1
theorem VO.len (h:VO o):o.L.length<=60:=h.2.1
theorem z4s (l:List TRi) (c:Y8) (y:Int):(rightV l c y).B=c/\(rightV l c y).D=y:=by
 by_cases h:hasR l c y=true
 ·exact (z3d h).2
 ·unfold rightV; rw[y5 h]; exact⟨rfl,rfl⟩
theorem z9t (_hg:∀ x∈l,RtOk x) (hc:c.length<=1000000) (y:Int):(rightV l c y).B.length<=1000000:=by
 rw[(z4s l c y).1]; exact hc
theorem zbc {m:TMe} (h:(learnS r m).2=0):RtOk r/\tot m.A/\tot m.F/\(learnS r m).1=⟨r.B,r.D,if m.A>r.A then m.A else r.A,if m.F>r.F then m.F else r.F,r.Q⟩/\RtOk (learnS r m).1:=by
 unfold learnS at h |-
 split at h
 ·cases h
 ·rename_i h1
  split at h
  ·cases h
  ·rename_i h2
   have h1:=nnm h1
   have h2:=nnm h2
   rw[y5 (fun k=>k h1),y5 (fun k=>k h2)]
   refine⟨h1.1,h2.1,h2.2,rfl,?_⟩
   have h3:=h1.1
   unfold RtOk tot at *
   refine⟨h3.1,h3.2.1,?_,?_,?_⟩
   ·simp only; split <;> omega
   ·simp only; split <;> omega
   ·simp only; split <;> omega
theorem z9u (h:(returnS r u n).2=0):RtOk r/\(0<=u/\u<=r.A-r.Q)/\1<=n/\n<=r.A-r.Q-u/\(returnS r u n).1=⟨r.B,r.D,r.A,r.F,r.Q+n⟩/\RtOk (returnS r u n).1:=by
 unfold returnS at h |-
 split at h
 ·cases h
 ·rename_i h1
  split at h
  ·cases h
  ·rename_i h2
   split at h
   ·cases h
   ·rename_i h3
    have h1:=nnm h1
    have h2:=nnm h2
    have h4:=h1.1
    unfold RtOk at h4
    have w1:i64.wrap (r.A-r.Q)=r.A-r.Q:=wrapId om om
    rw[y5 (fun k=>k h1),y5 (fun k=>k h2),y5 h3]
    obtain⟨h5,h6,h7⟩:=h1
    rw[w1] at h7 h3
    rw[wrapId (n:=r.A-r.Q-u) om om] at h3
    rw[wrapId (n:=r.Q+n) om om]
    refine⟨h5,⟨h6,h7⟩,h2.1,om,rfl,h4.1,h4.2.1,h4.2.2.1,h4.2.2.2.1,?_⟩
    simp only; omega
theorem zjg {l:Y8}:(((parts l).length:Int)==0)=!good l:=by
 rw[<- z3b,y1s]; simp
variable {p:TOp}
theorem ztz (hv:VO o) (hc:p.B.length<=1000000):F_q68 o p=some (hearS o p):=by
 have hl:=hv.len
 have hr:=z9t hv.ok hc p.D
 simp only[F_q68,S_q68,Scr.den,z3c (show p.B.length<=1099511627776 from om),ze8,z2k,zea hr,obind,z8,za,zjg]
 unfold hearS
 refine st sj (fun _=>rfl) fun _=>?_
 refine st sj (fun _=>rfl) fun _=>?_
 refine st sj (fun _=>rfl) fun _=>?_
 refine st (by simp only[y1i,ne_eq]; exact Iff.rfl) (fun _=>rfl) fun h=>?_
 have h:=nnm h
 have h1:=zbc h
 rw[show (⟨0,0,p.B,p.D,p.A,p.Ae,0,0⟩:TMe)=msgOf p from rfl,zpg om hv.srt hv.ok h1.2.2.2.2]
 rfl
theorem zfn (hv:VO o) (hc:p.B.length<=1000000):F_q6a o p=some (giveS o p):=by
 have hl:=hv.len
 have hr:=z9t hv.ok hc p.D
 simp only[F_q6a,S_q6a,Scr.den,ze8,z2k,zbw,zdg hr,obind]
 unfold giveS
 refine st sj (fun _=>rfl) fun _=>?_
 refine st (by simp only[y1i,ne_eq]) (fun _=>rfl) fun h=>?_
 have h:=nnm h
 have h1:=z9u h
 rw[zpg om hv.srt hv.ok h1.2.2.2.2.2]
 rfl
theorem zu0 (hb:Small b) (hc:p.B.length<=1000000):F_q6l b p=some (bookS b p):=by
 simp only[F_q6l,S_q6l,Scr.den,zmx hb hc,zp7 hb,zp8 hb,zrp hb,zmy hb,ztt hb,ztu hb,obind]
 unfold bookS
 refine st (by simp only[y12]) (fun _=>rfl) fun _=>?_
 refine st (by simp only[y12]) (fun _=>rfl) fun _=>?_
 refine st (by simp only[y12]) (fun _=>rfl) fun _=>?_
 refine st (by simp only[y12]) (fun _=>rfl) fun _=>?_
 refine st (by simp only[y12]) (fun _=>rfl) fun _=>?_
 refine st (by simp only[y12]) (fun _=>rfl) fun _=>rfl
theorem zu1 {a:Bool} {_:Decidable (AllP [a=true])}:(a&&decide (n>if AllP [a=true] then x else d))=(a&&decide (n>x)):=by
 cases a
 ·rfl
 ·rw[y6 ⟨rfl,trivial⟩]
theorem zu2 (hv:VO o) (hs:SmO o) (hc:p.B.length<=1000000):F_q3x o p=some (stepS o p):=by
 open Classical in simp only[F_q3x,S_q3x,Scr.den,ztz hv hc,zfn hv hc,zu0 hs.1 hc,zbb,z12,obind,za,zu1]
 unfold stepS
 refine st (by simp only[y12]) (fun _=>rfl) fun _=>?_
 refine st (by simp only[y12]) (fun _=>rfl) fun _=>?_
 refine st (by simp only[y1i,ne_eq]) (fun _=>rfl) fun _=>?_
 refine st (by simp only[yg,y12,y7]) (fun _=>rfl) fun _=>rfl
theorem zdi (l:List TRi) (p:Nat) (hp:p<=l.length) (z r:TRi) :
  (copyL (l++[z]) (0+(p+1)) (min ((l++[z]).length-p) ((l++[z]).length-(p+1))) (fun i=>(l++[z]).getD ((0+p)+i) dF)).set (0+p) r=insL l p r:=by
 refine y33 (by simp[copyL,insL]; omega) fun i h1 h2=>?_
 have hi:i<l.length+1:=by rw[zq] at h2; exact h2
 rw[<- z16 h2,z1s hp,y4k]
 by_cases e:i<p
 ·rw[y5 om,y6 e]
  simp only[copyL,y3s,y3g]
  rw[y5 om,y8,y8,ym om]
 ·by_cases e2:i=p
  ·rw[y6 om,y5 e,y6 e2]
  ·rw[y5 om,y5 e,y5 e2]
   simp only[copyL,y3s,y3g,yp,y1t]
   rw[y6 om,show 0+p+(i-(0+(p+1)))=i-1 from om,y8,y8,ym om]
theorem zph (hv:VO o) {q:(TRi×Int)} (hr:RtOk q.1) (hn:hasR o.L q.1.B q.1.D=false) :
  iterM (fun s=>(S_q1x_b1 o q s).den) 0=some (.next (posR o.L q.1:Int)):=by
 have hl:=hv.len
 have hp:=z73 o.L q.1
 obtain⟨s,e,hJ⟩:=z1n (step:=fun s=>(S_q1x_b1 o q s).den) (fun s=>(61-s).toNat) (fun s=>0<=s/\s<=(posR o.L q.1:Int)) (fun s=>s=(posR o.L q.1:Int)) (fun s hI=>by
  obtain⟨i,rfl⟩:=Int.eq_ofNat_of_zero_le hI.1
  have hi:i<=posR o.L q.1:=om
  simp only[S_q1x_b1,Scr.den,yb,yl,z8,za]
  by_cases h:i<o.L.length
  ·have hg:=hv.ok _ (z7 h)
   rw[y6 sk,z45 hg.1 hr.1,obind,z6 ⟨om,h,h,trivial⟩,z6 ⟨fun _=>om,fun _=>h,fun _=>h,trivial⟩]
   have hc:=z8r (a:=o.L.getD i dF) (b:=q.1) (.inl hg.1)
   have hne:cmpR (o.L.getD i dF) q.1≠0:=fun h0=>by
    obtain⟨k1,k2⟩:=(z5s hg.1 hr.1).1 h0
    have:hasR o.L q.1.B q.1.D=true:=has_iff.2 ⟨_,z7 h,k1,k2⟩
    rw[hn] at this; cases this
   by_cases hip:i<posR o.L q.1
   ·left
    have hlt:=hc.1 (zbz hip)
    rw[y5 (by
     simp only[yc,yg,y7,y12]
     exact fun k=>ltr hlt (k.imp id fun k=>⟨k.1,om⟩)),wrapId om om]
    exact⟨_,rfl,⟨om,om⟩,om⟩
   ·right
    have hge:0<=cmpR (o.L.getD i dF) q.1:=by
     have:i=posR o.L q.1:=om
     subst this; exact zc0 h
    rw[y6 (by
     have k1:¬ _:=fun k=>absurd (hc.2 k) om
     have k2:¬ (lexC (parts (o.L.getD i dF).B) (parts q.1.B)=0/\(o.L.getD i dF).D=q.1.D):=fun k=>hne ((z5s hg.1 hr.1).2 ⟨z7y hg.1 hr.1 (z30 k.1),k.2⟩)
     simp only[yc,yg,y7,y12]
     rcases ltr' k1 with k | ⟨k,k'⟩
     ·exact .inl k
     ·exact .inr ⟨k,by have:¬ _:=fun e=>k2 ⟨k,e⟩; omega⟩)]
    exact⟨_,rfl,om⟩
  ·right
   rw[y5 (by simpa using h)]
   exact⟨_,rfl,om⟩) _ 0 (y2u _) ⟨om,om⟩
 rw[e,hJ]
theorem zks (hv:VO o) (hc:p.B.length<=1000000):F_q1x o p=some (hearS o p):=by
 have hl:=hv.len
 have hr:=z9t hv.ok hc p.D
 simp only[F_q1x,S_q1x,Scr.den,z2w (show p.B.length<4611686018427387904 from om),at_eq,z1g,zje hr,obind,z8,za]
 unfold hearS
 refine st sj (fun _=>rfl) fun _=>?_
 refine st sj (fun _=>rfl) fun _=>?_
 refine st (by cases hh:hasR o.L p.B p.D <;> simp <;> (try exact fun h1=>absurd h1 (y2v.2 (y1z _)))) (fun _=>rfl) fun _=>?_
 refine st (by simp only[y1i,ne_eq]; exact Iff.rfl) (fun _=>rfl) fun h=>?_
 have h:=nnm h
 have h1:=zbc h
 rw[show (⟨0,0,p.B,p.D,p.A,p.Ae,0,0⟩:TMe)=msgOf p from rfl,Ga]
 have hcy:(learnS (rightV o.L p.B p.D) (msgOf p)).1.B=p.B/\(learnS (rightV o.L p.B p.D) (msgOf p)).1.D=p.D:=by rw[h1.2.2.2.1]; exact z4s _ _ _
 generalize hq:learnS (rightV o.L p.B p.D) (msgOf p)=q at h h1 hcy |-
 have hlen:=zjf o.L q.1
 have hp:=z73 o.L q.1
 unfold putL at hlen |-
 rw[hcy.1,hcy.2] at hlen |-
 by_cases hh:hasR o.L p.B p.D=true
 ·have h3:=(z3t hh).1
  rw[y6 hh] at hlen
  simp only[y6 hh]
  rw[y5 sj]
  simp only[outM,yb,yl]
  rw[z6 ⟨om,h3,h3,trivial⟩,z6 ⟨by rw[yh]; omega,trivial⟩]
 ·rw[y5 hh] at hlen
  simp only[y5 hh]
  have hn:hasR o.L q.1.B q.1.D=false:=by rw[hcy.1,hcy.2]; simpa using hh
  have hw:(i64.wrap ((posR o.L q.1:Int)+1)).toNat=posR o.L q.1+1:=by rw[wrapId om om]; omega
  have hw':i64.wrap ((posR o.L q.1:Int)+1)=(posR o.L q.1:Int)+1:=wrapId om om
  rw[y6 dk,zph hv h1.2.2.2.2 hn]
  simp only[outM,yb,hw]
  rw[Ga,z6 ⟨by rw[hw']; omega,by rw[yp,y1t]; omega,om,by rw[yp,y1t]; omega,trivial⟩]
  simp only[yb]
  rw[zdi o.L (posR o.L q.1) hp]
  rw[zq] at hlen
  rw[z6 ⟨om,by rw[zp,yp,y1t]; omega,by rw[zp,yp,y1t]; omega,trivial⟩,z6 ⟨by rw[zq]; omega,trivial⟩]
theorem zbd (hs:SmO o) (hc:p.B.length<=1000000):F_q4m o p=some (doS o p):=by
 simp only[F_q4m,S_q4m,Scr.den,z7h hs,zfi hs.1 hc,zhm hs.1,zhn hs.1,zj5 hs.1,zfj hs.1,zkm hs.1,zkn hs.1,zad,z4b,at_eq,obind,za]
 by_cases hv:VO o
 ·rw[y5 (by simp[hv])]
  have hl:=hv.len
  have fin:∀ x:TBo×Int,outM (some (Out.next (x.1,x.2))) (fun (s:TBo×Int)=>if (s.2 != 0)=true then some (noO,s.2) else some ((⟨o.S,o.L,s.1⟩:TOf),(0:Int))) some=some (if x.2≠0 then (noO,x.2) else (⟨o.S,o.L,x.1⟩,0)):=fun x=>by
   simp only[outM]
   by_cases h:x.2=0 <;> simp[h]
  have hd:∀ {k:Int},p.U=k->1<=k->k<=9->doS o p=stepS o p:=fun h h1 h2=>by
   unfold doS; rw[y5 (fun k=>k.elim (fun k=>k hv) fun k=>om)]
  by_cases c1:p.U=1
  ·rw[y6 (by simpa using c1),hd c1 om om]
   unfold stepS bookS
   rw[y5 om,y5 om,y6 c1]
   generalize reserveS o.Ag p.B p.D p.Ab p.V=x
   by_cases hx:x.2=0
   ·rw[zg (by exact⟨by simp[hx],trivial⟩),obind]
    by_cases hu:p.V>unusedV o p.B p.D
    ·rw[y6 (by simp[hx]; exact hu),y5 (by simp[hx]),y6 ⟨c1,hu⟩]
     exact fin (x.1,15)
    ·rw[y5 (by simp[hx]; exact y2v.1 hu),y5 (by simp[hx]),y5 (fun k=>hu k.2)]
     rw[show (⟨o.S,o.L,x.1⟩,(0:Int))=if x.2≠0 then (noO,x.2) else (⟨o.S,o.L,x.1⟩,0) by rw[y5 (by simp[hx])]]
     exact fin x
   ·rw[zj (by simp[AllP,hx]),obind,y5 (by simp[hx]),y6 hx]
    rw[show (noO,x.2)=if x.2≠0 then (noO,x.2) else (⟨o.S,o.L,x.1⟩,0) by rw[y6 hx]]
    exact fin x
  rw[y5 (by simpa using c1)]
  have hb:∀ {k:Int} (x:TBo×Int),p.U=k->2<=k->k<=9->k≠7->k≠8->bookS o.Ag p=x->outM (some (Out.next (x.1,x.2))) (fun (s:TBo×Int)=>if (s.2 != 0)=true then some (noO,s.2) else some ((⟨o.S,o.L,s.1⟩:TOf),(0:Int))) some=some (doS o p):=fun x hk h1 h2 h3 h4 e=>by
   have h5:stepS o p=if x.2≠0 then (noO,x.2) else (⟨o.S,o.L,x.1⟩,0):=by
    unfold stepS
    rw[y5 (show ¬ p.U=8 from om),y5 (show ¬ p.U=7 from om),e,y5 (fun k:p.U=1/\_=>c1 k.1)]
   rw[hd hk om h2,fin,h5]
  by_cases c2:p.U=2
  ·rw[y6 (by simpa using c2)]
   exact hb _ c2 om om om om (by unfold bookS; rw[y5 c1,y6 c2])
  rw[y5 (by simpa using c2)]
  by_cases c3:p.U=3
  ·rw[y6 (by simpa using c3)]
   exact hb _ c3 om om om om (by unfold bookS; rw[y5 c1,y5 c2,y6 c3])
  rw[y5 (by simpa using c3)]
  by_cases c4:p.U=4
  ·rw[y6 (by simpa using c4)]
   exact hb _ c4 om om om om (by unfold bookS; rw[y5 c1,y5 c2,y5 c3,y6 c4])
  rw[y5 (by simpa using c4)]
  by_cases c5:p.U=5
  ·rw[y6 (by simpa using c5)]
   exact hb _ c5 om om om om (by unfold bookS; rw[y5 c1,y5 c2,y5 c3,y5 c4,y6 c5])
  rw[y5 (by simpa using c5)]
  by_cases c6:p.U=6
  ·rw[y6 (by simpa using c6)]
   exact hb _ c6 om om om om (by unfold bookS; rw[y5 c1,y5 c2,y5 c3,y5 c4,y5 c5,y6 c6])
  rw[y5 (by simpa using c6)]
  by_cases c9:p.U=9
  ·rw[y6 (by simpa using c9)]
   exact hb _ c9 om om om om (by unfold bookS; rw[y5 c1,y5 c2,y5 c3,y5 c4,y5 c5,y5 c6])
  rw[y5 (by simpa using c9)]
  by_cases c8:p.U=8
  ·rw[y6 (by simpa using c8),zks hv hc,hd c8 om om]
   unfold stepS
   rw[y6 c8]
   rfl
  rw[y5 (by simpa using c8)]
  by_cases c7:p.U=7
  ·rw[y6 (by simpa using c7),hd c7 om om]
   unfold stepS giveS
   rw[y5 c8,y6 c7]
   by_cases hh:hasR o.L p.B p.D=true
   ·have h3:=(z3t hh).1
    have hg:=hv.ok _ (z7 h3)
    have hrt:o.L.getD (rix o.L p.B p.D) dF=rightV o.L p.B p.D:=by unfold rightV; rw[y6 hh]
    simp only[y6 hh,yb,yl,zho hg.len,obind]
    rw[y5 sj,z6 ⟨om,h3,trivial⟩,hrt,y5 (show ¬ ¬ hasR o.L p.B p.D=true from fun k=>k hh)]
    by_cases hx:(returnS (rightV o.L p.B p.D) (usedV o.Ag p.B p.D) p.V).2=0
    ·have h1:=z9u hx
     have hcy:(returnS (rightV o.L p.B p.D) (usedV o.Ag p.B p.D) p.V).1.B=p.B/\(returnS (rightV o.L p.B p.D) (usedV o.Ag p.B p.D) p.V).1.D=p.D:=by rw[h1.2.2.2.2.1]; exact z4s _ _ _
     rw[y5 (by simp[hx]),Ga,z6 ⟨h3,trivial⟩,z6 ⟨by rw[yh]; omega,trivial⟩,y5 (by simp[hx])]
     unfold putL
     rw[hcy.1,hcy.2,y6 hh]
     rfl
    ·rw[y6 (by simpa using hx),y6 hx]
     rfl
   ·simp only[y5 hh]
    rw[y6 dk,y6 hh]
    rfl
  rw[y5 (by simpa using c7)]
  have:doS o p=(noO,1):=by
   unfold doS
   split
   ·rfl
   ·rename_i h
    exact absurd om h
  rw[this]
  rfl
 ·rw[y6 (by simp[hv])]
  unfold doS
  rw[y6 (.inl hv)]
  rfl
def usedE (b:TBo) (c:Y8) (y:Int):Int:=sm b.C (fun r=>r.B==c&&r.D==y) (fun r=>r.V-r.Ad-rel b r.S)
theorem zpi (h:Val b) (n:Int):0<=rel b n/\rel b n<=cmt b n:=by
 have hc:∀ c∈b.H,0<=c.Ad/\c.Ad<=c.V:=fun c hc=>(h.2.1.mem hc).1.2.2.2.2.1
 exact⟨zgo fun c k=>(hc c k).1,ztp fun c k=>(hc c k).2⟩
theorem z2p (h:Val b) (c:Y8) (y:Int):usedV b c y=usedE b c y/\0<=usedE b c y/\usedE b c y<=200000000000000:=by
 have hb:0<=usedE b c y/\usedE b c y<=200 * 1000000000000:=zmz (fun r hr=>by
  have h1:=z9r h hr
  have h2:=zpi h r.S
  have h3:=(h.1.mem hr).1.2.2.2.2.2
  unfold amtP at h3
  omega) h.2.2.2.2.2.2.1 om
 refine⟨?_,hb.1,om⟩
 unfold usedV
 change i64.wrap (usedE b c y)=_
 exact wrapId om om
theorem zrv (h:Val b) (hn:(b.C.length:Int)<n):rel b n=0:=by
 have h1:=zpi h n
 have h2:=zj9 h hn
 omega
theorem zjh (h0:(reserveS b code y d n).2=0):Val b/\good code=true/\((0<=y/\y<=99)/\dayP d/\amtP n)/\yr d=y/\(b.C.length:Int)≠200/\(reserveS b code y d n).1=withR b (b.C++[⟨b.C.length+1,code,y,d,n,0⟩]):=by
 unfold reserveS at h0 |-
 obtain⟨e,c1⟩:=zu h0 dk; rw[e] at h0 |-; clear e
 obtain⟨e,c2⟩:=zu h0 dk; rw[e] at h0 |-; clear e
 obtain⟨e,c3⟩:=zu h0 dk; rw[e] at h0 |-; clear e
 obtain⟨e,c4⟩:=zu h0 dk; rw[e] at h0 |-; clear e
 obtain⟨e,c5⟩:=zu h0 dk; rw[e] at h0 |-; clear e
 exact⟨nnm c1,by simpa using c2,nnm c3,nnm c4,c5,rfl⟩
theorem zkt (h:Val b) (hg:good code=true) (hy:0<=y/\y<=99) (hd:dayP d) (hn:amtP n) (hyr:yr d=y) (hl:(b.C.length:Int)≠200):reserveS b code y d n=(withR b (b.C++[⟨b.C.length+1,code,y,d,n,0⟩]),0):=by
 unfold reserveS
 rw[y5 (fun k=>k h),y5 (by simp[hg]),y5 (fun k=>k ⟨hy,hd,hn⟩),y5 (fun k=>k hyr),y5 hl]
theorem zku {r p:Int} (h0:(commitS b r d n p u).2=0):Val b/\Val (commitS b r d n p u).1/\(commitS b r d n p u).1.C=b.C:=by
 unfold commitS at h0 |-
 obtain⟨e,c1⟩:=zu h0 dk; rw[e] at h0 |-; clear e
 obtain⟨e,c2⟩:=zu h0 dk; rw[e] at h0 |-; clear e
 obtain⟨e,c3⟩:=zu h0 dk; rw[e] at h0 |-; clear e
 obtain⟨e,c4⟩:=zu h0 dk; rw[e] at h0 |-; clear e
 obtain⟨e,c5⟩:=zu h0 dk; rw[e] at h0 |-; clear e
 obtain⟨e,c6⟩:=zu h0 dk; rw[e] at h0 |-; clear e
 obtain⟨e,c7⟩:=zu h0 dk; rw[e] at h0 |-; clear e
 have c3:=nnm c3
 exact⟨nnm c1,zn0 (nnm c1) (nnm c2) c3.1 c3.2.1 c3.2.2.1 c3.2.2.2 (nnm c4) om om c7,rfl⟩
theorem zkv {c:Int} (h0:(verifyS b c d n).2=0):Val b/\Val (verifyS b c d n).1/\(verifyS b c d n).1.C=b.C:=by
 unfold verifyS at h0 |-
 obtain⟨e,c1⟩:=zu h0 dk; rw[e] at h0 |-; clear e
 obtain⟨e,c2⟩:=zu h0 dk; rw[e] at h0 |-; clear e
 obtain⟨e,c3⟩:=zu h0 dk; rw[e] at h0 |-; clear e
 obtain⟨e,c4⟩:=zu h0 dk; rw[e] at h0 |-; clear e
 obtain⟨e,c5⟩:=zu h0 dk; rw[e] at h0 |-; clear e
 obtain⟨e,c6⟩:=zu h0 dk; rw[e] at h0 |-; clear e
 obtain⟨e,c7⟩:=zu h0 dk; rw[e] at h0 |-; clear e
 have c3:=nnm c3
 exact⟨nnm c1,zn1 (nnm c1) (nnm c2) c3.1 c3.2 om om om c7,rfl⟩
theorem zn3 (h0:(orderS b v d).2=0):Val b/\Val (orderS b v d).1/\(orderS b v d).1.C=b.C:=by
 unfold orderS at h0 |-
 obtain⟨e,c1⟩:=zu h0 dk; rw[e] at h0 |-; clear e
 obtain⟨e,c2⟩:=zu h0 dk; rw[e] at h0 |-; clear e
 obtain⟨e,c3⟩:=zu h0 dk; rw[e] at h0 |-; clear e
 obtain⟨e,c4⟩:=zu h0 dk; rw[e] at h0 |-; clear e
 obtain⟨e,c5⟩:=zu h0 dk; rw[e] at h0 |-; clear e
 obtain⟨e,c6⟩:=zu h0 dk; rw[e] at h0 |-; clear e
 obtain⟨e,c7⟩:=zu h0 dk; rw[e] at h0 |-; clear e
 refine⟨nnm c1,zpa (nnm c1) (nnm c2) (nnm c3) om om (fun hl=>⟨?_,om⟩) c7,rfl⟩
 cases hb:(lastV b v).Al with
 | true=>rfl
 | false=>exact absurd ⟨hl,hb⟩ c5
theorem zji {r:Int} (h0:(releaseS b r n).2=0):Val b/\Val (releaseS b r n).1/\amtP n/\(1<=r/\r<=b.C.length)/\n<=leftN b r/\(releaseS b r n).1=withR b (b.C.set (r-1).toNat ⟨(rAt b r).S,(rAt b r).B,(rAt b r).D,(rAt b r).Ab,(rAt b r).V,i64.wrap ((rAt b r).Ad+n)⟩):=by
 unfold releaseS at h0 |-
 obtain⟨e,c1⟩:=zu h0 dk; rw[e] at h0 |-; clear e
 obtain⟨e,c2⟩:=zu h0 dk; rw[e] at h0 |-; clear e
 obtain⟨e,c3⟩:=zu h0 dk; rw[e] at h0 |-; clear e
 obtain⟨e,c4⟩:=zu h0 dk; rw[e] at h0 |-; clear e
 exact⟨nnm c1,zkp (nnm c1) (nnm c2) (nnm c3) om,nnm c3,nnm c2,om,rfl⟩
theorem zpj {c:Int} (h0:(dropS b c n).2=0):Val b/\Val (dropS b c n).1/\amtP n/\(dropS b c n).1.C=b.C:=by
 unfold dropS at h0 |-
 obtain⟨e,c1⟩:=zu h0 dk; rw[e] at h0 |-; clear e
 obtain⟨e,c2⟩:=zu h0 dk; rw[e] at h0 |-; clear e
 obtain⟨e,c3⟩:=zu h0 dk; rw[e] at h0 |-; clear e
 obtain⟨e,c4⟩:=zu h0 dk; rw[e] at h0 |-; clear e
 exact⟨nnm c1,zrr (nnm c1) (nnm c2) (nnm c3) om,nnm c3,rfl⟩
theorem zpk (h0:(backS b v).2=0):Val b/\Val (backS b v).1/\(backS b v).1.C=b.C/\(backS b v).1.H=b.H:=by
 unfold backS at h0 |-
 obtain⟨e,c1⟩:=zu h0 dk; rw[e] at h0 |-; clear e
 obtain⟨e,c2⟩:=zu h0 dk; rw[e] at h0 |-; clear e
 obtain⟨e,c3⟩:=zu h0 dk; rw[e] at h0 |-; clear e
 exact⟨nnm c1,zrs (nnm c1) om,rfl,rfl⟩
theorem zfo (h:Val b) {r:Int} (hn0:amtP n) (h0:(releaseS b r n).2=0) (code:Y8) (y:Int):(1<=r/\r<=b.C.length)/\usedV (releaseS b r n).1 code y=i64.wrap (usedV b code y-if mt b code y r=true then n else 0):=by
 have hn:1<=n/\n<=1000000000000:=hn0
 unfold releaseS at h0 |-
 obtain⟨e,_⟩:=zu h0 dk; rw[e] at h0 |-; clear e
 obtain⟨e,hr⟩:=zu h0 dk; rw[e] at h0 |-; clear e
 obtain⟨e,_⟩:=zu h0 dk; rw[e] at h0 |-; clear e
 obtain⟨e,_⟩:=zu h0 dk; rw[e] at h0 |-; clear e
 have hr:=nnm hr
 refine⟨hr,?_⟩
 have hk:(r-1).toNat<b.C.length:=om
 have f:=(h.1.at hr).2.2.2.2.2
 have f6:=f.1
 unfold amtP at f6
 have hw:i64.wrap ((rAt b r).Ad+n)=(rAt b r).Ad+n:=wrapId om om
 rw[hw]
 unfold usedV
 rw[z33]
 congr 1
 change sm (b.C.set (r-1).toNat _) _ (fun r=>r.V-r.Ad-rel b r.S)=_
 rw[zj0 hk _ _ _ dF]
 change _-(if ((rAt b r).B==code&&(rAt b r).D==y)=true then (rAt b r).V-(rAt b r).Ad-rel b (rAt b r).S else 0)+(if ((rAt b r).B==code&&(rAt b r).D==y)=true then (rAt b r).V-((rAt b r).Ad+n)-rel b (rAt b r).S else 0)=_-(if ((rAt b r).B==code&&(rAt b r).D==y)=true then n else 0)
 split <;> omega
theorem zkw (h:Val b) {c:Int} (hn0:amtP n) (h0:(dropS b c n).2=0) (code:Y8) (y:Int):(1<=c/\c<=b.H.length)/\usedV (dropS b c n).1 code y=i64.wrap (usedV b code y-if mt b code y (cAt b c).Y=true then n else 0):=by
 have hn:1<=n/\n<=1000000000000:=hn0
 unfold dropS at h0 |-
 obtain⟨e,_⟩:=zu h0 dk; rw[e] at h0 |-; clear e
 obtain⟨e,hr⟩:=zu h0 dk; rw[e] at h0 |-; clear e
 obtain⟨e,_⟩:=zu h0 dk; rw[e] at h0 |-; clear e
 obtain⟨e,_⟩:=zu h0 dk; rw[e] at h0 |-; clear e
 have hr:=nnm hr
 refine⟨hr,?_⟩
 have hk:(c-1).toNat<b.H.length:=om
 have f:=(h.2.1.at hr)
 have f4:=f.2.2.2.1
 have f5:=f.2.2.2.2.1
 have f2:=f.2.1
 unfold amtP at f4
 have hw:i64.wrap ((cAt b c).Ad+n)=(cAt b c).Ad+n:=wrapId om om
 rw[hw]
 generalize hX:withC b (b.H.set (c-1).toNat ⟨(cAt b c).S,(cAt b c).Y,(cAt b c).Ab,(cAt b c).V,(cAt b c).Ad+n,(cAt b c).Ah,(cAt b c).Ai⟩)=X
 have hrel:∀ m,rel X m=rel b m+if ((cAt b c).Y==m)=true then n else 0:=fun m=>by
  rw[<- hX]
  unfold rel withC
  simp only
  rw[zj0 hk _ _ _ dF]
  change _-(if ((cAt b c).Y==m)=true then (cAt b c).Ad else 0)+(if ((cAt b c).Y==m)=true then (cAt b c).Ad+n else 0)=_
  split <;> omega
 have e1:usedV X code y=i64.wrap (sm b.C (fun r=>r.B==code&&r.D==y) (fun r=>r.V-r.Ad-rel X r.S)):=by
  unfold usedV
  rw[show X.C=b.C by rw[<- hX]; rfl]
 rw[e1]
 unfold usedV
 rw[z33]
 congr 1
 simp only[hrel]
 have e2:∀ r:TRe,r.V-r.Ad-(rel b r.S+if ((cAt b c).Y==r.S)=true then n else 0)=(r.V-r.Ad-rel b r.S)-(if ((cAt b c).Y==r.S)=true then n else 0):=fun r=>om
 simp only[e2]
 rw[zvl]
 congr 1
 have hi:((cAt b c).Y-1).toNat<b.C.length:=om
 have hnum:(b.C.getD ((cAt b c).Y-1).toNat dF).S=(cAt b c).Y:=(h.1.at f2).1
 have:=zpd (num:=fun r:TRe=>r.S) (q:=mt b code y) (p:=fun r=>r.B==code&&r.D==y) n b.C ((cAt b c).Y-1).toNat hi (fun j hj hji=>by
  have:=(h.1 j hj).1
  rw[hnum]; omega) (zvn h code y (z7 hi)).symm
 simp only[hnum] at this
 exact this
def Eff (b:TBo) (p:TOp) (b':TBo):Prop:=Val b/\Val b' /\
 (∀ c y,usedE b' c y<=usedE b c y+if p.U=1/\p.B=c/\p.D=y then p.V else 0) /\
 (p.U=1->1<=p.V/\p.V<=1000000000000/\∀ c y,usedE b' c y=usedE b c y+if p.B=c/\p.D=y then p.V else 0) /\
 (∀ x∈b'.C,(∃ z∈b.C,z.B=x.B/\z.D=x.D)\/(p.U=1/\x.B=p.B/\x.D=p.D)) /\
 b'.C.length<=b.C.length+1
theorem z7i {b':TBo} (hv:Val b) (hv':Val b') (hR:b'.C=b.C) (hk:p.U≠1) (hu:∀ c y,usedE b' c y<=usedE b c y):Eff b p b' :=
 ⟨hv,hv',fun c y=>by rw[y5 (fun k=>hk k.1)]; have:=hu c y; omega,fun k=>absurd k hk,fun x hx=>by rw[hR] at hx; exact .inl ⟨x,hx,rfl,rfl⟩,by rw[hR]; omega⟩
theorem zhp (h:Val b) (code:Y8) (y d n:Int) (c:Y8) (z:Int):usedE (withR b (b.C++[⟨b.C.length+1,code,y,d,n,0⟩])) c z=usedE b c z+if code=c/\y=z then n else 0:=by
 unfold usedE
 have e:(withR b (b.C++[⟨b.C.length+1,code,y,d,n,0⟩])).C=b.C++[⟨b.C.length+1,code,y,d,n,0⟩]:=rfl
 have e2:∀ m,rel (withR b (b.C++[⟨b.C.length+1,code,y,d,n,0⟩])) m=rel b m:=fun m=>rfl
 simp only[e,e2]
 rw[z7x,z19,ze4]
 simp only[zrv h (show (b.C.length:Int)<(b.C.length:Int)+1 from om),yg,y12]
 by_cases k:code=c/\y=z
 ·rw[y6 k,y6 k]; omega
 ·rw[y5 k,y5 k]; omega
theorem zrw (h0:(bookS b p).2=0):Eff b p (bookS b p).1:=by
 unfold bookS at h0 |-
 by_cases c1:p.U=1
 ·rw[y6 c1] at h0 |-
  obtain⟨hv,hg,⟨hy,hd,hn⟩,hyr,hl,e⟩:=zjh h0
  rw[e]
  unfold amtP at hn
  have hu:=zhp hv p.B p.D p.Ab p.V
  refine⟨hv,zko hv hg hy hd hn hyr hl,fun c y=>?_,fun _=>⟨hn.1,hn.2,hu⟩,fun x hx=>?_,by simp[withR]⟩
  ·rw[hu]
   by_cases k:p.B=c/\p.D=y
   ·rw[y6 k,y6 ⟨c1,k⟩]; omega
   ·rw[y5 k,y5 (fun q=>k q.2)]; omega
  ·simp only[withR,y1n,y2k] at hx
   rcases hx with hx | rfl
   ·exact .inl ⟨x,hx,rfl,rfl⟩
   ·exact .inr ⟨c1,rfl,rfl⟩
 rw[y5 c1] at h0 |-
 have conv:∀ {b':TBo},Val b->Val b'->(∀ c y,usedV b' c y=usedV b c y)->∀ c y,usedE b' c y<=usedE b c y:=fun h h' e c y=>by
  have h1:=z2p h c y
  have h2:=z2p h' c y
  have:=e c y
  omega
 by_cases c2:p.U=2
 ·rw[y6 c2] at h0 |-
  obtain⟨hv,hv',hR⟩:=zku h0
  exact z7i hv hv' hR c1 (conv hv hv' fun c y=>zjb h0 c y)
 rw[y5 c2] at h0 |-
 by_cases c3:p.U=3
 ·rw[y6 c3] at h0 |-
  obtain⟨hv,hv',hR⟩:=zkv h0
  exact z7i hv hv' hR c1 (conv hv hv' fun c y=>zjc h0 c y)
 rw[y5 c3] at h0 |-
 by_cases c4:p.U=4
 ·rw[y6 c4] at h0 |-
  obtain⟨hv,hv',hR⟩:=zn3 h0
  exact z7i hv hv' hR c1 (conv hv hv' fun c y=>zkq h0 c y)
 rw[y5 c4] at h0 |-
 by_cases c5:p.U=5
 ·rw[y6 c5] at h0 |-
  obtain⟨hv,hv',hn,hr,hL,e⟩:=zji h0
  have hu:∀ c y,usedE (releaseS b p.Of p.V).1 c y<=usedE b c y:=fun c y=>by
   have h1:=z2p hv c y
   have h2:=z2p hv' c y
   have h3:=(zfo hv hn h0 c y).2
   unfold amtP at hn
   split at h3
   ·rw[wrapId om om] at h3; omega
   ·rw[wrapId om om] at h3; omega
  refine⟨hv,hv',fun c y=>by rw[y5 (fun k=>c1 k.1)]; have:=hu c y; omega,fun k=>absurd k c1,fun x hx=>?_,by rw[e]; simp[withR]⟩
  rw[e] at hx
  left
  rcases y20 hx with hx | rfl
  ·exact⟨x,hx,rfl,rfl⟩
  ·exact⟨rAt b p.Of,zfk hr,rfl,rfl⟩
 rw[y5 c5] at h0 |-
 by_cases c6:p.U=6
 ·rw[y6 c6] at h0 |-
  obtain⟨hv,hv',hn,hR⟩:=zpj h0
  refine z7i hv hv' hR c1 fun c y=>?_
  have h1:=z2p hv c y
  have h2:=z2p hv' c y
  have h3:=(zkw hv hn h0 c y).2
  unfold amtP at hn
  split at h3
  ·rw[wrapId om om] at h3; omega
  ·rw[wrapId om om] at h3; omega
 rw[y5 c6] at h0 |-
 obtain⟨hv,hv',hR,hC⟩:=zpk h0
 refine z7i hv hv' hR c1 (conv hv hv' fun c y=>?_)
 unfold usedV rel
 rw[hR,hC]
theorem uniqR (hS:Srt l) (hg:∀ x∈l,RtOk x) {x y:TRi} (hx:x∈l) (hy:y∈l) (h1:x.B=y.B) (h2:x.D=y.D):x=y:=by
 obtain⟨i,hi,rfl⟩:=z11 hx
 obtain⟨j,hj,rfl⟩:=z11 hy
 have h0:=(z5s (hg _ hx).1 (hg _ hy).1).2 ⟨h1,h2⟩
 rcases y3k i j with h | h | h
 ·have:=hS.lt hg h hj; omega
 ·rw[h]
 ·have:=hS.lt hg h hi
  have h3:=zgr (b:=l.getD i dF) (hg _ hy).1
  omega
theorem zbe (hS:Srt l) (hg:∀ x∈l,RtOk x) {x:TRi} (hx:x∈l):rightV l x.B x.D=x:=by
 obtain⟨h1,h2,h3⟩:=z3d (has_iff.2 ⟨x,hx,rfl,rfl⟩:hasR l x.B x.D=true)
 exact uniqR hS hg h1 hx h2 h3
theorem zn4 {a' b b':TRi} (h1:a.B=a'.B) (h2:a.D=a'.D) (h3:b.B=b'.B) (h4:b.D=b'.D):cmpR a b=cmpR a' b':=by
 unfold cmpR; rw[h1,h2,h3,h4]
theorem zfp {x:TRi} (h:x∈putL l r):x=r\/x∈l:=by
 unfold putL at h
 split at h
 ·exact (y20 h).symm
 ·unfold insL at h
  simp only[y1n,y14] at h
  rcases h with h | h | h
  ·exact .inr (y35 h)
  ·exact .inl h
  ·exact .inr (y36 h)
theorem z7j (l:List TRi) (r:TRi):r∈putL l r:=by
 unfold putL
 split
 ·rename_i h
  exact List.mem_set (z3t h).1 _
 ·unfold insL; simp
theorem zlw {x:TRi} (hx:x∈l) (h:¬ (x.B=r.B/\x.D=r.D)):x∈putL l r:=by
 unfold putL
 split
 ·rename_i hh
  obtain⟨h1,h2,h3⟩:=z3t hh
  obtain⟨i,hi,e⟩:=List.mem_iff_getElem.mp hx
  have hne:rix l r.B r.D≠i:=fun k=>h (by subst k; rw[z16 h1,e] at h2 h3; exact⟨h2,h3⟩)
  have h4:(l.set (rix l r.B r.D) r)[i]'(by rw[yh]; exact hi)=x:=by rw[y4k,y5 hne,e]
  rw[<- h4]
  exact y55 _
 ·unfold insL
  rw[y1n,y14]
  have:x∈l.take (posR l r)++l.drop (posR l r):=by rw[y2f]; exact hx
  rcases y1n.1 this with h | h
  ·exact .inl h
  ·exact .inr (.inr h)
theorem z6g (hg:∀ x∈l,RtOk x) (hr:RtOk r):∀ x∈putL l r,RtOk x:=fun x hx=>by
 rcases zfp hx with rfl | h
 ·exact hr
 ·exact hg x h
theorem zlx (hS:Srt l) (hg:∀ x∈l,RtOk x) (hr:RtOk r):Srt (putL l r):=by
 unfold putL
 split
 ·rename_i hh
  obtain⟨h1,h2,h3⟩:=z3t hh
  intro i hi
  rw[yh] at hi
  have key:∀ j,(((l.set (rix l r.B r.D) r).getD j dF).B=(l.getD j dF).B)/\((l.set (rix l r.B r.D) r).getD j dF).D=(l.getD j dF).D:=fun j=>by
   rw[z5q _ _ _ _ h1]
   by_cases e:j=rix l r.B r.D
   ·rw[y6 e,e,h2,h3]; exact⟨rfl,rfl⟩
   ·rw[y5 e]; exact⟨rfl,rfl⟩
  refine (hS i hi).imp id fun k=>?_
  rw[zn4 (key (i-1)).1 (key (i-1)).2 (key i).1 (key i).2]
  exact k
 ·rename_i hh
  have hp:=z73 l r
  intro i hi
  rw[zq] at hi
  rw[z1s hp,z1s hp]
  by_cases h0:i=0
  ·exact .inl h0
  right
  by_cases c1:i<posR l r
  ·rw[y6 om,y6 c1]
   exact (hS i om).resolve_left h0
  ·by_cases c2:i=posR l r
   ·rw[y6 om,y5 c1,y6 c2]
    exact zbz om
   ·rw[y5 c1,y5 c2]
    by_cases c3:i-1=posR l r
    ·rw[y5 om,y6 c3,c3]
     have h1:=zc0 (l:=l) (r:=r) om
     have hm:l.getD (posR l r) dF∈l:=z7 om
     have h2:cmpR (l.getD (posR l r) dF) r≠0:=fun k=>by
      obtain⟨k1,k2⟩:=(z5s (hg _ hm).1 hr.1).1 k
      exact hh (has_iff.2 ⟨_,hm,k1,k2⟩)
     have h3:=zgr (b:=r) (hg _ hm).1
     omega
    ·rw[y5 om,y5 c3]
     have:=(hS (i-1) om).resolve_left om
     exact this
theorem zly (h:hasR l c y=true):hasR (putL l r) c y=true:=by
 obtain⟨x,hx,h1,h2⟩:=has_iff.1 h
 by_cases k:x.B=r.B/\x.D=r.D
 ·exact has_iff.2 ⟨r,z7j l r,by rw[<- k.1,h1],by rw[<- k.2,h2]⟩
 ·exact has_iff.2 ⟨x,zlw hx k,h1,h2⟩
theorem z9v (hS:Srt l) (hg:∀ x∈l,RtOk x) (hr:RtOk r) (c:Y8) (y:Int):rightV (putL l r) c y=if r.B=c/\r.D=y then r else rightV l c y:=by
 have hS':=zlx hS hg hr
 have hg':=z6g hg hr
 by_cases k:r.B=c/\r.D=y
 ·rw[y6 k,<- k.1,<- k.2]
  exact zbe hS' hg' (z7j l r)
 ·rw[y5 k]
  by_cases h:hasR l c y=true
  ·obtain⟨h1,h2,h3⟩:=z3d h
   have:=zbe hS' hg' (zlw (r:=r) h1 (by rw[h2,h3]; exact fun q=>k ⟨q.1.symm,q.2.symm⟩))
   rwa [h2,h3] at this
  ·have h':¬ hasR (putL l r) c y=true:=fun q=>by
    obtain⟨x,hx,h1,h2⟩:=has_iff.1 q
    rcases zfp hx with rfl | hx
    ·exact k ⟨h1,h2⟩
    ·exact h (has_iff.2 ⟨x,hx,h1,h2⟩)
   unfold rightV
   rw[y5 h,y5 h']
theorem zu3 (h:l.length<=60) (h2:hasR l r.B r.D=true\/(l.length:Int)≠60):(putL l r).length<=60:=by
 unfold putL
 split
 ·rw[yh]; exact h
 ·rename_i hh
  rw[zq]
  have:=h2.resolve_left hh
  omega
theorem z4t (hg:∀ x∈l,RtOk x) (c:Y8) (y:Int):0<=(rightV l c y).Q/\(rightV l c y).Q<=(rightV l c y).A/\(rightV l c y).A<=1000000000000000/\0<=(rightV l c y).F/\(rightV l c y).F<=1000000000000000:=by
 by_cases h:hasR l c y=true
 ·have:=hg _ (z3d h).1
  unfold RtOk at this
  omega
 ·unfold rightV; rw[y5 h]; simp
theorem z9w (hg:∀ x∈o.L,RtOk x) (hv:Val o.Ag) (c:Y8) (y:Int):unusedV o c y=(rightV o.L c y).A-(rightV o.L c y).Q-usedE o.Ag c y:=by
 have h1:=z4t hg c y
 have h2:=z2p hv c y
 unfold unusedV
 rw[wrapId (n:=(rightV o.L c y).A-(rightV o.L c y).Q) om om,h2.1,wrapId om om]
theorem VO.unused (h:VO o) (c:Y8) (y:Int):unusedV o c y=(rightV o.L c y).A-(rightV o.L c y).Q-usedE o.Ag c y:=z9w h.ok h.val c y
theorem zn5 (h:∀ x∈b.C,¬ (x.B=c/\x.D=y)):usedE b c y=0:=by
 unfold usedE
 exact zlt fun x hx=>by
  have:=h x hx
  simp only[y3w,y3c,ne_eq]
  by_cases h1:x.B=c
  ·exact .inr fun h2=>this ⟨h1,h2⟩
  ·exact .inl h1
theorem VO.unused_nn (h:VO o) (c:Y8) (y:Int):0<=unusedV o c y:=by
 by_cases hx:∃ x∈o.Ag.C,x.B=c/\x.D=y
 ·obtain⟨x,hx,rfl,rfl⟩:=hx
  exact (h.2.2.2.2.2 x hx).2
 ·rw[h.unused,zn5 fun x hx' e=>hx ⟨x,hx',e⟩]
  have:=z4t h.ok c y
  omega
theorem VO.smO (h:VO o):SmO o:=by
 have h1:=h.val
 have h2:=h1.2.2.2.2.2.2
 refine⟨⟨⟨om,om,om,om⟩,fun r hr=>?_⟩,by have:=h.len; omega,fun r hr=>(h.ok r hr).len⟩
 have:=z3q (h1.1.mem hr).1.2.1
 omega
theorem zlz (hv:VO o) (hk:p.U≠7/\p.U≠8) (h0:(stepS o p).2=0) :
  (stepS o p).1=⟨o.S,o.L,(bookS o.Ag p).1⟩/\(bookS o.Ag p).2=0/\Eff o.Ag p (bookS o.Ag p).1/\(p.U=1->p.V<=unusedV o p.B p.D)/\VO (stepS o p).1:=by
 unfold stepS at h0 |-
 rw[y5 hk.2,y5 hk.1] at h0 |-
 by_cases c1:(bookS o.Ag p).2≠0
 ·rw[y6 c1] at h0; exact absurd h0 c1
 rw[y5 c1] at h0 |-
 by_cases c2:p.U=1/\p.V>unusedV o p.B p.D
 ·rw[y6 c2] at h0; cases h0
 rw[y5 c2]
 have c1:=nnm c1
 have he:=zrw c1
 have hu:p.U=1->p.V<=unusedV o p.B p.D:=fun k=>y2v.1 fun q=>c2 ⟨k,q⟩
 refine⟨rfl,c1,he,hu,hv.1,hv.len,he.2.1,hv.ok,hv.srt,fun x hx=>?_⟩
 have hx:=he.2.2.2.2.1 x hx
 have hh:hasR o.L x.B x.D=true:=by
  rcases hx with ⟨z,hz,e1,e2⟩ | ⟨k,e1,e2⟩
  ·rw[<- e1,<- e2]; exact (hv.2.2.2.2.2 z hz).1
  ·rw[e1,e2]
   have h1:=hu k
   have h2:=(he.2.2.2.1 k).1
   refine Classical.byContradiction fun q=>?_
   rw[hv.unused] at h1
   have h3:=z2p hv.val p.B p.D
   unfold rightV at h1
   rw[y5 q] at h1
   simp only at h1
   omega
 refine⟨hh,?_⟩
 rw[z9w (o:=⟨o.S,o.L,(bookS o.Ag p).1⟩) hv.ok he.2.1]
 have h1:=he.2.2.1 x.B x.D
 have h2:=hv.unused x.B x.D
 have h3:=hv.unused_nn x.B x.D
 by_cases k:p.U=1/\p.B=x.B/\p.D=x.D
 ·rw[y6 k] at h1
  have h4:=hu k.1
  rw[k.2.1,k.2.2] at h4
  simp only
  omega
 ·rw[y5 k] at h1
  simp only
  omega
theorem zpl (hv:VO o) (hr:RtOk r) (hl:hasR o.L r.B r.D=true\/(o.L.length:Int)≠60) (hu:usedE o.Ag r.B r.D<=r.A-r.Q):VO ⟨o.S,putL o.L r,o.Ag⟩:=by
 refine⟨hv.1,zu3 hv.len hl,hv.val,z6g hv.ok hr,zlx hv.srt hv.ok hr,fun x hx=>⟨zly (hv.2.2.2.2.2 x hx).1,?_⟩⟩
 rw[z9w (o:=⟨o.S,putL o.L r,o.Ag⟩) (z6g hv.ok hr) hv.val]
 simp only
 rw[z9v hv.srt hv.ok hr]
 by_cases k:r.B=x.B/\r.D=x.D
 ·rw[y6 k,<- k.1,<- k.2]; omega
 ·rw[y5 k]
  have h2:=hv.unused x.B x.D
  have h3:=hv.unused_nn x.B x.D
  omega
theorem zfq (hv:VO o) (h0:(hearS o p).2=0) :
  ∃ r,(hearS o p).1=⟨o.S,putL o.L r,o.Ag⟩/\RtOk r/\r.B=p.B/\r.D=p.D/\r=⟨p.B,p.D,if p.A>(rightV o.L p.B p.D).A then p.A else (rightV o.L p.B p.D).A,if p.Ae>(rightV o.L p.B p.D).F then p.Ae else (rightV o.L p.B p.D).F,(rightV o.L p.B p.D).Q⟩/\VO (hearS o p).1:=by
 unfold hearS at h0 |-
 by_cases c1:¬ good p.B=true
 ·rw[y6 c1] at h0; cases h0
 rw[y5 c1] at h0 |-
 by_cases c2:p.D<0\/p.D>99
 ·rw[y6 c2] at h0; cases h0
 rw[y5 c2] at h0 |-
 by_cases c3:hasR o.L p.B p.D=false/\(o.L.length:Int)=60
 ·rw[y6 c3] at h0; cases h0
 rw[y5 c3] at h0 |-
 by_cases c4:(learnS (rightV o.L p.B p.D) (msgOf p)).2≠0
 ·rw[y6 c4] at h0; exact absurd h0 c4
 rw[y5 c4]
 have h1:=zbc (nnm c4)
 have hcy:=z4s o.L p.B p.D
 rw[hcy.1,hcy.2] at h1
 refine⟨_,rfl,h1.2.2.2.2,by rw[h1.2.2.2.1],by rw[h1.2.2.2.1],h1.2.2.2.1,zpl hv h1.2.2.2.2 ?_ ?_⟩
 ·rw[h1.2.2.2.1]
  simp only
  by_cases k:hasR o.L p.B p.D=true
  ·exact .inl k
  ·exact .inr fun q=>c3 ⟨by simpa using k,q⟩
 ·rw[h1.2.2.2.1]
  have h2:=hv.unused p.B p.D
  have h3:=hv.unused_nn p.B p.D
  have h4:(rightV o.L p.B p.D).A<=if (msgOf p).A>(rightV o.L p.B p.D).A then (msgOf p).A else (rightV o.L p.B p.D).A:=by split <;> omega
  simp only
  omega
theorem zm0 (hv:VO o) (h0:(giveS o p).2=0) :
  hasR o.L p.B p.D=true/\1<=p.V/\p.V<=unusedV o p.B p.D/\∃ r,(giveS o p).1=⟨o.S,putL o.L r,o.Ag⟩/\RtOk r/\r=⟨p.B,p.D,(rightV o.L p.B p.D).A,(rightV o.L p.B p.D).F,(rightV o.L p.B p.D).Q+p.V⟩/\VO (giveS o p).1:=by
 unfold giveS at h0 |-
 by_cases c1:¬ hasR o.L p.B p.D=true
 ·rw[y6 c1] at h0; cases h0
 rw[y5 c1] at h0 |-
 by_cases c4:(returnS (rightV o.L p.B p.D) (usedV o.Ag p.B p.D) p.V).2≠0
 ·rw[y6 c4] at h0; exact absurd h0 c4
 rw[y5 c4]
 have h1:=z9u (nnm c4)
 have hcy:=z4s o.L p.B p.D
 have hu:=z2p hv.val p.B p.D
 rw[hcy.1,hcy.2,hu.1] at h1
 have c1:=nnm c1
 rw[hu.1]
 refine⟨c1,h1.2.2.1,by rw[hv.unused]; exact h1.2.2.2.1,_,rfl,h1.2.2.2.2.2,h1.2.2.2.2.1,zpl hv h1.2.2.2.2.2 (.inl ?_) ?_⟩
 ·rw[h1.2.2.2.2.1]; exact c1
 ·rw[h1.2.2.2.2.1]
  simp only
  omega
theorem zfr (h0:(doS o p).2=0):VO o/\(1<=p.U/\p.U<=9)/\doS o p=stepS o p:=by
 unfold doS at h0 |-
 split at h0
 ·cases h0
 ·rename_i h
  rw[y5 h]
  exact⟨Classical.byContradiction fun k=>h (.inl k),om,rfl⟩
theorem zeb (hv:VO o) (hk:1<=p.U/\p.U<=9):doS o p=stepS o p:=by
 unfold doS
 rw[y5 (fun k=>k.elim (fun k=>k hv) fun k=>om)]
theorem zc1 (h0:(doS o p).2=0):VO (doS o p).1:=by
 obtain⟨hv,hk,e⟩:=zfr h0
 rw[e] at h0 |-
 by_cases c8:p.U=8
 ·have e8:stepS o p=hearS o p:=by unfold stepS; rw[y6 c8]
  rw[e8] at h0 |-
  obtain⟨r,_,_,_,_,_,h⟩:=zfq hv h0
  exact h
 by_cases c7:p.U=7
 ·have e7:stepS o p=giveS o p:=by unfold stepS; rw[y5 c8,y6 c7]
  rw[e7] at h0 |-
  obtain⟨_,_,_,r,_,_,_,h⟩:=zm0 hv h0
  exact h
 exact (zlz hv ⟨c7,c8⟩ h0).2.2.2.2
def OI (k:Nat) (o:TOf):Prop:=VO o/\o.Ag.C.length<=k/\o.L.length<=k/\∀ r∈o.L,r.A<=1000
theorem zu4 (ho:Few o.Ag) (hs:TapeOk s) (day:Int):∃ p s',F_q3m o day s=some (p,s')/\TapeOk s'/\p.B.length<=60/\p.A<=1000/\p.V<=120:=by
 obtain⟨l1,l2,l3,l4⟩:=ho
 obtain⟨k,s1,e1,t1,k1⟩:=z15 (l:=[1,1,1,2,2,2,3,3,3,4,4,5,6,7,8,8,9]) hs dk dk
 obtain⟨co,s2,e2,t2,hc,_⟩:=zja t1
 obtain⟨n1,s3,e3,t3,_,hn1⟩:=z2u (lo:=1) (hi:=120) t2 om om om
 obtain⟨n2,s4,e4,t4,hn2⟩:=z15 (l:=[10,50,n1]) t3 sj sj
 have hn2:n2<=120:=by simp at hn2; omega
 simp only[F_q3m,S_q3m,Scr.den,e1,e2,e3,e4,obind]
 generalize i64.wrap (day.tdiv 360)=yy
 have fin:∀ (s5:TTape) (p:TOp),TapeOk s5->p.B.length<=60->p.A<=1000->p.V<=120 ->
   ∃ p' s',outM (some (Out.next (s5,p):Out (TTape×TOp) R_q3m)) (fun (sv5:TTape×TOp)=>outM (if (sv5.2.U==2)=true then (F_q1g 1 4 sv5.1).bind fun rv17=>(F_q2 60 rv17.2).bind fun rv18=>some (Out.next (rv18.2,(⟨sv5.2.U,sv5.2.B,sv5.2.D,sv5.2.Ab,sv5.2.Of,sv5.2.V,rv17.1,(i64.wrap (day+rv18.1)),sv5.2.A,sv5.2.Ae⟩:TOp)):Out (TTape×TOp) R_q3m) else some (Out.next (sv5.1,sv5.2))) (fun (sv16:TTape×TOp)=>some (sv16.2,sv16.1)) some) some=some (p',s')/\TapeOk s'/\p'.B.length<=60/\p'.A<=1000/\p'.V<=120:=fun s5 p ht h1 h2 h3=>by
  simp only[outM]
  by_cases hk:(p.U==2)=true
  ·rw[y6 hk]
   obtain⟨x1,s6,q1,t6,_,_⟩:=z2u (lo:=1) (hi:=4) ht om om om
   obtain⟨x2,s7,q2,t7,_,_⟩:=z1c (n:=60) t6 om om
   simp only[q1,q2,obind]
   exact⟨_,_,rfl,t7,h1,h2,h3⟩
  ·rw[y5 hk]
   exact⟨_,_,rfl,ht,h1,h2,h3⟩
 have lm:∀ {α:Type} (l:List α),l.length<=1000000->(1:Int)<=(if (l.length:Int)>1 then (l.length:Int) else 1)/\(if (l.length:Int)>1 then (l.length:Int) else 1)<=1000000:=fun l h=>by split <;> omega
 have m1:=lm o.Ag.C l1
 have m2:=lm o.Ag.H l2
 have m3:=lm o.Ag.J l3
 have two:∀ {c d:Bool} {P:Prop},(c=true->P)->(d=true->P)->(c=false->d=false->P)->P:=fun {c d P} h1 h2 h3=>by
  cases hc:c
  ·cases hd:d
   ·exact h3 hc hd
   ·exact h2 hd
  ·exact h1 hc
 have g1:∀ {β:Type} (c d:Bool),(c||d)=true->(if c=true then some (Out.next c) else some (Out.next d):Option (Out Bool β))=some (Out.next true):=fun {_} c d h=>by cases c <;> cases d <;> first | rfl | cases h
 have g0:∀ {β:Type} (c d:Bool),(c||d)=false->(if c=true then some (Out.next c) else some (Out.next d):Option (Out Bool β))=some (Out.next false):=fun {_} c d h=>by cases c <;> cases d <;> first | rfl | cases h
 by_cases c1:((k==2)||(k==5))=true
 ·rw[g1 _ _ c1]
  obtain⟨x1,s5,q1,t5,_,_⟩:=z2u (lo:=1) (hi:=(if (o.Ag.C.length:Int)>1 then (o.Ag.C.length:Int) else 1)) t4 om m1.1 om
  simp only[outM,y17,q1,obind]
  exact fin _ ⟨k,co,yy,day,x1,n2,0,0,0,0⟩ t5 hc (by show (0:Int)<=1000; decide) hn2
 have c1:((k==2)||(k==5))=false:=by simpa using c1
 rw[g0 _ _ c1]
 by_cases c2:((k==3)||(k==6))=true
 ·rw[g1 _ _ c2]
  obtain⟨x1,s5,q1,t5,_,_⟩:=z2u (lo:=1) (hi:=(if (o.Ag.H.length:Int)>1 then (o.Ag.H.length:Int) else 1)) t4 om m2.1 om
  simp only[outM,yo,y17,yx,q1,obind]
  exact fin _ ⟨k,co,yy,day,x1,n2,0,0,0,0⟩ t5 hc (by show (0:Int)<=1000; decide) hn2
 have c2:((k==3)||(k==6))=false:=by simpa using c2
 rw[g0 _ _ c2]
 by_cases c3:((k==4)||(k==9))=true
 ·rw[g1 _ _ c3]
  obtain⟨x1,s5,q1,t5,_,_⟩:=z2u (lo:=1) (hi:=(if (o.Ag.J.length:Int)>1 then (o.Ag.J.length:Int) else 1)) t4 om m3.1 om
  simp only[outM,yo,y17,yx,q1,obind]
  exact fin _ ⟨k,co,yy,day,x1,n2,0,0,0,0⟩ t5 hc (by show (0:Int)<=1000; decide) hn2
 have c3:((k==4)||(k==9))=false:=by simpa using c3
 rw[g0 _ _ c3]
 by_cases c4:(k==8)=true
 ·obtain⟨x1,s5,q1,t5,_,y1⟩:=z1c (n:=1000) t4 om om
  obtain⟨x2,s6,q2,t6,y2⟩:=z15 (l:=[100,400,x1]) t5 sj sj
  obtain⟨x3,s7,q3,t7,_,y3⟩:=z1c (n:=200) t6 om om
  obtain⟨x4,s8,q4,t8,y4⟩:=z15 (l:=[0,0,x3]) t7 sj sj
  simp only[outM,yo,yx,y6 c4,q1,q2,q3,q4,obind]
  exact fin _ ⟨k,co,yy,day,0,n2,0,0,x2,x4⟩ t8 hc (by simp at y2; show x2<=1000; omega) hn2
 ·simp only[outM,yo,yx,y5 c4]
  exact fin _ ⟨k,co,yy,day,0,n2,0,0,0,0⟩ t4 hc (by show (0:Int)<=1000; decide) hn2
theorem zrx (hv:VO o) (hs:TapeOk s) (day:Int):∃ p s',F_q3m o day s=some (p,s')/\TapeOk s'/\p.B.length<=60/\p.A<=1000/\p.V<=120:=zu4 hv.smO.1.1 hs day
theorem zec (n:Int):F_q42 n=some (if n<1\/n>6 then (noO,2) else (⟨n,[],nb⟩,0)):=by
 simp only[F_q42,S_q42,Scr.den,z8]
 exact st (by simp only[yc,y7]) (fun _=>rfl) (fun _=>rfl)
theorem zpm (h1:1<=n) (h2:n<=6):OI 0 ⟨n,[],nb⟩ :=
 ⟨⟨⟨h1,h2⟩,sj,zpc,(fun _ h=>nomatch h),(fun i hi=>absurd hi sj),(fun x hx=>nomatch hx)⟩,(by simp[nb]),sj,(fun _ h=>nomatch h)⟩
def wantedS (r:TRi) (u:Int):Int :=
 if RtOk r/\(0<=u/\u<=r.A-r.Q) then (if r.A-u<r.F then (if r.A-u-r.Q>0 then r.A-u-r.Q else 0) else (if r.F-r.Q>0 then r.F-r.Q else 0)) else 0
theorem wn1:(if 0>x then 0 else x)=(if x>0 then x else 0):=by split <;> split <;> omega
theorem wn2 (h:x=y):(if x>0 then x else 0)=(if y>0 then y else 0):=by rw[h]
theorem zdj (h:r.B.length<=1000000):F_q73 r u=some (wantedS r u):=by
 open Classical in simp only[F_q73,S_q73,Scr.den,z3l h,z13,z12,obind,z8,z1y]
 unfold wantedS
 by_cases hR:RtOk r
 ·have hR':=hR
  unfold RtOk at hR'
  have w1:i64.wrap (r.A-r.Q)=r.A-r.Q:=wrapId om om
  rw[w1]
  by_cases hu:0<=u/\u<=r.A-r.Q
  ·rw[y6 (show RtOk r/\(0<=u/\u<=r.A-r.Q) from ⟨hR,hu⟩),y5 (by simp[hR,hu]),wrapId (n:=r.A-u) om om]
   refine y15 some ?_
   by_cases k:r.A-u<r.F
   ·simp only[y6 k]
    rw[wrapId om om]
    exact wn1
   ·simp only[y5 k]
    rw[wrapId om om]
    exact wn1
  ·rw[y6 (by simp[hR]; omega),y5 (fun k=>hu k.2)]
 ·rw[y6 (by simp[hR]),y5 (fun k=>hR k.1)]
theorem zhq (h:r.B.length<=1000000):F_q5t r u=some (wantedS r u):=by
 simp only[F_q5t,S_q5t,Scr.den,z57 h,obind,z8]
 unfold wantedS
 by_cases hR:RtOk r
 ·have hR':=hR
  unfold RtOk at hR'
  have w1:i64.wrap (r.A-r.Q)=r.A-r.Q:=wrapId om om
  rw[w1]
  by_cases hu:0<=u/\u<=r.A-r.Q
  ·rw[y6 (show RtOk r/\(0<=u/\u<=r.A-r.Q) from ⟨hR,hu⟩),y5 (by simp[hR]; omega),wrapId (n:=r.A-r.Q-u) om om,wrapId (n:=r.F-r.Q) om om]
   refine y15 some ?_
   by_cases k:r.A-u<r.F
   ·rw[y6 k]
    simp only[y6 (show r.A-r.Q-u<r.F-r.Q from om)]
    exact wn2 om
   ·rw[y5 k]
    simp only[y5 (show ¬ (r.A-r.Q-u<r.F-r.Q) from om)]
  ·rw[y6 (by simp[hR]; omega),y5 (fun k=>hu k.2)]
 ·rw[y6 (by simp[hR]),y5 (fun k=>hR k.1)]
def noP:TOp:=⟨0,[],0,0,0,0,0,0,0,0⟩
open Classical in
noncomputable def answerS (o:TOf) (c:Y8) (y:Int):TOp×Bool :=
 if ¬ VO o then (noP,false) else
 if wantedS (rightV o.L c y) (usedV o.Ag c y)=0 then (noP,false) else (⟨7,c,y,0,0,wantedS (rightV o.L c y) (usedV o.Ag c y),0,0,0,0⟩,true)
theorem zcq (l:List TRi) (hc:c.length<=1000000) (y:Int):(rightV l c y).B.length<=1000000:=by
 rw[(z4s l c y).1]; exact hc
theorem zpn (hs:SmO o) (hc:c.length<=1000000) (y:Int):F_q74 o c y=some (answerS o c y):=by
 simp only[F_q74,S_q74,Scr.den,z8s hs,z2k,zbw,zdj (zcq o.L hc y),obind]
 unfold answerS
 refine st sj (fun _=>rfl) fun _=>?_
 refine st (by simp only[y12]) (fun _=>rfl) fun _=>rfl
theorem zae (hs:SmO o) (hc:c.length<=1000000) (y:Int):F_q4n o c y=some (answerS o c y):=by
 simp only[F_q4n,S_q4n,Scr.den,z7h hs,z1g,z4b,zhq (zcq o.L hc y),obind]
 unfold answerS
 refine st sj (fun _=>rfl) fun _=>?_
 refine st (by simp only[y12]) (fun _=>rfl) fun _=>rfl
def noM:TMe:=⟨0,0,[],0,0,0,0,0⟩
open Classical in
noncomputable def reportS (o:TOf) (c:Y8) (y:Int):TMe×Int :=
 if ¬ VO o then (noM,1) else
 if ¬ hasR o.L c y=true then (noM,6) else (⟨o.S,0,c,y,0,0,(rightV o.L c y).Q,usedV o.Ag c y⟩,0)
theorem zpo (hs:SmO o) (c:Y8) (y:Int):F_q6v o c y=some (reportS o c y):=by
 simp only[F_q6v,S_q6v,Scr.den,z8s hs,ze8,z2k,zbw,obind]
 unfold reportS
 refine st sj (fun _=>rfl) fun _=>?_
 refine st sj (fun _=>rfl) fun _=>rfl
theorem zhr (hs:SmO o) (c:Y8) (y:Int):F_q5z o c y=some (reportS o c y):=by
 simp only[F_q5z,S_q5z,Scr.den,z7h hs,at_eq,z1g,z4b,obind]
 unfold reportS
 refine st sj (fun _=>rfl) fun _=>?_
 refine st (by cases hh:hasR o.L c y <;> simp <;> (try exact y2v.2 (y1z _))) (fun _=>rfl) fun _=>rfl
def a1:TOf:=⟨2,[],nb⟩
def a2:TOf:=⟨2,[⟨[49],12,100,0,0⟩],nb⟩
def aR:TRe:=⟨1,[49],12,4330,60,0⟩
def a3:TOf:=⟨2,[⟨[49],12,100,0,0⟩],⟨[aR],[],[],[]⟩⟩
def a4:TOf:=⟨2,[⟨[49],12,100,0,40⟩],⟨[aR],[],[],[]⟩⟩
def q1:TOp:=⟨8,[49],12,0,0,0,0,0,100,0⟩
def q2:TOp:=⟨1,[49],12,4330,0,60,0,0,0,0⟩
def q3:TOp:=⟨7,[49],12,0,0,40,0,0,0,0⟩
def q4:TOp:=⟨1,[49],12,4330,0,1,0,0,0,0⟩
theorem va1:VO a1:=(zpm om om).1
theorem st1:doS a1 q1=(a2,0):=by
 rw[zeb va1 dk]
 unfold stepS
 rw[y6 dk]
 kernel_rfl
theorem va2:VO a2:=by have:=zc1 (o:=a1) (p:=q1) (by rw[st1]); rwa [st1] at this
theorem st2:doS a2 q2=(a3,0):=by
 rw[zeb va2 dk]
 unfold stepS
 have h:reserveS a2.Ag q2.B q2.D q2.Ab q2.V=(⟨[aR],[],[],[]⟩,0) :=
  zkt (b:=nb) (code:=[49]) (y:=12) (d:=4330) (n:=60) zpc (by decide +kernel) dk dk dk dk dk
 have hu:unusedV a2 q2.B q2.D=100:=by decide +kernel
 have hb:bookS a2.Ag q2=(⟨[aR],[],[],[]⟩,0):=by unfold bookS; rw[y6 dk,h]
 rw[y5 dk,y5 dk,hb,y5 dk,y5 (by rw[hu]; decide)]
 rfl
theorem va3:VO a3:=by have:=zc1 (o:=a2) (p:=q2) (by rw[st2]); rwa [st2] at this
theorem st3:doS a3 q3=(a4,0):=by
 rw[zeb va3 dk]
 unfold stepS
 rw[y5 dk,y6 dk]
 kernel_rfl
end Go.Proofs.YtgbpiaddmclccaaGreatDoor
namespace Go.Proofs.YtgbpiaddmclccaaGreatDoor.J13
open Go Go.TA
open Go.IntKind (i64)
def tot (n:Int):Prop:=0<=n/\n<=1000000000000000
instance (n:Int):Decidable (tot n):=by unfold tot; infer_instance
theorem zed (l:List Int) (a:Int):l.foldl (fun s x=>i64.wrap (s+x)) (i64.wrap a)=i64.wrap (a+l.sum):=by
 induction l generalizing a with
 | nil=>simp
 | cons x l ih=>rw[y2y,z6b,ih,y21,y5q]
theorem z81:i64.wrap 0=0:=wrapId om om
theorem zjj (l:List Int):F_q13 l=some (i64.wrap l.sum):=by
 have e:=zed l 0
 rw[z81,Int.zero_add] at e
 simp only[F_q13,S_q13,Scr.den]
 rw[z1x (ρ:=Int) (body:=fun i s=>(S_q13_b1 l i s).den) l (fun (s:Int) x=>i64.wrap (s+x)) (fun i s hi=>rfl)]
 simp only[outM,e]
theorem zjk {c:Y8} (hc:c.length<=1000000) (y:Int):F_q37 c y=some (good c&&decide (0<=y/\y<=99)):=by
 have hg:=z3b c
 simp only[F_q37,S_q37,Scr.den,z3c (l:=c) om,obind,za]
 have e:decide (((parts c).length:Int)>0)=good c:=by rw[<- hg]; simp
 rw[e]
 cases good c with
 | true=>rw[Gg]; simp[z13]
 | false=>rw[Gh]; simp
theorem zcr (n:Int):F_q1n n=some (decide (tot n)):=by rw[z56]; rfl
theorem z3u (n:Int):F_qo n=some (decide (tot n)):=by
 simp only[F_qo,S_qo,Scr.den,za]
 congr 1
 by_cases h:tot n
 ·rw[y9 h,y9 h.1,y9 h.2]; rfl
 ·rw[ya h]
  unfold tot at h
  simp only[y3w,yf,y41]
  omega
def rowT (l:List Int):Bool:=l.all fun x=>decide (tot x)
theorem zjl (l:List Int):F_q2v l=some (if rowT l=true then -1 else ((l.findIdx fun x=>!decide (tot x):Nat):Int)):=by
 simp only[F_q2v,S_q2v,Scr.den]
 rw[z3s l (fun x=>!decide (tot x)) (fun i=>(i:Int)) (fun i hi=>by
  simp only[S_q2v_b1,F_q77,S_q77,Scr.den,zcr,obind]
  split <;> rfl)]
 have e:(l.any fun x=>!decide (tot x))=!rowT l:=by rw[rowT,List.all_eq_not_any_not,Bool.not_not]
 rw[e]
 cases rowT l <;> rfl
theorem zkx (l:List Int):F_q5b l=some (!rowT l):=by
 simp only[F_q5b,S_q5b,Scr.den,zjl,obind]
 congr 1
 cases rowT l with
 | true=>rfl
 | false=>simp
variable {l:List Int}
theorem z5t:rowT l=true↔∀ x∈l,tot x:=by simp[rowT]
def rowOk (n:Int) (l:List Int):Prop:=(l.length:Int)=n/\∀ x∈l,tot x
instance (n:Int) (l:List Int):Decidable (rowOk n l):=by unfold rowOk; infer_instance
def leRow (a b:List Int):Prop:=∀ i,i<b.length->a.getD i dF<=b.getD i dF
instance (a b:List Int):Decidable (leRow a b):=by unfold leRow; infer_instance
def PotOk (n:Int) (p:TPo):Prop:=good p.B=true/\(0<=p.D/\p.D<=99)/\(-1000000000000000<=p.T/\p.T<=1000000000000000) /\
 (rowOk n p.A/\rowOk n p.G/\rowOk n p.F/\rowOk n p.M)/\(leRow p.G p.A/\leRow p.F p.A)/\p.A.sum<=1000000000000000
instance (n:Int) (p:TPo):Decidable (PotOk n p):=by unfold PotOk; infer_instance
theorem z4u (h:∀ x∈l,tot x):0<=l.sum/\l.sum<=l.length * 1000000000000000:=by
 induction l with
 | nil=>simp
 | cons x l ih =>
  have h1:=h x sj
  have h2:=ih fun y hy=>h y (by simp[hy])
  unfold tot at h1
  simp only[y21,yn]
  omega
variable {n:Int}
theorem zjm (h:rowOk n l) (hn:n<=6):i64.wrap l.sum=l.sum:=by
 have:=z4u h.2
 have:=h.1
 exact wrapId om om
theorem zpp (p:TPo) (n:Int):rangeM (fun i s=>(S_qn_b1 p n i s).den) 4 0 () =
  some (if rowOk n p.A/\rowOk n p.G/\rowOk n p.F/\rowOk n p.M then .next () else .ret false):=by
 have one:∀ i (l:List Int),([p.A,p.G,p.F,p.M]:List (List Int)).getD i dF=l->(S_qn_b1 p n i ()).den=some (if rowOk n l then .cont () else .ret false):=fun i l hl=>by
  simp only[S_qn_b1,Scr.den,hl,z8]
  by_cases h1:(l.length:Int)=n
  ·rw[zg (by simp[AllP,h1]),zkx]
   simp only[obind,h1,y5s,y3n]
   by_cases h2:rowT l=true
   ·rw[h2,y5 sj,y6 ⟨h1,z5t.1 h2⟩]
   ·rw[y6 (by simpa using h2),y5 fun h=>h2 (z5t.2 h.2)]
  ·rw[zj (by simp[AllP,h1])]
   simp only[obind]
   rw[y6 (by simp[h1]),y5 fun h=>h1 h.1]
 rw[show (4:Nat)=0+1+1+1+1 from rfl]
 simp only[rangeM,one 0 p.A rfl,one (0+1) p.G rfl,one (0+1+1) p.F rfl,one (0+1+1+1) p.M rfl]
 by_cases h1:rowOk n p.A <;> by_cases h2:rowOk n p.G <;> by_cases h3:rowOk n p.F <;> by_cases h4:rowOk n p.M <;> simp[h1,h2,h3,h4]
variable {p:TPo}
theorem zry (hc:p.B.length<=1000000) (hn:n<=6):F_qn p n=some (decide (PotOk n p)):=by
 simp only[F_qn,S_qn,Scr.den,zjk hc,obind,z8]
 by_cases h1:(good p.B&&decide (0<=p.D/\p.D<=99))=true
 ·rw[zg (by rw[h1]; exact⟨rfl,trivial⟩),z13]
  simp only[obind,h1,y27,y3n]
  by_cases h2:-1000000000000000<=p.T/\p.T<=1000000000000000
  ·rw[y5 (by simpa using h2),zpp]
   by_cases h3:rowOk n p.A/\rowOk n p.G/\rowOk n p.F/\rowOk n p.M
   ·rw[y6 h3]
    simp only[outM]
    have l1:=h3.1.1; have l2:=h3.2.1.1; have l3:=h3.2.2.1.1
    have ra:=zl (ρ:=Bool) (n:=p.A.length) (c:=false) (body:=fun i s=>(S_qn_b2 p i s).den) (fun i=>p.G.getD i dF<=p.A.getD i dF/\p.F.getD i dF<=p.A.getD i dF) (fun i hi hp=>by
     simp only[S_qn_b2,Scr.den,z8]
     rw[z6 (by simp only[AllP,y16]; exact⟨om,fun _=>om⟩),y5 (by simp only[yc,y7]; omega)]) (fun i hi hp=>by
     simp only[S_qn_b2,Scr.den,z8]
     rw[z6 (by simp only[AllP,y16]; exact⟨om,fun _=>om⟩),y6 (by simp only[yc,y7]; omega)])
    by_cases h4:∀ j,j<p.A.length->p.G.getD j dF<=p.A.getD j dF/\p.F.getD j dF<=p.A.getD j dF
    ·rw[ra.1 h4]
     simp only[zjj,obind,zjm h3.1 hn]
     congr 1
     refine decide_eq_decide.2 ⟨fun h=>?_,fun h=>h.2.2.2.2.2⟩
     simp only[yg,y7] at h1
     exact⟨h1.1,h1.2,h2,h3,⟨fun i hi=>(h4 i hi).1,fun i hi=>(h4 i hi).2⟩,h⟩
    ·rw[ra.2 h4]
     show some false=_
     rw[ya fun h=>h4 fun j hj=>⟨h.2.2.2.2.1.1 j hj,h.2.2.2.2.1.2 j hj⟩]
   ·rw[y5 h3]
    simp only[outM]
    rw[ya fun h=>h3 h.2.2.2.1]
    rfl
  ·rw[y6 (by simp only[yi,yf]; exact h2),ya fun h=>h2 h.2.2.1]
 ·rw[zj (by rw[y57] at h1; rw[h1]; simp[AllP])]
  simp only[obind]
  rw[y6 (by rw[y57] at h1; rw[h1]; rfl),ya fun h=>h1 (by simp[h.1,h.2.1])]
theorem zee {α σ ρ:Type} [Inhabited α] {body:Nat->σ->Option (Step σ ρ)} (l:List α) (ok:Nat->Prop) [DecidablePred ok] (g:σ->α->σ) {c:ρ} {s0:σ}
  (hs:∀ i s,i<l.length->body i s=some (if ok i then .cont (g s (l.getD i dF)) else .ret c)) :
  rangeM body l.length 0 s0=some (if (∀ i,i<l.length->ok i) then .next (l.foldl g s0) else .ret c):=by
 by_cases h:∀ i,i<l.length->ok i
 ·rw[y6 h]
  exact z1x l g fun i s hi=>by rw[hs i s hi,y6 (h i hi)]
 ·rw[y5 h]
  have key:∀ (k i:Nat) (s:σ),i+k=l.length->(¬ ∀ j,i<=j->j<l.length->ok j)->rangeM body k i s=some (.ret c):=by
   intro k
   induction k with
   | zero=>intro i s hk hn; exact absurd (fun j h1 h2=>om) hn
   | succ k ih =>
    intro i s hk hn
    simp only[rangeM,hs i s om]
    by_cases ho:ok i
    ·rw[y6 ho]
     refine ih (i+1) _ om fun hall=>hn fun j h1 h2=>?_
     by_cases hj:j=i
     ·subst hj; exact ho
     ·exact hall j om h2
    ·rw[y5 ho]
  exact key l.length 0 s0 om fun hall=>h fun i hi=>hall i om hi
def okP (g h a u:Int):Prop:=tot g/\tot h/\tot a/\tot u/\h<=g/\a<=g
instance (g h a u:Int):Decidable (okP g h a u):=by unfold okP; infer_instance
theorem zrz {i:Nat} {s:Int} (h1:i<p.G.length) (h2:i<p.F.length) (h3:i<p.M.length) :
  (S_q1r_b1 p i s).den=some (if okP (p.A.getD i dF) (p.G.getD i dF) (p.F.getD i dF) (p.M.getD i dF) then .cont (i64.wrap (s+p.A.getD i dF)) else .ret false):=by
 simp only[S_q1r_b1,Scr.den,z3u,obind,z8]
 simp only[h1,h2,h3,implies_true]
 generalize p.A.getD i dF=g
 generalize p.G.getD i dF=h
 generalize p.F.getD i dF=a
 generalize p.M.getD i dF=u
 by_cases hA:tot g
 ·by_cases hB:tot h
  ·by_cases hC:tot a
   ·by_cases hD:tot u
    ·by_cases hE:h<=g
     ·by_cases hF:a<=g
      ·rw[y6 ⟨hA,hB,hC,hD,hE,hF⟩]
       simp[optD,AllP,hA,hB,hC,hD,guardP,Int.not_lt.2 hE,Int.not_lt.2 hF]
      ·rw[y5 fun h=>hF h.2.2.2.2.2]
       simp[optD,AllP,hA,hB,hC,hD,guardP,Int.not_lt.2 hE,Int.not_le.1 hF]
     ·rw[y5 fun h=>hE h.2.2.2.2.1]
      simp[optD,AllP,hA,hB,hC,hD,guardP,Int.not_le.1 hE]
    ·rw[y5 fun h=>hD h.2.2.2.1]
     simp[optD,AllP,hA,hB,hC,hD,guardP]
   ·rw[y5 fun h=>hC h.2.2.1]
    simp[optD,AllP,hA,hB,hC,guardP]
  ·rw[y5 fun h=>hB h.2.1]
   simp[optD,AllP,hA,hB,guardP]
 ·rw[y5 fun h=>hA h.1]
  simp[optD,AllP,hA,guardP]
theorem z3j:(∀ i,i<l.length->tot (l.getD i dF))↔∀ x∈l,tot x :=
 ⟨fun h x hx=>by obtain⟨i,hi,rfl⟩:=z11 hx; exact h i hi,fun h i hi=>h _ (z7 hi)⟩
theorem zn6 (hc:p.B.length<=1000000) (h6:n<=6):F_q1r p n=some (decide (PotOk n p)):=by
 simp only[F_q1r,S_q1r,Scr.den,z2w (l:=p.B) om,obind,z8]
 by_cases h1:good p.B=true/\(0<=p.D/\p.D<=99)/\(-1000000000000000<=p.T/\p.T<=1000000000000000)
 ·rw[y5 (by simp only[yc,yi,y7,h1.1,Bool.true_eq_false,y4e]; omega)]
  by_cases h2:(p.A.length:Int)=n/\(p.G.length:Int)=n/\(p.F.length:Int)=n/\(p.M.length:Int)=n
  ·obtain⟨l1,l2,l3,l4⟩:=h2
   rw[y5 (by simp[l1,l2,l3,l4]),Ge]
   rw[zee (body:=fun i s=>(S_q1r_b1 p i s).den) p.A (fun i=>okP (p.A.getD i dF) (p.G.getD i dF) (p.F.getD i dF) (p.M.getD i dF)) (fun (s:Int) x=>i64.wrap (s+x))
    (fun i s hi=>zrz om om om)]
   by_cases h3:∀ i,i<p.A.length->okP (p.A.getD i dF) (p.G.getD i dF) (p.F.getD i dF) (p.M.getD i dF)
   ·rw[y6 h3]
    have g1:rowOk n p.A:=⟨l1,z3j.1 fun i hi=>(h3 i hi).1⟩
    have g2:rowOk n p.G:=⟨l2,z3j.1 fun i hi=>(h3 i om).2.1⟩
    have g3:rowOk n p.F:=⟨l3,z3j.1 fun i hi=>(h3 i om).2.2.1⟩
    have g4:rowOk n p.M:=⟨l4,z3j.1 fun i hi=>(h3 i om).2.2.2.1⟩
    have e:=zed p.A 0
    rw[z81,Int.zero_add,zjm g1 h6] at e
    show some (decide (_<=_))=_
    rw[e]
    congr 1
    exact decide_eq_decide.2 ⟨fun h=>⟨h1.1,h1.2.1,h1.2.2,⟨g1,g2,g3,g4⟩,⟨fun i hi=>(h3 i hi).2.2.2.2.1,fun i hi=>(h3 i hi).2.2.2.2.2⟩,h⟩,fun h=>h.2.2.2.2.2⟩
   ·rw[y5 h3]
    show some false=_
    rw[ya fun h=>h3 fun i hi=>⟨z3j.2 h.2.2.2.1.1.2 i hi,z3j.2 h.2.2.2.1.2.1.2 i om,z3j.2 h.2.2.2.1.2.2.1.2 i om,z3j.2 h.2.2.2.1.2.2.2.2 i om,h.2.2.2.2.1.1 i hi,h.2.2.2.2.1.2 i hi⟩]
  ·rw[y6 (by simp only[yc,y1i]; omega),ya fun h=>h2 ⟨h.2.2.2.1.1.1,h.2.2.2.1.2.1.1,h.2.2.2.1.2.2.1.1,h.2.2.2.1.2.2.2.1⟩]
 ·rw[y6 (by
   simp only[yc,yi,y7]
   by_cases hg:good p.B=true
   ·have:¬ ((0<=p.D/\p.D<=99)/\(-1000000000000000<=p.T/\p.T<=1000000000000000)):=fun h=>h1 ⟨hg,h⟩
    omega
   ·simp[Bool.not_eq_true] at hg; simp[hg]),ya fun h=>h1 ⟨h.1,h.2.1,h.2.2.1⟩]
def cmpP (a b:TPo):Int:=if cmpC a.B b.B≠0 then cmpC a.B b.B else cmpI a.D b.D
theorem zef {a b:TPo} (ha:a.B.length<=1000000) (hb:b.B.length<=1000000):F_q3h a b=some (cmpP a b):=by
 simp only[F_q3h,S_q3h,Scr.den,ze6 ha hb,zfh,obind,F_q1f,S_q1f,S_q1f_b1,cmpP]
 by_cases h:cmpC a.B b.B=0
 ·rw[y5 (by simpa using h)]
  by_cases h2:cmpI a.D b.D=0
  ·simp[rangeM,h,h2,outM]
  ·simp[rangeM,h,h2,outM]
 ·rw[y6 h]
  simp[rangeM,h,outM]
def Small (t:TTr):Prop:=∀ p∈t.E,p.B.length<=1000000
def PotsOk (n:Int) (l:List TPo):Prop:=∀ i,i<l.length->PotOk n (l.getD i dF)/\(0<i->cmpP (l.getD (i-1) dF) (l.getD i dF)<0)
instance (n:Int) (l:List TPo):Decidable (PotsOk n l):=by unfold PotsOk; infer_instance
def TOk (t:TTr):Prop:=(1<=t.P/\t.P<=6)/\t.E.length<=60/\PotsOk t.P t.E
instance (t:TTr):Decidable (TOk t):=by unfold TOk; infer_instance
end Go.Proofs.YtgbpiaddmclccaaGreatDoor.J13
