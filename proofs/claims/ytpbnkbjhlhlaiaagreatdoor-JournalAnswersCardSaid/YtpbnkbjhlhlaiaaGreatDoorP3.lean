/- A part of the proof: plain laws of what the functions compute. No condition. -/
import Derived.Test.YtpbnkbjhlhlaiaaGreatDoorG7
import Derived.Test.YtpbnkbjhlhlaiaaGreatDoorT8
import Derived.Test.YtpbnkbjhlhlaiaaGreatDoorT5
namespace Go.Proofs.YtpbnkbjhlhlaiaaGreatDoor
open Go Go.TA
open Go.IntKind (i64)
def dayP (d:Int):Prop:=0<=d/\d<=35990
def amtP (n:Int):Prop:=1<=n/\n<=1000000000000
instance (d:Int):Decidable (dayP d):=inferInstanceAs (Decidable (_/\_))
instance (d:Int):Decidable (amtP d):=inferInstanceAs (Decidable (_/\_))
def yr (d:Int):Int:=if 0<=d/\d<=36000 then d / 360 else -1
variable {d:Int}
theorem zjg (h:0<=d/\d<=36000):i64.wrap (d.tdiv 360)=d / 360:=by
 rw[Int.tdiv_eq_ediv_of_nonneg h.1,wrapId om om]
theorem z2h (d:Int):F_q10 d=some (decide (dayP d)):=by
 simp only[F_q10,S_q10,Scr.den,zj]
 exact yj some (Bool.eq_iff_iff.mpr (by rw[decide_eq_true_iff (p:=dayP d)]; simp[dayP]))
theorem z1o (d:Int):F_q1g d=some (decide (amtP d)):=by
 simp only[F_q1g,S_q1g,Scr.den,zj]
 exact yj some (Bool.eq_iff_iff.mpr (by rw[decide_eq_true_iff (p:=amtP d)]; simp[amtP]))
theorem z1t (n a b:Int):F_qf n a b=some (decide (a<=n/\n<=b)):=by
 simp only[F_qf,S_qf,Scr.den,zj,y3v,Bool.decide_and]
theorem z64 (d:Int):F_qy d=some (decide (dayP d)):=by
 simp only[F_qy,S_qy,Scr.den,z1t,obind]
 rfl
theorem z2p (d:Int):F_q17 d=some (decide (amtP d)):=by
 simp only[F_q17,S_q17,Scr.den,z1t,obind]
 rfl
theorem z2a (d:Int):F_q1f d=some (yr d):=by
 simp only[F_q1f,S_q1f,F_q4t,S_q4t,Scr.den,obind,zj,yr]
 by_cases h:0<=d/\d<=36000
 ·rw[y6 (by simp[h]),y7 h,zjg h]
 ·rw[y7 (by simp only[yc,y40,yb,y3v]; omega),y6 h]
theorem z4u (d:Int):F_q16 d=some (yr d):=by
 simp only[F_q16,S_q16,F_q4q,S_q4q,Scr.den,obind,zj,yr]
 by_cases h:0<=d/\d<=36000
 ·rw[y6 (by simp[h]),y7 h,zjg h]
 ·rw[y7 (by simp only[yc,y40,yb,y3v]; omega),y6 h]
def cmt (b:TBo) (n:Int):Int:=sm b.B (fun c=>c.L==n) (·.I)
def rel (b:TBo) (n:Int):Int:=sm b.B (fun c=>c.L==n) (·.S)
def ver (b:TBo) (n:Int):Int:=sm b.C (fun v=>v.P==n) (·.I)
def leftV (b:TBo) (r:TRe):Int:=i64.wrap (r.I-r.S-cmt b r.F)
def restV (b:TBo) (c:TCo):Int:=i64.wrap (c.I-c.S-ver b c.F)
def leftN (b:TBo) (n:Int):Int:=match b.A.find? (fun r=>r.F==n) with
 | some r=>leftV b r
 | none=>0
def usedV (b:TBo) (code:Y8) (y:Int):Int:=i64.wrap (sm b.A (fun r=>r.E==code&&r.H==y) (fun r=>r.I-r.S-rel b r.F))
theorem za3 (b:TBo) (n:Int):F_q1p b n=some (i64.wrap (cmt b n),i64.wrap (rel b n)):=by
 simp only[F_q1p,S_q1p,Scr.den]
 rw[z28 b.B (fun (s:Int×Int) c=>if (c.L==n)=true then (i64.wrap (s.1+c.I),i64.wrap (s.2+c.S)) else s)]
 ·simp only[outM]
  have key:∀ (l:List TCo) (x y:Int),l.foldl (fun (s:Int×Int) c=>if (c.L==n)=true then (i64.wrap (s.1+c.I),i64.wrap (s.2+c.S)) else s) (i64.wrap x,i64.wrap y)=(i64.wrap (x+sm l (fun c=>c.L==n) (·.I)),i64.wrap (y+sm l (fun c=>c.L==n) (·.S))):=by
   intro l
   induction l with
   | nil=>intro x y; simp[sm]
   | cons c l ih =>
    intro x y
    rw[y2l,zw,zw]
    split
    ·simp only[zeq]; rw[ih]; simp only[Int.add_assoc]
    ·rw[ih]; simp
  have e0:i64.wrap 0=0:=wrapId om om
  have:=key b.B 0 0
  rw[e0] at this
  rw[this]
  simp[cmt,rel]
 ·intro i s hi
  simp only[S_q1p_b1,Scr.den]
  split <;> rfl
theorem z7s (b:TBo) (r:TRe):F_q2r b r=some (leftV b r):=by
 simp only[F_q2r,S_q2r,Scr.den,za3,obind]
 rw[z4t,z9w]
 rfl
theorem zig (b:TBo) (n:Int):F_q21 b n=some (i64.wrap (ver b n)):=by
 simp only[F_q21,S_q21,Scr.den]
 rw[z28 b.C (fun (s:Int) v=>if (v.P==n)=true then i64.wrap (s+v.I) else s)]
 ·have e0:i64.wrap 0=0:=wrapId om om
  have:=z9y b.C (fun v=>v.P==n) (·.I) 0
  rw[e0] at this
  simp only[outM,this]
  simp[ver]
 ·intro i s hi
  simp only[S_q21_b1,Scr.den]
  split <;> rfl
theorem zdz (b:TBo) (c:TCo):F_q2s b c=some (restV b c):=by
 simp only[F_q2s,S_q2s,Scr.den,zig,obind]
 rw[z4t,z9w]
 rfl
theorem z7t (b:TBo) (c:TCo):F_q1i b c=some (restV b c):=by
 simp only[F_q1i,S_q1i,Scr.den]
 rw[z28 b.C (fun (s:Int) v=>if (v.P==c.F)=true then i64.wrap (s-v.I) else s)]
 ·have:=z9z b.C (fun v=>v.P==c.F) (·.I) (c.I-c.S)
  simp only[outM,this]
  rfl
 ·intro i s hi
  simp only[S_q1i_b1,Scr.den]
  split <;> rfl
variable {α ρ:Type} {body:Nat->Unit->Option (Step Unit ρ)}
theorem zd4 [Inhabited α] (l:List α) (p:α->Bool) (v:α->ρ) (hs:∀ i,i<l.length->body i ()=some (if p (l.getD i dF)=true then .ret (v (l.getD i dF)) else .cont ())) :
  rangeM body l.length 0 ()=some (match l.find? p with | some x=>.ret (v x) | none=>.next ()):=by
 have key:∀ (k i:Nat),i+k=l.length->rangeM body k i ()=some (match (l.drop i).find? p with | some x=>.ret (v x) | none=>.next ()):=by
  intro k
  induction k with
  | zero=>intro i hk; rw[y1e om]; rfl
  | succ k ih =>
   intro i hk
   have hi:i<l.length:=om
   have e:l.getD i dF=l[i]:=by simp[List.getD_eq_getElem?_getD,List.getElem?_eq_getElem hi]
   rw[y12 hi]
   simp only[rangeM,hs i hi,List.find?_cons,e]
   cases hp:p l[i] with
   | true=>simp
   | false=>simp only[y1r,y39]; exact ih (i+1) om
 have:=key l.length 0 om
 simpa using this
theorem zqr (b:TBo) (n:Int):F_q23 b n=some (leftN b n):=by
 simp only[F_q23,S_q23,Scr.den]
 rw[zd4 b.A (fun r=>r.F==n) (leftV b)]
 ·unfold leftN
  cases b.A.find? (fun r=>r.F==n) <;> rfl
 ·intro i hi
  simp only[S_q23_b1,Scr.den,z7s,obind]
  split <;> rfl
theorem z7u (b:TBo) (n:Int):F_qq b n=some (leftN b n):=by
 simp only[F_qq,S_qq,Scr.den]
 rw[zd4 b.A (fun r=>r.F==n) (leftV b)]
 ·unfold leftN
  cases b.A.find? (fun r=>r.F==n) <;> rfl
 ·intro i hi
  simp only[S_qq_b2,Scr.den]
  split
  ·rename_i hn
   rw[z28 b.B (fun (s:Int) c=>if (c.L==n)=true then i64.wrap (s-c.I) else s)]
   ·have:=z9z b.B (fun c=>c.L==n) (·.I) ((b.A.getD i dF).I-(b.A.getD i dF).S)
    simp only[outM,this]
    unfold leftV cmt
    rw[eq_of_beq hn]
   ·intro j s hj
    simp only[S_qq_b1,Scr.den]
    split <;> rfl
  ·rfl
theorem zjh (b:TBo) (code:Y8) (y:Int):F_q1q b code y=some (usedV b code y):=by
 simp only[F_q1q,S_q1q,Scr.den]
 rw[z28 b.A (fun (s:Int) r=>if (r.E==code&&r.H==y)=true then i64.wrap (s+(r.I-r.S-rel b r.F)) else s)]
 ·have e0:i64.wrap 0=0:=wrapId om om
  have:=z9y b.A (fun r=>r.E==code&&r.H==y) (fun r=>r.I-r.S-rel b r.F) 0
  rw[e0] at this
  simp only[outM,this]
  simp[usedV]
 ·intro i s hi
  simp only[S_q1q_b1,Scr.den,za3,obind,zj]
  split
  ·rw[z4t,z9w,zer]
  ·rfl
def goodR:Y8->Nat->Nat->Bool
 | [],d,p=>decide (0<d)&&decide (p<=4)
 | c :: l,d,p=>if c.toNat=46 then (if d=0 then false else goodR l 0 (p+1)) else
  if c.toNat<48\/57<c.toNat\/(d=0/\c.toNat=48)\/d=2 then false else goodR l (d+1) p
def dig (c:UInt8):Prop:=48<=c.toNat/\c.toNat<=57
def preOk:Y8->Prop
 | []=>True
 | [a]=>dig a/\a.toNat≠48
 | [a,b]=>dig a/\a.toNat≠48/\dig b
 | _=>False
def cntOk (ws:List Y8) (p:Nat):Bool:=match nums ws with
 | none=>false
 | some ns=>decide (ns.length+p<=5)
theorem z71 (w:Y8) (ws:List Y8) (p:Nat):cntOk (w :: ws) p=match pv w with
  | none=>false
  | some _=>cntOk ws (p+1):=by
 unfold cntOk
 simp only[nums]
 cases pv w with
 | none=>rfl
 | some n =>
  cases nums ws with
  | none=>rfl
  | some ns =>
   simp only[y1q,yf]
   congr 1
   rw[eq_iff_iff]; omega
theorem zbn:∀ {w:Y8},preOk w->w≠[]->∃ n,pv w=some n
 | [a],h,_=>⟨_,by simp only[pv]; rw[y7 ⟨by have:=h.1.1; have:=h.2; omega,h.1.2⟩]⟩
 | [a,b],h,_=>⟨_,by simp only[pv]; rw[y7 ⟨⟨by have:=h.1.1; have:=h.2.1; omega,h.1.2⟩,h.2.2⟩]⟩
 | [],_,h=>absurd rfl h
 | _ :: _ :: _ :: _,h,_=>h.elim
variable {w:Y8}
theorem zkl {pre:Y8} {c:UInt8} (hc:¬ dig c):pv (pre++c :: w)=none:=by
 match pre,w with
 | [],[]=>simp only[y26,pv]; rw[y6]; intro h; exact hc ⟨om,h.2⟩
 | [],[b]=>simp only[y26,pv]; rw[y6]; intro h; exact hc ⟨om,h.1.2⟩
 | [],b :: d :: w=>rfl
 | [a],[]=>simp only[y30,y26,pv]; rw[y6]; intro h; exact hc h.2
 | [a],b :: w=>rfl
 | [a,b],w=>rfl
 | a :: b :: d :: pre,w=>rfl
theorem zh0 {c:UInt8} (hc:c.toNat=48):pv (c :: w)=none:=by
 match w with
 | []=>simp only[pv]; rw[y6]; omega
 | [b]=>simp only[pv]; rw[y6]; omega
 | b :: d :: w=>rfl
theorem za4:∀ (l pre p0:Y8) (ps:List Y8) (p:Nat),preOk pre->pieces l=p0 :: ps->goodR l pre.length p=cntOk ((pre++p0) :: ps) p
 | [],pre,p0,ps,p,hp,he=>by
  cases he
  rw[y2v,z71]
  simp only[goodR]
  match pre,hp with
  | [],_=>rfl
  | a :: pre,hp =>
   obtain⟨n,hn⟩:=zbn hp sj
   rw[hn]
   simp[cntOk,nums]
 | c :: l,pre,p0,ps,p,hp,he=>by
  rw[z1v] at he
  simp only[goodR]
  by_cases hc:c.toNat=46
  ·rw[y7 (by rw[show c=46 from UInt8.toNat_inj.mp hc]; rfl)] at he
   cases he
   rw[y7 hc,y2v,z71]
   match pre,hp with
   | [],_=>rfl
   | a :: pre,hp =>
    obtain⟨n,hn⟩:=zbn hp sj
    rw[hn,y6 sj]
    simp only
    cases hl:pieces l with
    | nil=>exact absurd hl (z19 l)
    | cons q qs =>
     have:=za4 l [] q qs (p+1) trivial hl
     simpa using this
  ·rw[y6 (by intro h; rw[eq_of_beq h] at hc; exact hc rfl)] at he
   rw[y6 hc]
   cases hl:pieces l with
   | nil=>exact absurd hl (z19 l)
   | cons q qs =>
    rw[hl] at he
    injection he with e1 e2
    subst e1
    subst e2
    have ih:=za4 l (pre++[c]) q qs p
    by_cases hd:dig c
    ·match pre,hp with
     | [],_ =>
      by_cases h0:c.toNat=48
      ·rw[y7 (by right; right; left; exact⟨rfl,h0⟩),z71,y26,zh0 h0]
      ·rw[y6 (by have:=hd.1; have:=hd.2; simp; omega)]
       exact ih ⟨hd,h0⟩ hl
     | [a],hp =>
      rw[y6 (by have:=hd.1; have:=hd.2; simp; omega)]
      have:=ih ⟨hp.1,hp.2,hd⟩ hl
      simpa using this
     | [a,b],hp =>
      rw[y7 (by right; right; right; rfl),z71]
      rfl
     | _ :: _ :: _ :: _,hp=>exact hp.elim
    ·rw[y7 (by unfold dig at hd; omega),z71,zkl hd]
theorem z5p:∀ {ws:List Y8} {ns:List Int},nums ws=some ns->ns.length=ws.length
 | [],ns,h=>by cases h; rfl
 | w :: ws,ns,h=>by
  simp only[nums] at h
  split at h
  ·cases h
  ·cases hn:nums ws with
   | none=>rw[hn] at h; cases h
   | some ms =>
    rw[hn] at h
    cases h
    simp[z5p hn]
def good (l:Y8):Bool:=goodR l 0 1
theorem z57 (l:Y8):decide ((parts l).length>0)=good l:=by
 unfold good
 cases hl:pieces l with
 | nil=>exact absurd hl (z19 l)
 | cons q qs =>
  have:=za4 l [] q qs 1 trivial hl
  simp only[y11,y26] at this
  rw[this]
  unfold parts cntOk
  rw[hl]
  cases hn:nums (q :: qs) with
  | none=>rfl
  | some ns =>
   have h1:=z5p hn
   simp only[yf] at h1
   simp only
   by_cases h4:ns.length>4
   ·simp only[y7 h4]; simp; omega
   ·simp only[y6 h4]; rw[y27]; simp; omega
theorem z4a {l:Y8} (hl:l.length<4611686018427387904):F_qs l=some (good l):=by
 simp only[F_qs,S_qs,Scr.den,zj]
 generalize hF:(fun s=>(S_qs_b1 l s).den)=F
 have key:∀ (k i d p:Nat),i+k=l.length->d<=i->p<=i+1->outM (iterM F ((d:Int),(p:Int),(i:Int))) (fun s=>some (decide (s.1>0)&&decide (s.2.1<=4))) (fun x=>some (id x))=some (goodR (l.drop i) d p):=by
  intro k
  induction k with
  | zero =>
   intro i d p hk hd hp
   rw[z1j,y1e om,<- hF]
   simp only[S_qs_b1,Scr.den]
   rw[y6 sk]
   simp only[outM,goodR]
   congr 1
   rw[y27]; simp; omega
  | succ k ih =>
   intro i d p hk hd hp
   have hi:i<l.length:=om
   have ei:l.getD i 0=l[i]:=by simp[List.getD_eq_getElem?_getD,List.getElem?_eq_getElem hi]
   rw[z1j,y12 hi,<- y44 hF]
   simp only[S_qs_b1,Scr.den,yi,ei,zj,zb]
   generalize hcc:l[i]=c
   rw[y7 sk,z6 ⟨om,hi,trivial⟩]
   have w1:i64.wrap ((p:Int)+1)=((p+1:Nat):Int):=by rw[wrapId om om]; omega
   have w2:i64.wrap ((i:Int)+1)=((i+1:Nat):Int):=by rw[wrapId om om]; omega
   have w3:i64.wrap ((d:Int)+1)=((d+1:Nat):Int):=by rw[wrapId om om]; omega
   simp only[w1,w2,w3,goodR]
   by_cases hc:c.toNat=46
   ·rw[y7 (by simp[hc]),y7 hc]
    by_cases h0:d=0
    ·rw[y7 (by simp[h0]),y7 h0]; rfl
    ·rw[y6 (by simpa using h0),y6 h0]
     have h:=ih (i+1) 0 (p+1) om om om
     rw[show ((0:Nat):Int)=0 from rfl] at h
     exact h
   ·rw[y6 sk,y6 hc,z6 ⟨fun _=>om,fun _=>hi,fun _=>om,fun _=>hi,trivial⟩]
    by_cases hb:c.toNat<48\/57<c.toNat\/(d=0/\c.toNat=48)\/d=2
    ·rw[y7 sk,y7 hb]; rfl
    ·rw[y6 sk,y6 hb]
     exact ih (i+1) (d+1) p om om om
 exact key l.length 0 0 1 om om om
theorem z4k {l:Y8} (hl:l.length<=1099511627776):F_q4z l=some (parts l):=by
 unfold F_q4z
 exact zep hl rfl
def lexC:List Int->List Int->Int
 | [],[]=>0
 | [],_ :: _=>-1
 | _ :: _,[]=>1
 | a :: x,b :: y=>if a<b then -1 else if a>b then 1 else lexC x y
theorem zet:∀ x,lexC x x=0
 | []=>rfl
 | a :: x=>by simp[lexC,zet x]
theorem z6t:∀ {x y:List Int},lexC x y=0->x=y
 | [],[],_=>rfl
 | [],_ :: _,h=>by simp[lexC] at h
 | _ :: _,[],h=>by simp[lexC] at h
 | a :: x,b :: y,h=>by
  simp only[lexC] at h
  split at h
  ·omega
  ·split at h
   ·omega
   ·rw[z6t h,show a=b from om]
theorem zeu:∀ x y:List Int,lexC y x=-lexC x y
 | [],[]=>rfl
 | [],_ :: _=>rfl
 | _ :: _,[]=>rfl
 | a :: x,b :: y=>by
  simp only[lexC]
  by_cases h1:a<b
  ·rw[y7 h1,y6 om,y7 om]; rfl
  ·by_cases h2:a>b
   ·rw[y7 om,y6 h1,y7 h2]
   ·rw[y6 h1,y6 h2,y6 om,y6 om,zeu x y]
theorem zd5:∀ {x y z:List Int},lexC x y<0->lexC y z<0->lexC x z<0
 | [],_,[],h,h'=>by
  rename_i y
  cases y with
  | nil=>simp[lexC] at h
  | cons b y=>simp[lexC] at h'
 | [],_,c :: z,_,_=>by simp[lexC]
 | a :: x,[],_,h,_=>by simp[lexC] at h
 | a :: x,b :: y,[],_,h'=>by simp[lexC] at h'
 | a :: x,b :: y,c :: z,h,h'=>by
  simp only[lexC] at h h' |-
  by_cases h1:a<b
  ·by_cases h2:b<c
   ·rw[y7 om]; omega
   ·rw[y6 h2] at h'
    by_cases h3:b>c
    ·rw[y7 h3] at h'; omega
    ·rw[y7 om]; omega
  ·rw[y6 h1] at h
   by_cases h2:a>b
   ·rw[y7 h2] at h; omega
   ·rw[y6 h2] at h
    by_cases h3:b<c
    ·rw[y7 om]; omega
    ·rw[y6 h3] at h'
     by_cases h4:b>c
     ·rw[y7 h4] at h'; omega
     ·rw[y6 h4] at h'
      rw[y6 om,y6 om]
      exact zd5 h h'
theorem zsb:∀ {w w':Y8} {n:Int},pv w=some n->pv w'=some n->w=w'
 | [],_,_,h,_=>by simp[pv] at h
 | [a],[],_,_,h=>by simp[pv] at h
 | [a,b],[],_,_,h=>by simp[pv] at h
 | [a],[c],n,h,h'=>by
  simp only[pv] at h h'
  split at h <;> split at h' <;> simp at h h'
  have:a.toNat=c.toNat:=om
  rw[y4c.1 this]
 | [a],[c,d],n,h,h'=>by
  simp only[pv] at h h'
  split at h <;> split at h' <;> simp at h h'
  omega
 | [a,b],[c],n,h,h'=>by
  simp only[pv] at h h'
  split at h <;> split at h' <;> simp at h h'
  omega
 | [a,b],[c,d],n,h,h'=>by
  simp only[pv] at h h'
  split at h <;> split at h' <;> simp at h h'
  have h1:a.toNat=c.toNat:=om
  have h2:b.toNat=d.toNat:=om
  rw[y4c.1 h1,y4c.1 h2]
 | _ :: _ :: _ :: _,_,_,h,_=>by simp[pv] at h
 | _,_ :: _ :: _ :: _,_,_,h=>by simp[pv] at h
theorem zh1:∀ {ws ws':List Y8} {ns:List Int},nums ws=some ns->nums ws'=some ns->ws=ws'
 | [],[],_,_,_=>rfl
 | [],w :: ws,ns,h,h'=>by
  have h1:=z5p h; have h2:=z5p h'; simp only[y11,yf] at h1 h2; omega
 | w :: ws,[],ns,h,h'=>by
  have h1:=z5p h; have h2:=z5p h'; simp only[y11,yf] at h1 h2; omega
 | w :: ws,w' :: ws',ns,h,h'=>by
  simp only[nums] at h h'
  split at h
  ·cases h
  ·rename_i n hn
   split at h'
   ·cases h'
   ·rename_i n' hn'
    cases hm:nums ws with
    | none=>rw[hm] at h; cases h
    | some ms =>
     cases hm':nums ws' with
     | none=>rw[hm'] at h'; cases h'
     | some ms' =>
      rw[hm] at h; rw[hm'] at h'
      simp only[y1q,yq] at h h'
      rw[<- h] at h'
      simp only[y3i] at h'
      obtain⟨rfl,rfl⟩:=h'
      rw[zsb hn hn',zh1 hm hm']
theorem z8p:∀ {l l':Y8},pieces l=pieces l'->l=l'
 | [],[],_=>rfl
 | [],b :: m,h=>by
  rw[z1v] at h
  split at h
  ·simp[pieces] at h; first | exact absurd h (z19 m) | exact absurd h.symm (z19 m)
  ·split at h <;> simp[pieces] at h
 | b :: m,[],h=>by
  rw[z1v] at h
  split at h
  ·simp[pieces] at h; first | exact absurd h (z19 m) | exact absurd h.symm (z19 m)
  ·split at h <;> simp[pieces] at h
 | b :: l,c :: m,h=>by
  rw[z1v,z1v] at h
  cases hl:pieces l with
  | nil=>exact absurd hl (z19 l)
  | cons p ps =>
   cases hm:pieces m with
   | nil=>exact absurd hm (z19 m)
   | cons q qs =>
    rw[hl,hm] at h
    by_cases hb:(b==46)=true
    ·by_cases hc:(c==46)=true
     ·rw[y7 hb,y7 hc] at h
      have e:pieces l=pieces m:=by rw[hl,hm]; simpa using h
      rw[z8p e,show b=c by rw[eq_of_beq hb,eq_of_beq hc]]
     ·rw[y7 hb,y6 hc] at h; simp at h
    ·by_cases hc:(c==46)=true
     ·rw[y6 hb,y7 hc] at h; simp at h
     ·rw[y6 hb,y6 hc] at h
      simp only[y3i] at h
      obtain⟨⟨rfl,rfl⟩,rfl⟩:=h
      rw[z8p (hl.trans hm.symm)]
theorem z2q {l:Y8} (h:good l=true):nums (pieces l)=some (parts l)/\0<(parts l).length/\(parts l).length<=4:=by
 rw[<- z57] at h
 have h0:0<(parts l).length:=by simpa using h
 unfold parts at h0 |-
 split at h0
 ·simp at h0
 ·rename_i ns hn
  split at h0
  ·simp at h0
  ·rename_i h4
   rw[hn]
   simp only[y6 h4]
   exact⟨trivial,h0,om⟩
theorem zev {l l':Y8} (h:good l=true) (h':good l'=true) (e:parts l=parts l'):l=l' :=
 z8p (zh1 (z2q h).1 (e▸(z2q h').1))
def valW (w:Y8):Int:=w.foldl (fun n c=>10 * n+((c.toNat:Int)-48)) 0
theorem zh2:∀ {w:Y8} {n:Int},pv w=some n->valW w=n/\1<=w.length/\w.length<=2/\(w.getD 0 0).toNat≠48/\∀ c∈w,48<=c.toNat/\c.toNat<=57
 | [],_,h=>by simp[pv] at h
 | [a],n,h=>by
  simp only[pv] at h
  split at h <;> simp at h
  rename_i h1
  refine⟨by simp[valW]; omega,sj,sj,sk,fun c hc=>by simp at hc; subst hc; omega⟩
 | [a,b],n,h=>by
  simp only[pv] at h
  split at h <;> simp at h
  rename_i h1
  refine⟨by simp[valW]; omega,sj,sj,sk,fun c hc=>?_⟩
  simp at hc
  rcases hc with rfl | rfl <;> omega
 | _ :: _ :: _ :: _,_,h=>by simp[pv] at h
theorem z4l {l:Y8} (h:good l=true):l.length<=11:=by
 have key:∀ (l:Y8) (ns:List Int),nums (pieces l)=some ns->l.length+1<=3 * ns.length:=by
  intro l
  suffices H:∀ (l p0:Y8) (ps:List Y8),pieces l=p0 :: ps->l.length=p0.length+(ps.map fun q=>q.length+1).sum by
   intro ns hn
   cases hp:pieces l with
   | nil=>exact absurd hp (z19 l)
   | cons p0 ps =>
    rw[hp] at hn
    rw[H l p0 ps hp]
    have hall:∀ (ws:List Y8) (ms:List Int),nums ws=some ms->(ws.map fun q=>q.length+1).sum<=3 * ms.length:=by
     intro ws
     induction ws with
     | nil=>intro ms hm; simp
     | cons w ws ih =>
      intro ms hm
      simp only[nums] at hm
      split at hm
      ·cases hm
      ·rename_i n hpv
       cases hw:nums ws with
       | none=>rw[hw] at hm; cases hm
       | some ks =>
        rw[hw] at hm; cases hm
        have:=ih ks hw
        have:=(zh2 hpv).2.2.1
        simp only[y32,List.sum_cons,yf]
        omega
    have:=hall _ _ hn
    simp only[y32,List.sum_cons] at this
    omega
  intro l
  induction l with
  | nil=>intro p0 ps hp; simp[pieces] at hp; obtain⟨rfl,rfl⟩:=hp; simp
  | cons b l ih =>
   intro p0 ps hp
   rw[z1v] at hp
   cases hl:pieces l with
   | nil=>exact absurd hl (z19 l)
   | cons q qs =>
    have:=ih q qs hl
    rw[hl] at hp
    split at hp
    ·simp only[y3i] at hp
     obtain⟨rfl,rfl⟩:=hp
     simp only[yf,y11,y32,List.sum_cons]; omega
    ·simp only[y3i] at hp
     obtain⟨rfl,rfl⟩:=hp
     simp only[yf]; omega
 obtain⟨h1,h2,h3⟩:=z2q h
 have:=key l _ h1
 omega
def cmpI (a b:Int):Int:=if a<b then -1 else if a>b then 1 else 0
theorem zji (a b:Int):F_q37 a b=some (cmpI a b):=by
 simp only[F_q37,S_q37,F_q3p,S_q3p,Scr.den,obind,cmpI,bne_self_eq_false,y1r,y39,y8]
 by_cases h1:a<b
 ·rw[y7 h1,y7 h1]
 ·rw[y6 h1,y6 h1]
  by_cases h2:a>b
  ·rw[y7 h2,y7 h2]
  ·rw[y6 h2,y6 h2]
variable {i:Nat}
theorem zay {l:List Int} (hi:i<l.length):l.getD i dF=l[i]:=by simp[List.getD_eq_getElem?_getD,List.getElem?_eq_getElem hi]
theorem zcc (x y:List Int):F_q1n x y=some (lexC x y):=by
 simp only[F_q1n,S_q1n,Scr.den]
 generalize hB:(fun i s=>(S_q1n_b1 x y i s).den)=B
 have key:∀ (k i:Nat),i+k=x.length->i<=y.length->outM (rangeM B k i ()) (fun _=>if decide ((x.length:Int)<(y.length:Int))=true then some (-1) else some 0) (fun r=>some (id r))=some (lexC (x.drop i) (y.drop i)):=by
  intro k
  induction k with
  | zero =>
   intro i hk hy
   rw[y1e om]
   by_cases h:y.length<=i
   ·rw[y1e h]
    simp only[rangeM,outM]
    rw[y6 sk]
    rfl
   ·rw[y12 (by omega:i<y.length)]
    simp only[rangeM,outM]
    rw[y7 sk]
    rfl
  | succ k ih =>
   intro i hk hy
   have hi:i<x.length:=om
   rw[y12 hi]
   simp only[rangeM]
   rw[<- y44 (y44 hB i) ()]
   simp only[S_q1n_b1,Scr.den]
   by_cases h:y.length<=i
   ·rw[y7 sk,y1e h]
    rfl
   ·have hj:i<y.length:=om
    rw[y6 sk,z6 ⟨hj,trivial⟩,y12 hj]
    simp only[zji,obind,zay hi,zay hj,lexC,cmpI]
    by_cases h1:x[i]<y[i]
    ·simp only[y7 h1]; rfl
    ·simp only[y6 h1]
     by_cases h2:x[i]>y[i]
     ·simp only[y7 h2]; rfl
     ·simp only[y6 h2]
      exact ih (i+1) om om
 have:=key x.length 0 om om
 simpa using this
def strC (a b:Y8):Int:=if Op.bytesLess a b=true then -1 else if (!(Op.bytesLess a b||a==b))=true then 1 else 0
def cmpC (a b:Y8):Int:=if (parts a).length=0/\(parts b).length=0 then strC a b else lexC (parts a) (parts b)
theorem zkm {a b:Y8} (ha:a.length<=1000000) (hb:b.length<=1000000):F_q3q a b=some (cmpC a b):=by
 simp only[F_q3q,S_q3q,Scr.den,z4k (show a.length<=1099511627776 from om),z4k (show b.length<=1099511627776 from om),obind,zj,cmpC,zcc]
 by_cases h:(parts a).length=0/\(parts b).length=0
 ·rw[y7 (by simp[h]),y7 h]
  simp only[F_q4p,S_q4p,F_q3o,S_q3o,Scr.den,obind,beq_self_eq_true,y5b,y1r,y39,strC]
  by_cases h1:Op.bytesLess a b=true
  ·rw[y7 h1,y7 h1]; rfl
  ·rw[y6 h1,y6 h1]
   by_cases h2:(!(Op.bytesLess a b||a==b))=true
   ·rw[y7 h2,y7 h2]; rfl
   ·rw[y6 h2,y6 h2]; rfl
 ·rw[y6 (by simpa using h),y6 h]
theorem z7h {a b:Y8} (h:good a=true\/good b=true):cmpC a b=lexC (parts a) (parts b):=by
 unfold cmpC
 rw[y6]
 rintro⟨h1,h2⟩
 rcases h with h | h
 ·have:=(z2q h).2.1; omega
 ·have:=(z2q h).2.1; omega
def cmpR (a b:TRi):Int:=if cmpC a.E b.E≠0 then cmpC a.E b.E else cmpI a.H b.H
variable {a:TRi}
theorem zcd {b:TRi} (ha:a.E.length<=1000000) (hb:b.E.length<=1000000):F_q2q a b=some (cmpR a b):=by
 simp only[F_q2q,S_q2q,Scr.den,zkm ha hb,zji,obind,F_q2c,S_q2c,S_q2c_b1,cmpR]
 by_cases h:cmpC a.E b.E=0
 ·rw[y6 (by simpa using h)]
  by_cases h2:cmpI a.H b.H=0
  ·simp[rangeM,h,h2,outM]
  ·simp[rangeM,h,h2,outM]
 ·rw[y7 h]
  simp[rangeM,h,outM]
theorem za5 {l:Y8} (hg:good l=true):F_qu l=some (parts l):=by
 obtain⟨hn,h0,h4⟩:=z2q hg
 have hlen:=z4l hg
 simp only[F_qu,S_qu,Scr.den]
 rw[y6 sk]
 generalize hF:(fun s=>(S_qu_b1 l s).den)=F
 have w1:∀ i:Nat,i<=11->i64.wrap ((i:Int)+1)=((i+1:Nat):Int):=fun i hi=>by rw[wrapId om om]; omega
 have flush:∀ (i:Nat) (w:Y8) (out:List Int) (n:Int),i<=l.length->w.length<=i->(∀ j,j<w.length->l.getD (i-w.length+j) 0=w.getD j 0)->pv w=some n->(i=l.length\/(l.getD i 0).toNat=46)->out.length<=4 ->
   F (out,valW w,(w.length:Int),(i:Int))=some (.cont (out++[n],0,0,((i+1:Nat):Int))):=by
  intro i w out n hi hw hg hpv hor ho
  obtain⟨e1,e2,e3,e4,e5⟩:=zh2 hpv
  have hk:i64.wrap ((i:Int)-(w.length:Int))=((i-w.length:Nat):Int):=by rw[wrapId om om]; omega
  have h0:=hg 0 om
  rw[y2m] at h0
  rw[<- y44 hF]
  simp only[S_qu_b1,Scr.den,yi,zb,hk,h0]
  rw[y7 sk,z6 ⟨fun _=>om,fun h=>by have h:=h.1; simp at h; omega,trivial⟩,y7 (by
   rcases hor with rfl | h
   ·simp
   ·simp only[ye,yu]; right; omega),z6 ⟨fun _=>om,fun _=>om,trivial⟩,y6 (by
    simp only[ye,yu,y8]; omega),z6 ⟨om,trivial⟩,w1 i om,e1]
 have digit:∀ (i:Nat) (w:Y8) (out:List Int),i<l.length->(l.getD i 0).toNat≠46->48<=(l.getD i 0).toNat/\(l.getD i 0).toNat<=57->w.length<=1->(∀ c∈w,48<=c.toNat/\c.toNat<=57) ->
   F (out,valW w,(w.length:Int),(i:Int))=some (.cont (out,valW (w++[l.getD i 0]),((w++[l.getD i 0]).length:Int),((i+1:Nat):Int))):=by
  intro i w out hi h46 hd hw hall
  have hv:0<=valW w/\valW w<=9:=by
   match w,hw with
   | [],_=>simp[valW]
   | [a],_=>have:=hall a sj; simp[valW]; omega
  have e1:valW (w++[l.getD i 0])=10 * valW w+(((l.getD i 0).toNat:Int)-48):=by simp[valW]
  have e2:IntKind.u8.wrap (((l.getD i 0).toNat:Int)-48)=((l.getD i 0).toNat:Int)-48:=by
   generalize (l.getD i 0).toNat=m at hd
   simp only[IntKind.wrap,IntKind.bits,IntKind.signed]
   simp
   omega
  rw[<- y44 hF]
  simp only[S_qu_b1,Scr.den,yi,zb,e1,e2]
  rw[y7 sk,z6 ⟨fun _=>om,fun _=>om,trivial⟩,y6 (by simp only[ye,yu]; omega),z6 ⟨om,hi,fun _=>om,fun _=>hi,trivial⟩,y6 (by simp only[ye,y8]; omega),w1 i om,w1 w.length om,
   wrapId (n:=10 * valW w) om om,wrapId (n:=((l.getD i 0).toNat:Int)-48) om om,wrapId om om]
  simp
 have key:∀ (k i:Nat) (w p0:Y8) (ps:List Y8) (out ns:List Int),i+k=l.length->w.length<=i->(∀ j,j<w.length->l.getD (i-w.length+j) 0=w.getD j 0)->pieces (l.drop i)=p0 :: ps->nums ((w++p0) :: ps)=some ns->out.length+ns.length<=4 ->
   iterM F (out,valW w,(w.length:Int),(i:Int))=some (.next (out++ns,0,0,((l.length+1:Nat):Int))):=by
  intro k
  induction k with
  | zero =>
   intro i w p0 ps out ns hk hw hgd hpc hnm ho
   obtain rfl:i=l.length:=om
   rw[y1e (yd _)] at hpc
   simp only[pieces,y3i] at hpc
   obtain⟨rfl,rfl⟩:=hpc
   simp only[y2v,nums] at hnm
   split at hnm
   ·cases hnm
   ·rename_i n hpv
    simp only[y1q,yq] at hnm
    subst hnm
    rw[z1j,flush l.length w out n (yd _) hw hgd hpv (.inl rfl) (by simp at ho; omega)]
    simp only
    rw[z1j,<- y44 hF]
    simp only[S_qu_b1,Scr.den]
    rw[y6 sk]
  | succ k ih =>
   intro i w p0 ps out ns hk hw hgd hpc hnm ho
   have hi:i<l.length:=om
   have ei:l.getD i 0=l[i]:=by simp[List.getD_eq_getElem?_getD,List.getElem?_eq_getElem hi]
   rw[y12 hi,z1v] at hpc
   cases hq:pieces (l.drop (i+1)) with
   | nil=>exact absurd hq (z19 _)
   | cons q qs =>
    rw[hq] at hpc
    by_cases hc:(l[i]==46)=true
    ·rw[y7 hc] at hpc
     simp only[y3i] at hpc
     obtain⟨rfl,rfl⟩:=hpc
     simp only[y2v,nums] at hnm
     split at hnm
     ·cases hnm
     ·rename_i n hpv
      cases hm:nums (q :: qs) with
      | none=>simp only[nums] at hm; rw[hm] at hnm; cases hnm
      | some ms =>
       have hm':=hm
       simp only[nums] at hm'
       rw[hm'] at hnm
       simp only[y1q,yq] at hnm
       subst hnm
       simp only[yf] at ho
       have h46:(l.getD i 0).toNat=46:=by rw[ei,eq_of_beq hc]; rfl
       rw[z1j,flush i w out n om hw hgd hpv (.inr h46) om]
       simp only
       have:=ih (i+1) [] q qs (out++[n]) ms om sj sj hq (by simpa using hm) sk
       simpa [valW] using this
    ·rw[y6 hc] at hpc
     simp only[y3i] at hpc
     obtain⟨rfl,rfl⟩:=hpc
     have hpv:∃ n,pv (w++l[i] :: q)=some n:=by
      simp only[nums] at hnm
      split at hnm
      ·cases hnm
      ·rename_i n h; exact⟨n,h⟩
     obtain⟨n,hpv⟩:=hpv
     obtain⟨_,_,g3,_,g5⟩:=zh2 hpv
     simp only[yn,yf] at g3
     have hne:(l.getD i 0).toNat≠46:=by
      rw[ei]; intro h; exact hc (by rw[y4c.1 (show l[i].toNat=(46:UInt8).toNat from h)]; rfl)
     rw[z1j,digit i w out hi hne (by rw[ei]; exact g5 l[i] sj) om (fun c hc=>g5 c (by simp[hc]))]
     simp only
     refine ih (i+1) (w++[l.getD i 0]) q qs out ns om sk (fun j hj=>?_) hq (by rw[ei]; simpa using hnm) ho
     simp only[yn,yf,y11] at hj |-
     by_cases hjw:j<w.length
     ·have:=hgd j hjw
      rw[show i+1-(w.length+(0+1))+j=i-w.length+j from om,this]
      simp[List.getD_eq_getElem?_getD,List.getElem?_append_left hjw]
     ·obtain rfl:j=w.length:=om
      rw[show i+1-(w.length+(0+1))+w.length=i from om]
      simp[List.getD_eq_getElem?_getD]
 cases hp:pieces l with
 | nil=>exact absurd hp (z19 l)
 | cons p0 ps =>
  rw[hp] at hn
  have h:=key l.length 0 [] p0 ps [] (parts l) om sj sj (by simpa using hp) (by simpa using hn) sk
  have h':iterM F (([]:List Int),(0:Int),(0:Int),(0:Int))=some (.next (parts l,0,0,((l.length+1:Nat):Int))):=by simpa [valW] using h
  rw[h']
  simp only[outM]
  rw[y6 sk,z6 ⟨om,trivial⟩]
def ordersOf (l:List TOr) (v:Int):List TOr:=l.filter (fun o=>o.K==v)
theorem zce [Inhabited α] (l:List α) (p:α->Bool) (v:Nat->ρ) (hs:∀ i,i<l.length->body i ()=some (if p (l.getD i dF)=true then .ret (v i) else .cont ())) :
  (rangeM body l.length 0 ()=some (.next ())/\∀ x∈l,p x=false)\/∃ i,i<l.length/\p (l.getD i dF)=true/\(∀ x∈l.take i,p x=false)/\rangeM body l.length 0 ()=some (.ret (v i)):=by
 have key:∀ (k i:Nat),i+k=l.length->(∀ x∈l.take i,p x=false)->(rangeM body k i ()=some (.next ())/\∀ x∈l,p x=false)\/∃ i,i<l.length/\p (l.getD i dF)=true/\(∀ x∈l.take i,p x=false)/\rangeM body k (l.length-k) ()=some (.ret (v i)):=by
  intro k
  induction k with
  | zero =>
   intro i hk h
   left
   rw[y1d om] at h
   exact⟨rfl,h⟩
  | succ k ih =>
   intro i hk h
   have hi:i<l.length:=om
   have e:l.length-(k+1)=i:=om
   have e':l.length-k=i+1:=om
   rw[e]
   simp only[rangeM,hs i hi]
   cases hp:p (l.getD i dF) with
   | true =>
    right
    exact⟨i,hi,hp,h,sj⟩
   | false =>
    simp only[y1r,y39]
    rw[e'] at ih
    refine ih (i+1) om fun x hx=>?_
    rw[y2i,y1i] at hx
    rcases hx with hx | hx
    ·exact h x hx
    ·rw[ya hi] at hx
     simp only[y58,y22] at hx
     rw[hx]
     simpa [List.getD_eq_getElem?_getD,List.getElem?_eq_getElem hi] using hp
 have:=key l.length 0 om sj
 simpa using this
theorem zkn (l:List α) (i n:Nat) (z:α):(clearL l (0+i) n z).take i=l.take i:=by
 apply y2t
 intro k
 simp only[y3w,clearL,List.getElem?_mapIdx]
 split
 ·cases l[k]? with
  | none=>rfl
  | some x=>simp only[y1q]; rw[y6 om]
 ·rfl
theorem zbo {l:List α} {q:α->Bool} (h:∀ x∈l,q x=true):l.filter q=l:=List.filter_eq_self.mpr h
theorem zms {l:List TOr} (v:Int) (hl:l.length<4611686018427387904):F_q1a l v=some (ordersOf l v):=by
 have hI:(F_q19 l v=some (-1)/\∀ x∈l,(x.K==v)=true)\/∃ i:Nat,i<l.length/\((l.getD i dF).K==v)=false/\(∀ x∈l.take i,(x.K==v)=true)/\F_q19 l v=some (i:Int):=by
  simp only[F_q19,S_q19,Scr.den]
  rw[z6 ⟨om,trivial⟩]
  have:=zce l (fun x=>x.K != v) (fun i=>(i:Int)) (body:=fun i s=>(S_q19_b1 l v i s).den) fun i hi=>by
   simp only[S_q19_b1,F_q2t,S_q2t,Scr.den,obind,y1a]
   rw[z6 ⟨hi,trivial⟩]
   split <;> rfl
  rcases this with ⟨h1,h2⟩ | ⟨i,h1,h2,h3,h4⟩
  ·left
   rw[h1]
   exact⟨rfl,fun x hx=>by simpa using h2 x hx⟩
  ·right
   refine⟨i,h1,by simpa [bne] using h2,fun x hx=>by simpa using h3 x hx,?_⟩
   rw[h4]
   rfl
 simp only[F_q1a,S_q1a,Scr.den]
 rcases hI with ⟨h1,h2⟩ | ⟨i0,h1,h2,h3,h4⟩
 ·rw[h1,obind,y7 (show ((-1:Int)==-1)=true from rfl),z6 ⟨om,trivial⟩]
  unfold ordersOf
  rw[zbo h2]
 ·rw[h4,obind,y6 sj]
  obtain⟨s,h5,h6⟩:=z4s (step:=fun s=>(S_q1a_b1 v s).den) (fun s=>l.length-s.2.2.toNat)
   (fun s=>s.1.length=l.length/\0<=s.2.1/\s.2.1<=s.2.2/\s.2.2<=l.length/\s.1.take s.2.1.toNat=ordersOf (l.take s.2.2.toNat) v/\s.1.drop s.2.2.toNat=l.drop s.2.2.toNat)
   (fun s=>s.1.length=l.length/\0<=s.2.1/\s.2.1<=l.length/\s.1.take s.2.1.toNat=ordersOf l v) (fun s hs=>by
    obtain⟨sl,i,j⟩:=s
    obtain⟨a1,a2,a3,a4,a5,a6⟩:=hs
    simp only at a1 a2 a3 a4 a5 a6
    by_cases hj:j<(l.length:Int)
    ·left
     have hjn:j.toNat<sl.length:=om
     have hjl:j.toNat<l.length:=om
     have ex:sl.getD j.toNat dF=l.getD j.toNat dF:=by
      have:=yj (fun t=>t[0]?) a6
      simp only[y1p,y2m] at this
      rw[y9,y9,this]
     have et:ordersOf (l.take (j.toNat+1)) v=ordersOf (l.take j.toNat) v++if ((l.getD j.toNat dF).K==v)=true then [l.getD j.toNat dF] else []:=by
      unfold ordersOf
      rw[y2i,List.filter_append,ya hjl]
      simp only[y58,y9,ya hjl,y42,y31,List.filter_nil]
     have w1:i64.wrap (i+1)=i+1:=wrapId om om
     have w2:i64.wrap (j+1)=j+1:=wrapId om om
     have en:(j+1).toNat=j.toNat+1:=om
     have em:(i+1).toNat=i.toNat+1:=om
     have dj:sl.drop (j.toNat+1)=l.drop (j.toNat+1):=by
      have:=yj (List.drop 1) a6
      simpa [List.drop_drop] using this
     simp only[S_q1a_b1,F_q2t,S_q2t,Scr.den,obind,y1a,ex,w1,w2]
     rw[y7 sk,z6 ⟨om,om,om,trivial⟩]
     by_cases hv:((l.getD j.toNat dF).K==v)=true
     ·rw[y7 (by simp only[bne,hv]; rfl),z6 ⟨om,om,om,trivial⟩]
      refine⟨_,rfl,⟨by simpa using a1,by simp only; omega,by simp only; omega,by simp only; omega,?_,?_⟩,by simp only; omega⟩
      ·simp only[en,em]
       rw[et,y7 hv,<- a5,y2i,List.take_set_of_le om,y10 om]
       rfl
      ·simp only[en]
       rw[List.drop_set_of_lt om,dj]
     ·rw[y6 (by simp only[bne,hv]; simp)]
      refine⟨_,rfl,⟨a1,a2,by simp only; omega,by simp only; omega,?_,?_⟩,by simp only; omega⟩
      ·simp only[en]
       rw[et,y6 hv,y2v,a5]
      ·simp only[en]
       exact dj
    ·right
     simp only[S_q1a_b1,Scr.den]
     rw[y6 sk]
     refine⟨_,rfl,a1,a2,by simp only; omega,?_⟩
     simp only
     rw[a5,y1d om]) _ (l,(i0:Int),i64.wrap ((i0:Int)+1)) (y4u _) (by
    have w2:i64.wrap ((i0:Int)+1)=i0+1:=wrapId om om
    have en:((i0:Int)+1).toNat=i0+1:=om
    simp only[w2,en,yi]
    refine⟨trivial,om,om,om,?_,trivial⟩
    unfold ordersOf
    rw[y2i,List.filter_append,zbo h3,ya h1]
    simp only[y9,ya h1,y42] at h2
    simp[h2])
  obtain⟨b1,b2,b3,b4⟩:=h6
  rw[h5]
  simp only[outM]
  rw[z6 ⟨b2,om,trivial⟩,z6 ⟨by rw[z4e]; omega,trivial⟩,z6 ⟨by rw[z4e]; omega,trivial⟩,zkn,b4]
def Few (b:TBo):Prop:=b.A.length<=1000000/\b.B.length<=1000000/\b.C.length<=1000000/\b.J.length<=1000000
theorem zew {l:List TOr} (hl:l.length<=1000000):F_q3c l=some l:=by
 simp only[F_q3c,S_q3c,Scr.den]
 rw[z6 ⟨om,trivial⟩]
theorem zmt {l:List TRe} (hl:l.length<=1000000):F_q3v l=some l:=by
 simp only[F_q3v,S_q3v,Scr.den]
 rw[z6 ⟨om,trivial⟩]
theorem zmu {l:List TCo} (hl:l.length<=1000000):F_q3w l=some l:=by
 simp only[F_q3w,S_q3w,Scr.den]
 rw[z6 ⟨om,trivial⟩]
theorem zmv {l:List TVe} (hl:l.length<=1000000):F_q3x l=some l:=by
 simp only[F_q3x,S_q3x,Scr.den]
 rw[z6 ⟨om,trivial⟩]
variable {b:TBo}
theorem z3g (h:Few b):F_q1b b=some (b.A,b.B,b.C,b.J):=by
 simp only[F_q1b,S_q1b,Scr.den,zmt h.1,zmu h.2.1,zmv h.2.2.1,zew h.2.2.2,obind]
theorem z23 (h:Few b):F_q1x b=some (b.A,b.B,b.C,b.J):=by
 obtain⟨h1,h2,h3,h4⟩:=h
 simp only[F_q1x,S_q1x,Scr.den]
 rw[z6 ⟨om,om,om,om,trivial⟩]
theorem zex (h:b.J.length<=1000000) (v:Int):F_q3d b v=some (ordersOf b.J v):=by
 simp only[F_q3d,S_q3d,Scr.den,zew h,obind,zms v (show b.J.length<4611686018427387904 from om)]
theorem zb9 (l:List TOr) (o:TOr):F_q3u l o=some (l.any fun x=>!x.Ab||decide (x.O>o.O)):=by
 simp only[F_q3u,S_q3u,F_q22,S_q22,Scr.den]
 rcases zce l (fun x=>!x.Ab||decide (x.O>o.O)) (fun i=>(i:Int)) (body:=fun i s=>(S_q22_b1 l o i s).den) (fun i hi=>by
  simp only[S_q22_b1,F_q4r,S_q4r,Scr.den,obind,zb]
  split <;> rfl) with ⟨h1,h2⟩ | ⟨i,h1,h2,h3,h4⟩
 ·rw[h1]
  simp only[outM,obind]
  rw[List.any_eq_false.mpr fun x hx=>by rw[h2 x hx]; simp]
  rfl
 ·rw[h4]
  simp only[outM,obind]
  rw[List.any_eq_true.mpr ⟨_,zd h1,h2⟩]
  simp
def noOrder:TOr:=⟨0,0,0,0,false⟩
def lastV (b:TBo) (v:Int):TOr:=(ordersOf b.J v).getLastD noOrder
theorem zjj (h:b.J.length<=1000000) (v:Int):F_q1y b v=some (lastV b v,((ordersOf b.J v).length:Int)):=by
 simp only[F_q1y,S_q1y,Scr.den]
 rw[z28 b.J (fun (s:TOr×Int) o=>if (o.K==v)=true then (o,i64.wrap (s.2+1)) else s)]
 ·have key:∀ (l:List TOr) (x:TOr) (n:Nat),n+l.length<=1000000->l.foldl (fun (s:TOr×Int) o=>if (o.K==v)=true then (o,i64.wrap (s.2+1)) else s) (x,(n:Int))=((ordersOf l v).getLastD x,((n+(ordersOf l v).length:Nat):Int)):=by
   intro l
   induction l with
   | nil=>intro x n _; rfl
   | cons o l ih =>
    intro x n hn
    simp only[yf] at hn
    rw[y2l]
    unfold ordersOf
    rw[y31]
    by_cases ho:(o.K==v)=true
    ·rw[y7 ho,y7 ho]
     rw[show i64.wrap ((n:Int)+1)=((n+1:Nat):Int) by rw[wrapId om om]; omega,ih o (n+1) om]
     rw[List.getLastD_cons]
     simp only[yf,ordersOf]
     congr 2
     omega
    ·rw[y6 ho,y6 ho,ih x n om]
     rfl
  have:=key b.J noOrder 0 om
  rw[show (((0:Nat)):Int)=0 from rfl] at this
  simp only[outM]
  unfold noOrder at this
  rw[this]
  simp[lastV,noOrder]
 ·intro i s hi
  simp only[S_q1y_b1,Scr.den]
  split <;> rfl
theorem zq (gs:List Prop) (x d:α) [Decidable (AllP gs)]:optD gs (some x) d=some (if AllP gs then x else d):=by
 unfold optD
 by_cases h:AllP gs
 ·rw[y7 h,y7 h]
 ·rw[y6 h,y6 h]
variable {x:Option α}
theorem za6 {gs:List Prop} {y d:α} [Decidable (AllP gs)] (h:AllP gs->x=some y):optD gs x d=some (if AllP gs then y else d):=by
 by_cases hg:AllP gs
 ·rw[y7 hg,zg hg,h hg]
 ·rw[y6 hg,zr hg]
theorem z1q (a x d:Bool) [Decidable (AllP [a=false])]:(a||!(if AllP [a=false] then x else d))=(a||!x):=by
 cases a <;> simp[AllP]
theorem zmw (a:Bool) (x d y:Int) [Decidable (AllP [a=false])]:(a||((if AllP [a=false] then x else d) != y))=(a||(x != y)):=by
 cases a <;> simp[AllP]
theorem zpz (a:Bool) (x d y z:Int) [Decidable (AllP [a=false])]:(a||decide ((if AllP [a=false] then x else d)>i64.wrap ((if AllP [a=false] then y else z)+1)))=(a||decide (x>i64.wrap (y+1))):=by
 cases a <;> simp[AllP]
theorem z65 (a x d:Bool) [Decidable (AllP [a=true])]:(a&&(if AllP [a=true] then x else d))=(a&&x):=by
 cases a <;> simp[AllP]
theorem zjk (a:Bool) (x d y:Int) [Decidable (AllP [a=true])]:(a&&((if AllP [a=true] then x else d)==y))=(a&&(x==y)):=by
 cases a <;> simp[AllP]
theorem zmx (a:Bool) (x d y:Int) [Decidable (AllP [a=true])]:(a&&decide ((if AllP [a=true] then x else d)>=y))=(a&&decide (x>=y)):=by
 cases a <;> simp[AllP]
theorem zmy (a:Bool) (x d y z:Int) [Decidable (AllP [a=true])]:(a&&decide ((if AllP [a=true] then x else d)<=i64.wrap ((if AllP [a=true] then y else z)+1)))=(a&&decide (x<=i64.wrap (y+1))):=by
 cases a <;> simp[AllP]
theorem zqs (a:Bool) (x d:List α) [Decidable (AllP [a=true])]:(a&&decide (((if AllP [a=true] then x else d).length:Int)>0))=(a&&decide (x.length>0)):=by
 cases a <;> simp[AllP]
def RFld (r:TRe) (n:Int):Prop:=r.F=n/\good r.E=true/\(0<=r.H/\r.H<=99)/\dayP r.O/\yr r.O=r.H/\amtP r.I/\(0<=r.S/\r.S<=r.I)
def rAt (b:TBo) (n:Int):TRe:=b.A.getD (n-1).toNat dF
def cAt (b:TBo) (n:Int):TCo:=b.B.getD (n-1).toNat dF
def vAt (b:TBo) (n:Int):TVe:=b.C.getD (n-1).toNat dF
def Small (b:TBo):Prop:=Few b/\∀ r∈b.A,r.E.length<=1000000
theorem z66 {n:Nat} (hi:i<n) (hn:n<=1000000):i64.wrap ((i:Int)+1)=(i:Int)+1:=wrapId om om
theorem resC (hb:Small b) (hi:i<b.A.length):∃ C:Bool,(S_q1h_b1 b i ()).den=(if C=true then some (.ret false) else some (.cont ()))/\(C=false↔RFld (b.A.getD i dF) (i+1)):=by
 have hw:=z66 hi hb.1.1
 have hc:=hb.2 _ (zd hi)
 simp only[S_q1h_b1,Scr.den]
 generalize b.A.getD i dF=r at hc |-
 rw[hw,z4a om]
 open Classical in simp only[z2h,z2a,z1o,zq,obind,zb,z1q,zmw]
 refine⟨_,rfl,?_⟩
 simp only[RFld,y3n,bne_eq_false_iff_eq,Bool.not_eq_false',yb,y8]
 constructor
 ·rintro⟨⟨⟨⟨⟨⟨⟨⟨h1,h2⟩,h3⟩,h4⟩,h5⟩,h6⟩,h7⟩,h8⟩,h9⟩
  exact⟨h1,h2,om,h5,h6,h7,om⟩
 ·rintro⟨h1,h2,h3,h4,h5,h6,h7⟩
  exact⟨⟨⟨⟨⟨⟨⟨⟨h1,h2⟩,om⟩,om⟩,h4⟩,h5⟩,h6⟩,om⟩,om⟩
theorem resP (hb:Small b) (hi:i<b.A.length):∃ C:Bool,F_q39 b i=some C/\(C=true↔RFld (b.A.getD i dF) (i+1)/\0<=leftV b (b.A.getD i dF)):=by
 have hw:=z66 hi hb.1.1
 have hc:=hb.2 _ (zd hi)
 simp only[F_q39,S_q39,Scr.den,yi]
 rw[z6 ⟨om,hi,trivial⟩]
 generalize b.A.getD i dF=r at hc |-
 rw[hw,z4k om]
 open Classical in simp only[z64,z4u,z2p,z1t,z7s,zq,obind,zj,z65,zjk,zmx,zqs]
 refine⟨_,rfl,?_⟩
 simp only[z57,RFld,yk,yu,y8,y3v,and_assoc]
theorem z1e {x:Int} {n:Nat} (h:1<=x/\x<=(n:Int)) (hn:n<=1000000):i64.wrap (x-1)=x-1:=wrapId om om
def CFld (b:TBo) (c:TCo) (n:Int):Prop:=c.F=n/\(1<=c.L/\c.L<=b.A.length)/\dayP c.O/\amtP c.I/\(0<=c.S/\c.S<=c.I)/\(1<=c.T/\c.T<=1000000)/\dayP c.W/\(rAt b c.L).O<=c.O/\yr c.O=(rAt b c.L).H
theorem comC (hb:Small b) (hi:i<b.B.length):(CFld b (b.B.getD i dF) (i+1)->(S_qj_b1 b i ()).den=some (.cont ()))/\(¬ CFld b (b.B.getD i dF) (i+1)->(S_qj_b1 b i ()).den=some (.ret false)):=by
 have hw:=z66 hi hb.1.2.1
 simp only[S_qj_b1,Scr.den]
 generalize b.B.getD i dF=c
 rw[hw]
 open Classical in simp only[z2h,z2a,z1o,zq,obind,zb,z1q,zmw]
 split
 ·rename_i h
  refine⟨fun hp=>?_,fun _=>rfl⟩
  exfalso
  obtain⟨h1,h2,h3,h4,h5,h6,h7,_⟩:=hp
  simp only[ye,y1g,ne_eq,yc,yb,y8] at h
  rcases h with (((((((((h | h) | h) | h) | h) | h) | h) | h) | h) | h) <;> first | exact h h1 | exact h h3 | exact h h4 | exact h h7 | omega
 ·rename_i h
  simp only[ye,y1g,ne_eq,yc,yb,y8,y4h,y2u] at h
  obtain⟨⟨⟨⟨⟨⟨⟨⟨⟨h1,h2⟩,h3⟩,h4⟩,h5⟩,h6⟩,h7⟩,h8⟩,h9⟩,h10⟩:=h
  rw[z1e (n:=b.A.length) om hb.1.1,z6 ⟨om,om,trivial⟩]
  change (_->(if (_||_)=true then _ else _)=_)/\_
  have e:CFld b c (i+1)↔(rAt b c.L).O<=c.O/\yr c.O=(rAt b c.L).H :=
   ⟨fun h=>⟨h.2.2.2.2.2.2.2.1,h.2.2.2.2.2.2.2.2⟩,fun h=>⟨h1,om,h4,h5,om,om,h10,h.1,h.2⟩⟩
  rw[e]
  unfold rAt
  split
  ·rename_i h
   refine⟨fun hp=>?_,fun _=>rfl⟩
   exfalso
   simp only[ye,y1g,ne_eq,y8] at h
   rcases h with h | h
   ·omega
   ·exact h hp.2
  ·rename_i h
   refine⟨fun _=>rfl,fun hp=>?_⟩
   exfalso
   simp only[ye,y1g,ne_eq,y8,y4h,y2u] at h
   exact hp ⟨om,h.2⟩
theorem comP (hb:Small b) (hi:i<b.B.length):∃ C:Bool,F_q3a b i=some C/\(C=true↔CFld b (b.B.getD i dF) (i+1)/\0<=restV b (b.B.getD i dF)):=by
 have hw:=z66 hi hb.1.2.1
 obtain⟨c,hc⟩:∃ c,b.B.getD i dF=c:=⟨_,rfl⟩
 simp only[F_q3a,S_q3a,Scr.den,yi]
 rw[z6 ⟨om,hi,trivial⟩]
 open Classical in simp only[hc,hw,z64,z4u,z2p,z1t,zdz,zq,obind,zj,zb,z1q]
 by_cases h:(c.F != (i:Int)+1||!decide (1<=c.L/\c.L<=b.A.length))=true
 ·rw[y7 h]
  refine⟨false,rfl,?_⟩
  simp only[ye,y1g,ne_eq,yc,yb] at h
  constructor
  ·intro h; cases h
  ·intro hp
   rcases h with h | h
   ·exact absurd hp.1.1 h
   ·exact absurd hp.1.2.1 h
 ·rw[y6 h]
  simp only[ye,y1g,ne_eq,yc,yb,y4h,y2u] at h
  rw[z1e (n:=b.A.length) h.2 hb.1.1,z6 ⟨om,om,trivial⟩]
  open Classical in simp only[z65,zjk,zmx]
  refine⟨_,rfl,?_⟩
  simp only[CFld,yk,yu,y8,y3v]
  constructor
  ·rintro⟨⟨⟨⟨⟨⟨⟨h1,h2⟩,h3⟩,h4⟩,h5⟩,h6⟩,h7⟩,h8⟩
   exact⟨⟨h.1,h.2,h1,h4,h5,h6,h7,h2,h3⟩,h8⟩
  ·rintro⟨⟨_,_,h1,h4,h5,h6,h7,h2,h3⟩,h8⟩
   exact⟨⟨⟨⟨⟨⟨⟨h1,h2⟩,h3⟩,h4⟩,h5⟩,h6⟩,h7⟩,h8⟩
def RAll (b:TBo):Prop:=∀ i,i<b.A.length->RFld (b.A.getD i dF) (i+1)
def CAll (b:TBo):Prop:=∀ i,i<b.B.length->CFld b (b.B.getD i dF) (i+1)
def yearOf (b:TBo) (n:Int):Int:=(rAt b (cAt b n).L).H
theorem RAll.at {b:TBo} (h:RAll b) {n:Int} (hn:1<=n/\n<=b.A.length):RFld (rAt b n) n:=by
 have:=h (n-1).toNat om
 rwa [show (((n-1).toNat:Nat):Int)+1=n from om] at this
theorem CAll.at {b:TBo} (h:CAll b) {n:Int} (hn:1<=n/\n<=b.B.length):CFld b (cAt b n) n:=by
 have:=h (n-1).toNat om
 rwa [show (((n-1).toNat:Nat):Int)+1=n from om] at this
variable {n:Int}
theorem zqt (hR:RAll b) (hC:CAll b) (hn:1<=n/\n<=b.B.length):0<=yearOf b n/\yearOf b n<=99 :=
 (hR.at (hC.at hn).2.1).2.2.1
theorem z5x (hb:Small b) (hC:CAll b) (hn:1<=n/\n<=b.B.length):F_q1w b n=some (yearOf b n):=by
 have h:=(hC.at hn).2.1
 unfold cAt at h
 simp only[F_q1w,S_q1w,Scr.den]
 rw[z1e hn hb.1.2.1,z1e h hb.1.1,z6 ⟨om,om,om,om,trivial⟩]
 rfl
theorem zaz (hb:Small b) {c:TCo} (h:1<=c.L/\c.L<=b.A.length):F_q18 b c=some (rAt b c.L).H:=by
 simp only[F_q18,S_q18,Scr.den]
 rw[z1e h hb.1.1,z6 ⟨om,om,trivial⟩]
 rfl
theorem z67 (hR:RAll b) (hC:CAll b) (hn:1<=n/\n<=b.B.length):i64.wrap (yearOf b n+1)=yearOf b n+1:=by
 have:=zqt hR hC hn
 exact wrapId om om
def VFld (b:TBo) (v:TVe) (n:Int):Prop:=v.F=n/\(1<=v.P/\v.P<=b.B.length)/\dayP v.O/\amtP v.I/\(cAt b v.P).O<=v.O/\yr v.O<=yearOf b v.P+1
theorem verC (hb:Small b) (hR:RAll b) (hC:CAll b) (hi:i<b.C.length):(VFld b (b.C.getD i dF) (i+1)->(S_q0_b1 b i ()).den=some (.cont ()))/\(¬ VFld b (b.C.getD i dF) (i+1)->(S_q0_b1 b i ()).den=some (.ret false)):=by
 have hw:=z66 hi hb.1.2.2.1
 obtain⟨v,hv⟩:∃ v,b.C.getD i dF=v:=⟨_,rfl⟩
 open Classical in simp only[S_q0_b1,Scr.den,hv,hw,z2h,z2a,z1o,zq,obind,zb,z1q]
 by_cases hA:(v.F != (i:Int)+1||decide (v.P<1)||decide (v.P>b.B.length))=true
 ·rw[hA]
  simp only[Bool.true_or]
  rw[zr (by simp[AllP]),obind,z6 (by simp[AllP]),y7 trivial]
  refine⟨fun hp=>?_,fun _=>rfl⟩
  exfalso
  obtain⟨h1,h2,_⟩:=hp
  simp only[ye,y1g,ne_eq,y8] at hA
  rcases hA with (h | h) | h
  ·exact h h1
  ·omega
  ·omega
 ·simp only[ye,y1g,ne_eq,y8,y4h,y2u] at hA
  have hn:1<=v.P/\v.P<=b.B.length:=om
  open Classical in rw[za6 (y:=yearOf b v.P) fun _=>z5x hb hC hn]
  rw[z1e hn hb.1.2.1,obind,z6 ⟨fun _=>om,fun _=>om,trivial⟩]
  open Classical in simp only[zpz]
  rw[z67 hR hC hn]
  split
  ·rename_i h
   refine⟨fun hp=>?_,fun _=>rfl⟩
   exfalso
   obtain⟨h1,h2,h3,h4,h5,h6⟩:=hp
   unfold cAt at h5
   simp only[ye,y1g,ne_eq,yc,yb,y8] at h
   rcases h with ((((((h | h) | h) | h) | h) | h) | h) <;> first | exact h h1 | exact h h3 | exact h h4 | omega
  ·rename_i h
   refine⟨fun _=>rfl,fun hp=>?_⟩
   exfalso
   simp only[ye,y1g,ne_eq,yc,yb,y8,y4h,y2u] at h
   obtain⟨⟨⟨⟨⟨⟨h1,h2⟩,h3⟩,h4⟩,h5⟩,h6⟩,h7⟩:=h
   exact hp ⟨h1,hn,h4,h5,by unfold cAt; omega,om⟩
theorem verP (hb:Small b) (hR:RAll b) (hC:CAll b) (hi:i<b.C.length):∃ C:Bool,F_q3b b i=some C/\(C=true↔VFld b (b.C.getD i dF) (i+1)):=by
 have hw:=z66 hi hb.1.2.2.1
 obtain⟨v,hv⟩:∃ v,b.C.getD i dF=v:=⟨_,rfl⟩
 simp only[F_q3b,S_q3b,Scr.den,yi]
 rw[z6 ⟨om,hi,trivial⟩]
 open Classical in simp only[hv,hw,z64,z4u,z2p,z1t,zq,obind,zj,zb,z1q]
 by_cases h:(v.F != (i:Int)+1||!decide (1<=v.P/\v.P<=b.B.length))=true
 ·rw[y7 h]
  refine⟨false,rfl,?_⟩
  simp only[ye,y1g,ne_eq,yc,yb] at h
  constructor
  ·intro h; cases h
  ·intro hp
   rcases h with h | h
   ·exact absurd hp.1 h
   ·exact absurd hp.2.1 h
 ·rw[y6 h]
  simp only[ye,y1g,ne_eq,yc,yb,y4h,y2u] at h
  have hn:=h.2
  have hc:=(hC.at hn).2.1
  rw[z1e hn hb.1.2.1,z6 ⟨om,om,trivial⟩]
  change ∃ C,(optD _ (F_q18 b (cAt b v.P)) _).bind _=_/\_
  open Classical in rw[za6 fun _=>zaz hb hc]
  open Classical in simp only[obind,z65,zmy]
  refine⟨_,rfl,?_⟩
  have hy:=z67 hR hC hn
  unfold yearOf at hy
  rw[hy]
  simp only[VFld,yk,y8,y3v]
  constructor
  ·rintro⟨⟨⟨h1,h2⟩,h3⟩,h4⟩
   exact⟨h.1,h.2,h1,h4,h2,h3⟩
  ·rintro⟨_,_,h1,h4,h2,h3⟩
   exact⟨⟨⟨h1,h2⟩,h3⟩,h4⟩
def VAll (b:TBo):Prop:=∀ i,i<b.C.length->VFld b (b.C.getD i dF) (i+1)
theorem VAll.at {b:TBo} (h:VAll b) {n:Int} (hn:1<=n/\n<=b.C.length):VFld b (vAt b n) n:=by
 have:=h (n-1).toNat om
 rwa [show (((n-1).toNat:Nat):Int)+1=n from om] at this
def OFld (b:TBo) (o:TOr) (bef:List TOr) (n:Int):Prop:=o.F=n/\(1<=o.K/\o.K<=b.C.length)/\dayP o.O/\(vAt b o.K).O<=o.O/\yr o.O<=yearOf b (vAt b o.K).P+1/\o.Z=(ordersOf bef o.K).length+1/\(ordersOf bef o.K).any (fun x=>!x.Ab||decide (x.O>o.O))=false
theorem zmz (hi:i<b.J.length) (hb:Small b):rangeM (fun j s=>(S_q0_b3 b i j s).den) (b.J.take i).length 0 1=some (if (ordersOf (b.J.take i) (b.J.getD i dF).K).any (fun x=>!x.Ab||decide (x.O>(b.J.getD i dF).O))=true then .ret false else .next ((ordersOf (b.J.take i) (b.J.getD i dF).K).length+1)):=by
 have hl:=hb.1.2.2.2
 have hlt:(b.J.take i).length<=1000000:=by rw[y16]; omega
 simp only[S_q0_b3,Scr.den,zb]
 generalize b.J.take i=l at hlt |-
 generalize b.J.getD i dF=o
 generalize hF:(fun (j:Nat) (s:Int)=>_)=F
 have key:∀ (k j n:Nat),j+k=l.length->n<=j+1->rangeM F k j (n:Int)=some (if (ordersOf (l.drop j) o.K).any (fun x=>!x.Ab||decide (x.O>o.O))=true then .ret false else .next (((ordersOf (l.drop j) o.K).length+n:Nat):Int)):=by
  intro k
  induction k with
  | zero=>intro j n hk hn; rw[y1e om]; simp[rangeM,ordersOf]
  | succ k ih =>
   intro j n hk hn
   have hj:j<l.length:=om
   have e:l.getD j dF=l[j]:=by simp[List.getD_eq_getElem?_getD,List.getElem?_eq_getElem hj]
   have w1:i64.wrap ((n:Int)+1)=((n+1:Nat):Int):=by rw[wrapId om om]; omega
   rw[y12 hj]
   unfold ordersOf
   simp only[rangeM,y31]
   rw[<- y44 (y44 hF j) (n:Int)]
   simp only[e,w1]
   generalize l[j]=x
   by_cases hv:x.K=o.K
   ·have e1:(x.K != o.K)=false:=by simp[hv]
    have e2:(x.K==o.K)=true:=by simp[hv]
    simp only[e1,e2,y1r,y39,y3t]
    by_cases hx:(!x.Ab||decide (x.O>o.O))=true
    ·rw[y7 hx,y7 (by rw[y4p,hx]; rfl)]
    ·rw[y6 hx]
     simp only
     rw[ih (j+1) (n+1) om om]
     rw[y4p,Bool.eq_false_iff.mpr hx,y4q]
     unfold ordersOf
     simp only[yf]
     congr 3
     omega
   ·have e1:(x.K != o.K)=true:=by simp[hv]
    have e2:(x.K==o.K)=false:=by simp[hv]
    simp only[e1,e2,y1r,y39,y3t]
    rw[ih (j+1) n om om]
    rfl
 have:=key l.length 0 1 om om
 simpa using this
theorem ordC (hb:Small b) (hR:RAll b) (hC:CAll b) (hV:VAll b) (hi:i<b.J.length):(OFld b (b.J.getD i dF) (b.J.take i) (i+1)->(S_q0_b4 b i ()).den=some (.cont ()))/\(¬ OFld b (b.J.getD i dF) (b.J.take i) (i+1)->(S_q0_b4 b i ()).den=some (.ret false)):=by
 have hw:=z66 hi hb.1.2.2.2
 have hcnt:=zmz hi hb
 obtain⟨o,ho⟩:∃ v,b.J.getD i dF=v:=⟨_,rfl⟩
 open Classical in simp only[S_q0_b4,Scr.den,hcnt,ho,hw,z2h,z2a,zq,obind,zb,z1q]
 split
 ·rename_i h
  refine⟨fun hp=>?_,fun _=>rfl⟩
  exfalso
  obtain⟨h1,h2,h3,_⟩:=hp
  simp only[ye,y1g,ne_eq,yc,yb,y8] at h
  rcases h with ((h | h) | h) | h <;> first | exact h h1 | exact h h3 | omega
 ·rename_i h
  simp only[ye,y1g,ne_eq,yc,yb,y8,y4h,y2u] at h
  obtain⟨⟨⟨h1,h2⟩,h3⟩,h4⟩:=h
  have hn:1<=o.K/\o.K<=b.C.length:=om
  have hv:=(hV.at hn).2.1
  rw[z1e hn hb.1.2.2.1,z6 ⟨om,om,trivial⟩]
  change (_->(optD _ (F_q1w b (vAt b o.K).P) _).bind _=_)/\(_->(optD _ (F_q1w b (vAt b o.K).P) _).bind _=_)
  open Classical in rw[za6 fun _=>z5x hb hC hv]
  open Classical in simp only[obind,zpz]
  rw[z67 hR hC hv]
  have hle:i<=b.J.length:=om
  rw[z6 ⟨hle,trivial⟩]
  by_cases hG:(decide (o.O<(b.C.getD (o.K-1).toNat dF).O)||decide (yr o.O>yearOf b (vAt b o.K).P+1))=true
  ·rw[y7 hG]
   refine⟨fun hp=>?_,fun _=>rfl⟩
   exfalso
   obtain⟨_,_,_,h5,h6,_⟩:=hp
   change (decide (o.O<(vAt b o.K).O)||_)=true at hG
   simp only[ye,y8] at hG
   omega
  ·rw[y6 hG]
   change ¬ (decide (o.O<(vAt b o.K).O)||_)=true at hG
   simp only[ye,y8,y4h] at hG
   by_cases hx:(ordersOf (b.J.take i) o.K).any (fun x=>!x.Ab||decide (x.O>o.O))=true
   ·rw[y7 hx]
    refine⟨fun hp=>?_,fun _=>rfl⟩
    exfalso
    rw[hp.2.2.2.2.2.2] at hx
    cases hx
   ·rw[y6 hx]
    simp only[outM]
    split
    ·rename_i ha
     refine⟨fun hp=>?_,fun _=>rfl⟩
     exfalso
     simp only[y1g,ne_eq] at ha
     exact ha hp.2.2.2.2.2.1
    ·rename_i ha
     refine⟨fun _=>rfl,fun hp=>?_⟩
     exfalso
     simp only[y1g,ne_eq,y2u] at ha
     exact hp ⟨h1,hn,h4,om,om,ha,Bool.eq_false_iff.mpr hx⟩
theorem ordP (hb:Small b) (hR:RAll b) (hC:CAll b) (hV:VAll b) (hi:i<b.J.length):∃ C:Bool,F_q3e b i=some C/\(C=true↔OFld b (b.J.getD i dF) (b.J.take i) (i+1)):=by
 have hw:=z66 hi hb.1.2.2.2
 have hl:=hb.1.2.2.2
 obtain⟨o,ho⟩:∃ v,b.J.getD i dF=v:=⟨_,rfl⟩
 have hlt:(b.J.take i).length<=1000000:=by rw[y16]; omega
 have hle:i<=b.J.length:=om
 simp only[F_q3e,S_q3e,Scr.den,yi]
 rw[z6 ⟨om,hi,trivial⟩]
 open Classical in simp only[ho,hw,z64,z4u,z1t,zq,obind,zj,zb,z1q]
 by_cases h:(o.F != (i:Int)+1||!decide (1<=o.K/\o.K<=b.C.length))=true
 ·rw[y7 h]
  refine⟨false,rfl,?_⟩
  simp only[ye,y1g,ne_eq,yc,yb] at h
  constructor
  ·intro h; cases h
  ·intro hp
   rcases h with h | h
   ·exact absurd hp.1 h
   ·exact absurd hp.2.1 h
 ·rw[y6 h]
  simp only[ye,y1g,ne_eq,yc,yb,y4h,y2u] at h
  have hn:=h.2
  have hv:=(hV.at hn).2.1
  have hc:=(hC.at hv).2.1
  rw[z1e hn hb.1.2.2.1,z6 ⟨om,om,trivial⟩,zex hlt,obind,z6 ⟨hle,trivial⟩]
  simp only[zb9]
  have hp:i64.wrap ((vAt b o.K).P-1)=(vAt b o.K).P-1:=z1e hv hb.1.2.1
  have hyr:F_q18 b (b.B.getD ((vAt b o.K).P-1).toNat dF)=some (yearOf b (vAt b o.K).P):=zaz hb hc
  unfold vAt at hp hyr
  open Classical in rw[hp,hyr,zq,obind,zq,obind,z6 ⟨fun _=>by unfold vAt at hv; omega,fun _=>by unfold vAt at hv; omega,trivial⟩]
  open Classical in simp only[zmy]
  have hy:=z67 hR hC hv
  unfold vAt at hy
  rw[hy]
  have e3:∀ (a x d:Bool) [Decidable (AllP [a=true])],(a&&!(if AllP [a=true] then x else d))=(a&&!x):=fun a x d _=>by cases a <;> simp[AllP]
  rw[e3]
  refine⟨_,rfl,?_⟩
  have hlw:i64.wrap (((ordersOf (b.J.take i) o.K).length:Int)+1)=((ordersOf (b.J.take i) o.K).length:Int)+1:=by
   have:(ordersOf (b.J.take i) o.K).length<=(b.J.take i).length:=y4v _ _
   exact wrapId om om
  rw[hlw]
  simp only[OFld,yk,yu,y8,y3v,yc]
  constructor
  ·rintro⟨⟨⟨⟨h1,h2⟩,h3⟩,h4⟩,h5⟩
   exact⟨h.1,h.2,h1,h2,h3,h4,h5⟩
  ·rintro⟨_,_,h1,h2,h3,h4,h5⟩
   exact⟨⟨⟨⟨h1,h2⟩,h3⟩,h4⟩,h5⟩
variable {P:Prop}
theorem noC {x:Option Bool} (h:P->False) (e:x=some false:=by rfl):∃ C:Bool,x=some C/\(C=true↔P):=⟨false,e,⟨fun h=>(y3x h).elim,fun p=>(h p).elim⟩⟩
def Val (b:TBo):Prop:=RAll b/\CAll b/\(∀ r∈b.A,0<=leftV b r)/\VAll b/\(∀ c∈b.B,0<=restV b c)/\(∀ i,i<b.J.length->OFld b (b.J.getD i dF) (b.J.take i) (i+1)) /\
 b.A.length<=200/\b.B.length<=200/\b.C.length<=200/\b.J.length<=200
def OAll (b:TBo):Prop:=∀ i,i<b.J.length->OFld b (b.J.getD i dF) (b.J.take i) (i+1)
theorem z9l (hb:Small b):∃ C,F_q1h b=some C/\(C=true↔RAll b):=by
 simp only[F_q1h,S_q1h,Scr.den]
 obtain⟨h1,h2⟩:=zy (body:=fun i s=>(S_q1h_b1 b i s).den) (n:=b.A.length) (c:=false) (fun i=>RFld (b.A.getD i dF) (i+1)) (fun i hi hp=>by
  obtain⟨C,e,hc⟩:=resC hb hi
  simp only[e,hc.mpr hp]; rfl) (fun i hi hp=>by
  obtain⟨C,e,hc⟩:=resC hb hi
  cases C with
  | true=>simp only[e]; rfl
  | false=>exact absurd (hc.mp rfl) hp)
 by_cases h:∀ j,j<b.A.length->RFld (b.A.getD j dF) (j+1)
 ·rw[h1 h]; exact⟨true,rfl,fun _=>h,fun _=>rfl⟩
 ·rw[h2 h]; exact noC <| (fun h'=>absurd h' h)
theorem za7 (hb:Small b) (hR:RAll b):∃ C,F_qj b=some C/\(C=true↔CAll b/\∀ r∈b.A,0<=leftV b r):=by
 simp only[F_qj,S_qj,Scr.den]
 obtain⟨h1,h2⟩:=zy (body:=fun i s=>(S_qj_b1 b i s).den) (n:=b.B.length) (c:=false) (fun i=>CFld b (b.B.getD i dF) (i+1)) (fun i hi hp=>(comC hb hi).1 hp) (fun i hi hp=>(comC hb hi).2 hp)
 by_cases h:∀ j,j<b.B.length->CFld b (b.B.getD j dF) (j+1)
 ·rw[h1 h]
  simp only[outM]
  have eL:∀ i,i<b.A.length->(S_qj_b2 b i ()).den=if leftV b (b.A.getD i dF)<0 then some (.ret false) else some (.cont ()):=fun i hi=>by
   simp only[S_qj_b2,Scr.den,z7u,obind]
   have:leftN b (b.A.getD i dF).F=leftV b (b.A.getD i dF):=by
    unfold leftN
    have hf:b.A.find? (fun r=>r.F==(b.A.getD i dF).F)=some (b.A.getD i dF):=by
     rw[List.find?_eq_some_iff_getElem]
     refine⟨sj,i,hi,by simp[List.getD_eq_getElem?_getD,List.getElem?_eq_getElem hi],fun j hj=>?_⟩
     have e1:=(hR i hi).1
     have e2:=(hR j om).1
     have e3:b.A.getD j dF=b.A[j]:=by simp[List.getD_eq_getElem?_getD,List.getElem?_eq_getElem (show j<b.A.length from om)]
     rw[e3] at e2
     rw[e1]
     simp only[yc,y1t,ne_eq]
     omega
    rw[hf]
   rw[this]
   by_cases hl:leftV b (b.A.getD i dF)<0 <;> simp
  obtain⟨h3,h4⟩:=zy (body:=fun i s=>(S_qj_b2 b i s).den) (n:=b.A.length) (c:=false) (fun i=>0<=leftV b (b.A.getD i dF)) (fun i hi hp=>by
   simp only[eL i hi]; rw[y6 om]) (fun i hi hp=>by
   simp only[eL i hi]; rw[y7 om])
  by_cases h':∀ j,j<b.A.length->0<=leftV b (b.A.getD j dF)
  ·rw[h3 h']
   refine⟨true,rfl,fun _=>⟨h,fun r hr=>?_⟩,fun _=>rfl⟩
   obtain⟨i,hi,e⟩:=z1s hr
   rw[<- e]; exact h' i hi
  ·rw[h4 h']
   exact noC <| (fun hh=>absurd (fun j hj=>hh.2 _ (zd hj)) h')
 ·rw[h2 h]; exact noC <| (fun h'=>absurd h'.1 h)
theorem zfm (hb:Small b) (hR:RAll b) (hC:CAll b):∃ C,F_q0 b=some C/\(C=true↔VAll b/\(∀ c∈b.B,0<=restV b c)/\OAll b):=by
 simp only[F_q0,S_q0,Scr.den]
 obtain⟨h1,h2⟩:=zy (body:=fun i s=>(S_q0_b1 b i s).den) (n:=b.C.length) (c:=false) (fun i=>VFld b (b.C.getD i dF) (i+1)) (fun i hi hp=>(verC hb hR hC hi).1 hp) (fun i hi hp=>(verC hb hR hC hi).2 hp)
 by_cases h:∀ j,j<b.C.length->VFld b (b.C.getD j dF) (j+1)
 ·rw[h1 h]
  simp only[outM]
  have eL:∀ i,i<b.B.length->(S_q0_b2 b i ()).den=if restV b (b.B.getD i dF)<0 then some (.ret false) else some (.cont ()):=fun i hi=>by
   simp only[S_q0_b2,Scr.den,z7t,obind]
   by_cases hl:restV b (b.B.getD i dF)<0 <;> simp
  obtain⟨h3,h4⟩:=zy (body:=fun i s=>(S_q0_b2 b i s).den) (n:=b.B.length) (c:=false) (fun i=>0<=restV b (b.B.getD i dF)) (fun i hi hp=>by
   simp only[eL i hi]; rw[y6 om]) (fun i hi hp=>by
   simp only[eL i hi]; rw[y7 om])
  by_cases h':∀ j,j<b.B.length->0<=restV b (b.B.getD j dF)
  ·rw[h3 h']
   skip
   obtain⟨h5,h6⟩:=zy (body:=fun i s=>(S_q0_b4 b i s).den) (n:=b.J.length) (c:=false) (fun i=>OFld b (b.J.getD i dF) (b.J.take i) (i+1)) (fun i hi hp=>(ordC hb hR hC h hi).1 hp) (fun i hi hp=>(ordC hb hR hC h hi).2 hp)
   by_cases ho:∀ j,j<b.J.length->OFld b (b.J.getD j dF) (b.J.take j) (j+1)
   ·rw[h5 ho]
    refine⟨true,rfl,fun _=>⟨h,fun r hr=>?_,ho⟩,fun _=>rfl⟩
    obtain⟨i,hi,e⟩:=z1s hr
    rw[<- e]; exact h' i hi
   ·rw[h6 ho]
    exact noC <| (fun hh=>absurd hh.2.2 ho)
  ·rw[h4 h']
   exact noC <| (fun hh=>absurd (fun j hj=>hh.2.1 _ (zd hj)) h')
 ·rw[h2 h]; exact noC <| (fun h'=>absurd h'.1 h)
open Classical in
theorem z1w (hb:Small b):F_q1j b=some (decide (Val b)):=by
 simp only[F_q1j,S_q1j,Scr.den,zb,zj]
 by_cases hl:b.A.length<=200/\b.B.length<=200/\b.C.length<=200/\b.J.length<=200
 ·rw[y6 (by simp only[ye,y8]; omega)]
  obtain⟨C1,e1,c1⟩:=z9l hb
  rw[e1,obind]
  by_cases hR:RAll b
  ·obtain⟨C2,e2,c2⟩:=za7 hb hR
   rw[c1.mpr hR,zg (by simp[AllP]),e2,obind]
   by_cases hC:CAll b/\∀ r∈b.A,0<=leftV b r
   ·obtain⟨C3,e3,c3⟩:=zfm hb hR hC.1
    rw[c2.mpr hC,zg (by simp[AllP]),e3,obind]
    congr 1
    rw[y27,y8]
    simp only[Bool.and_self,y5c]
    rw[c3]
    exact⟨fun h=>⟨hR,hC.1,hC.2,h.1,h.2.1,h.2.2,hl⟩,fun h=>⟨h.2.2.2.1,h.2.2.2.2.1,h.2.2.2.2.2.1⟩⟩
   ·have:C2=false:=Bool.eq_false_iff.mpr fun h=>hC (c2.mp h)
    rw[this,zr (by simp[AllP]),obind]
    rw[yx (fun h:Val b=>hC ⟨h.2.1,h.2.2.1⟩)]
    rfl
  ·have:C1=false:=Bool.eq_false_iff.mpr fun h=>hR (c1.mp h)
   rw[this,zr (by simp[AllP]),obind,zr (by simp[AllP]),obind]
   rw[yx (fun h:Val b=>hR h.1)]
   rfl
 ·rw[y7 (by simp only[ye,y8]; omega)]
  rw[yx (fun h:Val b=>hl h.2.2.2.2.2.2)]
theorem zd6 {n:Nat} (hn:n<=1000000) {body:Nat->Unit->Option (Step Unit Bool)} {F:Int->Option Bool} (hF:∀ (i:Nat) s,body i s=(F i).bind fun r=>if (!r)=true then some (.ret false) else some (.cont ())) (p:Nat->Prop) (h:∀ i,i<n->∃ C,F i=some C/\(C=true↔p i)) :
  ∃ C,guardP (AllP [((n:Int)).toNat<2 ^ 63]) (outM (rangeM body ((n:Int)).toNat 0 ()) (fun _=>some (decide ((n:Int)<=200))) (fun x=>some (id x)))=some C/\(C=true↔(∀ i,i<n->p i)/\n<=200):=by
 rw[yi,z6 ⟨om,trivial⟩]
 obtain⟨h1,h2⟩:=zy (body:=body) (n:=n) (c:=false) p (fun i hi hp=>by
  obtain⟨C,e,hc⟩:=h i hi
  rw[hF,e,hc.mpr hp]; rfl) (fun i hi hp=>by
  obtain⟨C,e,hc⟩:=h i hi
  rw[hF,e,Bool.eq_false_iff.mpr fun h=>hp (hc.mp h)]; rfl)
 by_cases hp:∀ i,i<n->p i
 ·rw[h1 hp]
  refine⟨_,rfl,?_⟩
  rw[y8]
  exact⟨fun h=>⟨hp,om⟩,fun h=>om⟩
 ·rw[h2 hp]
  exact noC <| (fun h=>absurd h.1 hp)
open Classical in
theorem z4m (hb:Small b):F_q1r b=some (decide (Val b)):=by
 simp only[F_q1r,S_q1r,Scr.den,zj]
 obtain⟨C1,e1,c1⟩:=zd6 hb.1.1 (body:=fun i s=>(S_q2j_b1 b i s).den) (F:=F_q39 b) (fun i s=>rfl) _ (fun i hi=>resP hb hi)
 have e1:F_q2j b (b.A.length:Int)=some C1:=e1
 rw[e1,obind]
 by_cases hR:(∀ i,i<b.A.length->RFld (b.A.getD i dF) (i+1)/\0<=leftV b (b.A.getD i dF))/\b.A.length<=200
 ·have hRA:RAll b:=fun i hi=>(hR.1 i hi).1
  obtain⟨C2,e2,c2⟩:=zd6 hb.1.2.1 (body:=fun i s=>(S_q2k_b1 b i s).den) (F:=F_q3a b) (fun i s=>rfl) _ (fun i hi=>comP hb hi)
  have e2:F_q2k b (b.B.length:Int)=some C2:=e2
  rw[c1.mpr hR,zg (by simp[AllP]),e2,obind]
  by_cases hC:(∀ i,i<b.B.length->CFld b (b.B.getD i dF) (i+1)/\0<=restV b (b.B.getD i dF))/\b.B.length<=200
  ·have hCA:CAll b:=fun i hi=>(hC.1 i hi).1
   obtain⟨C3,e3,c3⟩:=zd6 hb.1.2.2.1 (body:=fun i s=>(S_q2l_b1 b i s).den) (F:=F_q3b b) (fun i s=>rfl) _ (fun i hi=>verP hb hRA hCA hi)
   have e3:F_q2l b (b.C.length:Int)=some C3:=e3
   rw[c2.mpr hC,zg (by simp[AllP]),e3,obind]
   by_cases hV:VAll b/\b.C.length<=200
   ·obtain⟨C4,e4,c4⟩:=zd6 hb.1.2.2.2 (body:=fun i s=>(S_q2m_b1 b i s).den) (F:=F_q3e b) (fun i s=>rfl) _ (fun i hi=>ordP hb hRA hCA hV.1 hi)
    have e4:F_q2m b (b.J.length:Int)=some C4:=e4
    rw[c3.mpr hV,zg (by simp[AllP]),e4,obind]
    congr 1
    rw[y27,y8]
    simp only[Bool.and_self,y5c]
    rw[c4]
    refine⟨fun h=>⟨hRA,hCA,fun r hr=>?_,hV.1,fun r hr=>?_,h.1,hR.2,hC.2,hV.2,h.2⟩,fun h=>⟨h.2.2.2.2.2.1,h.2.2.2.2.2.2.2.2.2⟩⟩
    ·obtain⟨i,hi,e⟩:=z1s hr
     rw[<- e]; exact (hR.1 i hi).2
    ·obtain⟨i,hi,e⟩:=z1s hr
     rw[<- e]; exact (hC.1 i hi).2
   ·have:C3=false:=Bool.eq_false_iff.mpr fun h=>hV (c3.mp h)
    rw[this,zr (by simp[AllP]),obind]
    rw[yx (fun h:Val b=>hV ⟨h.2.2.2.1,h.2.2.2.2.2.2.2.2.1⟩)]
    rfl
  ·have:C2=false:=Bool.eq_false_iff.mpr fun h=>hC (c2.mp h)
   rw[this,zr (by simp[AllP]),obind,zr (by simp[AllP]),obind]
   rw[yx (fun h:Val b=>hC ⟨fun i hi=>⟨h.2.1 i hi,h.2.2.2.2.1 _ (zd hi)⟩,h.2.2.2.2.2.2.2.1⟩)]
   rfl
 ·have:C1=false:=Bool.eq_false_iff.mpr fun h=>hR (c1.mp h)
  rw[this,zr (by simp[AllP]),obind,zr (by simp[AllP]),obind,zr (by simp[AllP]),obind]
  rw[yx (fun h:Val b=>hR ⟨fun i hi=>⟨h.1 i hi,h.2.2.1 _ (zd hi)⟩,h.2.2.2.2.2.2.1⟩)]
  rfl
theorem st {c:Bool} {_:Decidable P} {y:Option α} {a b:α} (h:c=true↔P) (hx:P->x=some a) (hy:¬ P->y=some b):(if c=true then x else y)=some (if P then a else b):=by
 by_cases hp:P
 ·rw[y7 (h.mpr hp),y7 hp,hx hp]
 ·rw[y6 (fun hc=>hp (h.mp hc)),y6 hp,hy hp]
def nb:TBo:=⟨[],[],[],[]⟩
def withR (b:TBo) (l:List TRe):TBo:=⟨l,b.B,b.C,b.J⟩
def withC (b:TBo) (l:List TCo):TBo:=⟨b.A,l,b.C,b.J⟩
def withV (b:TBo) (l:List TVe):TBo:=⟨b.A,b.B,l,b.J⟩
def withO (b:TBo) (l:List TOr):TBo:=⟨b.A,b.B,b.C,l⟩
section
open Classical
noncomputable def reserveS (b:TBo) (code:Y8) (y d n:Int):TBo×Int :=
 if ¬ Val b then (nb,1) else
 if good code=false then (nb,5) else
 if ¬ ((0<=y/\y<=99)/\dayP d/\amtP n) then (nb,2) else
 if yr d≠y then (nb,16) else
 if (b.A.length:Int)=200 then (nb,3) else
 (withR b (b.A++[⟨b.A.length+1,code,y,d,n,0⟩]),0)
noncomputable def commitS (b:TBo) (r d n p u:Int):TBo×Int :=
 if ¬ Val b then (nb,1) else
 if ¬ (1<=r/\r<=b.A.length) then (nb,6) else
 if ¬ (dayP d/\amtP n/\(1<=p/\p<=1000000)/\dayP u) then (nb,2) else
 if yr d≠(rAt b r).H then (nb,16) else
 if d<(rAt b r).O then (nb,8) else
 if leftV b (rAt b r)<n then (nb,15) else
 if (b.B.length:Int)=200 then (nb,3) else
 (withC b (b.B++[⟨b.B.length+1,r,d,n,0,p,u⟩]),0)
noncomputable def verifyS (b:TBo) (c d n:Int):TBo×Int :=
 if ¬ Val b then (nb,1) else
 if ¬ (1<=c/\c<=b.B.length) then (nb,6) else
 if ¬ (dayP d/\amtP n) then (nb,2) else
 if yearOf b c+1<yr d then (nb,16) else
 if d<(cAt b c).O then (nb,8) else
 if restV b (cAt b c)<n then (nb,15) else
 if (b.C.length:Int)=200 then (nb,3) else
 (withV b (b.C++[⟨b.C.length+1,c,d,n⟩]),0)
noncomputable def orderS (b:TBo) (v d:Int):TBo×Int :=
 if ¬ Val b then (nb,1) else
 if ¬ (1<=v/\v<=b.C.length) then (nb,6) else
 if ¬ dayP d then (nb,2) else
 if yearOf b (vAt b v).P+1<yr d then (nb,16) else
 if (ordersOf b.J v).length>0/\(lastV b v).Ab=false then (nb,20) else
 if d<(vAt b v).O\/((ordersOf b.J v).length>0/\d<(lastV b v).O) then (nb,8) else
 if (b.J.length:Int)=200 then (nb,3) else
 (withO b (b.J++[⟨b.J.length+1,v,(ordersOf b.J v).length+1,d,false⟩]),0)
noncomputable def releaseS (b:TBo) (r n:Int):TBo×Int :=
 if ¬ Val b then (nb,1) else
 if ¬ (1<=r/\r<=b.A.length) then (nb,6) else
 if ¬ amtP n then (nb,2) else
 if leftN b r<n then (nb,15) else
 (withR b (b.A.set (r-1).toNat ⟨(rAt b r).F,(rAt b r).E,(rAt b r).H,(rAt b r).O,(rAt b r).I,i64.wrap ((rAt b r).S+n)⟩),0)
noncomputable def dropS (b:TBo) (c n:Int):TBo×Int :=
 if ¬ Val b then (nb,1) else
 if ¬ (1<=c/\c<=b.B.length) then (nb,6) else
 if ¬ amtP n then (nb,2) else
 if restV b (cAt b c)<n then (nb,15) else
 (withC b (b.B.set (c-1).toNat ⟨(cAt b c).F,(cAt b c).L,(cAt b c).O,(cAt b c).I,i64.wrap ((cAt b c).S+n),(cAt b c).T,(cAt b c).W⟩),0)
noncomputable def backS (b:TBo) (v:Int):TBo×Int :=
 if ¬ Val b then (nb,1) else
 if ¬ (1<=v/\v<=b.C.length) then (nb,6) else
 if (ordersOf b.J v).length=0\/(lastV b v).Ab=true then (nb,9) else
 (withO b (b.J.set ((lastV b v).F-1).toNat ⟨(lastV b v).F,(lastV b v).K,(lastV b v).Z,(lastV b v).O,true⟩),0)
end
theorem zh3 (hR:RAll b) (hn:1<=n/\n<=b.A.length):leftN b n=leftV b (rAt b n):=by
 unfold leftN
 have hi:(n-1).toNat<b.A.length:=om
 have hf:b.A.find? (fun r=>r.F==n)=some (rAt b n):=by
  rw[List.find?_eq_some_iff_getElem]
  refine⟨by simpa using (hR.at hn).1,(n-1).toNat,hi,by unfold rAt; rw[y9,ya hi]; rfl,fun j hj=>?_⟩
  have e2:=(hR j om).1
  have e3:b.A.getD j dF=b.A[j]:=by simp[List.getD_eq_getElem?_getD,List.getElem?_eq_getElem (show j<b.A.length from om)]
  rw[e3] at e2
  simp only[yc,y1t,ne_eq]
  omega
 rw[hf]
variable {code:Y8}
theorem ze0 (hb:Small b) (hc:code.length<=1000000) (y d n:Int):F_q47 b code y d n=some (reserveS b code y d n):=by
 have h1:=hb.1.1
 have h2:=hb.1
 have hw:i64.wrap ((b.A.length:Int)+1)=b.A.length+1:=wrapId om om
 open Classical in simp only[F_q47,S_q47,Scr.den,z1w hb,z4a (show code.length<4611686018427387904 from om),z2h,z1o,z2a,zq,obind,zb,z1q,z23 hb.1,hw]
 unfold reserveS
 refine st (by (simp only[yc,yb])) (fun _=>rfl) fun hV=>?_
 refine st (by (simp only[yc])) (fun _=>rfl) fun hg=>?_
 refine st (by (simp only[ye,yc,y8,yb,y2a] <;> (try unfold dayP) <;> (try unfold amtP) <;> omega)) (fun _=>rfl) fun _=>?_
 refine st (by (simp only[y1g,ne_eq] <;> (try unfold dayP) <;> (try unfold amtP) <;> omega)) (fun _=>rfl) fun _=>?_
 refine st (by (simp only[yu] <;> (try unfold dayP) <;> (try unfold amtP) <;> omega)) (fun _=>rfl) fun _=>?_
 obtain⟨_,h3,h4,h5⟩:=h2
 simp only[yn,yf,y11]
 rw[z6 ⟨om,trivial⟩,z6 ⟨om,trivial⟩,z6 ⟨om,trivial⟩,z6 ⟨om,trivial⟩,z6 ⟨om,trivial⟩]
 rfl
theorem zko (hb:Small b) (hc:code.length<=1000000) (y d n:Int):F_q3y b code y d n=some (reserveS b code y d n):=by
 have h1:=hb.1.1
 have h2:=hb.1
 have hw:i64.wrap ((b.A.length:Int)+1)=b.A.length+1:=wrapId om om
 open Classical in simp only[F_q3y,S_q3y,Scr.den,z4m hb,z4k (show code.length<=1099511627776 from om),z64,z2p,z1t,z4u,zq,obind,zb,z1q,z3g hb.1,hw]
 unfold reserveS
 refine st (by (simp only[yc,yb])) (fun _=>rfl) fun hV=>?_
 refine st (by rw[<- z57]; (simp only[yb,yu,y2a] <;> (try unfold dayP) <;> (try unfold amtP) <;> omega)) (fun _=>rfl) fun hg=>?_
 refine st (by (simp only[ye,yc,yb] <;> (try unfold dayP) <;> (try unfold amtP) <;> omega)) (fun _=>rfl) fun _=>?_
 refine st (by (simp only[y1g,ne_eq] <;> (try unfold dayP) <;> (try unfold amtP) <;> omega)) (fun _=>rfl) fun _=>?_
 refine st (by (simp only[yu] <;> (try unfold dayP) <;> (try unfold amtP) <;> omega)) (fun _=>rfl) fun _=>?_
 obtain⟨_,h3,h4,h5⟩:=h2
 simp only[yn,yf,y11]
 rw[z6 ⟨om,trivial⟩,z6 ⟨om,trivial⟩,z6 ⟨om,trivial⟩,z6 ⟨om,trivial⟩,z6 ⟨om,trivial⟩]
 rfl
theorem zfn (hb:Small b) (r d n p u:Int):F_q48 b r d n p u=some (commitS b r d n p u):=by
 have h2:=hb.1
 obtain⟨h1,h3,h4,h5⟩:=h2
 have hw:i64.wrap ((b.B.length:Int)+1)=b.B.length+1:=wrapId om om
 open Classical in simp only[F_q48,S_q48,Scr.den,z1w hb,z2h,z1o,z2a,z7u,zq,obind,zb,z1q,z23 hb.1,hw]
 unfold commitS
 refine st (by (simp only[yc,yb])) (fun _=>rfl) fun hV=>?_
 refine st (by (simp only[ye,y8,y2a] <;> (try unfold dayP) <;> (try unfold amtP) <;> omega)) (fun _=>rfl) fun hn=>?_
 refine st (by (simp only[ye,yc,y8,yb,y2a] <;> (try unfold dayP) <;> (try unfold amtP) <;> omega)) (fun _=>rfl) fun _=>?_
 have hn:=nnm hn
 have hV:=nnm hV
 rw[z1e hn h1,z6 ⟨om,om,trivial⟩,zh3 hV.1 hn]
 refine st (by unfold rAt; (simp only[y1g,ne_eq] <;> (try unfold dayP) <;> (try unfold amtP) <;> omega)) (fun _=>rfl) fun _=>?_
 refine st (by unfold rAt; (simp only[y8] <;> (try unfold dayP) <;> (try unfold amtP) <;> omega)) (fun _=>rfl) fun _=>?_
 refine st (by (simp only[y8,y2a] <;> (try unfold dayP) <;> (try unfold amtP) <;> omega)) (fun _=>rfl) fun _=>?_
 refine st (by (simp only[yu] <;> (try unfold dayP) <;> (try unfold amtP) <;> omega)) (fun _=>rfl) fun _=>?_
 simp only[yn,yf,y11]
 rw[z6 ⟨om,trivial⟩,z6 ⟨om,trivial⟩,z6 ⟨om,trivial⟩,z6 ⟨om,trivial⟩,z6 ⟨om,trivial⟩]
 rfl
theorem zn0 (hb:Small b) (r d n p u:Int):F_q3z b r d n p u=some (commitS b r d n p u):=by
 have h2:=hb.1
 obtain⟨h1,h3,h4,h5⟩:=h2
 have hw:i64.wrap ((b.B.length:Int)+1)=b.B.length+1:=wrapId om om
 open Classical in simp only[F_q3z,S_q3z,Scr.den,z4m hb,z64,z2p,z1t,z4u,z7s,zq,obind,zb,z1q,z3g hb.1,hw]
 unfold commitS
 refine st (by (simp only[yc,yb])) (fun _=>rfl) fun hV=>?_
 refine st (by (simp only[yc,yb] <;> (try unfold dayP) <;> (try unfold amtP) <;> omega)) (fun _=>rfl) fun hn=>?_
 refine st (by (simp only[ye,yc,yb] <;> (try unfold dayP) <;> (try unfold amtP) <;> omega)) (fun _=>rfl) fun _=>?_
 have hn:=nnm hn
 have hV:=nnm hV
 rw[z1e hn h1,z6 ⟨om,om,trivial⟩]
 refine st (by unfold rAt; (simp only[y1g,ne_eq] <;> (try unfold dayP) <;> (try unfold amtP) <;> omega)) (fun _=>rfl) fun _=>?_
 refine st (by unfold rAt; (simp only[y8] <;> (try unfold dayP) <;> (try unfold amtP) <;> omega)) (fun _=>rfl) fun _=>?_
 refine st (by unfold rAt; (simp only[y8,y2a] <;> (try unfold dayP) <;> (try unfold amtP) <;> omega)) (fun _=>rfl) fun _=>?_
 refine st (by (simp only[yu] <;> (try unfold dayP) <;> (try unfold amtP) <;> omega)) (fun _=>rfl) fun _=>?_
 simp only[yn,yf,y11]
 rw[z6 ⟨om,trivial⟩,z6 ⟨om,trivial⟩,z6 ⟨om,trivial⟩,z6 ⟨om,trivial⟩,z6 ⟨om,trivial⟩]
 rfl
theorem zfo (hb:Small b) (c d n:Int):F_q49 b c d n=some (verifyS b c d n):=by
 have h2:=hb.1
 obtain⟨h1,h3,h4,h5⟩:=h2
 have hw:i64.wrap ((b.C.length:Int)+1)=b.C.length+1:=wrapId om om
 open Classical in simp only[F_q49,S_q49,Scr.den,z1w hb,z2h,z1o,z2a,z7t,zq,obind,zb,z1q,z23 hb.1,hw]
 unfold verifyS
 refine st (by (simp only[yc,yb])) (fun _=>rfl) fun hV=>?_
 refine st (by (simp only[ye,y8,y2a] <;> (try unfold dayP) <;> (try unfold amtP) <;> omega)) (fun _=>rfl) fun hn=>?_
 refine st (by (simp only[ye,yc,yb] <;> (try unfold dayP) <;> (try unfold amtP) <;> omega)) (fun _=>rfl) fun _=>?_
 have hn:=nnm hn
 have hV:=nnm hV
 rw[z5x hb hV.2.1 hn,obind,z1e hn h3,z67 hV.1 hV.2.1 hn]
 refine st (by (simp only[y8,y2a] <;> (try unfold dayP) <;> (try unfold amtP) <;> omega)) (fun _=>rfl) fun _=>?_
 rw[z6 ⟨om,om,trivial⟩]
 refine st (by unfold cAt; (simp only[y8] <;> (try unfold dayP) <;> (try unfold amtP) <;> omega)) (fun _=>rfl) fun _=>?_
 refine st (by unfold cAt; (simp only[y8,y2a] <;> (try unfold dayP) <;> (try unfold amtP) <;> omega)) (fun _=>rfl) fun _=>?_
 refine st (by (simp only[yu] <;> (try unfold dayP) <;> (try unfold amtP) <;> omega)) (fun _=>rfl) fun _=>?_
 simp only[yn,yf,y11]
 rw[z6 ⟨om,trivial⟩,z6 ⟨om,trivial⟩,z6 ⟨om,trivial⟩,z6 ⟨om,trivial⟩,z6 ⟨om,trivial⟩]
 rfl
theorem zn1 (hb:Small b) (c d n:Int):F_q40 b c d n=some (verifyS b c d n):=by
 have h2:=hb.1
 obtain⟨h1,h3,h4,h5⟩:=h2
 have hw:i64.wrap ((b.C.length:Int)+1)=b.C.length+1:=wrapId om om
 open Classical in simp only[F_q40,S_q40,Scr.den,z4m hb,z64,z2p,z1t,z4u,zdz,zq,obind,zb,z1q,z3g hb.1,hw]
 unfold verifyS
 refine st (by (simp only[yc,yb])) (fun _=>rfl) fun hV=>?_
 refine st (by (simp only[yc,yb] <;> (try unfold dayP) <;> (try unfold amtP) <;> omega)) (fun _=>rfl) fun hn=>?_
 refine st (by (simp only[ye,yc,yb] <;> (try unfold dayP) <;> (try unfold amtP) <;> omega)) (fun _=>rfl) fun _=>?_
 have hn:=nnm hn
 have hV:=nnm hV
 have hy:F_q18 b (b.B.getD (c-1).toNat dF)=some (yearOf b c):=zaz hb (hV.2.1.at hn).2.1
 rw[z1e hn h3,z6 ⟨om,om,trivial⟩,hy,obind,z67 hV.1 hV.2.1 hn]
 refine st (by (simp only[y8,y2a] <;> (try unfold dayP) <;> (try unfold amtP) <;> omega)) (fun _=>rfl) fun _=>?_
 refine st (by unfold cAt; (simp only[y8] <;> (try unfold dayP) <;> (try unfold amtP) <;> omega)) (fun _=>rfl) fun _=>?_
 refine st (by unfold cAt; (simp only[y8,y2a] <;> (try unfold dayP) <;> (try unfold amtP) <;> omega)) (fun _=>rfl) fun _=>?_
 refine st (by (simp only[yu] <;> (try unfold dayP) <;> (try unfold amtP) <;> omega)) (fun _=>rfl) fun _=>?_
 simp only[yn,yf,y11]
 rw[z6 ⟨om,trivial⟩,z6 ⟨om,trivial⟩,z6 ⟨om,trivial⟩,z6 ⟨om,trivial⟩,z6 ⟨om,trivial⟩]
 rfl
theorem zn2 (l:List TOr) (h:0<l.length) (x:TOr):l.getD (l.length-1) dF=l.getLastD x:=by
 rw[y9,ya om,y4d,List.getLast?_eq_getElem?,ya om]
 rfl
theorem zh4 (hb:Small b) (v d:Int):F_q4a b v d=some (orderS b v d):=by
 have h2:=hb.1
 obtain⟨h1,h3,h4,h5⟩:=h2
 have hw:i64.wrap ((b.J.length:Int)+1)=b.J.length+1:=wrapId om om
 have hol:(ordersOf b.J v).length<=b.J.length:=y4v _ _
 have hw2:i64.wrap (((ordersOf b.J v).length:Int)+1)=(ordersOf b.J v).length+1:=wrapId om om
 open Classical in simp only[F_q4a,S_q4a,Scr.den,z1w hb,z2h,z2a,zjj h5,obind,zb,zj,z23 hb.1,hw,hw2]
 unfold orderS
 refine st (by (simp only[yc,yb])) (fun _=>rfl) fun hV=>?_
 refine st (by (simp only[ye,y8,y2a] <;> (try unfold dayP) <;> (try unfold amtP) <;> omega)) (fun _=>rfl) fun hn=>?_
 refine st (by (simp only[yc,yb] <;> (try unfold dayP) <;> (try unfold amtP) <;> omega)) (fun _=>rfl) fun _=>?_
 have hn:=nnm hn
 have hV:=nnm hV
 have hv:=(hV.2.2.2.1.at hn).2.1
 have hy:F_q1w b (b.C.getD (v-1).toNat dF).P=some (yearOf b (vAt b v).P):=z5x hb hV.2.1 hv
 rw[z1e hn h4,z6 ⟨om,om,trivial⟩,hy,obind,z67 hV.1 hV.2.1 hv]
 refine st (by (simp only[y8,y2a] <;> (try unfold dayP) <;> (try unfold amtP) <;> omega)) (fun _=>rfl) fun _=>?_
 refine st sj (fun _=>rfl) fun _=>?_
 refine st (by unfold vAt; (simp only[ye,yk,y8,y2a] <;> (try unfold dayP) <;> (try unfold amtP) <;> omega)) (fun _=>rfl) fun _=>?_
 refine st (by (simp only[yu] <;> (try unfold dayP) <;> (try unfold amtP) <;> omega)) (fun _=>rfl) fun _=>?_
 simp only[yn,yf,y11]
 rw[z6 ⟨om,trivial⟩,z6 ⟨om,trivial⟩,z6 ⟨om,trivial⟩,z6 ⟨om,trivial⟩,z6 ⟨om,trivial⟩]
 rfl
theorem zbp (l:List TOr) (hl:l.length<=1000000) (x:TOr) (f:TOr->Bool):(decide ((l.length:Int)>0)&&f (l.getD (i64.wrap ((l.length:Int)-1)).toNat dF))=(decide ((l.length:Int)>0)&&f (l.getLastD x)):=by
 by_cases h:0<l.length
 ·rw[wrapId om om,show ((l.length:Int)-1).toNat=l.length-1 from om,zn2 l h x]
 ·rw[yx om]; rfl
theorem zox (hb:Small b) (v d:Int):F_q41 b v d=some (orderS b v d):=by
 have h2:=hb.1
 obtain⟨h1,h3,h4,h5⟩:=h2
 have hw:i64.wrap ((b.J.length:Int)+1)=b.J.length+1:=wrapId om om
 have hol:(ordersOf b.J v).length<=b.J.length:=y4v _ _
 have hw2:i64.wrap (((ordersOf b.J v).length:Int)+1)=(ordersOf b.J v).length+1:=wrapId om om
 have hg:∀ P:Prop,P->((ordersOf b.J v).length:Int)>0->(0:Int)<=i64.wrap (((ordersOf b.J v).length:Int)-1)/\(i64.wrap (((ordersOf b.J v).length:Int)-1)).toNat<(ordersOf b.J v).length:=fun _ _ h=>by
  rw[wrapId om om]; omega
 have a1:=zbp (ordersOf b.J v) om noOrder (fun o=>!o.Ab)
 have a2:=zbp (ordersOf b.J v) om noOrder (fun o=>decide (d<o.O))
 open Classical in simp only[F_q41,S_q41,Scr.den,z4m hb,z64,z1t,z4u,zex h5,obind,zb,zj,z3g hb.1,hw,hw2,a1,a2]
 unfold orderS
 refine st (by (simp only[yc,yb])) (fun _=>rfl) fun hV=>?_
 refine st (by (simp only[yc,yb] <;> (try unfold dayP) <;> (try unfold amtP) <;> omega)) (fun _=>rfl) fun hn=>?_
 refine st (by (simp only[yc,yb] <;> (try unfold dayP) <;> (try unfold amtP) <;> omega)) (fun _=>rfl) fun _=>?_
 have hn:=nnm hn
 have hV:=nnm hV
 have hv:=(hV.2.2.2.1.at hn).2.1
 have hv':1<=(b.C.getD (v-1).toNat dF).P/\(b.C.getD (v-1).toNat dF).P<=b.B.length:=hv
 have hy:F_q18 b (b.B.getD ((b.C.getD (v-1).toNat dF).P-1).toNat dF)=some (yearOf b (vAt b v).P):=zaz hb (hV.2.1.at hv).2.1
 rw[z1e hn h4,z6 ⟨om,om,trivial⟩,z1e hv' h3,hy,obind,z6 ⟨om,om,trivial⟩,z67 hV.1 hV.2.1 hv]
 refine st (by (simp only[y8,y2a] <;> (try unfold dayP) <;> (try unfold amtP) <;> omega)) (fun _=>rfl) fun _=>?_
 rw[z6 ⟨fun h=>(hg True trivial (by simpa [AllP] using h)).1,fun h=>(hg True trivial (by simpa [AllP] using h)).2,trivial⟩]
 refine st (by simp[lastV]) (fun _=>rfl) fun _=>?_
 rw[z6 ⟨fun h=>(hg True trivial (y3k h.1)).1,fun h=>(hg True trivial (y3k h.1)).2,trivial⟩]
 refine st (by unfold vAt lastV; (simp only[ye,yk,y8,y2a] <;> (try unfold dayP) <;> (try unfold amtP) <;> omega)) (fun _=>rfl) fun _=>?_
 refine st (by (simp only[yu] <;> (try unfold dayP) <;> (try unfold amtP) <;> omega)) (fun _=>rfl) fun _=>?_
 simp only[yn,yf,y11]
 rw[z6 ⟨om,trivial⟩,z6 ⟨om,trivial⟩,z6 ⟨om,trivial⟩,z6 ⟨om,trivial⟩,z6 ⟨om,trivial⟩]
 rfl
theorem ze1 (hb:Small b) (r n:Int):F_q4b b r n=some (releaseS b r n):=by
 have h2:=hb.1
 obtain⟨h1,h3,h4,h5⟩:=h2
 open Classical in simp only[F_q4b,S_q4b,Scr.den,z1w hb,z1o,z7u,obind,zb,z23 hb.1,y1a]
 unfold releaseS
 refine st (by (simp only[yc,yb])) (fun _=>rfl) fun hV=>?_
 refine st (by (simp only[ye,y8,y2a] <;> (try unfold dayP) <;> (try unfold amtP) <;> omega)) (fun _=>rfl) fun hn=>?_
 refine st (by (simp only[yc,yb] <;> (try unfold dayP) <;> (try unfold amtP) <;> omega)) (fun _=>rfl) fun _=>?_
 refine st (by (simp only[y8,y2a] <;> (try unfold dayP) <;> (try unfold amtP) <;> omega)) (fun _=>rfl) fun _=>?_
 have hn:=nnm hn
 rw[z1e hn h1]
 simp only[yl]
 rw[z6 ⟨om,trivial⟩,z6 ⟨om,trivial⟩,z6 ⟨om,trivial⟩,z6 ⟨om,om,om,trivial⟩,z6 ⟨om,trivial⟩]
 rfl
theorem zih (hb:Small b) (c n:Int):F_q4c b c n=some (dropS b c n):=by
 have h2:=hb.1
 obtain⟨h1,h3,h4,h5⟩:=h2
 open Classical in simp only[F_q4c,S_q4c,Scr.den,z1w hb,z1o,z7t,obind,zb,z23 hb.1,y1a]
 unfold dropS
 refine st (by (simp only[yc,yb])) (fun _=>rfl) fun hV=>?_
 refine st (by (simp only[ye,y8,y2a] <;> (try unfold dayP) <;> (try unfold amtP) <;> omega)) (fun _=>rfl) fun hn=>?_
 refine st (by (simp only[yc,yb] <;> (try unfold dayP) <;> (try unfold amtP) <;> omega)) (fun _=>rfl) fun _=>?_
 have hn:=nnm hn
 rw[z1e hn h3,z6 ⟨om,om,trivial⟩]
 refine st (by unfold cAt; (simp only[y8,y2a] <;> (try unfold dayP) <;> (try unfold amtP) <;> omega)) (fun _=>rfl) fun _=>?_
 simp only[yl]
 rw[z6 ⟨om,trivial⟩,z6 ⟨om,trivial⟩,z6 ⟨om,trivial⟩,z6 ⟨om,om,trivial⟩,z6 ⟨om,trivial⟩]
 rfl
theorem zkp (hb:Small b) (r n:Int):F_q42 b r n=some (releaseS b r n):=by
 have h2:=hb.1
 obtain⟨h1,h3,h4,h5⟩:=h2
 open Classical in simp only[F_q42,S_q42,Scr.den,z4m hb,z2p,z1t,zqr,obind,z3g hb.1,y1a]
 unfold releaseS
 refine st (by (simp only[yc,yb])) (fun _=>rfl) fun hV=>?_
 refine st (by (simp only[yc,yb])) (fun _=>rfl) fun hn=>?_
 refine st (by (simp only[yc,yb])) (fun _=>rfl) fun _=>?_
 refine st (by (simp only[y8,y2a] <;> (try unfold dayP) <;> (try unfold amtP) <;> omega)) (fun _=>rfl) fun _=>?_
 have hn:=nnm hn
 rw[z1e hn h1]
 simp only[yl]
 rw[z6 ⟨om,trivial⟩,z6 ⟨om,trivial⟩,z6 ⟨om,trivial⟩,z6 ⟨om,om,om,trivial⟩,z6 ⟨om,trivial⟩]
 rfl
theorem zqu (hb:Small b) (c n:Int):F_q43 b c n=some (dropS b c n):=by
 have h2:=hb.1
 obtain⟨h1,h3,h4,h5⟩:=h2
 open Classical in simp only[F_q43,S_q43,Scr.den,z4m hb,z2p,z1t,zdz,obind,z3g hb.1,y1a]
 unfold dropS
 refine st (by (simp only[yc,yb])) (fun _=>rfl) fun hV=>?_
 refine st (by (simp only[yc,yb])) (fun _=>rfl) fun hn=>?_
 refine st (by (simp only[yc,yb])) (fun _=>rfl) fun _=>?_
 have hn:=nnm hn
 rw[z1e hn h3,z6 ⟨om,om,trivial⟩]
 refine st (by unfold cAt; (simp only[y8,y2a] <;> (try unfold dayP) <;> (try unfold amtP) <;> omega)) (fun _=>rfl) fun _=>?_
 simp only[yl]
 rw[z6 ⟨om,trivial⟩,z6 ⟨om,trivial⟩,z6 ⟨om,trivial⟩,z6 ⟨om,om,trivial⟩,z6 ⟨om,trivial⟩]
 rfl
variable {v:Int}
theorem z82 (h:0<(ordersOf b.J v).length):∃ i,i<b.J.length/\b.J.getD i dF=lastV b v/\(lastV b v).K=v/\ordersOf (b.J.drop (i+1)) v=[]:=by
 have key:∀ l:List TOr,0<(ordersOf l v).length->∃ i,i<l.length/\l.getD i dF=(ordersOf l v).getLastD noOrder/\((ordersOf l v).getLastD noOrder).K=v/\ordersOf (l.drop (i+1)) v=[]:=by
  intro l
  induction l with
  | nil=>intro h; simp[ordersOf] at h
  | cons o l ih =>
   intro h
   by_cases h':0<(ordersOf l v).length
   ·obtain⟨i,h1,h2,h3,h4⟩:=ih h'
    have e:(ordersOf (o :: l) v).getLastD noOrder=(ordersOf l v).getLastD noOrder:=by
     unfold ordersOf at h' |-
     rw[y31]
     split
     ·rw[List.getLastD_cons,y4d,y4d]
      rw[List.getLast?_eq_getElem?,ya om]
      rfl
     ·rfl
    exact⟨i+1,sk,by rw[y3g,e]; exact h2,by rw[e]; exact h3,by rw[y48]; exact h4⟩
   ·have e:ordersOf l v=[]:=y3e om
    have e2:ordersOf (o :: l) v=if (o.K==v)=true then [o] else []:=by
     unfold ordersOf at e |-
     rw[y31,e]
    rw[e2] at h |-
    by_cases ho:(o.K==v)=true
    ·rw[y7 ho]
     exact⟨0,sj,rfl,eq_of_beq ho,by simpa using e⟩
    ·rw[y6 ho] at h; simp at h
 exact key b.J h
theorem z3h {l:List TOr} {x:TOr}:x∈ordersOf l v↔x∈l/\x.K=v:=by
 unfold ordersOf; rw[y2k,yu]
variable {j:Nat}
theorem zbq (hO:OAll b) (hij:i<j) (hj:j<b.J.length) (hv:(b.J.getD i dF).K=(b.J.getD j dF).K):(b.J.getD i dF).Ab=true/\(b.J.getD i dF).O<=(b.J.getD j dF).O:=by
 have h:=(hO j hj).2.2.2.2.2.2
 have hm:b.J.getD i dF∈ordersOf (b.J.take j) (b.J.getD j dF).K:=by
  rw[z3h]
  refine⟨?_,hv⟩
  have e:b.J.getD i dF=(b.J.take j).getD i dF:=by
   simp only[y9,y3w]
   rw[y7 hij]
  rw[e]
  exact zd (by rw[y16]; omega)
 have:=List.any_eq_false.mp h _ hm
 simp only[ye,yc,y8,y4h] at this
 exact⟨by simpa using this.1,om⟩
theorem zii (hb:Small b) (v:Int):F_q4d b v=some (backS b v):=by
 have h2:=hb.1
 obtain⟨h1,h3,h4,h5⟩:=h2
 open Classical in simp only[F_q4d,S_q4d,Scr.den,z1w hb,zjj h5,obind,zb,z23 hb.1,y1a]
 unfold backS
 refine st (by (simp only[yc,yb])) (fun _=>rfl) fun hV=>?_
 refine st (by (simp only[ye,y8,y2a] <;> (try unfold dayP) <;> (try unfold amtP) <;> omega)) (fun _=>rfl) fun hn=>?_
 refine st sj (fun _=>rfl) fun hl=>?_
 have hV:=nnm hV
 obtain⟨i,hi,he,_,_⟩:=z82 (b:=b) (v:=v) om
 have hnum:=(hV.2.2.2.2.2.1 i hi).1
 rw[he] at hnum
 have w:i64.wrap ((lastV b v).F-1)=i:=by rw[wrapId om om]; omega
 rw[w]
 simp only[yl,yi,he]
 rw[z6 ⟨om,trivial⟩,z6 ⟨om,trivial⟩,z6 ⟨om,trivial⟩,z6 ⟨om,om,om,trivial⟩,z6 ⟨om,trivial⟩]
 rw[show ((lastV b v).F-1).toNat=i from om]
 rfl
theorem zqv (hb:Small b) (v:Int):F_q1s b v=some (backS b v):=by
 have h2:=hb.1
 obtain⟨h1,h3,h4,h5⟩:=h2
 open Classical in simp only[F_q1s,S_q1s,Scr.den,z4m hb,z1t,obind,z3g hb.1]
 unfold backS
 refine st (by (simp only[yc,yb])) (fun _=>rfl) fun hV=>?_
 refine st (by (simp only[yc,yb])) (fun _=>rfl) fun hn=>?_
 have hV:=nnm hV
 rw[z6 ⟨om,trivial⟩,z6 ⟨om,trivial⟩,z6 ⟨om,trivial⟩,z6 ⟨om,trivial⟩]
 rcases zce b.J (fun o=>o.K==v&&!o.Ab) (fun i=>(withO b (b.J.set i ⟨(b.J.getD i dF).F,(b.J.getD i dF).K,(b.J.getD i dF).Z,(b.J.getD i dF).O,true⟩),(0:Int))) (body:=fun i s=>(S_q1s_b1 v (b.A,b.B,b.C,b.J) i s).den) (fun i hi=>by
  simp only[S_q1s_b1,Scr.den,y1a,zj,yl]
  rw[z6 ⟨hi,fun _=>hi,trivial⟩,z6 ⟨om,trivial⟩]
  split <;> rfl) with ⟨e1,e2⟩ | ⟨i,e1,e2,e3,e4⟩
 ·rw[e1]
  simp only[outM]
  rw[y7]
  ·rfl
  ·by_cases hl:(ordersOf b.J v).length=0
   ·exact .inl hl
   ·right
    obtain⟨i,hi,he,hv,_⟩:=z82 (b:=b) (v:=v) om
    have:=e2 _ (zd hi)
    rw[he,hv] at this
    simpa using this
 ·rw[e4]
  simp only[outM]
  simp only[yk,yu,yc] at e2
  have hmem:b.J.getD i dF∈ordersOf b.J v:=z3h.mpr ⟨zd e1,e2.1⟩
  have hpos:0<(ordersOf b.J v).length:=y4o hmem
  obtain⟨j,hj,he,hv,hd⟩:=z82 hpos
  have hij:i=j:=by
   rcases y4m i j with h | h | h
   ·have:=(zbq hV.2.2.2.2.2.1 h hj (by rw[he,hv]; exact e2.1)).1
    rw[e2.2] at this; cases this
   ·exact h
   ·exfalso
    have:b.J.getD i dF∈ordersOf (b.J.drop (j+1)) v:=by
     rw[z3h]
     refine⟨?_,e2.1⟩
     have e:b.J.getD i dF=(b.J.drop (j+1)).getD (i-(j+1)) dF:=by
      simp only[y9,y1p]
      rw[show j+1+(i-(j+1))=i from om]
     rw[e]
     exact zd (by rw[y1h]; omega)
    rw[hd] at this; cases this
  subst hij
  rw[he] at e2
  rw[y6 (by rw[e2.2]; simp; exact List.ne_nil_of_length_pos hpos),he]
  have hnum:=(hV.2.2.2.2.2.1 i hj).1
  rw[he] at hnum
  rw[show ((lastV b v).F-1).toNat=i from om]
  rfl
theorem z2u [Inhabited α] (l:List α) (x:α) (i:Nat) (hi:i<l.length):(l++[x]).getD i dF=l.getD i dF:=by
 simp only[y9]
 rw[ym hi]
theorem z4g [Inhabited α] (l:List α) (x:α):(l++[x]).getD l.length dF=x:=by
 simp[List.getD_eq_getElem?_getD]
theorem z5q [Inhabited α] (l:List α) (x:α) (k i:Nat) (hk:k<l.length):(l.set k x).getD i dF=if i=k then x else l.getD i dF:=by
 simp only[y9,List.getElem?_set]
 by_cases h:k=i
 ·subst h; simp[hk]
 ·rw[y6 h,y6 (fun e=>h e.symm)]
variable {c:Int} {p:α->Bool} {f:α->Int}
theorem zkq {l:List α} (h:∀ x∈l,0<=f x/\f x<=c) (hl:l.length<=200) (hc:0<=c):0<=sm l p f/\sm l p f<=200 * c:=by
 have h1:=zes (p:=p) fun x hx=>(h x hx).1
 have h2:=zsj (p:=p) (fun x hx=>(h x hx).2) hc
 have h3:(l.length:Int) * c<=200 * c:=Int.mul_le_mul_of_nonneg_right om hc
 omega
theorem CAll.mem (h:CAll b) {c:TCo} (hc:c∈b.B):CFld b c c.F/\c=cAt b c.F/\1<=c.F/\c.F<=b.B.length:=by
 obtain⟨i,hi,e⟩:=z1s hc
 have h1:=h i hi
 rw[e] at h1
 have hn:=h1.1
 rw[hn]
 refine⟨h1,?_,om,om⟩
 unfold cAt
 rw[<- e]
 congr 1
 omega
theorem RAll.mem (h:RAll b) {r:TRe} (hr:r∈b.A):RFld r r.F/\r=rAt b r.F/\1<=r.F/\r.F<=b.A.length:=by
 obtain⟨i,hi,e⟩:=z1s hr
 have h1:=h i hi
 rw[e] at h1
 have hn:=h1.1
 rw[hn]
 refine⟨h1,?_,om,om⟩
 unfold rAt
 rw[<- e]
 congr 1
 omega
theorem VAll.mem (h:VAll b) {v:TVe} (hv:v∈b.C):VFld b v v.F/\v=vAt b v.F/\1<=v.F/\v.F<=b.C.length:=by
 obtain⟨i,hi,e⟩:=z1s hv
 have h1:=h i hi
 rw[e] at h1
 have hn:=h1.1
 rw[hn]
 refine⟨h1,?_,om,om⟩
 unfold vAt
 rw[<- e]
 congr 1
 omega
theorem zh5 (h:Val b) (n:Int):0<=cmt b n/\cmt b n<=200000000000000:=by
 have:=zkq (l:=b.B) (p:=fun c=>c.L==n) (f:=(·.I)) (c:=1000000000000) (fun c hc=>by
  have:=(h.2.1.mem hc).1.2.2.2.1
  unfold amtP at this
  omega) h.2.2.2.2.2.2.2.1 om
 exact this
theorem zh6 (h:Val b) (n:Int):0<=ver b n/\ver b n<=200000000000000:=by
 have:=zkq (l:=b.C) (p:=fun c=>c.P==n) (f:=(·.I)) (c:=1000000000000) (fun c hc=>by
  have:=(h.2.2.2.1.mem hc).1.2.2.2.1
  unfold amtP at this
  omega) h.2.2.2.2.2.2.2.2.1 om
 exact this
theorem z8q (h:Val b) {r:TRe} (hr:r∈b.A):leftV b r=r.I-r.S-cmt b r.F/\0<=leftV b r:=by
 have h1:=zh5 h r.F
 have h2:=(h.1.mem hr).1
 have h3:=h2.2.2.2.2.2.1
 have h4:=h2.2.2.2.2.2.2
 unfold amtP at h3
 exact⟨wrapId om om,h.2.2.1 r hr⟩
theorem zh7 (h:Val b) {c:TCo} (hc:c∈b.B):restV b c=c.I-c.S-ver b c.F/\0<=restV b c:=by
 have h1:=zh6 h c.F
 have h2:=(h.2.1.mem hc).1
 have h3:=h2.2.2.2.1
 have h4:=h2.2.2.2.2.1
 unfold amtP at h3
 exact⟨wrapId om om,h.2.2.2.2.1 c hc⟩
theorem ze2 (hn:1<=n/\n<=b.A.length):rAt b n∈b.A:=zd om
theorem zqw (hn:1<=n/\n<=b.B.length):cAt b n∈b.B:=zd om
theorem valR (h:Val b) {l:List TRe} (hl:b.A.length<=l.length) (h200:l.length<=200) (hR:∀ i,i<l.length->RFld (l.getD i dF) (i+1)) (hs:∀ i,i<b.A.length->(l.getD i dF).O=(b.A.getD i dF).O/\(l.getD i dF).H=(b.A.getD i dF).H) (hL:∀ r∈l,0<=leftV b r):Val (withR b l):=by
 have hr:∀ n:Int,1<=n/\n<=b.A.length->(rAt (withR b l) n).O=(rAt b n).O/\(rAt (withR b l) n).H=(rAt b n).H:=fun n hn=>hs (n-1).toNat om
 have hy:∀ n:Int,1<=n/\n<=b.B.length->yearOf (withR b l) n=yearOf b n:=fun n hn=>(hr _ (h.2.1.at hn).2.1).2
 refine⟨hR,fun i hi=>?_,hL,fun i hi=>?_,h.2.2.2.2.1,fun i hi=>?_,h200,h.2.2.2.2.2.2.2⟩
 ·change CFld (withR b l) (b.B.getD i dF) _
  obtain⟨a1,a2,a3,a4,a5,a6,a7,a8,a9⟩:=h.2.1 i hi
  obtain⟨b1,b2⟩:=hr _ a2
  exact⟨a1,⟨a2.1,Int.le_trans a2.2 (by simpa [withR] using hl)⟩,a3,a4,a5,a6,a7,by rw[b1]; exact a8,by rw[b2]; exact a9⟩
 ·change VFld (withR b l) (b.C.getD i dF) _
  obtain⟨a1,a2,a3,a4,a5,a6⟩:=h.2.2.2.1 i hi
  exact⟨a1,a2,a3,a4,a5,by rw[hy _ a2]; exact a6⟩
 ·change OFld (withR b l) (b.J.getD i dF) (b.J.take i) _
  obtain⟨a1,a2,a3,a4,a5,a6⟩:=h.2.2.2.2.2.1 i hi
  exact⟨a1,a2,a3,a4,by rw[show vAt (withR b l)=vAt b from rfl,hy _ (h.2.2.2.1.at a2).2.1]; exact a5,a6⟩
theorem valC (h:Val b) {l:List TCo} (hl:b.B.length<=l.length) (h200:l.length<=200) (hC:∀ i,i<l.length->CFld b (l.getD i dF) (i+1)) (hs:∀ i,i<b.B.length->(l.getD i dF).O=(b.B.getD i dF).O/\(l.getD i dF).L=(b.B.getD i dF).L) (hL:∀ r∈b.A,0<=leftV (withC b l) r) (hV:∀ c∈l,0<=restV b c):Val (withC b l):=by
 have hr:∀ n:Int,1<=n/\n<=b.B.length->(cAt (withC b l) n).O=(cAt b n).O/\(cAt (withC b l) n).L=(cAt b n).L:=fun n hn=>hs (n-1).toNat om
 have hy:∀ n:Int,1<=n/\n<=b.B.length->yearOf (withC b l) n=yearOf b n:=fun n hn=>by
  unfold yearOf
  rw[(hr n hn).2]
  rfl
 refine⟨h.1,hC,hL,fun i hi=>?_,hV,fun i hi=>?_,h.2.2.2.2.2.2.1,h200,h.2.2.2.2.2.2.2.2⟩
 ·change VFld (withC b l) (b.C.getD i dF) _
  obtain⟨a1,a2,a3,a4,a5,a6⟩:=h.2.2.2.1 i hi
  exact⟨a1,⟨a2.1,Int.le_trans a2.2 (by simpa [withC] using hl)⟩,a3,a4,by rw[(hr _ a2).1]; exact a5,by rw[hy _ a2]; exact a6⟩
 ·change OFld (withC b l) (b.J.getD i dF) (b.J.take i) _
  obtain⟨a1,a2,a3,a4,a5,a6⟩:=h.2.2.2.2.2.1 i hi
  exact⟨a1,a2,a3,a4,by rw[show vAt (withC b l)=vAt b from rfl,hy _ (h.2.2.2.1.at a2).2.1]; exact a5,a6⟩
theorem valV (h:Val b) {l:List TVe} (hl:b.C.length<=l.length) (h200:l.length<=200) (hV:∀ i,i<l.length->VFld b (l.getD i dF) (i+1)) (hs:∀ i,i<b.C.length->l.getD i dF=b.C.getD i dF) (hL:∀ c∈b.B,0<=restV (withV b l) c):Val (withV b l):=by
 have hr:∀ n:Int,1<=n/\n<=b.C.length->vAt (withV b l) n=vAt b n:=fun n hn=>hs (n-1).toNat om
 refine⟨h.1,h.2.1,h.2.2.1,hV,hL,fun i hi=>?_,h.2.2.2.2.2.2.1,h.2.2.2.2.2.2.2.1,h200,h.2.2.2.2.2.2.2.2.2⟩
 change OFld (withV b l) (b.J.getD i dF) (b.J.take i) _
 obtain⟨a1,a2,a3,a4,a5,a6⟩:=h.2.2.2.2.2.1 i hi
 exact⟨a1,⟨a2.1,Int.le_trans a2.2 (by simpa [withV] using hl)⟩,a3,by rw[hr _ a2]; exact a4,by rw[hr _ a2]; exact a5,a6⟩
theorem valO (h:Val b) {l:List TOr} (h200:l.length<=200) (hO:∀ i,i<l.length->OFld b (l.getD i dF) (l.take i) (i+1)):Val (withO b l) :=
 ⟨h.1,h.2.1,h.2.2.1,h.2.2.2.1,h.2.2.2.2.1,hO,h.2.2.2.2.2.2.1,h.2.2.2.2.2.2.2.1,h.2.2.2.2.2.2.2.2.1,h200⟩
theorem zh8 (h:Val b) (hn:(b.A.length:Int)<n):cmt b n=0:=by
 unfold cmt
 rw[z8n (q:=fun _=>false) (g:=fun _=>0) fun c hc=>by
  have:=(h.2.1.mem hc).1.2.1
  rw[y6 sk]; rfl]
 have:∀ l:List TCo,sm l (fun _=>false) (fun _=>0)=0:=fun l=>by induction l with
  | nil=>rfl
  | cons x l ih=>rw[zw,ih]; rfl
 exact this _
theorem zoy (h:Val b) (hn:(b.B.length:Int)<n):ver b n=0:=by
 unfold ver
 rw[z8n (q:=fun _=>false) (g:=fun _=>0) fun c hc=>by
  have:=(h.2.2.2.1.mem hc).1.2.1
  rw[y6 sk]; rfl]
 have:∀ l:List TVe,sm l (fun _=>false) (fun _=>0)=0:=fun l=>by induction l with
  | nil=>rfl
  | cons x l ih=>rw[zw,ih]; rfl
 exact this _
variable {y:Int}
theorem zij (h:Val b) (hg:good code=true) (hy:0<=y/\y<=99) (hd:dayP d) (hn:amtP n) (hyr:yr d=y) (hl:(b.A.length:Int)≠200):Val (withR b (b.A++[⟨b.A.length+1,code,y,d,n,0⟩])):=by
 have h200:=h.2.2.2.2.2.2.1
 have hn':=hn
 unfold amtP at hn'
 refine valR h sj sk (fun i hi=>?_) (fun i hi=>by rw[z2u _ _ _ hi]; exact⟨rfl,rfl⟩) fun r hr=>?_
 ·by_cases hi':i<b.A.length
  ·rw[z2u _ _ _ hi']; exact h.1 i hi'
  ·have:i=b.A.length:=by simp at hi; omega
   subst this
   rw[z4g]
   exact⟨rfl,hg,hy,hd,hyr,hn,by simp only; omega⟩
 ·rw[y1i,y22] at hr
  rcases hr with hr | rfl
  ·exact h.2.2.1 r hr
  ·unfold leftV
   simp only
   rw[zh8 h om,wrapId om om]
   omega
theorem zik (h:Val b) {r:Int} (hr:1<=r/\r<=b.A.length) (hn:amtP n) (hL:n<=leftN b r):Val (withR b (b.A.set (r-1).toNat ⟨(rAt b r).F,(rAt b r).E,(rAt b r).H,(rAt b r).O,(rAt b r).I,i64.wrap ((rAt b r).S+n)⟩)):=by
 have h200:=h.2.2.2.2.2.2.1
 have hm:=ze2 hr
 obtain⟨f1,f2,f3,f4,f5,f6,f7⟩:=h.1.at hr
 obtain⟨l1,l2⟩:=z8q h hm
 have hc:=zh5 h (rAt b r).F
 rw[zh3 h.1 hr] at hL
 unfold amtP at hn f6
 have hw:i64.wrap ((rAt b r).S+n)=(rAt b r).S+n:=wrapId om om
 rw[hw]
 have hk:(r-1).toNat<b.A.length:=om
 refine valR h sj sk (fun i hi=>?_) (fun i hi=>?_) fun x hx=>?_
 ·rw[z5q _ _ _ _ hk]
  split
  ·rename_i e
   refine⟨by simp only; omega,f2,f3,f4,f5,f6,by simp only; omega⟩
  ·exact h.1 i (by simpa using hi)
 ·rw[z5q _ _ _ _ hk]
  split
  ·rename_i e
   subst e
   exact⟨rfl,rfl⟩
  ·exact⟨rfl,rfl⟩
 ·rcases y3b hx with hx | rfl
  ·exact h.2.2.1 x hx
  ·unfold leftV
   simp only
   rw[wrapId om om]
   omega
variable {u:Int}
theorem zkr (h:Val b) {r p:Int} (hr:1<=r/\r<=b.A.length) (hd:dayP d) (hn:amtP n) (hp:1<=p/\p<=1000000) (hu:dayP u) (hy:yr d=(rAt b r).H) (hdr:(rAt b r).O<=d) (hL:n<=leftV b (rAt b r)) (hl:(b.B.length:Int)≠200):Val (withC b (b.B++[⟨b.B.length+1,r,d,n,0,p,u⟩])):=by
 have h200:=h.2.2.2.2.2.2.2.1
 have hn':=hn
 unfold amtP at hn'
 have hrm:=ze2 hr
 obtain⟨l1,l2⟩:=z8q h hrm
 refine valC h sj sk (fun i hi=>?_) (fun i hi=>by rw[z2u _ _ _ hi]; exact⟨rfl,rfl⟩) (fun x hx=>?_) fun c hc=>?_
 ·by_cases hi':i<b.B.length
  ·rw[z2u _ _ _ hi']; exact h.2.1 i hi'
  ·have:i=b.B.length:=by simp at hi; omega
   subst this
   rw[z4g]
   exact⟨rfl,hr,hd,hn,by simp only; omega,hp,hu,hdr,hy⟩
 ·obtain⟨x1,x2⟩:=z8q h hx
  unfold leftV
  have e:cmt (withC b (b.B++[⟨b.B.length+1,r,d,n,0,p,u⟩])) x.F=cmt b x.F+if (r==x.F)=true then n else 0:=by
   unfold cmt withC
   simp only
   rw[z7f,zw,zd1]
   simp
  have hc:=zh5 h x.F
  have hf:=(h.1.mem hx)
  have hf6:=hf.1.2.2.2.2.2.1
  have hf7:=hf.1.2.2.2.2.2.2
  unfold amtP at hf6
  rw[e]
  split
  ·rename_i er
   have er:=eq_of_beq er
   have:x=rAt b r:=by rw[er]; exact hf.2.1
   rw[<- this] at hL
   rw[wrapId om om]
   omega
  ·rw[wrapId om om]
   omega
 ·rw[y1i,y22] at hc
  rcases hc with hc | rfl
  ·exact h.2.2.2.2.1 c hc
  ·unfold restV
   simp only
   rw[zoy h om,wrapId om om]
   omega
theorem zoz (h:Val b) (hc:1<=c/\c<=b.B.length) (hn:amtP n) (hL:n<=restV b (cAt b c)):Val (withC b (b.B.set (c-1).toNat ⟨(cAt b c).F,(cAt b c).L,(cAt b c).O,(cAt b c).I,i64.wrap ((cAt b c).S+n),(cAt b c).T,(cAt b c).W⟩)):=by
 have h200:=h.2.2.2.2.2.2.2.1
 have hm:=zqw hc
 obtain⟨f1,f2,f3,f4,f5,f6,f7,f8,f9⟩:=h.2.1.at hc
 obtain⟨l1,l2⟩:=zh7 h hm
 have hv:=zh6 h (cAt b c).F
 unfold amtP at hn
 have f4':=f4
 unfold amtP at f4'
 have hw:i64.wrap ((cAt b c).S+n)=(cAt b c).S+n:=wrapId om om
 rw[hw]
 have hk:(c-1).toNat<b.B.length:=om
 refine valC h sj sk (fun i hi=>?_) (fun i hi=>?_) (fun x hx=>?_) fun x hx=>?_
 ·rw[z5q _ _ _ _ hk]
  split
  ·rename_i e
   exact⟨by simp only; omega,f2,f3,f4,by simp only; omega,f6,f7,f8,f9⟩
  ·exact h.2.1 i (by simpa using hi)
 ·rw[z5q _ _ _ _ hk]
  split
  ·rename_i e
   subst e
   exact⟨rfl,rfl⟩
  ·exact⟨rfl,rfl⟩
 ·have e:∀ m,cmt (withC b (b.B.set (c-1).toNat ⟨(cAt b c).F,(cAt b c).L,(cAt b c).O,(cAt b c).I,(cAt b c).S+n,(cAt b c).T,(cAt b c).W⟩)) m=cmt b m:=fun m=>by
   unfold cmt withC
   simp only
   rw[zgw hk _ _ _ dF]
   change _-(if ((cAt b c).L==m)=true then (cAt b c).I else 0)+(if ((cAt b c).L==m)=true then (cAt b c).I else 0)=_
   omega
  unfold leftV
  rw[e]
  exact h.2.2.1 x hx
 ·rcases y3b hx with hx | rfl
  ·exact h.2.2.2.2.1 x hx
  ·unfold restV
   simp only
   rw[wrapId om om]
   omega
theorem zks (h:Val b) (hc:1<=c/\c<=b.B.length) (hd:dayP d) (hn:amtP n) (hy:yr d<=yearOf b c+1) (hdc:(cAt b c).O<=d) (hL:n<=restV b (cAt b c)) (hl:(b.C.length:Int)≠200):Val (withV b (b.C++[⟨b.C.length+1,c,d,n⟩])):=by
 have h200:=h.2.2.2.2.2.2.2.2.1
 have hn':=hn
 unfold amtP at hn'
 refine valV h sj sk (fun i hi=>?_) (fun i hi=>z2u _ _ _ hi) fun x hx=>?_
 ·by_cases hi':i<b.C.length
  ·rw[z2u _ _ _ hi']; exact h.2.2.2.1 i hi'
  ·have:i=b.C.length:=by simp at hi; omega
   subst this
   rw[z4g]
   exact⟨rfl,hc,hd,hn,hdc,hy⟩
 ·obtain⟨x1,x2⟩:=zh7 h hx
  unfold restV
  have e:ver (withV b (b.C++[⟨b.C.length+1,c,d,n⟩])) x.F=ver b x.F+if (c==x.F)=true then n else 0:=by
   unfold ver withV
   simp only
   rw[z7f,zw,zd1]
   simp
  have hv:=zh6 h x.F
  have hf:=(h.2.1.mem hx)
  have hf6:=hf.1.2.2.2.1
  have hf7:=hf.1.2.2.2.2.1
  unfold amtP at hf6
  rw[e]
  split
  ·rename_i er
   have er:=eq_of_beq er
   have:x=cAt b c:=by rw[er]; exact hf.2.1
   rw[<- this] at hL
   rw[wrapId om om]
   omega
  ·rw[wrapId om om]
   omega
theorem zn3 (h:Val b) (hv:1<=v/\v<=b.C.length) (hd:dayP d) (hy:yr d<=yearOf b (vAt b v).P+1) (hdv:(vAt b v).O<=d) (hb:0<(ordersOf b.J v).length->(lastV b v).Ab=true/\(lastV b v).O<=d) (hl:(b.J.length:Int)≠200):Val (withO b (b.J++[⟨b.J.length+1,v,(ordersOf b.J v).length+1,d,false⟩])):=by
 have h200:=h.2.2.2.2.2.2.2.2.2
 refine valO h sk fun i hi=>?_
 by_cases hi':i<b.J.length
 ·rw[z2u _ _ _ hi',y2x om]; exact h.2.2.2.2.2.1 i hi'
 ·have:i=b.J.length:=by simp at hi; omega
  subst this
  rw[z4g,List.take_left]
  refine⟨rfl,hv,hd,hdv,hy,rfl,?_⟩
  rw[List.any_eq_false]
  intro x hx
  obtain⟨hx1,hx2⟩:=z3h.mp hx
  obtain⟨j,hj,he⟩:=z1s hx1
  obtain⟨k,hk,hke,hkv,hkd⟩:=z82 (b:=b) (v:=v) (y4o hx)
  obtain⟨hb1,hb2⟩:=hb (y4o hx)
  simp only at hx2
  have:x.Ab=true/\x.O<=d:=by
   rcases y4m j k with hjk | hjk | hjk
   ·have:=zbq h.2.2.2.2.2.1 hjk hk (by rw[he,hke,hx2,hkv])
    rw[he,hke] at this
    exact⟨this.1,om⟩
   ·subst hjk
    rw[<- he,hke]; exact⟨hb1,hb2⟩
   ·exfalso
    have hm:x∈ordersOf (b.J.drop (k+1)) v:=by
     rw[z3h]
     refine⟨?_,hx2⟩
     have e:x=(b.J.drop (k+1)).getD (j-(k+1)) dF:=by
      rw[<- he]
      simp only[y9,y1p]
      rw[show k+1+(j-(k+1))=j from om]
     rw[e]
     exact zd (by rw[y1h]; omega)
    rw[hkd] at hm; cases hm
  simp only[this.1,y5b,y4q,y8]
  omega
theorem zn4 (l:List TOr) (i:Nat) (y:TOr) (hi:i<l.length) (hy:y.K=(l.getD i dF).K/\y.O=(l.getD i dF).O/\y.Ab=true) (v d:Int) :
  (ordersOf (l.set i y) v).length=(ordersOf l v).length/\((ordersOf l v).any (fun x=>!x.Ab||decide (x.O>d))=false->(ordersOf (l.set i y) v).any (fun x=>!x.Ab||decide (x.O>d))=false):=by
 induction l generalizing i with
 | nil=>simp at hi
 | cons x l ih =>
  unfold ordersOf at ih |-
  cases i with
  | zero =>
   rw[y4e,y31,y31]
   rw[y47] at hy
   rw[hy.1]
   split
   ·simp only[yf,y4p,hy.2.1,hy.2.2,y5b,y4q,y3n]
    exact⟨trivial,fun h=>⟨h.1.2,h.2⟩⟩
   ·exact⟨rfl,fun h=>h⟩
  | succ i =>
   rw[y3g] at hy
   have:=ih i (by simpa using hi) hy
   rw[y4f,y31,y31]
   split
   ·simp only[yf,y4p,y3n]
    exact⟨by rw[this.1],fun h=>⟨h.1,this.2 h.2⟩⟩
   ·exact this
theorem zp0 (h:Val b) (hl:0<(ordersOf b.J v).length):Val (withO b (b.J.set ((lastV b v).F-1).toNat ⟨(lastV b v).F,(lastV b v).K,(lastV b v).Z,(lastV b v).O,true⟩)):=by
 have h200:=h.2.2.2.2.2.2.2.2.2
 obtain⟨i,hi,he,hv,hd⟩:=z82 hl
 have hf:=h.2.2.2.2.2.1 i hi
 rw[he] at hf
 rw[show ((lastV b v).F-1).toNat=i by have:=hf.1; omega]
 refine valO h sk fun j hj=>?_
 rw[yl] at hj
 have hj':=h.2.2.2.2.2.1 j hj
 have key:∀ u d:Int,(ordersOf ((b.J.set i ⟨(lastV b v).F,(lastV b v).K,(lastV b v).Z,(lastV b v).O,true⟩).take j) u).length=(ordersOf (b.J.take j) u).length/\((ordersOf (b.J.take j) u).any (fun x=>!x.Ab||decide (x.O>d))=false->(ordersOf ((b.J.set i ⟨(lastV b v).F,(lastV b v).K,(lastV b v).Z,(lastV b v).O,true⟩).take j) u).any (fun x=>!x.Ab||decide (x.O>d))=false):=fun u d=>by
  rw[List.take_set]
  by_cases hij:i<j
  ·have e:(b.J.take j).getD i dF=lastV b v:=by
    rw[<- he]
    simp only[y9,y3w]
    rw[y7 hij]
   exact zn4 _ i _ (by rw[y16]; omega) (by rw[e]; exact⟨rfl,rfl,rfl⟩) u d
  ·rw[List.set_eq_of_length_le (by rw[y16]; omega)]
   exact⟨rfl,fun h=>h⟩
 rw[z5q _ _ _ _ hi]
 split
 ·rename_i e
  subst e
  rw[he] at hj'
  obtain⟨a1,a2,a3,a4,a5,a6,a7⟩:=hj'
  exact⟨a1,a2,a3,a4,a5,by rw[(key _ 0).1]; exact a6,(key _ _).2 a7⟩
 ·obtain⟨a1,a2,a3,a4,a5,a6,a7⟩:=hj'
  exact⟨a1,a2,a3,a4,a5,by rw[(key _ 0).1]; exact a6,(key _ _).2 a7⟩
def TapeOk (s:TTape):Prop:=0<=s.at_/\s.l.length<=500/\s.at_<=s.l.length
theorem z73 (t:List Int):∃ s,F_q2e t=some s/\TapeOk s:=by
 simp only[F_q2e,S_q2e,Scr.den]
 refine⟨_,zep ⟨?_,?_,trivial⟩ rfl,sj,?_,sj⟩
 ·split <;> omega
 ·split <;> omega
 ·simp only[y16]
  split <;> omega
variable {s:TTape}
theorem z1k (hs:TapeOk s) (h1:1<=n) (hn:n<=4611686018427387904):∃ v s',F_q7 n s=some (v,s')/\TapeOk s'/\0<=v/\v<n:=by
 obtain⟨a1,a2,a3⟩:=hs
 simp only[F_q7,S_q7,Scr.den]
 by_cases hc:s.at_>=(s.l.length:Int)
 ·rw[y7 (by simp[hc])]
  exact⟨0,s,rfl,⟨a1,a2,a3⟩,om,om⟩
 ·rw[y6 sk]
  have e1:i64.wrap (s.at_+1)=s.at_+1:=wrapId om om
  rw[e1,z6 ⟨om,om,om,trivial⟩]
  generalize s.l.getD s.at_.toNat dF=x
  have t1:x.tmod n<n:=Int.tmod_lt_of_pos x om
  have t2:-n<x.tmod n:=Int.lt_tmod_of_pos x om
  have e3:i64.wrap (x.tmod n+n)=x.tmod n+n:=wrapId om om
  rw[e3]
  have ht:TapeOk ⟨s.l,s.at_+1⟩:=⟨by simp only; omega,a2,by simp only; omega⟩
  split
  ·rename_i h
   simp only[y8] at h
   exact⟨_,_,rfl,ht,om,om⟩
  ·rename_i h
   simp only[y8] at h
   exact⟨_,_,rfl,ht,om,om⟩
theorem z1l {lo hi:Int} (hs:TapeOk s) (h0:-1000000000000000<=lo) (h1:lo<=hi) (h2:hi<=1000000000000000):∃ v s',F_qr lo hi s=some (v,s')/\TapeOk s'/\lo<=v/\v<=hi:=by
 simp only[F_qr,S_qr,Scr.den]
 rw[wrapId (n:=hi-lo) om om,wrapId (n:=hi-lo+1) om om]
 obtain⟨v,s',h3,h4,h5,h6⟩:=z1k (n:=hi-lo+1) hs om om
 refine⟨lo+v,s',?_,h4,om,om⟩
 rw[h3,obind]
 simp only
 rw[wrapId (n:=lo+v) om om]
theorem z2i {l:List Int} (hs:TapeOk s) (h0:1<=l.length) (h1:l.length<=100):∃ v s',F_qz l s=some (v,s')/\TapeOk s'/\v∈l:=by
 simp only[F_qz,S_qz,Scr.den]
 obtain⟨v,s',h3,h4,h5,h6⟩:=z1k (n:=(l.length:Int)) hs om om
 refine⟨_,s',?_,h4,zd (show v.toNat<l.length from om)⟩
 rw[h3,obind,z6 ⟨by simpa using h5,by simp only; omega,trivial⟩]
theorem zh9 (hs:TapeOk s):∃ c s',F_q46 s=some (c,s')/\TapeOk s'/\c.length<=60/\good c=true:=by
 simp only[F_q46,S_q46,Scr.den]
 obtain⟨v,s',h3,h4,h5,h6⟩:=z1k (n:=3) hs om om
 have h:∀ c∈([[49],[49,46,50],[50]]:List Y8),c.length<=60/\good c=true:=dk
 refine⟨_,s',?_,h4,h _ (zd (show v.toNat<3 from om))⟩
 rw[h3,obind,z6 ⟨by simpa using h5,by simp only; omega,trivial⟩]
theorem zn5:Val nb:=by
 refine⟨fun i hi=>?_,fun i hi=>?_,fun r hr=>?_,fun i hi=>?_,fun r hr=>?_,fun i hi=>?_,dk,dk,dk,dk⟩
 ·exact absurd hi (y4b _)
 ·exact absurd hi (y4b _)
 ·cases hr
 ·exact absurd hi (y4b _)
 ·cases hr
 ·exact absurd hi (y4b _)
def mt (b:TBo) (code:Y8) (y n:Int):Bool:=(rAt b n).E==code&&(rAt b n).H==y
theorem zsp:i64.wrap 0=0:=wrapId om om
def eV:TVe:=⟨1,1,4340,50⟩
theorem zqx (b:TBo) (c:TCo) (m:Int):rel (withC b (b.B++[c])) m=rel b m+if (c.L==m)=true then c.S else 0:=by
 unfold rel withC
 simp only
 rw[z7f,zw,zd1]
 simp
theorem zp1 (b:TBo) (c:TCo) (h0:c.S=0) (code:Y8) (y:Int):usedV (withC b (b.B++[c])) code y=usedV b code y:=by
 unfold usedV
 congr 1
 change sm b.A _ _=sm b.A _ _
 refine z8n fun r _=>?_
 simp only[zqx,h0]
 simp
theorem zqy (l:List α) (p:α->Bool):sm l p (fun _=>0)=0:=by
 induction l with
 | nil=>rfl
 | cons x l ih=>rw[zw,ih]; split <;> rfl
theorem zn6 {α:Type} [Inhabited α] {num:α->Int} {q:Int->Bool} {p:α->Bool} (a:Int):∀ (l:List α) (i:Nat),i<l.length->(∀ j,j<l.length->j≠i->num (l.getD j dF)≠num (l.getD i dF))->p (l.getD i dF)=q (num (l.getD i dF)) ->
  sm l p (fun x=>if (num (l.getD i dF)==num x)=true then a else 0)=if q (num (l.getD i dF))=true then a else 0
 | [],i,hi,_,_=>by simp at hi
 | x :: l,0,hi,hd,hp=>by
  rw[y47] at hp hd |-
  rw[zw,hp]
  have:sm l p (fun y=>if (num x==num y)=true then a else 0)=sm l p (fun _=>0):=z8n fun y hy=>by
   obtain⟨j,hj,e⟩:=z1s hy
   have:=hd (j+1) sk om
   rw[y3g,e] at this
   have e2:(num x==num y)=false:=by simpa using fun h=>this h.symm
   rw[e2]; simp
  rw[this,zqy]
  simp
 | x :: l,i+1,hi,hd,hp=>by
  rw[y3g] at hp hd |-
  rw[zw,zn6 a l i (by simpa using hi) (fun j hj hji=>by
   have:=hd (j+1) sk om
   rwa [y3g] at this) hp]
  have:=hd 0 sj om
  rw[y47] at this
  have e2:(num (l.getD i dF)==num x)=false:=by simpa using fun h=>this h.symm
  rw[e2]; simp
theorem zsc (h:Val b) (code:Y8) (y:Int) {r:TRe} (hr:r∈b.A):mt b code y r.F=(r.E==code&&r.H==y):=by
 unfold mt
 rw[<- (h.1.mem hr).2.1]
theorem zl {_:Decidable P} {a b:TBo×Int} (h:(if P then a else b).2=0) (ha:a.2≠0):(if P then a else b)=b/\¬ P:=by
 by_cases hp:P
 ·rw[y7 hp] at h; exact absurd h ha
 ·exact⟨y6 hp,hp⟩
theorem zha {r p:Int} (h0:(commitS b r d n p u).2=0) (code:Y8) (y:Int):usedV (commitS b r d n p u).1 code y=usedV b code y:=by
 unfold commitS at h0 |-
 obtain⟨e,_⟩:=zl h0 dk; rw[e] at h0 |-; clear e
 obtain⟨e,_⟩:=zl h0 dk; rw[e] at h0 |-; clear e
 obtain⟨e,_⟩:=zl h0 dk; rw[e] at h0 |-; clear e
 obtain⟨e,_⟩:=zl h0 dk; rw[e] at h0 |-; clear e
 obtain⟨e,_⟩:=zl h0 dk; rw[e] at h0 |-; clear e
 obtain⟨e,_⟩:=zl h0 dk; rw[e] at h0 |-; clear e
 obtain⟨e,_⟩:=zl h0 dk; rw[e] at h0 |-; clear e
 exact zp1 _ _ rfl _ _
theorem zhb (h0:(verifyS b c d n).2=0) (code:Y8) (y:Int):usedV (verifyS b c d n).1 code y=usedV b code y:=by
 unfold verifyS at h0 |-
 obtain⟨e,_⟩:=zl h0 dk; rw[e] at h0 |-; clear e
 obtain⟨e,_⟩:=zl h0 dk; rw[e] at h0 |-; clear e
 obtain⟨e,_⟩:=zl h0 dk; rw[e] at h0 |-; clear e
 obtain⟨e,_⟩:=zl h0 dk; rw[e] at h0 |-; clear e
 obtain⟨e,_⟩:=zl h0 dk; rw[e] at h0 |-; clear e
 obtain⟨e,_⟩:=zl h0 dk; rw[e] at h0 |-; clear e
 obtain⟨e,_⟩:=zl h0 dk; rw[e] at h0 |-; clear e
 rfl
theorem zil (h0:(orderS b v d).2=0) (code:Y8) (y:Int):usedV (orderS b v d).1 code y=usedV b code y:=by
 unfold orderS at h0 |-
 obtain⟨e,_⟩:=zl h0 dk; rw[e] at h0 |-; clear e
 obtain⟨e,_⟩:=zl h0 dk; rw[e] at h0 |-; clear e
 obtain⟨e,_⟩:=zl h0 dk; rw[e] at h0 |-; clear e
 obtain⟨e,_⟩:=zl h0 dk; rw[e] at h0 |-; clear e
 obtain⟨e,_⟩:=zl h0 dk; rw[e] at h0 |-; clear e
 obtain⟨e,_⟩:=zl h0 dk; rw[e] at h0 |-; clear e
 obtain⟨e,_⟩:=zl h0 dk; rw[e] at h0 |-; clear e
 rfl
theorem zjl {l:List α} (h:∀ x∈l,p x=false):sm l p f=0:=by
 induction l with
 | nil=>rfl
 | cons x l ih=>rw[zw,h x sj,ih fun y hy=>h y (by simp[hy])]; rfl
def zkt (b:TBo):Prop:=b.A.length<=2000000/\b.B.length<=2000000/\b.C.length<=2000000/\b.J.length<=2000000
theorem zbr (b:TBo) (code:Y8) (y:Int):F_qt b code y=some (usedV b code y):=by
 simp only[F_qt,S_qt,Scr.den]
 rw[z28 b.A (fun (s:Int) r=>if (r.E==code&&r.H==y)=true then i64.wrap (s+(r.I-r.S-rel b r.F)) else s)]
 ·have:=z9y b.A (fun r=>r.E==code&&r.H==y) (fun r=>r.I-r.S-rel b r.F) 0
  rw[zsp] at this
  simp only[outM,this]
  simp[usedV]
 ·intro i s hi
  simp only[S_qt_b2,Scr.den,zb]
  obtain⟨r,hr⟩:∃ r,b.A.getD i dF=r:=⟨_,rfl⟩
  simp only[hr]
  cases hp:(r.E==code&&r.H==y)
  ·rw[y7 (by
    cases h1:r.E==code
    ·rfl
    ·rw[h1] at hp; simpa [bne] using hp)]
   rfl
  ·simp only[yk] at hp
   rw[y6 (by simp only[bne,hp.1,hp.2]; decide),zer]
   rw[z28 b.B (fun (s:Int) c=>if (c.L==r.F)=true then i64.wrap (s-c.S) else s)]
   ·have:=z9z b.B (fun c=>c.L==r.F) (·.S) (s+(r.I-r.S))
    simp only[outM,this,y3t]
    unfold rel
    congr 3
    omega
   ·intro j s hj
    simp only[S_qt_b1,Scr.den,hr]
    split <;> rfl
theorem z83 {a b:Y8} (ha:good a=true) (hb:good b=true):F_q12 a b=some (lexC (parts a) (parts b)):=by
 have h1:=(z2q ha).2
 have h2:=(z2q hb).2
 simp only[F_q12,S_q12,Scr.den,za5 ha,za5 hb,obind,zb]
 rw[y6 (by simp only[ye,yu]; omega)]
 generalize parts a=x at h1
 generalize parts b=y at h2
 generalize hF:(fun s=>(S_q12_b1 x y s).den)=F
 have key:∀ (k i:Nat),i+k=x.length->i<=y.length->outM (iterM F (i:Int)) (fun _=>if decide ((x.length:Int)<(y.length:Int))=true then some (-1) else if decide ((x.length:Int)>(y.length:Int))=true then some 1 else some 0) (fun r=>some (id r))=some (lexC (x.drop i) (y.drop i)):=by
  intro k
  induction k with
  | zero =>
   intro i hk hy
   rw[z1j,<- y44 hF]
   simp only[S_q12_b1,Scr.den,zj]
   rw[y6 (by simp only[yk,y8]; omega),y1e om]
   simp only[outM]
   by_cases h:y.length<=i
   ·rw[y1e h,y6 sk,y6 sk]; rfl
   ·rw[y12 (by omega:i<y.length),y7 sk]; rfl
  | succ k ih =>
   intro i hk hy
   have hi:i<x.length:=om
   rw[z1j,<- y44 hF,y12 hi]
   simp only[S_q12_b1,Scr.den,zj]
   by_cases h:y.length<=i
   ·rw[y6 (by simp only[yk,y8]; omega),y1e h]
    simp only[outM]
    rw[y6 sk,y7 sk]; rfl
   ·have hj:i<y.length:=om
    have w1:i64.wrap ((i:Int)+1)=((i+1:Nat):Int):=by rw[wrapId om om]; omega
    rw[y7 (by simp only[yk,y8]; omega),z6 ⟨om,om,om,trivial⟩,y12 hj]
    simp only[yi,zay hi,zay hj,lexC]
    by_cases h1:x[i]<y[i]
    ·rw[y7 (y1z h1),y7 h1]; rfl
    ·rw[y6 (by simpa using h1),y6 h1]
     by_cases h2:x[i]>y[i]
     ·rw[y7 (y1z h2),y7 h2]; rfl
     ·rw[y6 (by simpa using h2),y6 h2,w1]
      exact ih (i+1) om om
 have:=key x.length 0 om om
 simpa using this
def RtOk (r:TRi):Prop:=good r.E=true/\(0<=r.H/\r.H<=99)/\(0<=r.N/\r.N<=1000000000000000)/\(0<=r.Aa/\r.Aa<=1000000000000000)/\(0<=r.X/\r.X<=r.N)
instance (r:TRi):Decidable (RtOk r):=inferInstanceAs (Decidable (_/\_))
theorem z58 (n a b:Int):F_q2a n a b=some (decide (a<=n/\n<=b)):=by
 simp only[F_q2a,S_q2a,Scr.den,zj,y3v,Bool.decide_and]
theorem z7i (n:Int):F_q2b n=some (decide (0<=n/\n<=1000000000000000)):=by
 simp only[F_q2b,S_q2b,Scr.den,z58,obind]
variable {r:TRi}
theorem z7j (h:r.E.length<=1000000):F_q36 r=some (decide (RtOk r)):=by
 open Classical in simp only[F_q36,S_q36,F_q4o,S_q4o,Scr.den,z4k (show r.E.length<=1099511627776 from om),z58,z7i,zq,obind,zj,z65]
 refine yj some ?_
 have e:decide (((parts r.E).length:Int)>0)=good r.E:=by rw[<- z57]; rw[y27]; simp
 rw[e,y27]
 simp only[RtOk,yk,y8,and_assoc]
theorem z74 (h:r.E.length<=1000000):F_q2u r=some (decide (RtOk r)):=by
 open Classical in simp only[F_q2u,S_q2u,F_q24,S_q24,Scr.den,z4a (show r.E.length<4611686018427387904 from om),zq,obind,zj,z65]
 refine yj some ?_
 rw[y27]
 simp only[RtOk,yk,y8,and_assoc,y3v]
theorem zhc [Inhabited α] (l:List α) (p:α->Bool) (v:Nat->ρ) (hs:∀ i,i<l.length->body i ()=some (if p (l.getD i dF)=true then .ret (v i) else .cont ())) :
  rangeM body l.length 0 ()=some (if l.any p=true then .ret (v (l.findIdx p)) else .next ()):=by
 have key:∀ (k i:Nat),i+k=l.length->rangeM body k i ()=some (if (l.drop i).any p=true then .ret (v (i+(l.drop i).findIdx p)) else .next ()):=by
  intro k
  induction k with
  | zero=>intro i hk; rw[y1e om]; rfl
  | succ k ih =>
   intro i hk
   have hi:i<l.length:=om
   have e:l.getD i dF=l[i]:=by simp[List.getD_eq_getElem?_getD,List.getElem?_eq_getElem hi]
   rw[y12 hi]
   simp only[rangeM,hs i hi,e,y4p,List.findIdx_cons]
   cases hp:p l[i] with
   | true=>simp
   | false =>
    simp only[y1r,y39,y4q,y4k]
    rw[ih (i+1) om,show i+1+(l.drop (i+1)).findIdx p=i+((l.drop (i+1)).findIdx p+1) from om]
 have:=key l.length 0 om
 simpa using this
def isR (c:Y8) (y:Int) (r:TRi):Bool:=r.E==c&&r.H==y
theorem zjm {c:Y8}:isR c y r=true↔r.E=c/\r.H=y:=by simp[isR]
def hasR (l:List TRi) (c:Y8) (y:Int):Bool:=l.any (isR c y)
def rix (l:List TRi) (c:Y8) (y:Int):Nat:=l.findIdx (isR c y)
def rightV (l:List TRi) (c:Y8) (y:Int):TRi:=if hasR l c y=true then l.getD (rix l c y) dF else ⟨c,y,0,0,0⟩
def unusedV (o:TOf) (c:Y8) (y:Int):Int:=i64.wrap (i64.wrap ((rightV o.G c y).N-(rightV o.G c y).X)-usedV o.V c y)
variable {l:List TRi}
theorem z3i {c:Y8} (h:hasR l c y=true):rix l c y<l.length/\(l.getD (rix l c y) dF).E=c/\(l.getD (rix l c y) dF).H=y:=by
 have hlt:rix l c y<l.length:=by
  unfold rix
  rw[List.findIdx_lt_length]
  simpa [hasR] using h
 refine⟨hlt,?_⟩
 have:=List.findIdx_getElem (xs:=l) (p:=isR c y) (w:=hlt)
 rw[zjm] at this
 rw[show l.getD (rix l c y) dF=l[rix l c y] by simp[List.getD_eq_getElem?_getD,List.getElem?_eq_getElem hlt]]
 exact this
theorem zjn (o:TOf) (c:Y8) (y:Int):F_q34 o c y=some (if hasR o.G c y=true then (rix o.G c y:Int) else -1):=by
 simp only[F_q34,S_q34,F_q29,S_q29,Scr.den]
 rw[zhc o.G (isR c y) (fun i=>(i:Int))]
 ·unfold hasR
  by_cases h:o.G.any (isR c y)=true
  ·rw[y7 h,y7 h]; rfl
  ·rw[y6 h,y6 h]; rfl
 ·intro i hi
  simp only[S_q29_b1,F_q4n,S_q4n,Scr.den,obind,zj]
  unfold isR
  split <;> rfl
theorem zfx (o:TOf) (c:Y8) (y:Int):F_q11 o c y=some (if hasR o.G c y=true then (rix o.G c y:Int) else -1):=by
 simp only[F_q11,S_q11,Scr.den]
 rw[zhc o.G (isR c y) (fun i=>(i:Int))]
 ·unfold hasR
  by_cases h:o.G.any (isR c y)=true
  ·rw[y7 h,y7 h]; rfl
  ·rw[y6 h,y6 h]; rfl
 ·intro i hi
  simp only[S_q11_b1,Scr.den,zj]
  unfold isR
  split <;> rfl
theorem zn7 (o:TOf) (c:Y8) (y:Int):F_q35 o c y=some (hasR o.G c y):=by
 simp only[F_q35,S_q35,Scr.den,zjn,obind]
 cases h:hasR o.G c y
 ·simp
 ·simp
theorem zcf (o:TOf) (c:Y8) (y:Int):F_q2p o c y=some (rightV o.G c y):=by
 simp only[F_q2p,S_q2p,Scr.den,zjn,obind,rightV]
 by_cases h:hasR o.G c y=true
 ·have:=(z3i h).1
  simp only[y7 h,yi]
  rw[y7 sj,z6 ⟨om,om,trivial⟩]
 ·simp only[y6 h]
  rw[y6 dk]
theorem za8 (o:TOf) (c:Y8) (y:Int):F_q3f o c y=some (rightV o.G c y):=by
 simp only[F_q3f,S_q3f,Scr.den,zfx,obind,rightV]
 by_cases h:hasR o.G c y=true
 ·have:=(z3i h).1
  simp only[y7 h,yi]
  rw[y7 sj,z6 ⟨om,om,trivial⟩]
 ·simp only[y6 h]
  rw[y6 dk]
theorem zn8 (o:TOf) (c:Y8) (y:Int):F_q45 o c y=some (unusedV o c y):=by
 simp only[F_q45,S_q45,Scr.den,zcf,zjh,obind,unusedV]
theorem z9i (o:TOf) (c:Y8) (y:Int):F_q3g o c y=some (unusedV o c y):=by
 simp only[F_q3g,S_q3g,Scr.den,za8,zbr,obind,unusedV]
def SmO (o:TOf):Prop:=Small o.V/\o.G.length<=1000000/\∀ r∈o.G,r.E.length<=1000000
def Srt (l:List TRi):Prop:=∀ i,i<l.length->i=0\/cmpR (l.getD (i-1) dF) (l.getD i dF)<0
def VO (o:TOf):Prop:=(1<=o.F/\o.F<=6)/\o.G.length<=60/\Val o.V/\(∀ r∈o.G,RtOk r)/\Srt o.G/\∀ x∈o.V.A,hasR o.G x.E x.H=true/\0<=unusedV o x.E x.H
theorem z84 {b:TRi} (h:good a.E=true\/good b.E=true):cmpR a b<0↔lexC (parts a.E) (parts b.E)<0\/(lexC (parts a.E) (parts b.E)=0/\a.H<b.H):=by
 unfold cmpR
 rw[z7h h]
 generalize lexC (parts a.E) (parts b.E)=c
 by_cases hc:c=0
 ·rw[y6 (by simpa using hc)]
  unfold cmpI
  by_cases h1:a.H<b.H
  ·rw[y7 h1]; simp[hc,h1]
  ·rw[y6 h1]
   split <;> simp[hc,h1]
 ·rw[y7 hc]; simp[hc]
theorem z5r {b:TRi} (ha:good a.E=true) (hb:good b.E=true):cmpR a b=0↔a.E=b.E/\a.H=b.H:=by
 unfold cmpR
 rw[z7h (.inl ha)]
 by_cases hc:lexC (parts a.E) (parts b.E)=0
 ·rw[y6 (by simpa using hc)]
  have e:=zev ha hb (z6t hc)
  unfold cmpI
  by_cases h1:a.H<b.H
  ·rw[y7 h1]; simp; omega
  ·rw[y6 h1]
   by_cases h2:a.H>b.H
   ·rw[y7 h2]; simp; omega
   ·rw[y6 h2]; simp[e]; omega
 ·rw[y7 hc]
  constructor
  ·intro h; exact absurd h hc
  ·rintro⟨h1,_⟩
   exact absurd (by rw[h1]; exact zet _) hc
theorem zd7 {b c:TRi} (ha:good a.E=true) (hb:good b.E=true) (h:cmpR a b<0) (h':cmpR b c<0):cmpR a c<0:=by
 rw[z84 (.inl ha)] at h |-
 rw[z84 (.inl hb)] at h'
 rcases h with h | ⟨h,h2⟩
 ·rcases h' with h' | ⟨h',_⟩
  ·exact .inl (zd5 h h')
  ·rw[<- z6t h']; exact .inl h
 ·rcases h' with h' | ⟨h',h3⟩
  ·rw[z6t h]; exact .inl h'
  ·rw[z6t h]; exact .inr ⟨h',om⟩
theorem zey {b:TRi} (ha:good a.E=true):cmpR b a=-cmpR a b:=by
 unfold cmpR
 rw[z7h (.inl ha),z7h (.inr ha),zeu (parts a.E) (parts b.E)]
 by_cases h:lexC (parts a.E) (parts b.E)=0
 ·rw[y6 om,y6 om]
  unfold cmpI
  by_cases h1:a.H<b.H
  ·rw[y6 om,y7 om,y7 h1]; rfl
  ·by_cases h2:b.H<a.H
   ·rw[y7 h2,y6 h1,y7 om]
   ·rw[y6 h2,y6 om,y6 h1,y6 om]; rfl
 ·rw[y7 om,y7 h]
theorem Srt.lt (h:Srt l) (hg:∀ r∈l,RtOk r):∀ {i j:Nat},i<j->j<l.length->cmpR (l.getD i dF) (l.getD j dF)<0:=by
 intro i j hij
 induction j with
 | zero=>omega
 | succ j ih =>
  intro hj
  have h1:=(h (j+1) hj).resolve_left om
  rw[show j+1-1=j from om] at h1
  by_cases e:i=j
  ·subst e; exact h1
  ·exact zd7 (hg _ (zd om)).1 (hg _ (zd om)).1 (ih om om) h1
theorem zim {n:Nat} {c:ρ} (p:Nat->Prop) (hy:∀ i,i<n->(∀ j,j<i->p j)->p i->body i ()=some (.cont ())) (hn:∀ i,i<n->(∀ j,j<i->p j)->¬ p i->body i ()=some (.ret c)) :
  ((∀ j,j<n->p j)->rangeM body n 0 ()=some (.next ()))/\((¬ ∀ j,j<n->p j)->rangeM body n 0 ()=some (.ret c)):=by
 have key:∀ (k i:Nat),i+k=n->(∀ j,j<i->p j)->((∀ j,j<n->p j)->rangeM body k i ()=some (.next ()))/\((¬ ∀ j,j<n->p j)->rangeM body k i ()=some (.ret c)):=by
  intro k
  induction k with
  | zero =>
   intro i hk hp
   exact⟨fun _=>rfl,fun h=>absurd (fun j hj=>hp j om) h⟩
  | succ k ih =>
   intro i hk hp
   by_cases hpi:p i
   ·have hp':∀ j,j<i+1->p j:=fun j hj=>by
     rcases yz j i with h | h
     ·exact hp j h
     ·obtain rfl:j=i:=om
      exact hpi
    have:=ih (i+1) om hp'
    simp only[rangeM,hy i om hp hpi]
    exact this
   ·simp only[rangeM,hn i om hp hpi]
    exact⟨fun h=>absurd (h i om) hpi,fun _=>trivial⟩
 exact key n 0 om (fun j hj=>om)
theorem zp2 (i:Nat) (hi:i<9223372036854775808):(i64.wrap ((i:Int)-1)).toNat=i-1:=by rw[wrapId om om]; omega
theorem z6j [Inhabited α] {l:List α} {p:α->Prop} (h:∀ i,i<l.length->p (l.getD i dF)):∀ x∈l,p x:=fun x hx=>by
 obtain⟨i,hi,rfl⟩:=y3f hx
 have:=h i hi
 rwa [show l.getD i dF=l[i] by simp[List.getD_eq_getElem?_getD,List.getElem?_eq_getElem hi]] at this
open Classical in
theorem zn9 {c:Y8} (h:∀ x∈b.A,¬ (x.E=c/\x.H=y)):usedV b c y=0:=by
 unfold usedV
 rw[zjl fun x hx=>by
  have:=h x hx
  simp only[y40,y1t,ne_eq]
  by_cases h1:x.E=c
  ·exact .inr fun h2=>this ⟨h1,h2⟩
  ·exact .inl h1]
 exact wrapId om om
theorem z39 {c:Y8}:hasR l c y=true↔∃ r∈l,r.E=c/\r.H=y:=by
 simp only[hasR,List.any_eq_true,zjm]
theorem z3x {c:Y8} (h:hasR l c y=true):rightV l c y∈l/\(rightV l c y).E=c/\(rightV l c y).H=y:=by
 unfold rightV
 rw[y7 h]
 obtain⟨h1,h2,h3⟩:=z3i h
 exact⟨zd h1,h2,h3⟩
variable {o:TOf}
theorem zna (hR:∀ r∈o.G,RtOk r):(∀ x∈o.V.A,hasR o.G x.E x.H=true/\0<=unusedV o x.E x.H) ↔
  (∀ r∈o.G,0<=unusedV o r.E r.H)/\∀ x∈o.V.A,hasR o.G x.E x.H=true:=by
 constructor
 ·intro h
  refine⟨fun r hr=>?_,fun x hx=>(h x hx).1⟩
  by_cases hx:∃ x∈o.V.A,x.E=r.E/\x.H=r.H
  ·obtain⟨x,hx,e1,e2⟩:=hx
   rw[<- e1,<- e2]; exact (h x hx).2
  ·unfold unusedV
   rw[zn9 fun x hx' e=>hx ⟨x,hx',e⟩]
   obtain⟨h1,h2,h3⟩:=z3x (z39.2 ⟨r,hr,rfl,rfl⟩:hasR o.G r.E r.H=true)
   have h4:=hR _ h1
   unfold RtOk at h4
   rw[wrapId (n:=(rightV o.G r.E r.H).N-(rightV o.G r.E r.H).X) om om,wrapId om om]
   omega
 ·rintro⟨h1,h2⟩ x hx
  refine⟨h2 x hx,?_⟩
  obtain⟨k1,k2,k3⟩:=z3x (h2 x hx)
  have:=h1 _ k1
  rwa [k2,k3] at this
variable {y':Int}
theorem ltr (h:c<0\/(c=0/\y<y')):¬ (c>0\/c=0/\y>=y'):=om
theorem ltr' (h:¬ (c<0\/(c=0/\y<y'))):c>0\/c=0/\y>=y':=om
theorem zjo (hs:SmO o) (hi:i<o.G.length) (hp:∀ j,j<i->RtOk (o.G.getD j dF)) :
  (S_qm_b1 o i ()).den=if RtOk (o.G.getD i dF)/\0<=unusedV o (o.G.getD i dF).E (o.G.getD i dF).H/\(i=0\/cmpR (o.G.getD (i-1) dF) (o.G.getD i dF)<0) then some (.cont ()) else some (.ret false):=by
 have h1:=hs.2.2 _ (zd hi)
 have hl:=hs.2.1
 have hq:i≠0->RtOk (o.G.getD (i-1) dF):=fun h=>hp _ om
 have hw:i≠0->i64.wrap ((i:Int)-1)=(i:Int)-1:=fun _=>wrapId om om
 simp only[S_qm_b1,Scr.den,zp2 i (show i<9223372036854775808 from om)]
 generalize o.G.getD i dF=r at h1 |-
 generalize o.G.getD (i-1) dF=r' at hq |-
 simp only[z74 h1,z9i,obind,zb,zj]
 by_cases hR:RtOk r
 ·rw[zg (by exact⟨by simp[hR],trivial⟩),obind]
  by_cases hu:0<=unusedV o r.E r.H
  ·rw[y6 (by simp[hR]; exact hu)]
   by_cases h0:i=0
   ·subst h0
    rw[y6 sj,y7 ⟨hR,hu,.inl rfl⟩]
   ·rw[y7 sk,z83 (hq h0).1 hR.1,obind,hw h0,z6 ⟨om,om,trivial⟩,z6 ⟨fun _=>om,fun _=>om,trivial⟩]
    have hc:=z84 (a:=r') (b:=r) (.inr hR.1)
    by_cases hc':cmpR r' r<0
    ·rw[y6 (by
      have:=hc.1 hc'
      simp only[ye,yk,y8,yu]
      exact ltr this),y7 ⟨hR,hu,.inr hc'⟩]
    ·rw[y7 (by
      simp only[ye,yk,y8,yu]
      exact ltr' fun h=>hc' (hc.2 h)),y6 (fun h=>h.2.2.elim h0 hc')]
  ·rw[y7 (by simp[hR]; exact Int.not_le.1 hu),y6 (fun h=>hu h.2.1)]
 ·rw[zr (by simp[AllP,hR]),obind,y7 (by simp[hR]),y6 (fun h=>hR h.1)]
theorem zb0 (o:TOf) (i:Nat) :
  (S_qm_b2 o i ()).den=if hasR o.G (o.V.A.getD i dF).E (o.V.A.getD i dF).H=true then some (.cont ()) else some (.ret false):=by
 simp only[S_qm_b2,Scr.den,zfx,obind]
 generalize o.V.A.getD i dF=r
 by_cases hh:hasR o.G r.E r.H=true
 ·rw[y7 hh,y7 hh,y6 sj]
 ·rw[y6 hh,y6 hh,y7 dk]
open Classical in
theorem zhd (hs:SmO o):F_qm o=some (decide (VO o)):=by
 simp only[F_qm,S_qm,Scr.den,z1w hs.1,zq,obind,zb,z1q]
 by_cases h0:(1<=o.F/\o.F<=6)/\o.G.length<=60/\Val o.V
 ·obtain⟨⟨a1,a2⟩,a3,a4⟩:=h0
  rw[y6 (by simp[a4]; omega)]
  obtain⟨r1,r2⟩:=zim (body:=fun i s=>(S_qm_b1 o i s).den) (n:=o.G.length) (c:=false) (fun j=>RtOk (o.G.getD j dF)/\0<=unusedV o (o.G.getD j dF).E (o.G.getD j dF).H/\(j=0\/cmpR (o.G.getD (j-1) dF) (o.G.getD j dF)<0))
   (fun i hi hp h=>by rw[zjo hs hi (fun j hj=>(hp j hj).1),y7 h]) (fun i hi hp h=>by rw[zjo hs hi (fun j hj=>(hp j hj).1),y6 h])
  by_cases h1:∀ j,j<o.G.length->RtOk (o.G.getD j dF)/\0<=unusedV o (o.G.getD j dF).E (o.G.getD j dF).H/\(j=0\/cmpR (o.G.getD (j-1) dF) (o.G.getD j dF)<0)
  ·rw[r1 h1]
   simp only[outM]
   have hR:∀ r∈o.G,RtOk r:=z6j fun i hi=>(h1 i hi).1
   by_cases h2:∀ j,j<o.V.A.length->hasR o.G (o.V.A.getD j dF).E (o.V.A.getD j dF).H=true
   ·rw[(zy _ (fun i hi h=>by rw[zb0 o i,y7 h]) (fun i hi h=>by rw[zb0 o i,y6 h])).1 h2]
    simp only
    rw[y1z ⟨⟨a1,a2⟩,a3,a4,hR,fun i hi=>(h1 i hi).2.2,(zna hR).2 ⟨z6j fun i hi=>(h1 i hi).2.1,z6j h2⟩⟩]
   ·rw[(zy _ (fun i hi h=>by rw[zb0 o i,y7 h]) (fun i hi h=>by rw[zb0 o i,y6 h])).2 h2]
    simp only
    rw[yx (fun h=>h2 fun j hj=>(h.2.2.2.2.2 _ (zd hj)).1)]; rfl
  ·rw[r2 h1]
   simp only[outM]
   rw[yx (fun h=>h1 fun j hj=>⟨h.2.2.2.1 _ (zd hj),((zna h.2.2.2.1).1 h.2.2.2.2.2).1 _ (zd hj),h.2.2.2.2.1 j hj⟩)]; rfl
 ·rw[y7,yx (fun h=>h0 ⟨h.1,h.2.1,h.2.2.1⟩)]
  simp only[ye,y8,yc,yb]
  by_cases hv:Val o.V
  ·left
   have:¬ ((1<=o.F/\o.F<=6)/\o.G.length<=60):=fun h=>h0 ⟨h.1,h.2,hv⟩
   omega
  ·exact .inr hv
def noR:TRi:=⟨[],0,0,0,0⟩
def tot (n:Int):Prop:=0<=n/\n<=1000000000000000
instance (n:Int):Decidable (tot n):=inferInstanceAs (Decidable (_/\_))
def learnS (r:TRi) (m:TMe):TRi×Int :=
 if ¬ (RtOk r/\m.Ac=0/\m.E=r.E/\m.H=r.H) then (noR,1) else
 if ¬ (tot m.N/\tot m.Aa) then (noR,2) else
 (⟨r.E,r.H,if m.N>r.N then m.N else r.N,if m.Aa>r.Aa then m.Aa else r.Aa,r.X⟩,0)
def returnS (r:TRi) (u n:Int):TRi×Int :=
 if ¬ (RtOk r/\(0<=u/\u<=i64.wrap (r.N-r.X))) then (noR,1) else
 if ¬ (1<=n/\n<=1000000000000000) then (noR,2) else
 if n>i64.wrap (i64.wrap (r.N-r.X)-u) then (noR,15) else
 (⟨r.E,r.H,r.N,r.Aa,i64.wrap (r.X+n)⟩,0)
theorem zhe (n:Int):F_q24 n=some (decide (tot n)):=by
 simp only[F_q24,S_q24,Scr.den,zj,y3v]
 refine yj some ?_
 rw[y27,y8]; simp[tot]
theorem zcg (n:Int):F_q2b n=some (decide (tot n)):=z7i n
theorem zd8 (h:r.E.length<=1000000) (m:TMe):F_q3m r m=some (learnS r m):=by
 open Classical in simp only[F_q3m,S_q3m,Scr.den,z7j h,zcg,zq,obind,zb,z1q]
 unfold learnS
 refine st (by by_cases hR:RtOk r <;> by_cases h2:m.Ac=0 <;> by_cases h3:m.E=r.E <;> by_cases h4:m.H=r.H <;> simp[hR,h2,h3,h4]) (fun _=>rfl) fun _=>?_
 refine st (by by_cases h2:tot m.N <;> by_cases h3:tot m.Aa <;> simp[h2,h3]) (fun _=>rfl) fun _=>rfl
theorem zhf (h:r.E.length<=1000000) (m:TMe):F_q2v r m=some (learnS r m):=by
 open Classical in simp only[F_q2v,S_q2v,Scr.den,z74 h,zhe,zq,obind,zb,z1q]
 unfold learnS
 refine st (by by_cases hR:RtOk r <;> by_cases h2:m.Ac=0 <;> by_cases h3:m.E=r.E <;> by_cases h4:m.H=r.H <;> simp[hR,h2,h3,h4]) (fun _=>rfl) fun _=>?_
 refine st (by by_cases h2:tot m.N <;> by_cases h3:tot m.Aa <;> simp[h2,h3]) (fun _=>rfl) fun _=>rfl
theorem zch (h:r.E.length<=1000000) (u n:Int):F_q3s r u n=some (returnS r u n):=by
 open Classical in simp only[F_q3s,S_q3s,Scr.den,z7j h,z58,zq,obind,zb,z1q]
 unfold returnS
 refine st (by by_cases h2:RtOk r <;> by_cases h3:0<=u/\u<=i64.wrap (r.N-r.X) <;> simp[h2,h3]) (fun _=>rfl) fun _=>?_
 refine st (by simp only[yc,yb]) (fun _=>rfl) fun _=>?_
 refine st (by simp only[y8]) (fun _=>rfl) fun _=>rfl
theorem zfp (h:r.E.length<=1000000) (u n:Int):F_q4e r u n=some (returnS r u n):=by
 open Classical in simp only[F_q4e,S_q4e,Scr.den,z74 h,obind,zb]
 unfold returnS
 refine st (by
   simp only[ye,yc,yb,y8,y2a]
   constructor
   ·rintro ((h | h) | h) <;> intro k
    ·exact h k.1
    ·omega
    ·omega
   ·intro h; by_cases hR:RtOk r
    ·by_cases hu:u<0
     ·exact .inl (.inr hu)
     ·exact .inr (by have:¬ (0<=u/\u<=_):=fun k=>h ⟨hR,k⟩; omega)
    ·exact .inl (.inl hR)) (fun _=>rfl) fun _=>?_
 refine st (by simp only[ye,y8]; omega) (fun _=>rfl) fun _=>?_
 refine st (by simp only[y8]) (fun _=>rfl) fun _=>rfl
def posR (l:List TRi) (r:TRi):Nat:=l.findIdx (fun x=>decide (0<=cmpR x r))
def putL (l:List TRi) (r:TRi):List TRi:=if hasR l r.E r.H=true then l.set (rix l r.E r.H) r else insL l (posR l r) r
theorem z1a [Inhabited α] {l:List α} (hi:i<l.length):l.getD i dF=l[i]:=by simp[List.getD_eq_getElem?_getD,List.getElem?_eq_getElem hi]
theorem z6u (l:List TRi) (r:TRi):posR l r<=l.length:=List.findIdx_le_length
theorem zb1 (hi:i<posR l r):cmpR (l.getD i dF) r<0:=by
 have hl:i<l.length:=y17 hi (z6u l r)
 have:=List.not_of_lt_findIdx hi
 rw[z1a hl]
 simpa using this
theorem zb2 (hi:posR l r<l.length):0<=cmpR (l.getD (posR l r) dF) r:=by
 have:=List.findIdx_getElem (xs:=l) (p:=fun x=>decide (0<=cmpR x r)) (w:=hi)
 rw[z1a hi]
 exact y3k this
theorem zqz (hS:Srt l) (hg:∀ x∈l,RtOk x) (hi:i<l.length) (hp:posR l r<=i):0<=cmpR (l.getD i dF) r:=by
 have h0:=zb2 (l:=l) (r:=r) om
 by_cases e:posR l r=i
 ·rwa [e] at h0
 ·have h1:=hS.lt hg (show posR l r<i from om) hi
  by_cases h:cmpR (l.getD i dF) r<0
  ·have:=zd7 (hg _ (zd om)).1 (hg _ (zd hi)).1 h1 h
   omega
  ·omega
theorem zr0 (h:i+j<4611686018427387904):i64.wrap ((IntKind.u64.wrap (i64.wrap ((i:Int)+(j:Int)))).fdiv (2 ^ (min (1:Int).toNat IntKind.u64.bits)))=(((i+j) / 2:Nat):Int):=by
 rw[wrapId (n:=(i:Int)+(j:Int)) om om]
 have e:IntKind.u64.wrap ((i:Int)+(j:Int))=(i:Int)+(j:Int):=by
  simp only[IntKind.wrap,IntKind.bits,IntKind.signed]
  simp
  omega
 rw[e]
 have e2:(2:Int) ^ (min (1:Int).toNat IntKind.u64.bits)=2:=dk
 rw[e2,Int.fdiv_eq_ediv_of_nonneg _ om,wrapId om om]
 omega
theorem RtOk.len (h:RtOk r):r.E.length<=1000000:=by have:=z4l h.1; omega
theorem zp3 (hg:∀ x∈l,RtOk x) (k:Nat):(l.getD k dF).E.length<=1000000:=by
 by_cases h:k<l.length
 ·exact (hg _ (zd h)).len
 ·rw[y9,yg om]; exact y38 _
theorem zku (hl:l.length<=1000000) (hS:Srt l) (hg:∀ x∈l,RtOk x) (hr:RtOk r) :
  F_q1o r l=some ((posR l r:Int),decide (posR l r<l.length)&&(cmpR (l.getD (posR l r) dF) r==0)):=by
 have hc:∀ k,F_q2q (l.getD k dF) r=some (cmpR (l.getD k dF) r):=fun k=>zcd (zp3 hg k) hr.len
 have hp:=z6u l r
 simp only[F_q1o,S_q1o,Scr.den]
 obtain⟨s,e,hJ⟩:=z4s (step:=fun s=>(S_q1o_b1 r l s).den) (fun s=>(s.2-s.1).toNat) (fun s=>∃ i j:Nat,s=((i:Int),(j:Int))/\i<=posR l r/\posR l r<=j/\j<=l.length) (fun s=>s.1=(posR l r:Int)) (fun s hI=>by
  obtain⟨i,j,rfl,h1,h2,h3⟩:=hI
  simp only[S_q1o_b1,Scr.den,zr0 (show i+j<4611686018427387904 from om),hc,obind,yi]
  by_cases hij:i<j
  ·left
   rw[y7 (by simpa using hij),z6 ⟨om,om,om,trivial⟩,y1a]
   by_cases hlt:cmpR (l.getD ((i+j) / 2) dF) r<0
   ·rw[y7 (by simpa using hlt),wrapId om om]
    have:(i+j) / 2<posR l r:=by
     by_cases h:(i+j) / 2<posR l r
     ·exact h
     ·have:=zqz (r:=r) hS hg (show (i+j) / 2<l.length from om) om
      omega
    exact⟨_,rfl,⟨(i+j) / 2+1,j,sj,om,h2,h3⟩,by simp only; omega⟩
   ·rw[y6 (by simpa using hlt)]
    have:posR l r<=(i+j) / 2:=by
     by_cases h:posR l r<=(i+j) / 2
     ·exact h
     ·have:=zb1 (show (i+j) / 2<posR l r from om)
      omega
    exact⟨_,rfl,⟨i,(i+j) / 2,rfl,h1,this,om⟩,by simp only; omega⟩
  ·right
   rw[y6 (by simpa using hij)]
   exact⟨_,rfl,by simp only; omega⟩) _ (0,(l.length:Int)) (y4u _) ⟨0,l.length,rfl,om,hp,om⟩
 rw[e]
 simp only[outM,hJ,yi,hc,zj,y1a]
 by_cases h:posR l r<l.length
 ·rw[zg (by exact⟨sk,trivial⟩),obind,z6 ⟨fun _=>om,fun _=>h,fun _=>h,trivial⟩]
  simp[h]
 ·rw[zr (by simp[AllP]; omega),obind,z6 ⟨fun _=>om,fun h'=>absurd h (by simp[AllP] at h'; omega),fun h'=>absurd h (by simp[AllP] at h'; omega),trivial⟩]
  simp[h]
theorem zr1 (hS:Srt l) (hg:∀ x∈l,RtOk x) (hr:RtOk r) :
  (decide (posR l r<l.length)&&(cmpR (l.getD (posR l r) dF) r==0))=hasR l r.E r.H/\(hasR l r.E r.H=true->rix l r.E r.H=posR l r):=by
 have key:hasR l r.E r.H=true->rix l r.E r.H=posR l r:=fun h=>by
  obtain⟨h1,h2,h3⟩:=z3i h
  have h4:=hg _ (zd h1)
  have h5:cmpR (l.getD (rix l r.E r.H) dF) r=0:=(z5r h4.1 hr.1).2 ⟨h2,h3⟩
  rcases y4m (rix l r.E r.H) (posR l r) with h | h | h
  ·have:=zb1 h; omega
  ·exact h
  ·have h6:=hS.lt hg h h1
   have h7:=zb2 (l:=l) (r:=r) om
   have h8:=hg _ (zd (show posR l r<l.length from om))
   have:cmpR (l.getD (posR l r) dF) r<0:=by
    rw[z84 (.inl h8.1)] at h6 |-
    rw[h2,h3] at h6
    exact h6
   omega
 refine⟨?_,key⟩
 rw[y27]
 simp only[yk,y8,yu]
 constructor
 ·rintro⟨h1,h2⟩
  obtain⟨h3,h4⟩:=(z5r (hg _ (zd h1)).1 hr.1).1 h2
  exact z39.2 ⟨_,zd h1,h3,h4⟩
 ·intro h
  obtain⟨h1,h2,h3⟩:=z3i h
  rw[key h] at h1 h2 h3
  exact⟨h1,(z5r (hg _ (zd h1)).1 hr.1).2 ⟨h2,h3⟩⟩
theorem zkv (hl:l.length<=1000000):F_q3n l=some l:=by
 simp only[F_q3n,S_q3n,Scr.den]
 rw[z6 ⟨om,trivial⟩]
theorem zhg (l:List TRi) (r:TRi):(putL l r).length<=l.length+1:=by
 unfold putL
 split
 ·rw[yl]; omega
 ·rw[z1c]; omega
theorem znb (hl:o.G.length<=1000000) (hS:Srt o.G) (hg:∀ x∈o.G,RtOk x) (hr:RtOk r):F_q38 o r=some ⟨o.F,putL o.G r,o.V⟩:=by
 obtain⟨h1,h2⟩:=zr1 hS hg hr
 have hp:=z6u o.G r
 have hlen:=zhg o.G r
 simp only[F_q38,S_q38,Scr.den,zkv hl,zku hl hS hg hr,obind,h1,yi,y1a]
 unfold putL at hlen |-
 by_cases h:hasR o.G r.E r.H=true
 ·have h3:=(z3i h).1
  rw[h2 h] at h3
  rw[y7 h] at hlen
  rw[y7 h,y7 h,z6 ⟨om,h3,h3,trivial⟩,h2 h]
  simp only[outM]
  rw[z6 ⟨by rw[yl]; omega,trivial⟩]
 ·rw[y6 h] at hlen
  rw[y6 h,y6 h]
  simp only[F_q4x,yi]
  rw[z6 ⟨om,om,om⟩]
  simp only[obind,outM]
  rw[z6 ⟨om,trivial⟩]
end Go.Proofs.YtpbnkbjhlhlaiaaGreatDoor
