/- A part of the proof: plain laws of what the functions compute. No condition. -/
import Derived.Test.YtiohhffifhaboaaGreatDoorG4
import Derived.Test.YtiohhffifhaboaaGreatDoorT7
import Derived.Test.YtiohhffifhaboaaGreatDoorT5
import Derived.Lib.ItoaLen
namespace Go.Proofs.YtiohhffifhaboaaGreatDoor
open Go Go.TA
open Go.IntKind (i64)
def dayP (d:Int):Prop:=0<=d/\d<=35990
def amtP (n:Int):Prop:=1<=n/\n<=1000000000000
instance (d:Int):Decidable (dayP d):=inferInstanceAs (Decidable (_/\_))
instance (d:Int):Decidable (amtP d):=inferInstanceAs (Decidable (_/\_))
def yr (d:Int):Int:=if 0<=d/\d<=36000 then d / 360 else -1
variable {d:Int}
theorem zh5 (h:0<=d/\d<=36000):i64.wrap (d.tdiv 360)=d / 360:=by
 rw[Int.tdiv_eq_ediv_of_nonneg h.1,wrapId om om]
theorem z36 (n a b:Int):F_qb n a b=some (decide (a<=n/\n<=b)):=by
 simp only[F_qb,S_qb,Scr.den,zi,y2i,Bool.decide_and]
theorem z85 (d:Int):F_qq d=some (decide (dayP d)):=by
 simp only[F_qq,S_qq,Scr.den,z36,obind]
 rfl
theorem z5l (d:Int):F_q10 d=some (decide (amtP d)):=by
 simp only[F_q10,S_q10,Scr.den,z36,obind]
 rfl
theorem z6e (d:Int):F_qt d=some (yr d):=by
 simp only[F_qt,S_qt,F_q24,S_q24,Scr.den,obind,zi,yr]
 by_cases h:0<=d/\d<=36000
 ·rw[y3 (by simp[h]),y5 h,zh5 h]
 ·rw[y5 (by simp only[y1d,Bool.and_eq_false_iff,y19,y2i]; omega),y3 h]
def cmt (b:TBo) (n:Int):Int:=sm b.D (fun c=>c.C==n) (·.J)
def rel (b:TBo) (n:Int):Int:=sm b.D (fun c=>c.C==n) (·.U)
def ver (b:TBo) (n:Int):Int:=sm b.F (fun v=>v.E==n) (·.J)
def leftV (b:TBo) (r:TRe):Int:=i64.wrap (r.J-r.U-cmt b r.H)
def restV (b:TBo) (c:TCo):Int:=i64.wrap (c.J-c.U-ver b c.H)
def usedV (b:TBo) (code:Y8) (y:Int):Int:=i64.wrap (sm b.B (fun r=>r.K==code&&r.O==y) (fun r=>r.J-r.U-rel b r.H))
theorem z5m (b:TBo) (n:Int):F_qj b n=some (i64.wrap (cmt b n),i64.wrap (rel b n)):=by
 simp only[F_qj,S_qj,Scr.den]
 rw[z3b b.D (fun (s:Int×Int) c=>if (c.C==n)=true then (i64.wrap (s.1+c.J),i64.wrap (s.2+c.U)) else s)]
 ·simp only[outM]
  have key:∀ (l:List TCo) (x y:Int),l.foldl (fun (s:Int×Int) c=>if (c.C==n)=true then (i64.wrap (s.1+c.J),i64.wrap (s.2+c.U)) else s) (i64.wrap x,i64.wrap y)=(i64.wrap (x+sm l (fun c=>c.C==n) (·.J)),i64.wrap (y+sm l (fun c=>c.C==n) (·.U))):=by
   intro l
   induction l with
   | nil=>intro x y; simp[sm]
   | cons c l ih =>
    intro x y
    rw[y24,z8r,z8r]
    split
    ·simp only[z9a]; rw[ih]; simp only[Int.add_assoc]
    ·rw[ih]; simp
  have e0:i64.wrap 0=0:=wrapId om om
  have:=key b.D 0 0
  rw[e0] at this
  rw[this]
  simp[cmt,rel]
 ·intro i s hi
  simp only[S_qj_b1,Scr.den]
  split <;> rfl
theorem zbh (b:TBo) (r:TRe):F_q1o b r=some (leftV b r):=by
 simp only[F_q1o,S_q1o,Scr.den,z5m,obind]
 rw[z5h,z5i]
 rfl
theorem zbi (b:TBo) (n:Int):F_qm b n=some (i64.wrap (ver b n)):=by
 simp only[F_qm,S_qm,Scr.den]
 rw[z3b b.F (fun (s:Int) v=>if (v.E==n)=true then i64.wrap (s+v.J) else s)]
 ·have e0:i64.wrap 0=0:=wrapId om om
  have:=z9b b.F (fun v=>v.E==n) (·.J) 0
  rw[e0] at this
  simp only[outM,this]
  simp[ver]
 ·intro i s hi
  simp only[S_qm_b1,Scr.den]
  split <;> rfl
theorem zh6 (b:TBo) (c:TCo):F_q1p b c=some (restV b c):=by
 simp only[F_q1p,S_q1p,Scr.den,zbi,obind]
 rw[z5h,z5i]
 rfl
theorem zh7 (b:TBo) (code:Y8) (y:Int):F_qo b code y=some (usedV b code y):=by
 simp only[F_qo,S_qo,Scr.den]
 rw[z3b b.B (fun (s:Int) r=>if (r.K==code&&r.O==y)=true then i64.wrap (s+(r.J-r.U-rel b r.H)) else s)]
 ·have e0:i64.wrap 0=0:=wrapId om om
  have:=z9b b.B (fun r=>r.K==code&&r.O==y) (fun r=>r.J-r.U-rel b r.H) 0
  rw[e0] at this
  simp only[outM,this]
  simp[usedV]
 ·intro i s hi
  simp only[S_qo_b1,Scr.den,z5m,obind,zi]
  split
  ·rw[z5h,z5i,zeg]
  ·rfl
def goodR:Y8->Nat->Nat->Bool
 | [],d,p=>decide (0<d)&&decide (p<=4)
 | c :: l,d,p=>if c.toNat=46 then (if d=0 then false else goodR l 0 (p+1)) else
  if c.toNat<48\/57<c.toNat\/(d=0/\c.toNat=48)\/d=2 then false else goodR l (d+1) p
def dig (c:UInt8):Prop:=48<=c.toNat/\c.toNat<=57
def preOk:Y8->Prop
 | []=>True
 | [a]=>dig a/\a.toNat≠48
 | [a,b]=>dig a/\a.toNat≠48/\dig b
 | _=>False
def cntOk (ws:List Y8) (p:Nat):Bool:=match nums ws with
 | none=>false
 | some ns=>decide (ns.length+p<=5)
theorem z3t (w:Y8) (ws:List Y8) (p:Nat):cntOk (w :: ws) p=match pv w with
  | none=>false
  | some _=>cntOk ws (p+1):=by
 unfold cntOk
 simp only[nums]
 cases pv w with
 | none=>rfl
 | some n =>
  cases nums ws with
  | none=>rfl
  | some ns =>
   simp only[y1b,yc]
   congr 1
   rw[eq_iff_iff]; omega
theorem z6u:∀ {w:Y8},preOk w->w≠[]->∃ n,pv w=some n
 | [a],h,_=>⟨_,by simp only[pv]; rw[y5 ⟨by have:=h.1.1; have:=h.2; omega,h.1.2⟩]⟩
 | [a,b],h,_=>⟨_,by simp only[pv]; rw[y5 ⟨⟨by have:=h.1.1; have:=h.2.1; omega,h.1.2⟩,h.2.2⟩]⟩
 | [],_,h=>absurd rfl h
 | _ :: _ :: _ :: _,h,_=>h.elim
variable {c:UInt8}
theorem zcz {pre w:Y8} (hc:¬ dig c):pv (pre++c :: w)=none:=by
 match pre,w with
 | [],[]=>simp only[y12,pv]; rw[y3]; intro h; exact hc ⟨om,h.2⟩
 | [],[b]=>simp only[y12,pv]; rw[y3]; intro h; exact hc ⟨om,h.1.2⟩
 | [],b :: d :: w=>rfl
 | [a],[]=>simp only[y1h,y12,pv]; rw[y3]; intro h; exact hc h.2
 | [a],b :: w=>rfl
 | [a,b],w=>rfl
 | a :: b :: d :: pre,w=>rfl
theorem zas {w:Y8} (hc:c.toNat=48):pv (c :: w)=none:=by
 match w with
 | []=>simp only[pv]; rw[y3]; omega
 | [b]=>simp only[pv]; rw[y3]; omega
 | b :: d :: w=>rfl
theorem z5n:∀ (l pre p0:Y8) (ps:List Y8) (p:Nat),preOk pre->pieces l=p0 :: ps->goodR l pre.length p=cntOk ((pre++p0) :: ps) p
 | [],pre,p0,ps,p,hp,he=>by
  cases he
  rw[y2w,z3t]
  simp only[goodR]
  match pre,hp with
  | [],_=>rfl
  | a :: pre,hp =>
   obtain⟨n,hn⟩:=z6u hp sj
   rw[hn]
   simp[cntOk,nums]
 | c :: l,pre,p0,ps,p,hp,he=>by
  rw[z3a] at he
  simp only[goodR]
  by_cases hc:c.toNat=46
  ·rw[y5 (by rw[show c=46 from UInt8.toNat_inj.mp hc]; rfl)] at he
   cases he
   rw[y5 hc,y2w,z3t]
   match pre,hp with
   | [],_=>rfl
   | a :: pre,hp =>
    obtain⟨n,hn⟩:=z6u hp sj
    rw[hn,y3 sj]
    simp only
    cases hl:pieces l with
    | nil=>exact absurd hl (z2q l)
    | cons q qs =>
     have:=z5n l [] q qs (p+1) trivial hl
     simpa using this
  ·rw[y3 (by intro h; rw[eq_of_beq h] at hc; exact hc rfl)] at he
   rw[y3 hc]
   cases hl:pieces l with
   | nil=>exact absurd hl (z2q l)
   | cons q qs =>
    rw[hl] at he
    injection he with e1 e2
    subst e1
    subst e2
    have ih:=z5n l (pre++[c]) q qs p
    by_cases hd:dig c
    ·match pre,hp with
     | [],_ =>
      by_cases h0:c.toNat=48
      ·rw[y5 (by right; right; left; exact⟨rfl,h0⟩),z3t,y12,zas h0]
      ·rw[y3 (by have:=hd.1; have:=hd.2; simp; omega)]
       exact ih ⟨hd,h0⟩ hl
     | [a],hp =>
      rw[y3 (by have:=hd.1; have:=hd.2; simp; omega)]
      have:=ih ⟨hp.1,hp.2,hd⟩ hl
      simpa using this
     | [a,b],hp =>
      rw[y5 (by right; right; right; rfl),z3t]
      rfl
     | _ :: _ :: _ :: _,hp=>exact hp.elim
    ·rw[y5 (by unfold dig at hd; omega),z3t,zcz hd]
theorem zat:∀ {ws:List Y8} {ns:List Int},nums ws=some ns->ns.length=ws.length
 | [],ns,h=>by cases h; rfl
 | w :: ws,ns,h=>by
  simp only[nums] at h
  split at h
  ·cases h
  ·cases hn:nums ws with
   | none=>rw[hn] at h; cases h
   | some ms =>
    rw[hn] at h
    cases h
    simp[zat hn]
def good (l:Y8):Bool:=goodR l 0 1
theorem z3l (l:Y8):decide ((parts l).length>0)=good l:=by
 unfold good
 cases hl:pieces l with
 | nil=>exact absurd hl (z2q l)
 | cons q qs =>
  have:=z5n l [] q qs 1 trivial hl
  simp only[yp,y12] at this
  rw[this]
  unfold parts cntOk
  rw[hl]
  cases hn:nums (q :: qs) with
  | none=>rfl
  | some ns =>
   have h1:=zat hn
   simp only[yc] at h1
   simp only
   by_cases h4:ns.length>4
   ·simp only[y5 h4]; simp; omega
   ·simp only[y3 h4]; rw[y1r]; simp; omega
variable {l:Y8}
theorem zbj (hl:l.length<4611686018427387904):F_qe l=some (good l):=by
 simp only[F_qe,S_qe,Scr.den,zi]
 generalize hF:(fun s=>(S_qe_b1 l s).den)=F
 have key:∀ (k i d p:Nat),i+k=l.length->d<=i->p<=i+1->outM (iterM F ((d:Int),(p:Int),(i:Int))) (fun s=>some (decide (s.1>0)&&decide (s.2.1<=4))) (fun x=>some (id x))=some (goodR (l.drop i) d p):=by
  intro k
  induction k with
  | zero =>
   intro i d p hk hd hp
   rw[z77,y1s om,<- hF]
   simp only[S_qe_b1,Scr.den]
   rw[y3 sk]
   simp only[outM,goodR]
   congr 1
   rw[y1r]; simp; omega
  | succ k ih =>
   intro i d p hk hd hp
   have hi:i<l.length:=om
   have ei:l.getD i 0=l[i]:=by simp[List.getD_eq_getElem?_getD,List.getElem?_eq_getElem hi]
   rw[z77,y1t hi,<- congrFun hF]
   simp only[S_qe_b1,Scr.den,yl,ei,zi,z1k]
   generalize hcc:l[i]=c
   rw[y5 sk,z6 ⟨om,hi,trivial⟩]
   have w1:i64.wrap ((p:Int)+1)=((p+1:Nat):Int):=by rw[wrapId om om]; omega
   have w2:i64.wrap ((i:Int)+1)=((i+1:Nat):Int):=by rw[wrapId om om]; omega
   have w3:i64.wrap ((d:Int)+1)=((d+1:Nat):Int):=by rw[wrapId om om]; omega
   simp only[w1,w2,w3,goodR]
   by_cases hc:c.toNat=46
   ·rw[y5 (by simp[hc]),y5 hc]
    by_cases h0:d=0
    ·rw[y5 (by simp[h0]),y5 h0]; rfl
    ·rw[y3 (by simpa using h0),y3 h0]
     have h:=ih (i+1) 0 (p+1) om om om
     rw[show ((0:Nat):Int)=0 from rfl] at h
     exact h
   ·rw[y3 sk,y3 hc,z6 ⟨fun _=>om,fun _=>hi,fun _=>om,fun _=>hi,trivial⟩]
    by_cases hb:c.toNat<48\/57<c.toNat\/(d=0/\c.toNat=48)\/d=2
    ·rw[y5 sk,y5 hb]; rfl
    ·rw[y3 sk,y3 hb]
     exact ih (i+1) (d+1) p om om om
 exact key l.length 0 0 1 om om om
theorem z3u (hl:l.length<=1099511627776):F_q2d l=some (parts l):=by
 unfold F_q2d
 exact z99 hl rfl
def lexC:List Int->List Int->Int
 | [],[]=>0
 | [],_ :: _=>-1
 | _ :: _,[]=>1
 | a :: x,b :: y=>if a<b then -1 else if a>b then 1 else lexC x y
theorem zel (h:good l=true):nums (pieces l)=some (parts l)/\0<(parts l).length/\(parts l).length<=4:=by
 rw[<- z3l] at h
 have h0:0<(parts l).length:=by simpa using h
 unfold parts at h0 |-
 split at h0
 ·simp at h0
 ·rename_i ns hn
  split at h0
  ·simp at h0
  ·rename_i h4
   rw[hn]
   simp only[y3 h4]
   exact⟨trivial,h0,om⟩
def valW (w:Y8):Int:=w.foldl (fun n c=>10 * n+((c.toNat:Int)-48)) 0
theorem zi6:∀ {w:Y8} {n:Int},pv w=some n->valW w=n/\1<=w.length/\w.length<=2/\(w.getD 0 0).toNat≠48/\∀ c∈w,48<=c.toNat/\c.toNat<=57
 | [],_,h=>by simp[pv] at h
 | [a],n,h=>by
  simp only[pv] at h
  split at h <;> simp at h
  rename_i h1
  refine⟨by simp[valW]; omega,sj,sj,sk,fun c hc=>by simp at hc; subst hc; omega⟩
 | [a,b],n,h=>by
  simp only[pv] at h
  split at h <;> simp at h
  rename_i h1
  refine⟨by simp[valW]; omega,sj,sj,sk,fun c hc=>?_⟩
  simp at hc
  rcases hc with rfl | rfl <;> omega
 | _ :: _ :: _ :: _,_,h=>by simp[pv] at h
theorem z7e (h:good l=true):l.length<=11:=by
 have key:∀ (l:Y8) (ns:List Int),nums (pieces l)=some ns->l.length+1<=3 * ns.length:=by
  intro l
  suffices H:∀ (l p0:Y8) (ps:List Y8),pieces l=p0 :: ps->l.length=p0.length+(ps.map fun q=>q.length+1).sum by
   intro ns hn
   cases hp:pieces l with
   | nil=>exact absurd hp (z2q l)
   | cons p0 ps =>
    rw[hp] at hn
    rw[H l p0 ps hp]
    have hall:∀ (ws:List Y8) (ms:List Int),nums ws=some ms->(ws.map fun q=>q.length+1).sum<=3 * ms.length:=by
     intro ws
     induction ws with
     | nil=>intro ms hm; simp
     | cons w ws ih =>
      intro ms hm
      simp only[nums] at hm
      split at hm
      ·cases hm
      ·rename_i n hpv
       cases hw:nums ws with
       | none=>rw[hw] at hm; cases hm
       | some ks =>
        rw[hw] at hm; cases hm
        have:=ih ks hw
        have:=(zi6 hpv).2.2.1
        simp only[y2j,List.sum_cons,yc]
        omega
    have:=hall _ _ hn
    simp only[y2j,List.sum_cons] at this
    omega
  intro l
  induction l with
  | nil=>intro p0 ps hp; simp[pieces] at hp; obtain⟨rfl,rfl⟩:=hp; simp
  | cons b l ih =>
   intro p0 ps hp
   rw[z3a] at hp
   cases hl:pieces l with
   | nil=>exact absurd hl (z2q l)
   | cons q qs =>
    have:=ih q qs hl
    rw[hl] at hp
    split at hp
    ·simp only[List.cons.injEq] at hp
     obtain⟨rfl,rfl⟩:=hp
     simp only[yc,yp,y2j,List.sum_cons]; omega
    ·simp only[List.cons.injEq] at hp
     obtain⟨rfl,rfl⟩:=hp
     simp only[yc]; omega
 obtain⟨h1,h2,h3⟩:=zel h
 have:=key l _ h1
 omega
def cmpI (a b:Int):Int:=if a<b then -1 else if a>b then 1 else 0
theorem zc1 (a b:Int):F_q1e a b=some (cmpI a b):=by
 simp only[F_q1e,S_q1e,F_q1w,S_q1w,Scr.den,obind,cmpI,bne_self_eq_false,y29,y3g,yj]
 by_cases h1:a<b
 ·rw[y5 h1,y5 h1]
 ·rw[y3 h1,y3 h1]
  by_cases h2:a>b
  ·rw[y5 h2,y5 h2]
  ·rw[y3 h2,y3 h2]
variable {i:Nat}
theorem zc2 {l:List Int} (hi:i<l.length):l.getD i dF=l[i]:=by simp[List.getD_eq_getElem?_getD,List.getElem?_eq_getElem hi]
theorem z7f (x y:List Int):F_qk x y=some (lexC x y):=by
 simp only[F_qk,S_qk,Scr.den]
 generalize hB:(fun i s=>(S_qk_b1 x y i s).den)=B
 have key:∀ (k i:Nat),i+k=x.length->i<=y.length->outM (rangeM B k i ()) (fun _=>if decide ((x.length:Int)<(y.length:Int))=true then some (-1) else some 0) (fun r=>some (id r))=some (lexC (x.drop i) (y.drop i)):=by
  intro k
  induction k with
  | zero =>
   intro i hk hy
   rw[y1s om]
   by_cases h:y.length<=i
   ·rw[y1s h]
    simp only[rangeM,outM]
    rw[y3 sk]
    rfl
   ·rw[y1t (by omega:i<y.length)]
    simp only[rangeM,outM]
    rw[y5 sk]
    rfl
  | succ k ih =>
   intro i hk hy
   have hi:i<x.length:=om
   rw[y1t hi]
   simp only[rangeM]
   rw[<- congrFun (congrFun hB i) ()]
   simp only[S_qk_b1,Scr.den]
   by_cases h:y.length<=i
   ·rw[y5 sk,y1s h]
    rfl
   ·have hj:i<y.length:=om
    rw[y3 sk,z6 ⟨hj,trivial⟩,y1t hj]
    simp only[zc1,obind,zc2 hi,zc2 hj,lexC,cmpI]
    by_cases h1:x[i]<y[i]
    ·simp only[y5 h1]; rfl
    ·simp only[y3 h1]
     by_cases h2:x[i]>y[i]
     ·simp only[y5 h2]; rfl
     ·simp only[y3 h2]
      exact ih (i+1) om om
 have:=key x.length 0 om om
 simpa using this
def strC (a b:Y8):Int:=if Op.bytesLess a b=true then -1 else if (!(Op.bytesLess a b||a==b))=true then 1 else 0
def cmpC (a b:Y8):Int:=if (parts a).length=0/\(parts b).length=0 then strC a b else lexC (parts a) (parts b)
theorem zd0 {a b:Y8} (ha:a.length<=1000000) (hb:b.length<=1000000):F_q1x a b=some (cmpC a b):=by
 simp only[F_q1x,S_q1x,Scr.den,z3u (show a.length<=1099511627776 from om),z3u (show b.length<=1099511627776 from om),obind,zi,cmpC,z7f]
 by_cases h:(parts a).length=0/\(parts b).length=0
 ·rw[y5 (by simp[h]),y5 h]
  simp only[F_q27,S_q27,F_q1v,S_q1v,Scr.den,obind,beq_self_eq_true,Bool.not_true,y29,y3g,strC]
  by_cases h1:Op.bytesLess a b=true
  ·rw[y5 h1,y5 h1]; rfl
  ·rw[y3 h1,y3 h1]
   by_cases h2:(!(Op.bytesLess a b||a==b))=true
   ·rw[y5 h2,y5 h2]; rfl
   ·rw[y3 h2,y3 h2]; rfl
 ·rw[y3 (by simpa using h),y3 h]
def cmpR (a b:TRi):Int:=if cmpC a.K b.K≠0 then cmpC a.K b.K else cmpI a.O b.O
theorem z7g {a b:TRi} (ha:a.K.length<=1000000) (hb:b.K.length<=1000000):F_q1y a b=some (cmpR a b):=by
 simp only[F_q1y,S_q1y,Scr.den,zd0 ha hb,zc1,obind,F_qr,S_qr,S_qr_b1,cmpR]
 by_cases h:cmpC a.K b.K=0
 ·rw[y3 (by simpa using h)]
  by_cases h2:cmpI a.O b.O=0
  ·simp[rangeM,h,h2,outM]
  ·simp[rangeM,h,h2,outM]
 ·rw[y5 h]
  simp[rangeM,h,outM]
def ordersOf (l:List TOr) (v:Int):List TOr:=l.filter (fun o=>o.A==v)
variable {α ρ:Type} {body:Nat->Unit->Option (Step Unit ρ)}
theorem zau [Inhabited α] (l:List α) (p:α->Bool) (v:Nat->ρ) (hs:∀ i,i<l.length->body i ()=some (if p (l.getD i dF)=true then .ret (v i) else .cont ())) :
  (rangeM body l.length 0 ()=some (.next ())/\∀ x∈l,p x=false)\/∃ i,i<l.length/\p (l.getD i dF)=true/\(∀ x∈l.take i,p x=false)/\rangeM body l.length 0 ()=some (.ret (v i)):=by
 have key:∀ (k i:Nat),i+k=l.length->(∀ x∈l.take i,p x=false)->(rangeM body k i ()=some (.next ())/\∀ x∈l,p x=false)\/∃ i,i<l.length/\p (l.getD i dF)=true/\(∀ x∈l.take i,p x=false)/\rangeM body k (l.length-k) ()=some (.ret (v i)):=by
  intro k
  induction k with
  | zero =>
   intro i hk h
   left
   rw[y20 om] at h
   exact⟨rfl,h⟩
  | succ k ih =>
   intro i hk h
   have hi:i<l.length:=om
   have e:l.length-(k+1)=i:=om
   have e':l.length-k=i+1:=om
   rw[e]
   simp only[rangeM,hs i hi]
   cases hp:p (l.getD i dF) with
   | true =>
    right
    exact⟨i,hi,hp,h,sj⟩
   | false =>
    simp only[y29,y3g]
    rw[e'] at ih
    refine ih (i+1) om fun x hx=>?_
    rw[y3c,y1w] at hx
    rcases hx with hx | hx
    ·exact h x hx
    ·rw[y4 hi] at hx
     simp only[Option.toList_some,y2v] at hx
     rw[hx]
     simpa [List.getD_eq_getElem?_getD,List.getElem?_eq_getElem hi] using hp
 have:=key l.length 0 om sj
 simpa using this
theorem zd1 (l:List α) (i n:Nat) (z:α):(clearL l (0+i) n z).take i=l.take i:=by
 apply y22
 intro k
 simp only[List.getElem?_take,clearL,List.getElem?_mapIdx]
 split
 ·cases l[k]? with
  | none=>rfl
  | some x=>simp only[y1b]; rw[y3 om]
 ·rfl
theorem z6v {l:List α} {q:α->Bool} (h:∀ x∈l,q x=true):l.filter q=l:=List.filter_eq_self.mpr h
theorem zem {l:List TOr} (v:Int) (hl:l.length<4611686018427387904):F_qi l v=some (ordersOf l v):=by
 have hI:(F_qh l v=some (-1)/\∀ x∈l,(x.A==v)=true)\/∃ i:Nat,i<l.length/\((l.getD i dF).A==v)=false/\(∀ x∈l.take i,(x.A==v)=true)/\F_qh l v=some (i:Int):=by
  simp only[F_qh,S_qh,Scr.den]
  rw[Ga]
  have:=zau l (fun x=>x.A != v) (fun i=>(i:Int)) (body:=fun i s=>(S_qh_b1 l v i s).den) fun i hi=>by
   simp only[S_qh_b1,F_q11,S_q11,Scr.den,obind,yz]
   rw[z6 ⟨hi,trivial⟩]
   split <;> rfl
  rcases this with ⟨h1,h2⟩ | ⟨i,h1,h2,h3,h4⟩
  ·left
   rw[h1]
   exact⟨rfl,fun x hx=>by simpa using h2 x hx⟩
  ·right
   refine⟨i,h1,by simpa [bne] using h2,fun x hx=>by simpa using h3 x hx,?_⟩
   rw[h4]
   rfl
 simp only[F_qi,S_qi,Scr.den]
 rcases hI with ⟨h1,h2⟩ | ⟨i0,h1,h2,h3,h4⟩
 ·rw[h1,obind,y5 (show ((-1:Int)==-1)=true from rfl),Ga]
  unfold ordersOf
  rw[z6v h2]
 ·rw[h4,obind,y3 sj]
  obtain⟨s,h5,h6⟩:=z1l (step:=fun s=>(S_qi_b1 v s).den) (fun s=>l.length-s.2.2.toNat)
   (fun s=>s.1.length=l.length/\0<=s.2.1/\s.2.1<=s.2.2/\s.2.2<=l.length/\s.1.take s.2.1.toNat=ordersOf (l.take s.2.2.toNat) v/\s.1.drop s.2.2.toNat=l.drop s.2.2.toNat)
   (fun s=>s.1.length=l.length/\0<=s.2.1/\s.2.1<=l.length/\s.1.take s.2.1.toNat=ordersOf l v) (fun s hs=>by
    obtain⟨sl,i,j⟩:=s
    obtain⟨a1,a2,a3,a4,a5,a6⟩:=hs
    simp only at a1 a2 a3 a4 a5 a6
    by_cases hj:j<(l.length:Int)
    ·left
     have hjn:j.toNat<sl.length:=om
     have hjl:j.toNat<l.length:=om
     have ex:sl.getD j.toNat dF=l.getD j.toNat dF:=by
      have:=y1y (fun t=>t[0]?) a6
      simp only[y33,y25] at this
      rw[ya,ya,this]
     have et:ordersOf (l.take (j.toNat+1)) v=ordersOf (l.take j.toNat) v++if ((l.getD j.toNat dF).A==v)=true then [l.getD j.toNat dF] else []:=by
      unfold ordersOf
      rw[y3c,List.filter_append,y4 hjl]
      simp only[Option.toList_some,ya,y4 hjl,y3h,List.filter_cons,List.filter_nil]
     have w1:i64.wrap (i+1)=i+1:=wrapId om om
     have w2:i64.wrap (j+1)=j+1:=wrapId om om
     have en:(j+1).toNat=j.toNat+1:=om
     have em:(i+1).toNat=i.toNat+1:=om
     have dj:sl.drop (j.toNat+1)=l.drop (j.toNat+1):=by
      have:=y1y (List.drop 1) a6
      simpa [List.drop_drop] using this
     simp only[S_qi_b1,F_q11,S_q11,Scr.den,obind,yz,ex,w1,w2]
     rw[y5 sk,Gc]
     by_cases hv:((l.getD j.toNat dF).A==v)=true
     ·rw[y5 (by simp only[bne,hv]; rfl),Gc]
      refine⟨_,rfl,⟨by simpa using a1,by simp only; omega,by simp only; omega,by simp only; omega,?_,?_⟩,by simp only; omega⟩
      ·simp only[en,em]
       rw[et,y5 hv,<- a5,y3c,List.take_set_of_le om,yf om]
       rfl
      ·simp only[en]
       rw[List.drop_set_of_lt om,dj]
     ·rw[y3 (by simp only[bne,hv]; simp)]
      refine⟨_,rfl,⟨a1,a2,by simp only; omega,by simp only; omega,?_,?_⟩,by simp only; omega⟩
      ·simp only[en]
       rw[et,y3 hv,y2w,a5]
      ·simp only[en]
       exact dj
    ·right
     simp only[S_qi_b1,Scr.den]
     rw[y3 sk]
     refine⟨_,rfl,a1,a2,by simp only; omega,?_⟩
     simp only
     rw[a5,y20 om]) _ (l,(i0:Int),i64.wrap ((i0:Int)+1)) (y28 _) (by
    have w2:i64.wrap ((i0:Int)+1)=i0+1:=wrapId om om
    have en:((i0:Int)+1).toNat=i0+1:=om
    simp only[w2,en,yl]
    refine⟨trivial,om,om,om,?_,trivial⟩
    unfold ordersOf
    rw[y3c,List.filter_append,z6v h3,y4 h1]
    simp only[ya,y4 h1,y3h] at h2
    simp[h2])
  obtain⟨b1,b2,b3,b4⟩:=h6
  rw[h5]
  simp only[outM]
  rw[z6 ⟨b2,om,trivial⟩,z6 ⟨by rw[z2i]; omega,trivial⟩,z6 ⟨by rw[z2i]; omega,trivial⟩,zd1,b4]
def Few (b:TBo):Prop:=b.B.length<=1000000/\b.D.length<=1000000/\b.F.length<=1000000/\b.I.length<=1000000
theorem zen {l:List TOr} (hl:l.length<=1000000):F_q1q l=some l:=by
 simp only[F_q1q,S_q1q,Scr.den]
 rw[Ga]
variable {b:TBo}
theorem zeo (h:b.I.length<=1000000) (v:Int):F_q1r b v=some (ordersOf b.I v):=by
 simp only[F_q1r,S_q1r,Scr.den,zen h,obind,zem v (show b.I.length<4611686018427387904 from om)]
theorem z6i (l:List TOr) (o:TOr):F_q1s l o=some (l.any fun x=>!x.X||decide (x.N>o.N)):=by
 simp only[F_q1s,S_q1s,F_qn,S_qn,Scr.den]
 rcases zau l (fun x=>!x.X||decide (x.N>o.N)) (fun i=>(i:Int)) (body:=fun i s=>(S_qn_b1 l o i s).den) (fun i hi=>by
  simp only[S_qn_b1,F_q25,S_q25,Scr.den,obind,z1k]
  split <;> rfl) with ⟨h1,h2⟩ | ⟨i,h1,h2,h3,h4⟩
 ·rw[h1]
  simp only[outM,obind]
  rw[List.any_eq_false.mpr fun x hx=>by rw[h2 x hx]; simp]
  rfl
 ·rw[h4]
  simp only[outM,obind]
  rw[List.any_eq_true.mpr ⟨_,z1a h1,h2⟩]
  simp
theorem z1r (gs:List Prop) (x d:α) [Decidable (AllP gs)]:optD gs (some x) d=some (if AllP gs then x else d):=by
 unfold optD
 by_cases h:AllP gs
 ·rw[y5 h,y5 h]
 ·rw[y3 h,y3 h]
theorem zep {gs:List Prop} {x:Option α} {y d:α} [Decidable (AllP gs)] (h:AllP gs->x=some y):optD gs x d=some (if AllP gs then y else d):=by
 by_cases hg:AllP gs
 ·rw[y5 hg,zw hg,h hg]
 ·rw[y3 hg,z1b hg]
theorem z86 (a x d:Bool) [Decidable (AllP [a=false])]:(a||!(if AllP [a=false] then x else d))=(a||!x):=by
 cases a <;> simp[AllP]
theorem z2s (a x d:Bool) [Decidable (AllP [a=true])]:(a&&(if AllP [a=true] then x else d))=(a&&x):=by
 cases a <;> simp[AllP]
theorem zc3 (a:Bool) (x d y:Int) [Decidable (AllP [a=true])]:(a&&((if AllP [a=true] then x else d)==y))=(a&&(x==y)):=by
 cases a <;> simp[AllP]
theorem zeq (a:Bool) (x d y:Int) [Decidable (AllP [a=true])]:(a&&decide ((if AllP [a=true] then x else d)>=y))=(a&&decide (x>=y)):=by
 cases a <;> simp[AllP]
theorem zer (a:Bool) (x d y z:Int) [Decidable (AllP [a=true])]:(a&&decide ((if AllP [a=true] then x else d)<=i64.wrap ((if AllP [a=true] then y else z)+1)))=(a&&decide (x<=i64.wrap (y+1))):=by
 cases a <;> simp[AllP]
theorem zh8 (a:Bool) (x d:List α) [Decidable (AllP [a=true])]:(a&&decide (((if AllP [a=true] then x else d).length:Int)>0))=(a&&decide (x.length>0)):=by
 cases a <;> simp[AllP]
def RFld (r:TRe) (n:Int):Prop:=r.H=n/\good r.K=true/\(0<=r.O/\r.O<=99)/\dayP r.N/\yr r.N=r.O/\amtP r.J/\(0<=r.U/\r.U<=r.J)
def rAt (b:TBo) (n:Int):TRe:=b.B.getD (n-1).toNat dF
def cAt (b:TBo) (n:Int):TCo:=b.D.getD (n-1).toNat dF
def vAt (b:TBo) (n:Int):TVe:=b.F.getD (n-1).toNat dF
def Small (b:TBo):Prop:=Few b/\∀ r∈b.B,r.K.length<=1000000
theorem z87 {n:Nat} (hi:i<n) (hn:n<=1000000):i64.wrap ((i:Int)+1)=(i:Int)+1:=wrapId om om
theorem resP (hb:Small b) (hi:i<b.B.length):∃ C:Bool,F_q19 b i=some C/\(C=true↔RFld (b.B.getD i dF) (i+1)/\0<=leftV b (b.B.getD i dF)):=by
 have hw:=z87 hi hb.1.1
 have hc:=hb.2 _ (z1a hi)
 simp only[F_q19,S_q19,Scr.den,yl]
 rw[z6 ⟨om,hi,trivial⟩]
 generalize b.B.getD i dF=r at hc |-
 rw[hw,z3u om]
 open Classical in simp only[z85,z6e,z5l,z36,zbh,z1r,obind,zi,z2s,zc3,zeq,zh8]
 refine⟨_,rfl,?_⟩
 simp only[z3l,RFld,ye,y1f,yj,y2i,and_assoc]
theorem z5o {x:Int} {n:Nat} (h:1<=x/\x<=(n:Int)) (hn:n<=1000000):i64.wrap (x-1)=x-1:=wrapId om om
def CFld (b:TBo) (c:TCo) (n:Int):Prop:=c.H=n/\(1<=c.C/\c.C<=b.B.length)/\dayP c.N/\amtP c.J/\(0<=c.U/\c.U<=c.J)/\(1<=c.Q/\c.Q<=1000000)/\dayP c.T/\(rAt b c.C).N<=c.N/\yr c.N=(rAt b c.C).O
theorem comP (hb:Small b) (hi:i<b.D.length):∃ C:Bool,F_q1a b i=some C/\(C=true↔CFld b (b.D.getD i dF) (i+1)/\0<=restV b (b.D.getD i dF)):=by
 have hw:=z87 hi hb.1.2.1
 obtain⟨c,hc⟩:∃ c,b.D.getD i dF=c:=⟨_,rfl⟩
 simp only[F_q1a,S_q1a,Scr.den,yl]
 rw[z6 ⟨om,hi,trivial⟩]
 open Classical in simp only[hc,hw,z85,z6e,z5l,z36,zh6,z1r,obind,zi,z1k,z86]
 by_cases h:(c.H != (i:Int)+1||!decide (1<=c.C/\c.C<=b.B.length))=true
 ·rw[y5 h]
  refine⟨false,rfl,?_⟩
  simp only[y1c,y38,ne_eq,y1d,y19] at h
  constructor
  ·intro h; cases h
  ·intro hp
   rcases h with h | h
   ·exact absurd hp.1.1 h
   ·exact absurd hp.1.2.1 h
 ·rw[y3 h]
  simp only[y1c,y38,ne_eq,y1d,y19,not_or,y3y] at h
  rw[z5o (n:=b.B.length) h.2 hb.1.1,Gb]
  open Classical in simp only[z2s,zc3,zeq]
  refine⟨_,rfl,?_⟩
  simp only[CFld,ye,y1f,yj,y2i]
  constructor
  ·rintro⟨⟨⟨⟨⟨⟨⟨h1,h2⟩,h3⟩,h4⟩,h5⟩,h6⟩,h7⟩,h8⟩
   exact⟨⟨h.1,h.2,h1,h4,h5,h6,h7,h2,h3⟩,h8⟩
  ·rintro⟨⟨_,_,h1,h4,h5,h6,h7,h2,h3⟩,h8⟩
   exact⟨⟨⟨⟨⟨⟨⟨h1,h2⟩,h3⟩,h4⟩,h5⟩,h6⟩,h7⟩,h8⟩
def RAll (b:TBo):Prop:=∀ i,i<b.B.length->RFld (b.B.getD i dF) (i+1)
def CAll (b:TBo):Prop:=∀ i,i<b.D.length->CFld b (b.D.getD i dF) (i+1)
def yearOf (b:TBo) (n:Int):Int:=(rAt b (cAt b n).C).O
theorem RAll.at {b:TBo} (h:RAll b) {n:Int} (hn:1<=n/\n<=b.B.length):RFld (rAt b n) n:=by
 have:=h (n-1).toNat om
 rwa [show (((n-1).toNat:Nat):Int)+1=n from om] at this
theorem CAll.at {b:TBo} (h:CAll b) {n:Int} (hn:1<=n/\n<=b.D.length):CFld b (cAt b n) n:=by
 have:=h (n-1).toNat om
 rwa [show (((n-1).toNat:Nat):Int)+1=n from om] at this
variable {n:Int}
theorem zh9 (hR:RAll b) (hC:CAll b) (hn:1<=n/\n<=b.D.length):0<=yearOf b n/\yearOf b n<=99 :=
 (hR.at (hC.at hn).2.1).2.2.1
theorem zc4 (hb:Small b) {c:TCo} (h:1<=c.C/\c.C<=b.B.length):F_qw b c=some (rAt b c.C).O:=by
 simp only[F_qw,S_qw,Scr.den]
 rw[z5o h hb.1.1,Gb]
 rfl
theorem zes (hR:RAll b) (hC:CAll b) (hn:1<=n/\n<=b.D.length):i64.wrap (yearOf b n+1)=yearOf b n+1:=by
 have:=zh9 hR hC hn
 exact wrapId om om
def VFld (b:TBo) (v:TVe) (n:Int):Prop:=v.H=n/\(1<=v.E/\v.E<=b.D.length)/\dayP v.N/\amtP v.J/\(cAt b v.E).N<=v.N/\yr v.N<=yearOf b v.E+1
theorem verP (hb:Small b) (hR:RAll b) (hC:CAll b) (hi:i<b.F.length):∃ C:Bool,F_q1b b i=some C/\(C=true↔VFld b (b.F.getD i dF) (i+1)):=by
 have hw:=z87 hi hb.1.2.2.1
 obtain⟨v,hv⟩:∃ v,b.F.getD i dF=v:=⟨_,rfl⟩
 simp only[F_q1b,S_q1b,Scr.den,yl]
 rw[z6 ⟨om,hi,trivial⟩]
 open Classical in simp only[hv,hw,z85,z6e,z5l,z36,z1r,obind,zi,z1k,z86]
 by_cases h:(v.H != (i:Int)+1||!decide (1<=v.E/\v.E<=b.D.length))=true
 ·rw[y5 h]
  refine⟨false,rfl,?_⟩
  simp only[y1c,y38,ne_eq,y1d,y19] at h
  constructor
  ·intro h; cases h
  ·intro hp
   rcases h with h | h
   ·exact absurd hp.1 h
   ·exact absurd hp.2.1 h
 ·rw[y3 h]
  simp only[y1c,y38,ne_eq,y1d,y19,not_or,y3y] at h
  have hn:=h.2
  have hc:=(hC.at hn).2.1
  rw[z5o hn hb.1.2.1,Gb]
  change ∃ C,(optD _ (F_qw b (cAt b v.E)) _).bind _=_/\_
  open Classical in rw[zep fun _=>zc4 hb hc]
  open Classical in simp only[obind,z2s,zer]
  refine⟨_,rfl,?_⟩
  have hy:=zes hR hC hn
  unfold yearOf at hy
  rw[hy]
  simp only[VFld,ye,yj,y2i]
  constructor
  ·rintro⟨⟨⟨h1,h2⟩,h3⟩,h4⟩
   exact⟨h.1,h.2,h1,h4,h2,h3⟩
  ·rintro⟨_,_,h1,h4,h2,h3⟩
   exact⟨⟨⟨h1,h2⟩,h3⟩,h4⟩
def VAll (b:TBo):Prop:=∀ i,i<b.F.length->VFld b (b.F.getD i dF) (i+1)
theorem VAll.at {b:TBo} (h:VAll b) {n:Int} (hn:1<=n/\n<=b.F.length):VFld b (vAt b n) n:=by
 have:=h (n-1).toNat om
 rwa [show (((n-1).toNat:Nat):Int)+1=n from om] at this
def OFld (b:TBo) (o:TOr) (bef:List TOr) (n:Int):Prop:=o.H=n/\(1<=o.A/\o.A<=b.F.length)/\dayP o.N/\(vAt b o.A).N<=o.N/\yr o.N<=yearOf b (vAt b o.A).E+1/\o.M=(ordersOf bef o.A).length+1/\(ordersOf bef o.A).any (fun x=>!x.X||decide (x.N>o.N))=false
theorem ordP (hb:Small b) (hR:RAll b) (hC:CAll b) (hV:VAll b) (hi:i<b.I.length):∃ C:Bool,F_q1c b i=some C/\(C=true↔OFld b (b.I.getD i dF) (b.I.take i) (i+1)):=by
 have hw:=z87 hi hb.1.2.2.2
 have hl:=hb.1.2.2.2
 obtain⟨o,ho⟩:∃ v,b.I.getD i dF=v:=⟨_,rfl⟩
 have hlt:(b.I.take i).length<=1000000:=by rw[y3f]; omega
 have hle:i<=b.I.length:=om
 simp only[F_q1c,S_q1c,Scr.den,yl]
 rw[z6 ⟨om,hi,trivial⟩]
 open Classical in simp only[ho,hw,z85,z6e,z36,z1r,obind,zi,z1k,z86]
 by_cases h:(o.H != (i:Int)+1||!decide (1<=o.A/\o.A<=b.F.length))=true
 ·rw[y5 h]
  refine⟨false,rfl,?_⟩
  simp only[y1c,y38,ne_eq,y1d,y19] at h
  constructor
  ·intro h; cases h
  ·intro hp
   rcases h with h | h
   ·exact absurd hp.1 h
   ·exact absurd hp.2.1 h
 ·rw[y3 h]
  simp only[y1c,y38,ne_eq,y1d,y19,not_or,y3y] at h
  have hn:=h.2
  have hv:=(hV.at hn).2.1
  have hc:=(hC.at hv).2.1
  rw[z5o hn hb.1.2.2.1,Gb,zeo hlt,obind,z6 ⟨hle,trivial⟩]
  simp only[z6i]
  have hp:i64.wrap ((vAt b o.A).E-1)=(vAt b o.A).E-1:=z5o hv hb.1.2.1
  have hyr:F_qw b (b.D.getD ((vAt b o.A).E-1).toNat dF)=some (yearOf b (vAt b o.A).E):=zc4 hb hc
  unfold vAt at hp hyr
  open Classical in rw[hp,hyr,z1r,obind,z1r,obind,z6 ⟨fun _=>by unfold vAt at hv; omega,fun _=>by unfold vAt at hv; omega,trivial⟩]
  open Classical in simp only[zer]
  have hy:=zes hR hC hv
  unfold vAt at hy
  rw[hy]
  have e3:∀ (a x d:Bool) [Decidable (AllP [a=true])],(a&&!(if AllP [a=true] then x else d))=(a&&!x):=fun a x d _=>by cases a <;> simp[AllP]
  rw[e3]
  refine⟨_,rfl,?_⟩
  have hlw:i64.wrap (((ordersOf (b.I.take i) o.A).length:Int)+1)=((ordersOf (b.I.take i) o.A).length:Int)+1:=by
   have:(ordersOf (b.I.take i) o.A).length<=(b.I.take i).length:=List.length_filter_le _ _
   exact wrapId om om
  rw[hlw]
  simp only[OFld,ye,y1f,yj,y2i,y1d]
  constructor
  ·rintro⟨⟨⟨⟨h1,h2⟩,h3⟩,h4⟩,h5⟩
   exact⟨h.1,h.2,h1,h2,h3,h4,h5⟩
  ·rintro⟨_,_,h1,h2,h3,h4,h5⟩
   exact⟨⟨⟨⟨h1,h2⟩,h3⟩,h4⟩,h5⟩
theorem noC {P:Prop} {x:Option Bool} (h:P->False) (e:x=some false:=by rfl):∃ C:Bool,x=some C/\(C=true↔P):=⟨false,e,⟨fun h=>(Bool.false_ne_true h).elim,fun p=>(h p).elim⟩⟩
def Val (b:TBo):Prop:=RAll b/\CAll b/\(∀ r∈b.B,0<=leftV b r)/\VAll b/\(∀ c∈b.D,0<=restV b c)/\(∀ i,i<b.I.length->OFld b (b.I.getD i dF) (b.I.take i) (i+1)) /\
 b.B.length<=200/\b.D.length<=200/\b.F.length<=200/\b.I.length<=200
theorem z88 {n:Nat} (hn:n<=1000000) {body:Nat->Unit->Option (Step Unit Bool)} {F:Int->Option Bool} (hF:∀ (i:Nat) s,body i s=(F i).bind fun r=>if (!r)=true then some (.ret false) else some (.cont ())) (p:Nat->Prop) (h:∀ i,i<n->∃ C,F i=some C/\(C=true↔p i)) :
  ∃ C,guardP (AllP [((n:Int)).toNat<2 ^ 63]) (outM (rangeM body ((n:Int)).toNat 0 ()) (fun _=>some (decide ((n:Int)<=200))) (fun x=>some (id x)))=some C/\(C=true↔(∀ i,i<n->p i)/\n<=200):=by
 rw[yl,Ga]
 obtain⟨h1,h2⟩:=z1m (body:=body) (n:=n) (c:=false) p (fun i hi hp=>by
  obtain⟨C,e,hc⟩:=h i hi
  rw[hF,e,hc.mpr hp]; rfl) (fun i hi hp=>by
  obtain⟨C,e,hc⟩:=h i hi
  rw[hF,e,Bool.eq_false_iff.mpr fun h=>hp (hc.mp h)]; rfl)
 by_cases hp:∀ i,i<n->p i
 ·rw[h1 hp]
  refine⟨_,rfl,?_⟩
  rw[yj]
  exact⟨fun h=>⟨hp,om⟩,fun h=>om⟩
 ·rw[h2 hp]
  exact noC <| (fun h=>absurd h.1 hp)
open Classical in
theorem zfv (hb:Small b):F_q1t b=some (decide (Val b)):=by
 simp only[F_q1t,S_q1t,Scr.den,zi]
 obtain⟨C1,e1,c1⟩:=z88 hb.1.1 (body:=fun i s=>(S_qu_b1 b i s).den) (F:=F_q19 b) (fun i s=>rfl) _ (fun i hi=>resP hb hi)
 have e1:F_qu b (b.B.length:Int)=some C1:=e1
 rw[e1,obind]
 by_cases hR:(∀ i,i<b.B.length->RFld (b.B.getD i dF) (i+1)/\0<=leftV b (b.B.getD i dF))/\b.B.length<=200
 ·have hRA:RAll b:=fun i hi=>(hR.1 i hi).1
  obtain⟨C2,e2,c2⟩:=z88 hb.1.2.1 (body:=fun i s=>(S_qv_b1 b i s).den) (F:=F_q1a b) (fun i s=>rfl) _ (fun i hi=>comP hb hi)
  have e2:F_qv b (b.D.length:Int)=some C2:=e2
  rw[c1.mpr hR,Gg,e2,obind]
  by_cases hC:(∀ i,i<b.D.length->CFld b (b.D.getD i dF) (i+1)/\0<=restV b (b.D.getD i dF))/\b.D.length<=200
  ·have hCA:CAll b:=fun i hi=>(hC.1 i hi).1
   obtain⟨C3,e3,c3⟩:=z88 hb.1.2.2.1 (body:=fun i s=>(S_qx_b1 b i s).den) (F:=F_q1b b) (fun i s=>rfl) _ (fun i hi=>verP hb hRA hCA hi)
   have e3:F_qx b (b.F.length:Int)=some C3:=e3
   rw[c2.mpr hC,Gg,e3,obind]
   by_cases hV:VAll b/\b.F.length<=200
   ·obtain⟨C4,e4,c4⟩:=z88 hb.1.2.2.2 (body:=fun i s=>(S_qy_b1 b i s).den) (F:=F_q1c b) (fun i s=>rfl) _ (fun i hi=>ordP hb hRA hCA hV.1 hi)
    have e4:F_qy b (b.I.length:Int)=some C4:=e4
    rw[c3.mpr hV,Gg,e4,obind]
    congr 1
    rw[y1r,yj]
    simp only[Bool.and_self,Bool.true_and]
    rw[c4]
    refine⟨fun h=>⟨hRA,hCA,fun r hr=>?_,hV.1,fun r hr=>?_,h.1,hR.2,hC.2,hV.2,h.2⟩,fun h=>⟨h.2.2.2.2.2.1,h.2.2.2.2.2.2.2.2.2⟩⟩
    ·obtain⟨i,hi,e⟩:=z7b hr
     rw[<- e]; exact (hR.1 i hi).2
    ·obtain⟨i,hi,e⟩:=z7b hr
     rw[<- e]; exact (hC.1 i hi).2
   ·have:C3=false:=Bool.eq_false_iff.mpr fun h=>hV (c3.mp h)
    rw[this,Gh,obind]
    rw[y11 (fun h:Val b=>hV ⟨h.2.2.2.1,h.2.2.2.2.2.2.2.2.1⟩)]
    rfl
  ·have:C2=false:=Bool.eq_false_iff.mpr fun h=>hC (c2.mp h)
   rw[this,Gh,obind,Gh,obind]
   rw[y11 (fun h:Val b=>hC ⟨fun i hi=>⟨h.2.1 i hi,h.2.2.2.2.1 _ (z1a hi)⟩,h.2.2.2.2.2.2.2.1⟩)]
   rfl
 ·have:C1=false:=Bool.eq_false_iff.mpr fun h=>hR (c1.mp h)
  rw[this,Gh,obind,Gh,obind,Gh,obind]
  rw[y11 (fun h:Val b=>hR ⟨fun i hi=>⟨h.1 i hi,h.2.2.1 _ (z1a hi)⟩,h.2.2.2.2.2.2.1⟩)]
  rfl
section
open Classical
end
theorem RAll.mem (h:RAll b) {r:TRe} (hr:r∈b.B):RFld r r.H/\r=rAt b r.H/\1<=r.H/\r.H<=b.B.length:=by
 obtain⟨i,hi,e⟩:=z7b hr
 have h1:=h i hi
 rw[e] at h1
 have hn:=h1.1
 rw[hn]
 refine⟨h1,?_,om,om⟩
 unfold rAt
 rw[<- e]
 congr 1
 omega
def TapeOk (s:TTape):Prop:=0<=s.at_/\s.l.length<=500/\s.at_<=s.l.length
theorem zfw (t:List Int):∃ s,F_qz t=some s/\TapeOk s:=by
 simp only[F_qz,S_qz,Scr.den]
 refine⟨_,z99 ⟨?_,?_,trivial⟩ rfl,sj,?_,sj⟩
 ·split <;> omega
 ·split <;> omega
 ·simp only[y3f]
  split <;> omega
variable {s:TTape}
theorem z5p (hs:TapeOk s) (h1:1<=n) (hn:n<=4611686018427387904):∃ v s',F_qp n s=some (v,s')/\TapeOk s'/\0<=v/\v<n:=by
 obtain⟨a1,a2,a3⟩:=hs
 simp only[F_qp,S_qp,Scr.den]
 by_cases hc:s.at_>=(s.l.length:Int)
 ·rw[y5 (by simp[hc])]
  exact⟨0,s,rfl,⟨a1,a2,a3⟩,om,om⟩
 ·rw[y3 sk]
  have e1:i64.wrap (s.at_+1)=s.at_+1:=wrapId om om
  rw[e1,Gc]
  generalize s.l.getD s.at_.toNat dF=x
  have t1:x.tmod n<n:=Int.tmod_lt_of_pos x om
  have t2:-n<x.tmod n:=Int.lt_tmod_of_pos x om
  have e3:i64.wrap (x.tmod n+n)=x.tmod n+n:=wrapId om om
  rw[e3]
  have ht:TapeOk ⟨s.l,s.at_+1⟩:=⟨by simp only; omega,a2,by simp only; omega⟩
  split
  ·rename_i h
   simp only[yj] at h
   exact⟨_,_,rfl,ht,om,om⟩
  ·rename_i h
   simp only[yj] at h
   exact⟨_,_,rfl,ht,om,om⟩
theorem z1n {lo hi:Int} (hs:TapeOk s) (h0:-1000000000000000<=lo) (h1:lo<=hi) (h2:hi<=1000000000000000):∃ v s',F_qd lo hi s=some (v,s')/\TapeOk s'/\lo<=v/\v<=hi:=by
 simp only[F_qd,S_qd,Scr.den]
 rw[wrapId (n:=hi-lo) om om,wrapId (n:=hi-lo+1) om om]
 obtain⟨v,s',h3,h4,h5,h6⟩:=z5p (n:=hi-lo+1) hs om om
 refine⟨lo+v,s',?_,h4,om,om⟩
 rw[h3,obind]
 simp only
 rw[wrapId (n:=lo+v) om om]
theorem zav (hs:TapeOk s):∃ c s',F_q1i s=some (c,s')/\TapeOk s'/\c.length<=60/\good c=true:=by
 simp only[F_q1i,S_q1i,Scr.den]
 obtain⟨v,s',h3,h4,h5,h6⟩:=z5p (n:=3) hs om om
 have h:∀ c∈([[49],[49,46,50],[50]]:List Y8),c.length<=60/\good c=true:=dk
 refine⟨_,s',?_,h4,h _ (z1a (show v.toNat<3 from om))⟩
 rw[h3,obind,z6 ⟨by simpa using h5,by simp only; omega,trivial⟩]
def RtOk (r:TRi):Prop:=good r.K=true/\(0<=r.O/\r.O<=99)/\(0<=r.V/\r.V<=1000000000000000)/\(0<=r.Y/\r.Y<=1000000000000000)/\(0<=r.W/\r.W<=r.V)
instance (r:TRi):Decidable (RtOk r):=inferInstanceAs (Decidable (_/\_))
theorem z45 (n a b:Int):F_q12 n a b=some (decide (a<=n/\n<=b)):=by
 simp only[F_q12,S_q12,Scr.den,zi,y2i,Bool.decide_and]
theorem z89 (n:Int):F_q1d n=some (decide (0<=n/\n<=1000000000000000)):=by
 simp only[F_q1d,S_q1d,Scr.den,z45,obind]
variable {r:TRi}
theorem z8a (h:r.K.length<=1000000):F_q1u r=some (decide (RtOk r)):=by
 open Classical in simp only[F_q1u,S_q1u,F_q26,S_q26,Scr.den,z3u (show r.K.length<=1099511627776 from om),z45,z89,z1r,obind,zi,z2s]
 refine y1y some ?_
 have e:decide (((parts r.K).length:Int)>0)=good r.K:=by rw[<- z3l]; rw[y1r]; simp
 rw[e,y1r]
 simp only[RtOk,ye,yj,and_assoc]
theorem zfx [Inhabited α] (l:List α) (p:α->Bool) (v:Nat->ρ) (hs:∀ i,i<l.length->body i ()=some (if p (l.getD i dF)=true then .ret (v i) else .cont ())) :
  rangeM body l.length 0 ()=some (if l.any p=true then .ret (v (l.findIdx p)) else .next ()):=by
 have key:∀ (k i:Nat),i+k=l.length->rangeM body k i ()=some (if (l.drop i).any p=true then .ret (v (i+(l.drop i).findIdx p)) else .next ()):=by
  intro k
  induction k with
  | zero=>intro i hk; rw[y1s om]; rfl
  | succ k ih =>
   intro i hk
   have hi:i<l.length:=om
   have e:l.getD i dF=l[i]:=by simp[List.getD_eq_getElem?_getD,List.getElem?_eq_getElem hi]
   rw[y1t hi]
   simp only[rangeM,hs i hi,e,List.any_cons,List.findIdx_cons]
   cases hp:p l[i] with
   | true=>simp
   | false =>
    simp only[y29,y3g,Bool.false_or,cond_false]
    rw[ih (i+1) om,show i+1+(l.drop (i+1)).findIdx p=i+((l.drop (i+1)).findIdx p+1) from om]
 have:=key l.length 0 om
 simpa using this
def isR (c:Y8) (y:Int) (r:TRi):Bool:=r.K==c&&r.O==y
variable {y:Int}
theorem zha {c:Y8}:isR c y r=true↔r.K=c/\r.O=y:=by simp[isR]
def hasR (l:List TRi) (c:Y8) (y:Int):Bool:=l.any (isR c y)
def rix (l:List TRi) (c:Y8) (y:Int):Nat:=l.findIdx (isR c y)
def rightV (l:List TRi) (c:Y8) (y:Int):TRi:=if hasR l c y=true then l.getD (rix l c y) dF else ⟨c,y,0,0,0⟩
def unusedV (o:TOf) (c:Y8) (y:Int):Int:=i64.wrap (i64.wrap ((rightV o.S c y).V-(rightV o.S c y).W)-usedV o.L c y)
theorem zi7 {l:List TRi} {c:Y8} (h:hasR l c y=true):rix l c y<l.length/\(l.getD (rix l c y) dF).K=c/\(l.getD (rix l c y) dF).O=y:=by
 have hlt:rix l c y<l.length:=by
  unfold rix
  rw[List.findIdx_lt_length]
  simpa [hasR] using h
 refine⟨hlt,?_⟩
 have:=List.findIdx_getElem (xs:=l) (p:=isR c y) (w:=hlt)
 rw[zha] at this
 rw[show l.getD (rix l c y) dF=l[rix l c y] by simp[List.getD_eq_getElem?_getD,List.getElem?_eq_getElem hlt]]
 exact this
theorem zc5 (o:TOf) (c:Y8) (y:Int):F_q1f o c y=some (if hasR o.S c y=true then (rix o.S c y:Int) else -1):=by
 simp only[F_q1f,S_q1f,F_qs,S_qs,Scr.den]
 rw[zfx o.S (isR c y) (fun i=>(i:Int))]
 ·unfold hasR
  by_cases h:o.S.any (isR c y)=true
  ·rw[y5 h,y5 h]; rfl
  ·rw[y3 h,y3 h]; rfl
 ·intro i hi
  simp only[S_qs_b1,F_q28,S_q28,Scr.den,obind,zi]
  unfold isR
  split <;> rfl
theorem zi8 (o:TOf) (c:Y8) (y:Int):F_q1z o c y=some (hasR o.S c y):=by
 simp only[F_q1z,S_q1z,Scr.den,zc5,obind]
 cases h:hasR o.S c y
 ·simp
 ·simp
theorem zfy (o:TOf) (c:Y8) (y:Int):F_q20 o c y=some (rightV o.S c y):=by
 simp only[F_q20,S_q20,Scr.den,zc5,obind,rightV]
 by_cases h:hasR o.S c y=true
 ·have:=(zi7 h).1
  simp only[y5 h,yl]
  rw[y5 sj,Gb]
 ·simp only[y3 h]
  rw[y3 dk]
theorem zet (o:TOf) (c:Y8) (y:Int):F_q21 o c y=some (unusedV o c y):=by
 simp only[F_q21,S_q21,Scr.den,zfy,zh7,obind,unusedV]
def SmO (o:TOf):Prop:=Small o.L/\o.S.length<=1000000/\∀ r∈o.S,r.K.length<=1000000
def Srt (l:List TRi):Prop:=∀ i,i<l.length->i=0\/cmpR (l.getD (i-1) dF) (l.getD i dF)<0
def VO (o:TOf):Prop:=(1<=o.H/\o.H<=6)/\o.S.length<=60/\Val o.L/\(∀ r∈o.S,RtOk r)/\Srt o.S/\∀ x∈o.L.B,hasR o.S x.K x.O=true/\0<=unusedV o x.K x.O
theorem zfz (i:Nat) (hi:i<9223372036854775808):(i64.wrap ((i:Int)-1)).toNat=i-1:=by rw[wrapId om om]; omega
variable {o:TOf}
theorem z47 (hs:SmO o) (hi:i<o.S.length) :
  (S_q2_b1 o i ()).den=if RtOk (o.S.getD i dF)/\(i=0\/cmpR (o.S.getD (i-1) dF) (o.S.getD i dF)<0) then some (.cont ()) else some (.ret false):=by
 have h1:=hs.2.2 _ (z1a hi)
 have h2:=hs.2.2 _ (z1a (l:=o.S) (i:=i-1) om)
 have hl:=hs.2.1
 simp only[S_q2_b1,Scr.den,zfz i (show i<9223372036854775808 from om)]
 generalize o.S.getD i dF=r at h1 |-
 generalize o.S.getD (i-1) dF=r' at h2 |-
 simp only[z8a h1,z7g h2 h1,obind,zi,z1k]
 by_cases hR:RtOk r
 ·by_cases h0:i=0
  ·subst h0
   rw[Gh,obind,z6 ⟨fun h=>by simp[AllP] at h,fun h=>by simp[AllP] at h,trivial⟩,y3 (by simp[hR]),y5 ⟨hR,.inl rfl⟩]
  ·rw[zw (by exact⟨sk,by simp[hR],trivial⟩),obind,z6 ⟨fun _=>by rw[wrapId om om]; omega,fun _=>om,trivial⟩]
   by_cases hc:cmpR r' r<0
   ·rw[y3 (by intro h; simp[hR] at h; exact absurd hc (Int.not_lt.2 h.2)),y5 ⟨hR,.inr hc⟩]
   ·rw[y5 (by simp[hR]; exact⟨om,Int.not_lt.1 hc⟩),y3 (fun h=>h.2.elim h0 hc)]
 ·rw[z1b (by simp[AllP,hR]),obind,z6 ⟨fun h=>by simp[AllP,hR] at h,fun h=>by simp[AllP,hR] at h,trivial⟩,y5 (by simp[hR]),y3 (fun h=>hR h.1)]
theorem z48 (o:TOf) (i:Nat) :
  (S_q2_b2 o i ()).den=if hasR o.S (o.L.B.getD i dF).K (o.L.B.getD i dF).O=true/\0<=unusedV o (o.L.B.getD i dF).K (o.L.B.getD i dF).O then some (.cont ()) else some (.ret false):=by
 simp only[S_q2_b2,Scr.den,zi8,zet,obind,z1k]
 generalize o.L.B.getD i dF=r
 by_cases hh:hasR o.S r.K r.O=true
 ·rw[zw (by exact⟨by simp[hh],trivial⟩),obind]
  by_cases hu:0<=unusedV o r.K r.O
  ·rw[y3 (by intro h; simp[hh] at h; exact absurd hu (Int.not_le.2 h)),y5 ⟨hh,hu⟩]
  ·rw[y5 (by simp[hh]; exact Int.not_le.1 hu),y3 (fun h=>hu h.2)]
 ·rw[z1b (by simp[AllP,hh]),obind,y5 (by simp[hh]),y3 (fun h=>hh h.1)]
theorem z8b [Inhabited α] {l:List α} {p:α->Prop} (h:∀ i,i<l.length->p (l.getD i dF)):∀ x∈l,p x:=fun x hx=>by
 obtain⟨i,hi,rfl⟩:=y2r hx
 have:=h i hi
 rwa [show l.getD i dF=l[i] by simp[List.getD_eq_getElem?_getD,List.getElem?_eq_getElem hi]] at this
open Classical in
theorem z8s (hs:SmO o):F_q2 o=some (decide (VO o)):=by
 simp only[F_q2,S_q2,Scr.den,zfv hs.1,z1r,obind,z1k,z86]
 by_cases h0:(1<=o.H/\o.H<=6)/\o.S.length<=60/\Val o.L
 ·obtain⟨⟨a1,a2⟩,a3,a4⟩:=h0
  rw[y3 (by simp[a4]; omega)]
  by_cases h1:∀ j,j<o.S.length->RtOk (o.S.getD j dF)/\(j=0\/cmpR (o.S.getD (j-1) dF) (o.S.getD j dF)<0)
  ·rw[(z1m _ (fun i hi h=>by rw[z47 hs hi,y5 h]) (fun i hi h=>by rw[z47 hs hi,y3 h])).1 h1]
   simp only[outM]
   by_cases h2:∀ j,j<o.L.B.length->hasR o.S (o.L.B.getD j dF).K (o.L.B.getD j dF).O=true/\0<=unusedV o (o.L.B.getD j dF).K (o.L.B.getD j dF).O
   ·rw[(z1m _ (fun i hi h=>by rw[z48 o i,y5 h]) (fun i hi h=>by rw[z48 o i,y3 h])).1 h2]
    simp only
    rw[y15 ⟨⟨a1,a2⟩,a3,a4,z8b fun i hi=>(h1 i hi).1,fun i hi=>(h1 i hi).2,z8b h2⟩]
   ·rw[(z1m _ (fun i hi h=>by rw[z48 o i,y5 h]) (fun i hi h=>by rw[z48 o i,y3 h])).2 h2]
    simp only
    rw[y11 (fun h=>h2 fun j hj=>h.2.2.2.2.2 _ (z1a hj))]; rfl
  ·rw[(z1m _ (fun i hi h=>by rw[z47 hs hi,y5 h]) (fun i hi h=>by rw[z47 hs hi,y3 h])).2 h1]
   simp only[outM]
   rw[y11 (fun h=>h1 fun j hj=>⟨h.2.2.2.1 _ (z1a hj),h.2.2.2.2.1 j hj⟩)]; rfl
 ·rw[y5,y11 (fun h=>h0 ⟨h.1,h.2.1,h.2.2.1⟩)]
  simp only[y1c,yj,y1d,y19]
  by_cases hv:Val o.L
  ·left
   have:¬ ((1<=o.H/\o.H<=6)/\o.S.length<=60):=fun h=>h0 ⟨h.1,h.2,hv⟩
   omega
  ·exact .inr hv
def tot (n:Int):Prop:=0<=n/\n<=1000000000000000
instance (n:Int):Decidable (tot n):=inferInstanceAs (Decidable (_/\_))
theorem zc6 [Inhabited α] {l:List α} (hi:i<l.length):l.getD i dF=l[i]:=by simp[List.getD_eq_getElem?_getD,List.getElem?_eq_getElem hi]
theorem RtOk.len (h:RtOk r):r.K.length<=1000000:=by have:=z7e h.1; omega
theorem VO.ok (h:VO o):∀ x∈o.S,RtOk x:=h.2.2.2.1
theorem VO.val (h:VO o):Val o.L:=h.2.2.1
theorem VO.len (h:VO o):o.S.length<=60:=h.2.1
theorem VO.smO (h:VO o):SmO o:=by
 have h1:=h.val
 have h2:=h1.2.2.2.2.2.2
 refine⟨⟨⟨om,om,om,om⟩,fun r hr=>?_⟩,by have:=h.len; omega,fun r hr=>(h.ok r hr).len⟩
 have:=z7e (h1.1.mem hr).1.2.1
 omega
def numP (n:Int):Prop:=1<=n/\n<=1000000
instance (n:Int):Decidable (numP n):=inferInstanceAs (Decidable (_/\_))
instance (n:Int):Decidable (dayP n):=inferInstanceAs (Decidable (_/\_))
def WPl (w:TWa):Prop:=(numP w.H/\numP w.C/\numP w.E/\numP w.A/\numP w.M/\numP w.Q)/\(1<=w.G/\w.G<=6)/\good w.K=true/\(0<=w.O/\w.O<=99)/\(1<=w.J/\w.J<=1000000000000)/\dayP w.N/\dayP w.T
instance (w:TWa):Decidable (WPl w):=by unfold WPl; infer_instance
theorem z6f (a b c:Int):F_ql a b c=some (decide (b<=a/\a<=c)):=by
 simp only[F_ql,S_ql,Scr.den,zi]
 congr 1
 rw[y1r]
 simp only[ye,yj,y2i]
theorem z7h (n:Int):F_q14 n=some (decide (numP n)):=by
 simp only[F_q14,S_q14,Scr.den,z6f,obind]
 rfl
theorem zil (n:Int):F_q15 n=some (decide (dayP n)):=by
 simp only[F_q15,S_q15,Scr.den,z6f,obind]
 rfl
theorem zc7 (n:Int):F_q1j n=some (decide (numP n)):=by
 simp only[F_q1j,S_q1j,Scr.den,zi]
 congr 1
 rw[y1r]
 simp only[ye,yj,y2i]
 exact Iff.rfl
variable {p:Int->Prop} {a:Int}
theorem zd2 {b c e f:Int}:(∀ j,j<6->p (([a,b,c,d,e,f]:List Int).getD j dF))↔(p a/\p b/\p c/\p d/\p e/\p f) :=
 ⟨fun h=>⟨h 0 om,h 1 om,h 2 om,h 3 om,h 4 om,h 5 om⟩,fun⟨h0,h1,h2,h3,h4,h5⟩ j hj=>by
  match j,hj with
  | 0,_=>exact h0
  | 1,_=>exact h1
  | 2,_=>exact h2
  | 3,_=>exact h3
  | 4,_=>exact h4
  | 5,_=>exact h5
  | n+6,h=>omega⟩
theorem zi9 {b:Int}:(∀ j,j<2->p (([a,b]:List Int).getD j dF))↔(p a/\p b) :=
 ⟨fun h=>⟨h 0 om,h 1 om⟩,fun⟨h0,h1⟩ j hj=>by
  match j,hj with
  | 0,_=>exact h0
  | 1,_=>exact h1
  | n+2,h=>omega⟩
theorem zeu (a:Bool) (x d:List Int) [Decidable (AllP [a=true])]:(a&&decide (((if AllP [a=true] then x else d).length:Int)>0))=(a&&decide ((x.length:Int)>0)):=by
 cases a <;> simp[AllP]
variable {w:TWa}
theorem z7i (hc:w.K.length<=1000000):F_q5 w=some (decide (WPl w)):=by
 simp only[F_q5,S_q5,Scr.den]
 have ra:=z1m (ρ:=Bool) (n:=6) (c:=false) (body:=fun i s=>(S_q5_b1 w i s).den) (fun i=>numP (([w.H,w.C,w.E,w.A,w.M,w.Q]:List Int).getD i dF)) (fun i hi hp=>by
  simp only[S_q5_b1,Scr.den,z7h,obind]
  rw[y15 hp]
  rfl) (fun i hi hp=>by
  simp only[S_q5_b1,Scr.den,z7h,obind]
  rw[y11 hp]
  rfl)
 by_cases h6:∀ j,j<6->numP (([w.H,w.C,w.E,w.A,w.M,w.Q]:List Int).getD j dF)
 ·rw[ra.1 h6]
  have h6':=zd2.1 h6
  open Classical in simp only[outM,z3u (show w.K.length<=1099511627776 from om),z6f,zil,z1r,obind,zi,z2s,zeu]
  refine y1y some ?_
  have e:decide (((parts w.K).length:Int)>0)=good w.K:=by rw[<- z3l]; rw[y1r]; simp
  rw[e,y1r]
  simp only[ye,yj]
  exact⟨fun⟨⟨⟨⟨⟨a,b⟩,c⟩,d⟩,f⟩,g⟩=>⟨h6',a,b,c,d,f,g⟩,fun⟨_,a,b,c,d,f,g⟩=>⟨⟨⟨⟨⟨a,b⟩,c⟩,d⟩,f⟩,g⟩⟩
 ·rw[ra.2 h6]
  show some false=_
  rw[y11 fun h:WPl w=>h6 (zd2.2 h.1)]
theorem z2x (hc:w.K.length<=1000000):F_q0 w=some (decide (WPl w)):=by
 simp only[F_q0,S_q0,Scr.den]
 have ra:=z1m (ρ:=Bool) (n:=6) (c:=false) (body:=fun i s=>(S_q0_b1 w i s).den) (fun i=>numP (([w.H,w.C,w.E,w.A,w.M,w.Q]:List Int).getD i dF)) (fun i hi hp=>by
  simp only[S_q0_b1,Scr.den,zc7,obind]
  rw[y15 hp]
  rfl) (fun i hi hp=>by
  simp only[S_q0_b1,Scr.den,zc7,obind]
  rw[y11 hp]
  rfl)
 have rb:=z1m (ρ:=Bool) (n:=2) (c:=false) (body:=fun i s=>(S_q0_b2 w i s).den) (fun i=>dayP (([w.N,w.T]:List Int).getD i dF)) (fun i hi hp=>by
  simp only[S_q0_b2,Scr.den,z1k]
  unfold dayP at hp
  rw[y3 (by simp only[y1c,yj]; omega)]) (fun i hi hp=>by
  simp only[S_q0_b2,Scr.den,z1k]
  unfold dayP at hp
  rw[y5 (by simp only[y1c,yj]; omega)])
 by_cases h6:∀ j,j<6->numP (([w.H,w.C,w.E,w.A,w.M,w.Q]:List Int).getD j dF)
 ·rw[ra.1 h6]
  have h6':=zd2.1 h6
  simp only[outM]
  by_cases h2:∀ j,j<2->dayP (([w.N,w.T]:List Int).getD j dF)
  ·rw[rb.1 h2]
   have h2':=zi9.1 h2
   open Classical in simp only[outM,zbj (show w.K.length<4611686018427387904 from om),z1r,obind,zi,z2s]
   refine y1y some ?_
   rw[y1r]
   simp only[ye,yj,y2i]
   exact⟨fun⟨⟨⟨⟨⟨a,b⟩,c⟩,d⟩,f⟩,g⟩=>⟨h6',a,b,⟨c,d⟩,⟨f,g⟩,h2'⟩,fun⟨_,a,b,c,d,f⟩=>⟨⟨⟨⟨⟨a,b⟩,c.1⟩,c.2⟩,d.1⟩,d.2⟩⟩
  ·rw[rb.2 h2]
   show some false=_
   rw[y11 fun h:WPl w=>h2 (zi9.2 h.2.2.2.2.2)]
 ·rw[ra.2 h6]
  show some false=_
  rw[y11 fun h:WPl w=>h6 (zd2.2 h.1)]
theorem WPl.len (h:WPl w):w.K.length<=60:=by have:=z7e h.2.2.1; omega
theorem z2e (h0:-9223372036854775808<=n) (h1:n<=9223372036854775807):F_q2a n=some (Lib.itoa n):=z6 ⟨h0,h1⟩
def zf (w:TWa):List Int:=[w.O,w.C,w.E,w.A,w.M,w.J,w.Q,w.N,w.T]
def headV (w:TWa):List Y8:=[[119,97,114,114,97,110,116],Lib.itoa w.H,Lib.itoa w.G,w.K]
def bytesV (w:TWa):Y8:=Lib.join (headV w++(zf w).map Lib.itoa) [32]
def smI (n:Int):Prop:=-9223372036854775808<=n/\n<=9223372036854775807
theorem WPl.rest (h:WPl w):∀ x∈zf w,smI x:=by
 obtain⟨⟨a,b,c,d,e,f⟩,g,_,i,j,k,l⟩:=h
 unfold numP at a b c d e f
 unfold dayP at k l
 intro x hx
 simp only[zf,yu,y2m,or_false] at hx
 unfold smI
 rcases hx with rfl | rfl | rfl | rfl | rfl | rfl | rfl | rfl | rfl <;> omega
theorem z5q {B:Nat} {s:Y8}:∀ {l:List Y8},(∀ x∈l,x.length<=B)->(Lib.joinTail s l).length<=l.length * (s.length+B)
 | [],_=>by simp[Lib.joinTail]
 | x :: l,h=>by
  have h1:=h x sj
  have h2:=z5q (s:=s) (l:=l) fun y hy=>h y (by simp[hy])
  have e:Lib.joinTail s (x :: l)=(s++x)++Lib.joinTail s l:=by simp[Lib.joinTail]
  rw[e,yh,yh,yc,yw]
  omega
theorem z2y (h:WPl w):(bytesV w).length<=2000:=by
 have hn:smI w.H/\smI w.G:=by
  obtain⟨⟨a,_⟩,g,_⟩:=h
  unfold numP at a
  unfold smI
  omega
 have h1:∀ x,smI x->(Lib.itoa x).length<=60:=fun x hx=>by have:=Lib.itoa_length_le x hx.1 hx.2; omega
 have hl:=h.len
 show (Lib.join ([119,97,114,114,97,110,116] :: ([Lib.itoa w.H,Lib.itoa w.G,w.K]++(zf w).map Lib.itoa)) [32]).length<=_
 rw[Lib.join_cons,yh]
 have:=z5q (B:=60) (s:=[32]) (l:=[Lib.itoa w.H,Lib.itoa w.G,w.K]++(zf w).map Lib.itoa) (fun x hx=>by
  rcases y1w.1 hx with hx | hx
  ·simp only[yu,y2m,or_false] at hx
   rcases hx with rfl | rfl | rfl
   ·exact h1 _ hn.1
   ·exact h1 _ hn.2
   ·exact hl
  ·obtain⟨y,hy,rfl⟩:=y14.1 hx
   exact h1 _ (h.rest y hy))
 simp only[yh,yc,yp,y1i,zf] at this |-
 omega
variable {β:Type}
theorem z55 [Inhabited α] {f:α->β} {l:List α} (h:i<l.length):(l.take (i+1)).map f=(l.take i).map f++[f (l.getD i dF)]:=by
 rw[<- List.take_append_getElem h,List.map_append,zc6 h]
 rfl
theorem z7j (h:WPl w):F_q7 w=some (bytesV w):=by
 have hl:=h.len
 have hn:smI w.H/\smI w.G:=by
  obtain⟨⟨a,_⟩,g,_⟩:=h
  unfold numP at a
  unfold smI
  omega
 have hb:=z2y h
 simp only[F_q7,S_q7,Scr.den,z7i (show w.K.length<=1000000 from om),obind,y15 h]
 rw[y3 dk,z2e hn.1.1 hn.1.2]
 simp only[obind]
 rw[z2e hn.2.1 hn.2.2]
 simp only[obind]
 obtain⟨s,e,h1⟩:=z3j (body:=fun i s=>(S_q7_b1 w i s).den) (n:=9) (fun i s=>s=headV w++((zf w).take i).map Lib.itoa) (s0:=headV w) sj (fun i s hi hI=>by
  subst hI
  have hr:smI ((zf w).getD i dF):=h.rest _ (z1a (by simpa [zf] using hi))
  simp only[S_q7_b1,Scr.den]
  rw[show ([w.O,w.C,w.E,w.A,w.M,w.J,w.Q,w.N,w.T]:List Int)=zf w from rfl,z2e hr.1 hr.2]
  simp only[obind]
  rw[z6 (by simp only[AllP,y2z,yh,y1i,y3f,headV,zf,yc,yp]; omega)]
  refine⟨_,rfl,?_⟩
  rw[z55 (by simpa [zf] using hi),yy])
 subst h1
 rw[show ([[119,97,114,114,97,110,116],Lib.itoa w.H,Lib.itoa w.G,w.K]:List Y8)=headV w from rfl,e]
 simp only[outM]
 have e9:(zf w).take 9=zf w:=rfl
 rw[e9,z6 (by simp only[AllP,y2z,yh,y1i,headV,zf,yc,yp]; omega),show F_q2f _ _=some (bytesV w) from z6 ⟨by simp[headV],by simp[headV,zf],by show (bytesV w).length<=_; omega⟩]
 rfl
def hstep (h:Int) (c:UInt8):Int:=IntKind.u64.wrap ((IntKind.u64.wrap ((BitVec.ofInt IntKind.u64.bits h ^^^ BitVec.ofInt IntKind.u64.bits (IntKind.u64.wrap ((c.toNat:Int)))).toNat:Int)) * 1099511628211)
def hashV (l:Y8):Int:=l.foldl hstep 14695981039346656037
theorem z8t (hl:l.length<9223372036854775808):F_q6 l=some (hashV l):=by
 simp only[F_q6,S_q6,Scr.den]
 rw[Ge,z3b (ρ:=Int) (body:=fun i s=>(S_q6_b1 l i s).den) l hstep (fun i s hi=>rfl)]
 rfl
def kb (key:Int) (j:Nat):Int:=IntKind.u8.wrap (key.fdiv (2 ^ (min (i64.wrap (56-(i64.wrap (8 * (j:Int))))).toNat IntKind.u64.bits)))
def keyB (key:Int):Y8:=(List.range 8).map fun j=>UInt8.ofNat (kb key j).toNat
def sigV (key:Int) (w:TWa):Int:=hashV (keyB key++bytesV w)
theorem zaw (h:WPl w) (key:Int):F_q9 key w=some (sigV key w):=by
 have hb:=z2y h
 simp only[F_q9,S_q9,Scr.den]
 obtain⟨s,e,h1⟩:=z3j (body:=fun i s=>(S_q9_b1 key i s).den) (n:=8) (fun i s=>∀ j,j<i->s j=kb key j) (s0:=fun _=>0) (fun j hj=>om) (fun i s hi hI=>by
  simp only[S_q9_b1,Scr.den]
  rw[z6 (by
   simp only[AllP,y2z]
   rw[wrapId (n:=8 * (i:Int)) om om,wrapId (n:=56-8 * (i:Int)) om om]
   omega)]
  refine⟨_,rfl,fun j hj=>?_⟩
  by_cases e:j=i
  ·subst e; rw[y5 rfl]; rfl
  ·rw[y3 e]; exact hI j om)
 rw[e]
 simp only[outM,z7j h,obind]
 have e2:((List.range 8).map fun j=>UInt8.ofNat (s j).toNat)=keyB key:=y2p fun j hj=>by rw[h1 j (y1q.1 hj)]
 rw[e2,z8t (by simp only[yh,keyB,y1i,y2e]; omega)]
 simp only[obind]
 rw[z6 (by simp only[AllP,y2z,keyB,y1i,y2e]; omega)]
 rfl
def zW:TWa:=⟨0,0,[],0,0,0,0,0,0,0,0,0,0,0⟩
def zh (w:TWa) (x:Int):TWa:=⟨w.H,w.G,w.K,w.O,w.A,w.M,w.E,w.C,w.J,w.Q,w.N,w.T,x,w.R⟩
def zq (w:TWa) (x:Int):TWa:=⟨w.H,w.G,w.K,w.O,w.A,w.M,w.E,w.C,w.J,w.Q,w.N,w.T,w.P,x⟩
def signV (keys:List Int) (w:TWa) (b:Bool):TWa×Int :=
 if ¬ WPl w then (zW,1) else
 if b=false/\2 * (w.G-1)<(keys.length:Int) then (zh w (sigV (keys.getD (2 * (w.G-1)).toNat dF) w),0) else
 if (keys.length:Int)<=2 * (w.G-1)+1 then (zW,6) else
 if w.P≠sigV (keys.getD (2 * (w.G-1)).toNat dF) w then (zW,18) else
 (zq w (sigV (keys.getD (2 * (w.G-1)+1).toNat dF) w),0)
theorem z2t (hc:w.K.length<=1000000) (keys:List Int) (b:Bool):F_qa keys w b=some (signV keys w b):=by
 simp only[F_qa,S_qa,Scr.den,z7i hc,obind,zi]
 unfold signV
 by_cases h:WPl w
 ·have ho:=h.2.1
  rw[y15 h,y3 dk,y3 (show ¬ ¬ WPl w from fun k=>k h),wrapId (n:=w.G-1) om om,wrapId (n:=2 * (w.G-1)) om om,wrapId (n:=2 * (w.G-1)+1) om om]
  simp only[zaw h,obind]
  by_cases c1:b=false/\2 * (w.G-1)<(keys.length:Int)
  ·rw[y5 (by simp only[ye,y1d,yj]; exact c1),y5 c1,Ge]
   rfl
  ·rw[y3 (by simp only[ye,y1d,yj]; exact c1),y3 c1]
   by_cases c2:(keys.length:Int)<=2 * (w.G-1)+1
   ·rw[y5 (by simp only[yj,y2i]; exact c2),y5 c2]
    rfl
   ·rw[y3 (by simp only[yj,y2i]; exact c2),y3 c2,Ge]
    by_cases c3:w.P=sigV (keys.getD (2 * (w.G-1)).toNat dF) w
    ·rw[y3 (show ¬ (w.P != sigV (keys.getD (2 * (w.G-1)).toNat dF) w)=true by rw[<- c3]; simp),y3 (show ¬ w.P≠_ from fun k=>k c3),Ge]
     rfl
    ·rw[y5 (by simpa using c3),y5 c3]
     rfl
 ·rw[y11 h,y5 dk,y5 h]
  rfl
def checkV (keys:List Int) (w:TWa):Int:=if (signV keys w true).2=0/\(signV keys w true).1.R≠w.R then 18 else (signV keys w true).2
theorem z3v (hc:w.K.length<=1000000) (keys:List Int):F_qg keys w=some (checkV keys w):=by
 simp only[F_qg,S_qg,Scr.den,z2t hc,obind,zi]
 unfold checkV
 by_cases h:(signV keys w true).2=0/\(signV keys w true).1.R≠w.R
 ·rw[y5 (by simpa using h),y5 h]
 ·rw[y3 (by simpa using h),y3 h]
def mkW (o:TOf) (x:TOr) (n:Int):TWa :=
 ⟨n,o.H,(rAt o.L (cAt o.L (vAt o.L x.A).E).C).K,(rAt o.L (cAt o.L (vAt o.L x.A).E).C).O,(vAt o.L x.A).H,x.M,(cAt o.L (vAt o.L x.A).E).H,
  (rAt o.L (cAt o.L (vAt o.L x.A).E).C).H,(vAt o.L x.A).J,(cAt o.L (vAt o.L x.A).E).Q,x.N,(cAt o.L (vAt o.L x.A).E).T,0,0⟩
theorem ordF (hv:VO o) (hi:i<o.L.I.length):OFld o.L (o.L.I.getD i dF) (o.L.I.take i) (i+1):=hv.val.2.2.2.2.2.1 i hi
theorem zhb (hv:VO o) (hi:i<o.L.I.length) (hn:numP n) :
  F_q1g o ((i:Int)+1) n=some (if (o.L.I.getD i dF).X=true then (zW,9) else (mkW o (o.L.I.getD i dF) n,0)):=by
 have ho:=ordF hv hi
 obtain⟨hR,hC,_,hV,_,_,l1,l2,l3,l4⟩:=hv.val
 have e0:F_q2 o=some true:=(z8s hv.smO).trans (y1y some (@decide_eq_true _ (_) hv))
 simp only[F_q1g,S_q1g,Scr.den,e0,z6f,z7h,obind]
 have e1:i64.wrap ((i:Int)+1-1)=(i:Int):=by rw[wrapId om om]; omega
 rw[y3 dk,y3 sk,e1,yl,z6 ⟨om,hi,trivial⟩]
 generalize o.L.I.getD i dF=x at ho
 obtain⟨_,o2,_⟩:=ho
 obtain⟨v1,v2,_⟩:=hV.at o2
 obtain⟨c1,c2,_⟩:=hC.at v2
 cases hx:x.X with
 | true=>rw[y5 rfl,y5 rfl]; rfl
 | false =>
  rw[y3 (show ¬ false=true from dk),y3 (show ¬ false=true from dk),y15 hn,y3 (show ¬ (!true)=true from dk)]
  have w1:i64.wrap (x.A-1)=x.A-1:=wrapId om om
  rw[w1,Gb]
  have w2:i64.wrap ((o.L.F.getD (x.A-1).toNat dF).E-1)=(vAt o.L x.A).E-1:=wrapId (by show _<=(vAt o.L x.A).E-1; omega) (by show (vAt o.L x.A).E-1<_; omega)
  rw[w2,Gb]
  have w3:i64.wrap ((o.L.D.getD ((vAt o.L x.A).E-1).toNat dF).C-1)=(cAt o.L (vAt o.L x.A).E).C-1:=wrapId (by show _<=(cAt o.L (vAt o.L x.A).E).C-1; omega) (by show (cAt o.L (vAt o.L x.A).E).C-1<_; omega)
  rw[w3,Gb]
  rfl
def o19:TOf:=⟨1,[⟨[49],12,50,0,0⟩],⟨[⟨1,[49],12,4320,50,0⟩],[⟨1,1,4320,30,0,2,4400⟩],[⟨1,1,4330,30⟩],[⟨1,1,1,4340,false⟩]⟩⟩
theorem zev:good [49]=true:=kj
theorem zhc:Val o19.L:=by
 have hR:RAll o19.L:=fun i hi=>by
  obtain rfl:i=0:=by simpa [o19] using hi
  exact⟨rfl,zev,by decide +kernel,by decide +kernel,kj,by decide +kernel,by decide +kernel⟩
 have hC:CAll o19.L:=fun i hi=>by
  obtain rfl:i=0:=by simpa [o19] using hi
  exact⟨rfl,by decide +kernel,by decide +kernel,by decide +kernel,by decide +kernel,by decide +kernel,by decide +kernel,by decide +kernel,kj⟩
 refine⟨hR,hC,fun r hr=>?_,fun i hi=>?_,fun c hc=>?_,fun i hi=>?_,by decide +kernel,by decide +kernel,by decide +kernel,by decide +kernel⟩
 ·obtain rfl:r=⟨1,[49],12,4320,50,0⟩:=by simpa [o19] using hr
  decide +kernel
 ·obtain rfl:i=0:=by simpa [o19] using hi
  exact⟨rfl,by decide +kernel,by decide +kernel,by decide +kernel,by decide +kernel,by decide +kernel⟩
 ·obtain rfl:c=⟨1,1,4320,30,0,2,4400⟩:=by simpa [o19] using hc
  decide +kernel
 ·obtain rfl:i=0:=by simpa [o19] using hi
  exact⟨rfl,by decide +kernel,by decide +kernel,by decide +kernel,by decide +kernel,kj,kj⟩
theorem zia:VO o19:=by
 refine⟨by decide +kernel,by decide +kernel,zhc,fun r hr=>?_,fun i hi=>?_,fun x hx=>?_⟩
 ·obtain rfl:r=⟨[49],12,50,0,0⟩:=by simpa [o19] using hr
  exact⟨zev,by decide +kernel,by decide +kernel,by decide +kernel,by decide +kernel⟩
 ·obtain rfl:i=0:=by simpa [o19] using hi
  exact .inl rfl
 ·obtain rfl:x=⟨1,[49],12,4320,50,0⟩:=by simpa [o19] using hx
  exact⟨kj,by decide +kernel⟩
def zm:TWa:=⟨7,1,[49],12,1,1,1,1,30,2,4340,4400,0,0⟩
theorem z5r:WPl zm:=y3b kj
theorem zew:bytesV zm=[119,97,114,114,97,110,116,32,55,32,49,32,49,32,49,50,32,49,32,49,32,49,32,49,32,51,48,32,50,32,52,51,52,48,32,52,52,48,48]:=by
 have d1:∀ n:Nat,n<10->Lib.itoa n=[UInt8.ofNat (48+n)]:=fun n hn=>by
  unfold Lib.itoa
  rw[y3 om,yl,Lib.decDigits_one hn]
 have d2:∀ n:Nat,¬ n<10->Lib.itoa n=Lib.itoa (n / 10:Nat)++[UInt8.ofNat (48+n % 10)]:=fun n hn=>by
  unfold Lib.itoa
  rw[y3 om,y3 om,yl,yl,Lib.decDigits,dif_neg hn]
 have e1:Lib.itoa 1=[49]:=d1 1 dk
 have e2:Lib.itoa 2=[50]:=d1 2 dk
 have e3:Lib.itoa 3=[51]:=d1 3 dk
 have e4:Lib.itoa 4=[52]:=d1 4 dk
 have e7:Lib.itoa 7=[55]:=d1 7 dk
 have e12:Lib.itoa 12=[49,50]:=(d2 12 dk).trans (by rw[show ((12 / 10:Nat):Int)=1 from rfl,e1]; rfl)
 have e30:Lib.itoa 30=[51,48]:=(d2 30 dk).trans (by rw[show ((30 / 10:Nat):Int)=3 from rfl,e3]; rfl)
 have e43:Lib.itoa 43=[52,51]:=(d2 43 dk).trans (by rw[show ((43 / 10:Nat):Int)=4 from rfl,e4]; rfl)
 have e44:Lib.itoa 44=[52,52]:=(d2 44 dk).trans (by rw[show ((44 / 10:Nat):Int)=4 from rfl,e4]; rfl)
 have e434:Lib.itoa 434=[52,51,52]:=(d2 434 dk).trans (by rw[show ((434 / 10:Nat):Int)=43 from rfl,e43]; rfl)
 have e440:Lib.itoa 440=[52,52,48]:=(d2 440 dk).trans (by rw[show ((440 / 10:Nat):Int)=44 from rfl,e44]; rfl)
 have e4340:Lib.itoa 4340=[52,51,52,48]:=(d2 4340 dk).trans (by rw[show ((4340 / 10:Nat):Int)=434 from rfl,e434]; rfl)
 have e4400:Lib.itoa 4400=[52,52,48,48]:=(d2 4400 dk).trans (by rw[show ((4400 / 10:Nat):Int)=440 from rfl,e440]; rfl)
 have eh:headV zm=[[119,97,114,114,97,110,116],[55],[49],[49]]:=by
  show [[119,97,114,114,97,110,116],Lib.itoa 7,Lib.itoa 1,[49]]=_
  rw[e7,e1]
 have er:(zf zm).map Lib.itoa=[[49,50],[49],[49],[49],[49],[51,48],[50],[52,51,52,48],[52,52,48,48]]:=by
  show [Lib.itoa 12,Lib.itoa 1,Lib.itoa 1,Lib.itoa 1,Lib.itoa 1,Lib.itoa 30,Lib.itoa 2,Lib.itoa 4340,Lib.itoa 4400]=_
  rw[e12,e1,e30,e2,e4340,e4400]
 unfold bytesV
 rw[eh,er]
 decide +kernel
theorem z12 (w:TWa) (x:Int):(zh w x).P=x:=rfl
theorem z1s (w:TWa) (x:Int):(zq w x).P=w.P:=rfl
theorem z27 (w:TWa) (x:Int):(zq w x).R=x:=rfl
theorem z6w (w:TWa) (x y:Int):zq (zq w x) y=zq w y:=rfl
theorem z10 (k:Int) (w:TWa) (x:Int):sigV k (zh w x)=sigV k w:=by
 unfold sigV
 rw[show bytesV (zh w x)=bytesV w from rfl]
theorem z1o (k:Int) (w:TWa) (x:Int):sigV k (zq w x)=sigV k w:=by
 unfold sigV
 rw[show bytesV (zq w x)=bytesV w from rfl]
theorem zhd:F_q22=some true:=by
 have hc:zm.K.length<=1000000:=dk
 have m0:F_q1g o19 1 7=some (zm,0):=(zhb zia (i:=0) (n:=7) dk dk).trans (by rw[y3 dk]; rfl)
 have p1:WPl (zh zm (sigV 3 zm)):=z5r
 have p2:WPl (zq (zh zm (sigV 3 zm)) (sigV 4 zm)):=z5r
 have s1:signV [3,4] zm false=(zh zm (sigV 3 zm),0):=by
  unfold signV
  rw[y3 (show ¬ ¬ WPl zm from fun k=>k z5r),y5 dk]
  rfl
 have s2:signV [3,4] (zh zm (sigV 3 zm)) true=(zq (zh zm (sigV 3 zm)) (sigV 4 zm),0):=by
  unfold signV
  rw[show (zh zm (sigV 3 zm)).G=1 from rfl,show (([3,4]:List Int).getD (2 * ((1:Int)-1)).toNat dF)=3 from rfl,show (([3,4]:List Int).getD (2 * ((1:Int)-1)+1).toNat dF)=4 from rfl,z10,z10,
   y3 (show ¬ ¬ WPl (zh zm (sigV 3 zm)) from fun k=>k p1),y3 (show ¬ (true=false/\2 * ((1:Int)-1)<(([3,4]:List Int).length:Int)) from fun k=>by cases k.1),y3 (show ¬ ((([3,4]:List Int).length:Int)<=2 * ((1:Int)-1)+1) from dk),
   y3 (show ¬ ((zh zm (sigV 3 zm)).P≠sigV 3 zm) from fun k=>k (z12 _ _))]
 have s3:signV [3,4] (zq (zh zm (sigV 3 zm)) (sigV 4 zm)) true=(zq (zh zm (sigV 3 zm)) (sigV 4 zm),0):=by
  unfold signV
  rw[show (zq (zh zm (sigV 3 zm)) (sigV 4 zm)).G=1 from rfl,show (([3,4]:List Int).getD (2 * ((1:Int)-1)).toNat dF)=3 from rfl,show (([3,4]:List Int).getD (2 * ((1:Int)-1)+1).toNat dF)=4 from rfl,z1o,z1o,z10,z10,
   y3 (show ¬ ¬ WPl (zq (zh zm (sigV 3 zm)) (sigV 4 zm)) from fun k=>k p2),y3 (show ¬ (true=false/\2 * ((1:Int)-1)<(([3,4]:List Int).length:Int)) from fun k=>by cases k.1),y3 (show ¬ ((([3,4]:List Int).length:Int)<=2 * ((1:Int)-1)+1) from dk),
   y3 (show ¬ ((zq (zh zm (sigV 3 zm)) (sigV 4 zm)).P≠sigV 3 zm) from fun k=>k ((z1s _ _).trans (z12 _ _))),z6w]
 have c1:checkV [3,4] (zq (zh zm (sigV 3 zm)) (sigV 4 zm))=0:=by
  unfold checkV
  rw[s3,y3 (fun k=>k.2 rfl)]
 have b1:F_q7 (zq (zh zm (sigV 3 zm)) (sigV 4 zm))=some [119,97,114,114,97,110,116,32,55,32,49,32,49,32,49,50,32,49,32,49,32,49,32,49,32,51,48,32,50,32,52,51,52,48,32,52,52,48,48]:=(z7j p2).trans (y1y some zew)
 have h1:F_q6 []=some 14695981039346656037:=z8t dk
 have h2:F_q6 [97]=some 12638187200555641996:=(z8t dk).trans (y1y some kj)
 simp only[F_q22,S_q22,Scr.den,zi]
 rw[show (⟨1,[⟨[49],12,50,0,0⟩],⟨[⟨1,[49],12,4320,50,0⟩],[⟨1,1,4320,30,0,2,4400⟩],[⟨1,1,4330,30⟩],[⟨1,1,1,4340,false⟩]⟩⟩:TOf)=o19 from rfl,m0]
 simp only[obind]
 rw[z2t hc,s1]
 simp only[obind]
 rw[z2t (show (zh zm (sigV 3 zm)).K.length<=1000000 from hc),s2]
 simp only[obind]
 rw[z3v (show (zq (zh zm (sigV 3 zm)) (sigV 4 zm)).K.length<=1000000 from hc),c1,b1,h1,h2]
 rw[Gg]
 simp only[obind]
 rw[Gg]
 simp only[obind]
 rw[Gg]
 simp only[obind]
 rw[Gg]
 rfl
theorem zax (h:WPl w):∃ b,F_q3 w=some b/\b.length<=10000:=by
 have hl:=h.len
 have hn:smI w.H/\smI w.G:=by
  obtain⟨⟨a,_⟩,g,_⟩:=h
  unfold numP at a
  unfold smI
  omega
 have i1:=Lib.itoa_length_le w.H hn.1.1 hn.1.2
 have i2:=Lib.itoa_length_le w.G hn.2.1 hn.2.2
 simp only[F_q3,S_q3,Scr.den,z2x (show w.K.length<=1000000 from om),obind,y15 h]
 rw[y3 dk,z2e hn.1.1 hn.1.2]
 simp only[obind]
 rw[z2e hn.2.1 hn.2.2]
 simp only[obind]
 rw[z6 (by simp only[AllP,y2z,yh,yc,yp]; omega)]
 obtain⟨s,e,h1⟩:=z3j (body:=fun i s=>(S_q3_b1 w i s).den) (n:=9) (fun i s=>s.length<=1000+100 * i) (s0:=(((((([119,97,114,114,97,110,116,32]:Y8)++Lib.itoa w.H)++[32])++Lib.itoa w.G)++[32])++w.K)) (by simp only[yh,yc,yp]; omega) (fun i s hi hI=>by
  have hr:smI ((zf w).getD i dF):=h.rest _ (z1a (by simpa [zf] using hi))
  have hlen:=Lib.itoa_length_le _ hr.1 hr.2
  simp only[S_q3_b1,Scr.den]
  rw[show ([w.O,w.C,w.E,w.A,w.M,w.J,w.Q,w.N,w.T]:List Int)=zf w from rfl,z2e hr.1 hr.2]
  simp only[obind]
  rw[z6 (by simp only[AllP,y2z,yh,yc,yp]; omega)]
  exact⟨_,rfl,by simp only[yh,yc,yp]; omega⟩)
 rw[e]
 exact⟨s,rfl,om⟩
theorem zbk (hl:l.length<=1000000):∃ v,F_q4 l=some v:=by
 simp only[F_q4,S_q4,Scr.den]
 obtain⟨s,e,_⟩:=z1l (step:=fun s=>(S_q4_b1 l s).den) (fun s:Int×Int=>((l.length:Int)-s.2).toNat) (fun s=>∃ i:Nat,s.2=(i:Int)) (fun _=>True) (fun s hI=>by
  obtain⟨x,y⟩:=s
  obtain⟨i,hi0⟩:=hI
  simp only at hi0
  subst hi0
  simp only[S_q4_b1,Scr.den,yl]
  by_cases hi:i<l.length
  ·left
   rw[y5 (by simpa using hi),z6 ⟨om,hi,trivial⟩,wrapId (n:=(i:Int)+1) om om]
   exact⟨_,rfl,⟨i+1,rfl⟩,by show ((l.length:Int)-((i:Int)+1)).toNat<((l.length:Int)-i).toNat; omega⟩
  ·right
   rw[y3 (by simpa using hi)]
   exact⟨_,rfl,trivial⟩) _ (14695981039346656037,0) (y28 _) ⟨0,rfl⟩
 rw[e]
 exact⟨_,rfl⟩
theorem z7k (h:WPl w) (key:Int):∃ v,F_q1 key w=some v:=by
 simp only[F_q1,S_q1,Scr.den]
 obtain⟨s,e,h1⟩:=z1l (step:=fun s=>(S_q1_b1 key s).den) (fun s:List Int×Int=>(s.2+8).toNat) (fun s=>(s.1.length:Int) * 8+s.2=56/\-8<=s.2) (fun s=>s.1.length<=8) (fun s hI=>by
  obtain⟨l,y⟩:=s
  obtain⟨k1,k2⟩:=hI
  simp only at k1 k2
  simp only[S_q1_b1,Scr.den]
  by_cases hy:0<=y
  ·left
   rw[y5 (by simpa using hy),z6 ⟨hy,om,trivial⟩,wrapId (n:=y-8) om om]
   exact⟨_,rfl,⟨by simp only[yh,yc,yp]; omega,by show -8<=y-8; omega⟩,by show (y-8+8).toNat<(y+8).toNat; omega⟩
  ·right
   rw[y3 (by simpa using hy)]
   exact⟨_,rfl,by show l.length<=8; omega⟩) _ (([]:List Int),56) (y28 _) ⟨sj,sj⟩
 rw[e]
 simp only[outM]
 rw[Ga]
 obtain⟨b,e2,hb⟩:=zax h
 rw[e2]
 simp only[obind]
 obtain⟨v,e3⟩:=zbk (l:=((List.range s.1.length).map fun j=>UInt8.ofNat ((s.1.getD j dF)).toNat)++b) (by simp only[yh,y1i,y2e]; omega)
 rw[e3]
 simp only[obind]
 rw[z6 ⟨by simp only[y1i,y2e]; omega,trivial⟩]
 exact⟨_,rfl⟩
def zex (x w:TWa):Prop:=∃ a b,x=⟨w.H,w.G,w.K,w.O,w.A,w.M,w.E,w.C,w.J,w.Q,w.N,w.T,a,b⟩
theorem zbl (h:WPl w) (keys:List Int) (b:Bool):∃ x e,F_q1k keys w b=some (x,e)/\(e=0->zex x w):=by
 have hc:=h.len
 have ho:=h.2.1
 simp only[F_q1k,S_q1k,Scr.den,z2x (show w.K.length<=1000000 from om),obind,y15 h]
 rw[y3 dk,wrapId (n:=w.G-1) om om,wrapId (n:=2 * (w.G-1)) om om,wrapId (n:=2 * (w.G-1)+1) om om]
 have sig:=fun k=>z7k h k
 cases b with
 | true =>
  rw[y5 rfl]
  simp only[outM]
  by_cases c2:(keys.length:Int)<=2 * (w.G-1)+1
  ·rw[y5 (by simpa using c2)]
   exact⟨_,_,rfl,fun h=>by cases h⟩
  ·rw[y3 (by simpa using c2),y3 dk,wrapId (n:=2 * (w.G-1)+1-1) om om]
   obtain⟨v,e1⟩:=sig (keys.getD (2 * (w.G-1)+1-1).toNat dF)
   rw[e1]
   simp only[obind]
   rw[Gb]
   split
   ·exact⟨_,_,rfl,fun h=>by cases h⟩
   ·obtain⟨v2,e2⟩:=sig (keys.getD (2 * (w.G-1)+1).toNat dF)
    rw[e2]
    simp only[obind]
    rw[Gb]
    exact⟨_,_,rfl,fun _=>⟨_,_,rfl⟩⟩
 | false =>
  rw[y3 dk]
  simp only[outM]
  by_cases c2:(keys.length:Int)<=2 * (w.G-1)
  ·rw[y5 (by simpa using c2)]
   exact⟨_,_,rfl,fun h=>by cases h⟩
  ·rw[y3 (by simpa using c2),y5 dk]
   obtain⟨v,e1⟩:=sig (keys.getD (2 * (w.G-1)).toNat dF)
   rw[e1]
   simp only[obind]
   rw[Gb]
   exact⟨_,_,rfl,fun _=>⟨_,_,rfl⟩⟩
theorem zd3 {x:TWa} (h:zex x w) (hw:WPl w):WPl x/\x.H=w.H:=by
 obtain⟨a,b,rfl⟩:=h
 exact⟨hw,rfl⟩
theorem z28 {s:Y8} {a b:List Y8}:Lib.joinTail s (a++b)=Lib.joinTail s a++Lib.joinTail s b:=by simp[Lib.joinTail]
theorem z2z {s x:Y8}:Lib.joinTail s [x]=s++x:=by simp[Lib.joinTail]
theorem zay (h:WPl w):F_q3 w=some (bytesV w):=by
 have hl:=h.len
 have hn:smI w.H/\smI w.G:=by
  obtain⟨⟨a,_⟩,g,_⟩:=h
  unfold numP at a
  unfold smI
  omega
 have i1:=Lib.itoa_length_le w.H hn.1.1 hn.1.2
 have i2:=Lib.itoa_length_le w.G hn.2.1 hn.2.2
 simp only[F_q3,S_q3,Scr.den,z2x (show w.K.length<=1000000 from om),obind,y15 h]
 rw[y3 dk,z2e hn.1.1 hn.1.2]
 simp only[obind]
 rw[z2e hn.2.1 hn.2.2]
 simp only[obind]
 rw[z6 (by simp only[AllP,y2z,yh,yc,yp]; omega)]
 have e0:(((((([119,97,114,114,97,110,116,32]:Y8)++Lib.itoa w.H)++[32])++Lib.itoa w.G)++[32])++w.K)=[119,97,114,114,97,110,116]++Lib.joinTail [32] [Lib.itoa w.H,Lib.itoa w.G,w.K]:=by simp[Lib.joinTail]
 obtain⟨s,e,h1,h2⟩:=z3j (body:=fun i s=>(S_q3_b1 w i s).den) (n:=9) (fun i s=>s.length<=1000+100 * i/\s=[119,97,114,114,97,110,116]++Lib.joinTail [32] ([Lib.itoa w.H,Lib.itoa w.G,w.K]++((zf w).take i).map Lib.itoa)) (s0:=(((((([119,97,114,114,97,110,116,32]:Y8)++Lib.itoa w.H)++[32])++Lib.itoa w.G)++[32])++w.K)) (⟨by simp only[yh,yc,yp]; omega,by rw[e0]; rfl⟩) (fun i s hi hI=>by
  have hr:smI ((zf w).getD i dF):=h.rest _ (z1a (by simpa [zf] using hi))
  have hlen:=Lib.itoa_length_le _ hr.1 hr.2
  simp only[S_q3_b1,Scr.den]
  rw[show ([w.O,w.C,w.E,w.A,w.M,w.J,w.Q,w.N,w.T]:List Int)=zf w from rfl,z2e hr.1 hr.2]
  simp only[obind]
  rw[z6 (by simp only[AllP,y2z,yh,yc,yp]; omega)]
  refine⟨_,rfl,by simp only[yh,yc,yp]; omega,?_⟩
  rw[z55 (by simpa [zf] using hi),hI.2,<- yy [Lib.itoa w.H,Lib.itoa w.G,w.K],z28 (b:=[_]),z2z,yy])
 rw[e]
 have e9:(zf w).take 9=zf w:=rfl
 rw[e9] at h2
 rw[h2]
 show some _=some (Lib.join ([119,97,114,114,97,110,116] :: ([Lib.itoa w.H,Lib.itoa w.G,w.K]++(zf w).map Lib.itoa)) [32])
 rw[Lib.join_cons]
theorem zey [Inhabited α] {f:β->α->β} {b:β} {l:List α} (h:i<l.length):(l.take (i+1)).foldl f b=f ((l.take i).foldl f b) (l.getD i dF):=by
 rw[<- List.take_append_getElem h,y3z,zc6 h]
 rfl
theorem zbm (hl:l.length<=1000000):F_q4 l=some (hashV l):=by
 simp only[F_q4,S_q4,Scr.den]
 obtain⟨s,e,h1⟩:=z1l (step:=fun s=>(S_q4_b1 l s).den) (fun s:Int×Int=>((l.length:Int)-s.2).toNat) (fun s=>∃ i:Nat,s.2=(i:Int)/\i<=l.length/\s.1=(l.take i).foldl hstep 14695981039346656037) (fun s=>s.1=hashV l) (fun s hI=>by
  obtain⟨x,y⟩:=s
  obtain⟨i,hi0,hil,hx⟩:=hI
  simp only at hi0 hx
  subst hi0
  simp only[S_q4_b1,Scr.den,yl]
  by_cases hi:i<l.length
  ·left
   rw[y5 (by simpa using hi),z6 ⟨om,hi,trivial⟩,wrapId (n:=(i:Int)+1) om om]
   refine⟨_,rfl,⟨i+1,rfl,om,?_⟩,by show ((l.length:Int)-((i:Int)+1)).toNat<((l.length:Int)-i).toNat; omega⟩
   rw[zey hi,<- hx]
   rfl
  ·right
   rw[y3 (by simpa using hi)]
   refine⟨_,rfl,?_⟩
   show x=hashV l
   rw[hx,y20 om]
   rfl) _ (14695981039346656037,0) (y28 _) ⟨0,rfl,om,rfl⟩
 rw[e]
 simp only[outM]
 rw[h1]
theorem z3w (h:WPl w) (key:Int):F_q1 key w=some (sigV key w):=by
 have hb:=z2y h
 simp only[F_q1,S_q1,Scr.den]
 obtain⟨s,e,h1,h2⟩:=z1l (step:=fun s=>(S_q1_b1 key s).den) (fun s:List Int×Int=>(s.2+8).toNat) (fun s=>(s.1.length:Int) * 8+s.2=56/\-8<=s.2/\∀ j,j<s.1.length->s.1.getD j dF=kb key j) (fun s=>s.1.length=8/\∀ j,j<8->s.1.getD j dF=kb key j) (fun s hI=>by
  obtain⟨l,y⟩:=s
  obtain⟨k1,k2,k3⟩:=hI
  simp only at k1 k2 k3
  simp only[S_q1_b1,Scr.den]
  by_cases hy:0<=y
  ·left
   rw[y5 (by simpa using hy),z6 ⟨hy,om,trivial⟩,wrapId (n:=y-8) om om]
   refine⟨_,rfl,⟨by simp only[yh,yc,yp]; omega,by show -8<=y-8; omega,fun j hj=>?_⟩,by show (y-8+8).toNat<(y+8).toNat; omega⟩
   simp only[yh,yc,yp] at hj
   by_cases c:j<l.length
   ·rw[<- k3 j c]
    simp[List.getD,List.getElem?_append_left c]
   ·obtain rfl:j=l.length:=om
    unfold kb
    rw[wrapId (n:=8 * (l.length:Int)) om om,show 56-8 * (l.length:Int)=y from om,wrapId (n:=y) om om]
    simp[List.getD]
  ·right
   rw[y3 (by simpa using hy)]
   have hl8:l.length=8:=om
   exact⟨_,rfl,hl8,fun j hj=>k3 j om⟩) _ (([]:List Int),56) (y28 _) ⟨sj,sj,fun j hj=>absurd hj sj⟩
 rw[e]
 simp only[outM]
 rw[Ga,zay h]
 simp only[obind]
 have e2:((List.range s.1.length).map fun j=>UInt8.ofNat ((s.1.getD j dF)).toNat)=keyB key:=by
  rw[h1]
  exact y2p fun j hj=>by rw[h2 j (y1q.1 hj)]
 rw[e2,zbm (by simp only[yh,keyB,y1i,y2e]; omega)]
 simp only[obind]
 rw[z6 ⟨by simp only[keyB,y1i,y2e]; omega,trivial⟩]
 rfl
def sg1 (keys:List Int) (w:TWa):Int:=sigV (keys.getD (2 * (w.G-1)).toNat dF) w
def sg2 (keys:List Int) (w:TWa):Int:=sigV (keys.getD (2 * (w.G-1)+1).toNat dF) w
def signed (keys:List Int) (w:TWa):TWa:=zq (zh w (sg1 keys w)) (sg2 keys w)
theorem z1c (h:WPl w) (x:Int):WPl (zh w x):=h
theorem z1t (h:WPl w) (x:Int):WPl (zq w x):=h
variable {keys:List Int}
theorem zga (h:WPl w) (hk:2 * (w.G-1)+1<(keys.length:Int)):signV keys w false=(zh w (sg1 keys w),0):=by
 unfold signV sg1
 rw[y3 (fun k=>k h),y5 ⟨rfl,om⟩]
theorem zgb (h:WPl w) (hk:2 * (w.G-1)+1<(keys.length:Int)):signV keys (zh w (sg1 keys w)) true=(signed keys w,0):=by
 unfold signV
 rw[y3 (fun k=>k (z1c h _)),y3 (fun k=>by cases k.1),
  y3 (show ¬ (keys.length:Int)<=2 * ((zh w (sg1 keys w)).G-1)+1 from (show ¬ (keys.length:Int)<=2 * (w.G-1)+1 from om)),
  y3 (show ¬ (zh w (sg1 keys w)).P≠sigV (keys.getD (2 * ((zh w (sg1 keys w)).G-1)).toNat dF) (zh w (sg1 keys w)) from fun k=>k (by rw[z12,z10]; rfl)),z10]
 rfl
theorem zaz (h:WPl w) (hk:2 * (w.G-1)+1<(keys.length:Int)):checkV keys (signed keys w)=0:=by
 have e:signV keys (signed keys w) true=(signed keys w,0):=by
  unfold signV
  rw[y3 (fun k=>k (z1t (z1c h _) _)),y3 (fun k=>by cases k.1),
   y3 (show ¬ (keys.length:Int)<=2 * ((signed keys w).G-1)+1 from (show ¬ (keys.length:Int)<=2 * (w.G-1)+1 from om)),
   y3 (show ¬ (signed keys w).P≠sigV (keys.getD (2 * ((signed keys w).G-1)).toNat dF) (signed keys w) from fun k=>k (by
    unfold signed
    rw[z1s,z12,z1o,z10]
    rfl))]
  unfold signed
  rw[z1o,z10,z6w]
  rfl
 unfold checkV
 rw[e,y3 (fun k=>k.2 rfl)]
end Go.Proofs.YtiohhffifhaboaaGreatDoor
