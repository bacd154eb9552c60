/- A part of the proof: plain laws of what the functions compute. No condition. -/
import Derived.Test.YtgfgnhpecnmlpaaGreatDoorG5
import Derived.Test.YtgfgnhpecnmlpaaGreatDoorT7
import Derived.Test.YtgfgnhpecnmlpaaGreatDoorT4
namespace Go.Proofs.YtgfgnhpecnmlpaaGreatDoor
open Go Go.TA
open Go.IntKind (i64)
def dayP (d:Int):Prop:=0<=d/\d<=35990
def amtP (n:Int):Prop:=1<=n/\n<=1000000000000
instance (d:Int):Decidable (dayP d):=inferInstanceAs (Decidable (_/\_))
instance (d:Int):Decidable (amtP d):=inferInstanceAs (Decidable (_/\_))
def yr (d:Int):Int:=if 0<=d/\d<=36000 then d / 360 else -1
variable {α ρ:Type} {body:Nat->Unit->Option (Step Unit ρ)}
theorem za2 [Inhabited α] (l:List α) (p:α->Bool) (v:α->ρ) (hs:∀ i,i<l.length->body i ()=some (if p (l.getD i dF)=true then .ret (v (l.getD i dF)) else .cont ())) :
  rangeM body l.length 0 ()=some (match l.find? p with | some x=>.ret (v x) | none=>.next ()):=by
 have key:∀ (k i:Nat),i+k=l.length->rangeM body k i ()=some (match (l.drop i).find? p with | some x=>.ret (v x) | none=>.next ()):=by
  intro k
  induction k with
  | zero=>intro i hk; rw[y1g om]; rfl
  | succ k ih =>
   intro i hk
   have hi:i<l.length:=om
   have e:l.getD i dF=l[i]:=by simp[List.getD_eq_getElem?_getD,List.getElem?_eq_getElem hi]
   rw[y1a hi]
   simp only[rangeM,hs i hi,y59,e]
   cases hp:p l[i] with
   | true=>simp
   | false=>simp only[y1u,y2u]; exact ih (i+1) om
 have:=key l.length 0 om
 simpa using this
def goodR:Y8->Nat->Nat->Bool
 | [],d,p=>decide (0<d)&&decide (p<=4)
 | c :: l,d,p=>if c.toNat=46 then (if d=0 then false else goodR l 0 (p+1)) else
  if c.toNat<48\/57<c.toNat\/(d=0/\c.toNat=48)\/d=2 then false else goodR l (d+1) p
def dig (c:UInt8):Prop:=48<=c.toNat/\c.toNat<=57
def preOk:Y8->Prop
 | []=>True
 | [a]=>dig a/\a.toNat≠48
 | [a,b]=>dig a/\a.toNat≠48/\dig b
 | _=>False
def cntOk (ws:List Y8) (p:Nat):Bool:=match nums ws with
 | none=>false
 | some ns=>decide (ns.length+p<=5)
theorem z56 (w:Y8) (ws:List Y8) (p:Nat):cntOk (w :: ws) p=match pv w with
  | none=>false
  | some _=>cntOk ws (p+1):=by
 unfold cntOk
 simp only[nums]
 cases pv w with
 | none=>rfl
 | some n =>
  cases nums ws with
  | none=>rfl
  | some ns =>
   simp only[y1p,y11]
   congr 1
   rw[eq_iff_iff]; omega
theorem z8s:∀ {w:Y8},preOk w->w≠[]->∃ n,pv w=some n
 | [a],h,_=>⟨_,by simp only[pv]; rw[y6 ⟨by have:=h.1.1; have:=h.2; omega,h.1.2⟩]⟩
 | [a,b],h,_=>⟨_,by simp only[pv]; rw[y6 ⟨⟨by have:=h.1.1; have:=h.2.1; omega,h.1.2⟩,h.2.2⟩]⟩
 | [],_,h=>absurd rfl h
 | _ :: _ :: _ :: _,h,_=>h.elim
variable {w:Y8} {c:UInt8}
theorem zgd {pre:Y8} (hc:¬ dig c):pv (pre++c :: w)=none:=by
 match pre,w with
 | [],[]=>simp only[y20,pv]; rw[y5]; intro h; exact hc ⟨om,h.2⟩
 | [],[b]=>simp only[y20,pv]; rw[y5]; intro h; exact hc ⟨om,h.1.2⟩
 | [],b :: d :: w=>rfl
 | [a],[]=>simp only[y2d,y20,pv]; rw[y5]; intro h; exact hc h.2
 | [a],b :: w=>rfl
 | [a,b],w=>rfl
 | a :: b :: d :: pre,w=>rfl
theorem zdj (hc:c.toNat=48):pv (c :: w)=none:=by
 match w with
 | []=>simp only[pv]; rw[y5]; omega
 | [b]=>simp only[pv]; rw[y5]; omega
 | b :: d :: w=>rfl
theorem z7m:∀ (l pre p0:Y8) (ps:List Y8) (p:Nat),preOk pre->pieces l=p0 :: ps->goodR l pre.length p=cntOk ((pre++p0) :: ps) p
 | [],pre,p0,ps,p,hp,he=>by
  cases he
  rw[y2r,z56]
  simp only[goodR]
  match pre,hp with
  | [],_=>rfl
  | a :: pre,hp =>
   obtain⟨n,hn⟩:=z8s hp sj
   rw[hn]
   simp[cntOk,nums]
 | c :: l,pre,p0,ps,p,hp,he=>by
  rw[zy] at he
  simp only[goodR]
  by_cases hc:c.toNat=46
  ·rw[y6 (by rw[show c=46 from UInt8.toNat_inj.mp hc]; rfl)] at he
   cases he
   rw[y6 hc,y2r,z56]
   match pre,hp with
   | [],_=>rfl
   | a :: pre,hp =>
    obtain⟨n,hn⟩:=z8s hp sj
    rw[hn,y5 sj]
    simp only
    cases hl:pieces l with
    | nil=>exact absurd hl (zu l)
    | cons q qs =>
     have:=z7m l [] q qs (p+1) trivial hl
     simpa using this
  ·rw[y5 (by intro h; rw[eq_of_beq h] at hc; exact hc rfl)] at he
   rw[y5 hc]
   cases hl:pieces l with
   | nil=>exact absurd hl (zu l)
   | cons q qs =>
    rw[hl] at he
    injection he with e1 e2
    subst e1
    subst e2
    have ih:=z7m l (pre++[c]) q qs p
    by_cases hd:dig c
    ·match pre,hp with
     | [],_ =>
      by_cases h0:c.toNat=48
      ·rw[y6 (by right; right; left; exact⟨rfl,h0⟩),z56,y20,zdj h0]
      ·rw[y5 (by have:=hd.1; have:=hd.2; simp; omega)]
       exact ih ⟨hd,h0⟩ hl
     | [a],hp =>
      rw[y5 (by have:=hd.1; have:=hd.2; simp; omega)]
      have:=ih ⟨hp.1,hp.2,hd⟩ hl
      simpa using this
     | [a,b],hp =>
      rw[y6 (by right; right; right; rfl),z56]
      rfl
     | _ :: _ :: _ :: _,hp=>exact hp.elim
    ·rw[y6 (by unfold dig at hd; omega),z56,zgd hd]
theorem z2b:∀ {ws:List Y8} {ns:List Int},nums ws=some ns->ns.length=ws.length
 | [],ns,h=>by cases h; rfl
 | w :: ws,ns,h=>by
  simp only[nums] at h
  split at h
  ·cases h
  ·cases hn:nums ws with
   | none=>rw[hn] at h; cases h
   | some ms =>
    rw[hn] at h
    cases h
    simp[z2b hn]
def good (l:Y8):Bool:=goodR l 0 1
theorem z3q (l:Y8):decide ((parts l).length>0)=good l:=by
 unfold good
 cases hl:pieces l with
 | nil=>exact absurd hl (zu l)
 | cons q qs =>
  have:=z7m l [] q qs 1 trivial hl
  simp only[y1c,y20] at this
  rw[this]
  unfold parts cntOk
  rw[hl]
  cases hn:nums (q :: qs) with
  | none=>rfl
  | some ns =>
   have h1:=z2b hn
   simp only[y11] at h1
   simp only
   by_cases h4:ns.length>4
   ·simp only[y6 h4]; simp; omega
   ·simp only[y5 h4]; rw[y1o]; simp; omega
variable {l:Y8}
theorem z1z (hl:l.length<4611686018427387904):F_qb l=some (good l):=by
 simp only[F_qb,S_qb,Scr.den,z9]
 generalize hF:(fun s=>(S_qb_b1 l s).den)=F
 have key:∀ (k i d p:Nat),i+k=l.length->d<=i->p<=i+1->outM (iterM F ((d:Int),(p:Int),(i:Int))) (fun s=>some (decide (s.1>0)&&decide (s.2.1<=4))) (fun x=>some (id x))=some (goodR (l.drop i) d p):=by
  intro k
  induction k with
  | zero =>
   intro i d p hk hd hp
   rw[zm,y1g om,<- hF]
   simp only[S_qb_b1,Scr.den]
   rw[y5 sk]
   simp only[outM,goodR]
   congr 1
   rw[y1o]; simp; omega
  | succ k ih =>
   intro i d p hk hd hp
   have hi:i<l.length:=om
   have ei:l.getD i 0=l[i]:=by simp[List.getD_eq_getElem?_getD,List.getElem?_eq_getElem hi]
   rw[zm,y1a hi,<- y38 hF]
   simp only[S_qb_b1,Scr.den,yf,ei,z9,zi]
   generalize hcc:l[i]=c
   rw[y6 sk,z3 ⟨om,hi,trivial⟩]
   have w1:i64.wrap ((p:Int)+1)=((p+1:Nat):Int):=by rw[wrapId om om]; omega
   have w2:i64.wrap ((i:Int)+1)=((i+1:Nat):Int):=by rw[wrapId om om]; omega
   have w3:i64.wrap ((d:Int)+1)=((d+1:Nat):Int):=by rw[wrapId om om]; omega
   simp only[w1,w2,w3,goodR]
   by_cases hc:c.toNat=46
   ·rw[y6 (by simp[hc]),y6 hc]
    by_cases h0:d=0
    ·rw[y6 (by simp[h0]),y6 h0]; rfl
    ·rw[y5 (by simpa using h0),y5 h0]
     have h:=ih (i+1) 0 (p+1) om om om
     rw[show ((0:Nat):Int)=0 from rfl] at h
     exact h
   ·rw[y5 sk,y5 hc,z3 ⟨fun _=>om,fun _=>hi,fun _=>om,fun _=>hi,trivial⟩]
    by_cases hb:c.toNat<48\/57<c.toNat\/(d=0/\c.toNat=48)\/d=2
    ·rw[y6 sk,y6 hb]; rfl
    ·rw[y5 sk,y5 hb]
     exact ih (i+1) (d+1) p om om om
 exact key l.length 0 0 1 om om om
theorem z57 (hl:l.length<=1099511627776):F_q51 l=some (parts l):=by
 unfold F_q51
 exact zbs hl rfl
def lexC:List Int->List Int->Int
 | [],[]=>0
 | [],_ :: _=>-1
 | _ :: _,[]=>1
 | a :: x,b :: y=>if a<b then -1 else if a>b then 1 else lexC x y
theorem z49:∀ x,lexC x x=0
 | []=>rfl
 | a :: x=>by simp[lexC,z49 x]
theorem z22:∀ {x y:List Int},lexC x y=0->x=y
 | [],[],_=>rfl
 | [],_ :: _,h=>by simp[lexC] at h
 | _ :: _,[],h=>by simp[lexC] at h
 | a :: x,b :: y,h=>by
  simp only[lexC] at h
  split at h
  ·omega
  ·split at h
   ·omega
   ·rw[z22 h,show a=b from om]
theorem z5n:∀ x y:List Int,lexC y x=-lexC x y
 | [],[]=>rfl
 | [],_ :: _=>rfl
 | _ :: _,[]=>rfl
 | a :: x,b :: y=>by
  simp only[lexC]
  by_cases h1:a<b
  ·rw[y6 h1,y5 om,y6 om]; rfl
  ·by_cases h2:a>b
   ·rw[y6 om,y5 h1,y6 h2]
   ·rw[y5 h1,y5 h2,y5 om,y5 om,z5n x y]
theorem z4n:∀ {x y z:List Int},lexC x y<0->lexC y z<0->lexC x z<0
 | [],_,[],h,h'=>by
  rename_i y
  cases y with
  | nil=>simp[lexC] at h
  | cons b y=>simp[lexC] at h'
 | [],_,c :: z,_,_=>by simp[lexC]
 | a :: x,[],_,h,_=>by simp[lexC] at h
 | a :: x,b :: y,[],_,h'=>by simp[lexC] at h'
 | a :: x,b :: y,c :: z,h,h'=>by
  simp only[lexC] at h h' |-
  by_cases h1:a<b
  ·by_cases h2:b<c
   ·rw[y6 om]; omega
   ·rw[y5 h2] at h'
    by_cases h3:b>c
    ·rw[y6 h3] at h'; omega
    ·rw[y6 om]; omega
  ·rw[y5 h1] at h
   by_cases h2:a>b
   ·rw[y6 h2] at h; omega
   ·rw[y5 h2] at h
    by_cases h3:b<c
    ·rw[y6 om]; omega
    ·rw[y5 h3] at h'
     by_cases h4:b>c
     ·rw[y6 h4] at h'; omega
     ·rw[y5 h4] at h'
      rw[y5 om,y5 om]
      exact z4n h h'
theorem zm1:∀ {w w':Y8} {n:Int},pv w=some n->pv w'=some n->w=w'
 | [],_,_,h,_=>by simp[pv] at h
 | [a],[],_,_,h=>by simp[pv] at h
 | [a,b],[],_,_,h=>by simp[pv] at h
 | [a],[c],n,h,h'=>by
  simp only[pv] at h h'
  split at h <;> split at h' <;> simp at h h'
  have:a.toNat=c.toNat:=om
  rw[y47.1 this]
 | [a],[c,d],n,h,h'=>by
  simp only[pv] at h h'
  split at h <;> split at h' <;> simp at h h'
  omega
 | [a,b],[c],n,h,h'=>by
  simp only[pv] at h h'
  split at h <;> split at h' <;> simp at h h'
  omega
 | [a,b],[c,d],n,h,h'=>by
  simp only[pv] at h h'
  split at h <;> split at h' <;> simp at h h'
  have h1:a.toNat=c.toNat:=om
  have h2:b.toNat=d.toNat:=om
  rw[y47.1 h1,y47.1 h2]
 | _ :: _ :: _ :: _,_,_,h,_=>by simp[pv] at h
 | _,_ :: _ :: _ :: _,_,_,h=>by simp[pv] at h
theorem z98:∀ {ws ws':List Y8} {ns:List Int},nums ws=some ns->nums ws'=some ns->ws=ws'
 | [],[],_,_,_=>rfl
 | [],w :: ws,ns,h,h'=>by
  have h1:=z2b h; have h2:=z2b h'; simp only[y1c,y11] at h1 h2; omega
 | w :: ws,[],ns,h,h'=>by
  have h1:=z2b h; have h2:=z2b h'; simp only[y1c,y11] at h1 h2; omega
 | w :: ws,w' :: ws',ns,h,h'=>by
  simp only[nums] at h h'
  split at h
  ·cases h
  ·rename_i n hn
   split at h'
   ·cases h'
   ·rename_i n' hn'
    cases hm:nums ws with
    | none=>rw[hm] at h; cases h
    | some ms =>
     cases hm':nums ws' with
     | none=>rw[hm'] at h'; cases h'
     | some ms' =>
      rw[hm] at h; rw[hm'] at h'
      simp only[y1p,yo] at h h'
      rw[<- h] at h'
      simp only[y3q] at h'
      obtain⟨rfl,rfl⟩:=h'
      rw[zm1 hn hn',z98 hm hm']
theorem z2y:∀ {l l':Y8},pieces l=pieces l'->l=l'
 | [],[],_=>rfl
 | [],b :: m,h=>by
  rw[zy] at h
  split at h
  ·simp[pieces] at h; first | exact absurd h (zu m) | exact absurd h.symm (zu m)
  ·split at h <;> simp[pieces] at h
 | b :: m,[],h=>by
  rw[zy] at h
  split at h
  ·simp[pieces] at h; first | exact absurd h (zu m) | exact absurd h.symm (zu m)
  ·split at h <;> simp[pieces] at h
 | b :: l,c :: m,h=>by
  rw[zy,zy] at h
  cases hl:pieces l with
  | nil=>exact absurd hl (zu l)
  | cons p ps =>
   cases hm:pieces m with
   | nil=>exact absurd hm (zu m)
   | cons q qs =>
    rw[hl,hm] at h
    by_cases hb:(b==46)=true
    ·by_cases hc:(c==46)=true
     ·rw[y6 hb,y6 hc] at h
      have e:pieces l=pieces m:=by rw[hl,hm]; simpa using h
      rw[z2y e,show b=c by rw[eq_of_beq hb,eq_of_beq hc]]
     ·rw[y6 hb,y5 hc] at h; simp at h
    ·by_cases hc:(c==46)=true
     ·rw[y5 hb,y6 hc] at h; simp at h
     ·rw[y5 hb,y5 hc] at h
      simp only[y3q] at h
      obtain⟨⟨rfl,rfl⟩,rfl⟩:=h
      rw[z2y (hl.trans hm.symm)]
theorem z14 (h:good l=true):nums (pieces l)=some (parts l)/\0<(parts l).length/\(parts l).length<=4:=by
 rw[<- z3q] at h
 have h0:0<(parts l).length:=by simpa using h
 unfold parts at h0 |-
 split at h0
 ·simp at h0
 ·rename_i ns hn
  split at h0
  ·simp at h0
  ·rename_i h4
   rw[hn]
   simp only[y5 h4]
   exact⟨trivial,h0,om⟩
theorem z4a {l':Y8} (h:good l=true) (h':good l'=true) (e:parts l=parts l'):l=l' :=
 z2y (z98 (z14 h).1 (e▸(z14 h').1))
def valW (w:Y8):Int:=w.foldl (fun n c=>10 * n+((c.toNat:Int)-48)) 0
theorem za3:∀ {w:Y8} {n:Int},pv w=some n->valW w=n/\1<=w.length/\w.length<=2/\(w.getD 0 0).toNat≠48/\∀ c∈w,48<=c.toNat/\c.toNat<=57
 | [],_,h=>by simp[pv] at h
 | [a],n,h=>by
  simp only[pv] at h
  split at h <;> simp at h
  rename_i h1
  refine⟨by simp[valW]; omega,sj,sj,sk,fun c hc=>by simp at hc; subst hc; omega⟩
 | [a,b],n,h=>by
  simp only[pv] at h
  split at h <;> simp at h
  rename_i h1
  refine⟨by simp[valW]; omega,sj,sj,sk,fun c hc=>?_⟩
  simp at hc
  rcases hc with rfl | rfl <;> omega
 | _ :: _ :: _ :: _,_,h=>by simp[pv] at h
theorem z2o (h:good l=true):l.length<=11:=by
 have key:∀ (l:Y8) (ns:List Int),nums (pieces l)=some ns->l.length+1<=3 * ns.length:=by
  intro l
  suffices H:∀ (l p0:Y8) (ps:List Y8),pieces l=p0 :: ps->l.length=p0.length+(ps.map fun q=>q.length+1).sum by
   intro ns hn
   cases hp:pieces l with
   | nil=>exact absurd hp (zu l)
   | cons p0 ps =>
    rw[hp] at hn
    rw[H l p0 ps hp]
    have hall:∀ (ws:List Y8) (ms:List Int),nums ws=some ms->(ws.map fun q=>q.length+1).sum<=3 * ms.length:=by
     intro ws
     induction ws with
     | nil=>intro ms hm; simp
     | cons w ws ih =>
      intro ms hm
      simp only[nums] at hm
      split at hm
      ·cases hm
      ·rename_i n hpv
       cases hw:nums ws with
       | none=>rw[hw] at hm; cases hm
       | some ks =>
        rw[hw] at hm; cases hm
        have:=ih ks hw
        have:=(za3 hpv).2.2.1
        simp only[y31,List.sum_cons,y11]
        omega
    have:=hall _ _ hn
    simp only[y31,List.sum_cons] at this
    omega
  intro l
  induction l with
  | nil=>intro p0 ps hp; simp[pieces] at hp; obtain⟨rfl,rfl⟩:=hp; simp
  | cons b l ih =>
   intro p0 ps hp
   rw[zy] at hp
   cases hl:pieces l with
   | nil=>exact absurd hl (zu l)
   | cons q qs =>
    have:=ih q qs hl
    rw[hl] at hp
    split at hp
    ·simp only[y3q] at hp
     obtain⟨rfl,rfl⟩:=hp
     simp only[y11,y1c,y31,List.sum_cons]; omega
    ·simp only[y3q] at hp
     obtain⟨rfl,rfl⟩:=hp
     simp only[y11]; omega
 obtain⟨h1,h2,h3⟩:=z14 h
 have:=key l _ h1
 omega
def cmpI (a b:Int):Int:=if a<b then -1 else if a>b then 1 else 0
theorem z2z (a b:Int):F_qg a b=some (cmpI a b):=by
 simp only[F_qg,S_qg,F_q3v,S_q3v,Scr.den,obind,cmpI,bne_self_eq_false,y1u,y2u,y7]
 by_cases h1:a<b
 ·rw[y6 h1,y6 h1]
 ·rw[y5 h1,y5 h1]
  by_cases h2:a>b
  ·rw[y6 h2,y6 h2]
  ·rw[y5 h2,y5 h2]
theorem z4u {l:List Int} {i:Nat} (hi:i<l.length):l.getD i dF=l[i]:=by simp[List.getD_eq_getElem?_getD,List.getElem?_eq_getElem hi]
theorem z99 (x y:List Int):F_q1q x y=some (lexC x y):=by
 simp only[F_q1q,S_q1q,Scr.den]
 generalize hB:(fun i s=>(S_q1q_b1 x y i s).den)=B
 have key:∀ (k i:Nat),i+k=x.length->i<=y.length->outM (rangeM B k i ()) (fun _=>if decide ((x.length:Int)<(y.length:Int))=true then some (-1) else some 0) (fun r=>some (id r))=some (lexC (x.drop i) (y.drop i)):=by
  intro k
  induction k with
  | zero =>
   intro i hk hy
   rw[y1g om]
   by_cases h:y.length<=i
   ·rw[y1g h]
    simp only[rangeM,outM]
    rw[y5 sk]
    rfl
   ·rw[y1a (by omega:i<y.length)]
    simp only[rangeM,outM]
    rw[y6 sk]
    rfl
  | succ k ih =>
   intro i hk hy
   have hi:i<x.length:=om
   rw[y1a hi]
   simp only[rangeM]
   rw[<- y38 (y38 hB i) ()]
   simp only[S_q1q_b1,Scr.den]
   by_cases h:y.length<=i
   ·rw[y6 sk,y1g h]
    rfl
   ·have hj:i<y.length:=om
    rw[y5 sk,z3 ⟨hj,trivial⟩,y1a hj]
    simp only[z2z,obind,z4u hi,z4u hj,lexC,cmpI]
    by_cases h1:x[i]<y[i]
    ·simp only[y6 h1]; rfl
    ·simp only[y5 h1]
     by_cases h2:x[i]>y[i]
     ·simp only[y6 h2]; rfl
     ·simp only[y5 h2]
      exact ih (i+1) om om
 have:=key x.length 0 om om
 simpa using this
def strC (a b:Y8):Int:=if Op.bytesLess a b=true then -1 else if (!(Op.bytesLess a b||a==b))=true then 1 else 0
def cmpC (a b:Y8):Int:=if (parts a).length=0/\(parts b).length=0 then strC a b else lexC (parts a) (parts b)
variable {a b:Y8}
theorem z6t (ha:a.length<=1000000) (hb:b.length<=1000000):F_qu a b=some (cmpC a b):=by
 simp only[F_qu,S_qu,Scr.den,z57 (show a.length<=1099511627776 from om),z57 (show b.length<=1099511627776 from om),obind,z9,cmpC,z99]
 by_cases h:(parts a).length=0/\(parts b).length=0
 ·rw[y6 (by simp[h]),y6 h]
  simp only[F_q4l,S_q4l,F_q3u,S_q3u,Scr.den,obind,y3z,y4f,y1u,y2u,strC]
  by_cases h1:Op.bytesLess a b=true
  ·rw[y6 h1,y6 h1]; rfl
  ·rw[y5 h1,y5 h1]
   by_cases h2:(!(Op.bytesLess a b||a==b))=true
   ·rw[y6 h2,y6 h2]; rfl
   ·rw[y5 h2,y5 h2]; rfl
 ·rw[y5 (by simpa using h),y5 h]
theorem z3i (h:good a=true\/good b=true):cmpC a b=lexC (parts a) (parts b):=by
 unfold cmpC
 rw[y5]
 rintro⟨h1,h2⟩
 rcases h with h | h
 ·have:=(z14 h).2.1; omega
 ·have:=(z14 h).2.1; omega
theorem z58 (hg:good l=true):F_qe l=some (parts l):=by
 obtain⟨hn,h0,h4⟩:=z14 hg
 have hlen:=z2o hg
 simp only[F_qe,S_qe,Scr.den]
 rw[y5 sk]
 generalize hF:(fun s=>(S_qe_b1 l s).den)=F
 have w1:∀ i:Nat,i<=11->i64.wrap ((i:Int)+1)=((i+1:Nat):Int):=fun i hi=>by rw[wrapId om om]; omega
 have flush:∀ (i:Nat) (w:Y8) (out:List Int) (n:Int),i<=l.length->w.length<=i->(∀ j,j<w.length->l.getD (i-w.length+j) 0=w.getD j 0)->pv w=some n->(i=l.length\/(l.getD i 0).toNat=46)->out.length<=4 ->
   F (out,valW w,(w.length:Int),(i:Int))=some (.cont (out++[n],0,0,((i+1:Nat):Int))):=by
  intro i w out n hi hw hg hpv hor ho
  obtain⟨e1,e2,e3,e4,e5⟩:=za3 hpv
  have hk:i64.wrap ((i:Int)-(w.length:Int))=((i-w.length:Nat):Int):=by rw[wrapId om om]; omega
  have h0:=hg 0 om
  rw[y3l] at h0
  rw[<- y38 hF]
  simp only[S_qe_b1,Scr.den,yf,zi,hk,h0]
  rw[y6 sk,z3 ⟨fun _=>om,fun h=>by have h:=h.1; simp at h; omega,trivial⟩,y6 (by
   rcases hor with rfl | h
   ·simp
   ·simp only[yl,yy]; right; omega),z3 ⟨fun _=>om,fun _=>om,trivial⟩,y5 (by
    simp only[yl,yy,y7]; omega),Ga,w1 i om,e1]
 have digit:∀ (i:Nat) (w:Y8) (out:List Int),i<l.length->(l.getD i 0).toNat≠46->48<=(l.getD i 0).toNat/\(l.getD i 0).toNat<=57->w.length<=1->(∀ c∈w,48<=c.toNat/\c.toNat<=57) ->
   F (out,valW w,(w.length:Int),(i:Int))=some (.cont (out,valW (w++[l.getD i 0]),((w++[l.getD i 0]).length:Int),((i+1:Nat):Int))):=by
  intro i w out hi h46 hd hw hall
  have hv:0<=valW w/\valW w<=9:=by
   match w,hw with
   | [],_=>simp[valW]
   | [a],_=>have:=hall a sj; simp[valW]; omega
  have e1:valW (w++[l.getD i 0])=10 * valW w+(((l.getD i 0).toNat:Int)-48):=by simp[valW]
  have e2:IntKind.u8.wrap (((l.getD i 0).toNat:Int)-48)=((l.getD i 0).toNat:Int)-48:=by
   generalize (l.getD i 0).toNat=m at hd
   simp only[IntKind.wrap,IntKind.bits,IntKind.signed]
   simp
   omega
  rw[<- y38 hF]
  simp only[S_qe_b1,Scr.den,yf,zi,e1,e2]
  rw[y6 sk,z3 ⟨fun _=>om,fun _=>om,trivial⟩,y5 (by simp only[yl,yy]; omega),z3 ⟨om,hi,fun _=>om,fun _=>hi,trivial⟩,y5 (by simp only[yl,y7]; omega),w1 i om,w1 w.length om,
   wrapId (n:=10 * valW w) om om,wrapId (n:=((l.getD i 0).toNat:Int)-48) om om,wrapId om om]
  simp
 have key:∀ (k i:Nat) (w p0:Y8) (ps:List Y8) (out ns:List Int),i+k=l.length->w.length<=i->(∀ j,j<w.length->l.getD (i-w.length+j) 0=w.getD j 0)->pieces (l.drop i)=p0 :: ps->nums ((w++p0) :: ps)=some ns->out.length+ns.length<=4 ->
   iterM F (out,valW w,(w.length:Int),(i:Int))=some (.next (out++ns,0,0,((l.length+1:Nat):Int))):=by
  intro k
  induction k with
  | zero =>
   intro i w p0 ps out ns hk hw hgd hpc hnm ho
   obtain rfl:i=l.length:=om
   rw[y1g (ya _)] at hpc
   simp only[pieces,y3q] at hpc
   obtain⟨rfl,rfl⟩:=hpc
   simp only[y2r,nums] at hnm
   split at hnm
   ·cases hnm
   ·rename_i n hpv
    simp only[y1p,yo] at hnm
    subst hnm
    rw[zm,flush l.length w out n (ya _) hw hgd hpv (.inl rfl) (by simp at ho; omega)]
    simp only
    rw[zm,<- y38 hF]
    simp only[S_qe_b1,Scr.den]
    rw[y5 sk]
  | succ k ih =>
   intro i w p0 ps out ns hk hw hgd hpc hnm ho
   have hi:i<l.length:=om
   have ei:l.getD i 0=l[i]:=by simp[List.getD_eq_getElem?_getD,List.getElem?_eq_getElem hi]
   rw[y1a hi,zy] at hpc
   cases hq:pieces (l.drop (i+1)) with
   | nil=>exact absurd hq (zu _)
   | cons q qs =>
    rw[hq] at hpc
    by_cases hc:(l[i]==46)=true
    ·rw[y6 hc] at hpc
     simp only[y3q] at hpc
     obtain⟨rfl,rfl⟩:=hpc
     simp only[y2r,nums] at hnm
     split at hnm
     ·cases hnm
     ·rename_i n hpv
      cases hm:nums (q :: qs) with
      | none=>simp only[nums] at hm; rw[hm] at hnm; cases hnm
      | some ms =>
       have hm':=hm
       simp only[nums] at hm'
       rw[hm'] at hnm
       simp only[y1p,yo] at hnm
       subst hnm
       simp only[y11] at ho
       have h46:(l.getD i 0).toNat=46:=by rw[ei,eq_of_beq hc]; rfl
       rw[zm,flush i w out n om hw hgd hpv (.inr h46) om]
       simp only
       have:=ih (i+1) [] q qs (out++[n]) ms om sj sj hq (by simpa using hm) sk
       simpa [valW] using this
    ·rw[y5 hc] at hpc
     simp only[y3q] at hpc
     obtain⟨rfl,rfl⟩:=hpc
     have hpv:∃ n,pv (w++l[i] :: q)=some n:=by
      simp only[nums] at hnm
      split at hnm
      ·cases hnm
      ·rename_i n h; exact⟨n,h⟩
     obtain⟨n,hpv⟩:=hpv
     obtain⟨_,_,g3,_,g5⟩:=za3 hpv
     simp only[yd,y11] at g3
     have hne:(l.getD i 0).toNat≠46:=by
      rw[ei]; intro h; exact hc (by rw[y47.1 (show l[i].toNat=(46:UInt8).toNat from h)]; rfl)
     rw[zm,digit i w out hi hne (by rw[ei]; exact g5 l[i] sj) om (fun c hc=>g5 c (by simp[hc]))]
     simp only
     refine ih (i+1) (w++[l.getD i 0]) q qs out ns om sk (fun j hj=>?_) hq (by rw[ei]; simpa using hnm) ho
     simp only[yd,y11,y1c] at hj |-
     by_cases hjw:j<w.length
     ·have:=hgd j hjw
      rw[show i+1-(w.length+(0+1))+j=i-w.length+j from om,this]
      simp[List.getD_eq_getElem?_getD,List.getElem?_append_left hjw]
     ·obtain rfl:j=w.length:=om
      rw[show i+1-(w.length+(0+1))+w.length=i from om]
      simp[List.getD_eq_getElem?_getD]
 cases hp:pieces l with
 | nil=>exact absurd hp (zu l)
 | cons p0 ps =>
  rw[hp] at hn
  have h:=key l.length 0 [] p0 ps [] (parts l) om sj sj (by simpa using hp) (by simpa using hn) sk
  have h':iterM F (([]:List Int),(0:Int),(0:Int),(0:Int))=some (.next (parts l,0,0,((l.length+1:Nat):Int))):=by simpa [valW] using h
  rw[h']
  simp only[outM]
  rw[y5 sk,Ga]
theorem z9a [Inhabited α] (l:List α) (p:α->Bool) (v:Nat->ρ) (hs:∀ i,i<l.length->body i ()=some (if p (l.getD i dF)=true then .ret (v i) else .cont ())) :
  (rangeM body l.length 0 ()=some (.next ())/\∀ x∈l,p x=false)\/∃ i,i<l.length/\p (l.getD i dF)=true/\(∀ x∈l.take i,p x=false)/\rangeM body l.length 0 ()=some (.ret (v i)):=by
 have key:∀ (k i:Nat),i+k=l.length->(∀ x∈l.take i,p x=false)->(rangeM body k i ()=some (.next ())/\∀ x∈l,p x=false)\/∃ i,i<l.length/\p (l.getD i dF)=true/\(∀ x∈l.take i,p x=false)/\rangeM body k (l.length-k) ()=some (.ret (v i)):=by
  intro k
  induction k with
  | zero =>
   intro i hk h
   left
   rw[y1v om] at h
   exact⟨rfl,h⟩
  | succ k ih =>
   intro i hk h
   have hi:i<l.length:=om
   have e:l.length-(k+1)=i:=om
   have e':l.length-k=i+1:=om
   rw[e]
   simp only[rangeM,hs i hi]
   cases hp:p (l.getD i dF) with
   | true =>
    right
    exact⟨i,hi,hp,h,sj⟩
   | false =>
    simp only[y1u,y2u]
    rw[e'] at ih
    refine ih (i+1) om fun x hx=>?_
    rw[List.take_add_one,yg] at hx
    rcases hx with hx | hx
    ·exact h x hx
    ·rw[yc hi] at hx
     simp only[Option.toList_some,y3m] at hx
     rw[hx]
     simpa [List.getD_eq_getElem?_getD,List.getElem?_eq_getElem hi] using hp
 have:=key l.length 0 om sj
 simpa using this
def TapeOk (s:TTape):Prop:=0<=s.at_/\s.l.length<=500/\s.at_<=s.l.length
theorem zdk (t:List Int):∃ s,F_q3b t=some s/\TapeOk s:=by
 simp only[F_q3b,S_q3b,Scr.den]
 refine⟨_,zbs ⟨?_,?_,trivial⟩ rfl,sj,?_,sj⟩
 ·split <;> omega
 ·split <;> omega
 ·simp only[y15]
  split <;> omega
variable {s:TTape}
theorem zh {n:Int} (hs:TapeOk s) (h1:1<=n) (hn:n<=4611686018427387904):∃ v s',F_q0 n s=some (v,s')/\TapeOk s'/\0<=v/\v<n:=by
 obtain⟨a1,a2,a3⟩:=hs
 simp only[F_q0,S_q0,Scr.den]
 by_cases hc:s.at_>=(s.l.length:Int)
 ·rw[y6 (by simp[hc])]
  exact⟨0,s,rfl,⟨a1,a2,a3⟩,om,om⟩
 ·rw[y5 sk]
  have e1:i64.wrap (s.at_+1)=s.at_+1:=wrapId om om
  rw[e1,Gc]
  generalize s.l.getD s.at_.toNat dF=x
  have t1:x.tmod n<n:=Int.tmod_lt_of_pos x om
  have t2:-n<x.tmod n:=Int.lt_tmod_of_pos x om
  have e3:i64.wrap (x.tmod n+n)=x.tmod n+n:=wrapId om om
  rw[e3]
  have ht:TapeOk ⟨s.l,s.at_+1⟩:=⟨by simp only; omega,a2,by simp only; omega⟩
  split
  ·rename_i h
   simp only[y7] at h
   exact⟨_,_,rfl,ht,om,om⟩
  ·rename_i h
   simp only[y7] at h
   exact⟨_,_,rfl,ht,om,om⟩
theorem za4 {lo hi:Int} (hs:TapeOk s) (h0:-1000000000000000<=lo) (h1:lo<=hi) (h2:hi<=1000000000000000):∃ v s',F_q3p lo hi s=some (v,s')/\TapeOk s'/\lo<=v/\v<=hi:=by
 simp only[F_q3p,S_q3p,Scr.den]
 rw[wrapId (n:=hi-lo) om om,wrapId (n:=hi-lo+1) om om]
 obtain⟨v,s',h3,h4,h5,h6⟩:=zh (n:=hi-lo+1) hs om om
 refine⟨lo+v,s',?_,h4,om,om⟩
 rw[h3,obind]
 simp only
 rw[wrapId (n:=lo+v) om om]
theorem z19 {l:List Int} (hs:TapeOk s) (h0:1<=l.length) (h1:l.length<=100):∃ v s',F_qa l s=some (v,s')/\TapeOk s'/\v∈l:=by
 simp only[F_qa,S_qa,Scr.den]
 obtain⟨v,s',h3,h4,h5,h6⟩:=zh (n:=(l.length:Int)) hs om om
 refine⟨_,s',?_,h4,z4 (show v.toNat<l.length from om)⟩
 rw[h3,obind,z3 ⟨by simpa using h5,by simp only; omega,trivial⟩]
theorem z23 (ha:good a=true) (hb:good b=true):F_qi a b=some (lexC (parts a) (parts b)):=by
 have h1:=(z14 ha).2
 have h2:=(z14 hb).2
 simp only[F_qi,S_qi,Scr.den,z58 ha,z58 hb,obind,zi]
 rw[y5 (by simp only[yl,yy]; omega)]
 generalize parts a=x at h1
 generalize parts b=y at h2
 generalize hF:(fun s=>(S_qi_b1 x y s).den)=F
 have key:∀ (k i:Nat),i+k=x.length->i<=y.length->outM (iterM F (i:Int)) (fun _=>if decide ((x.length:Int)<(y.length:Int))=true then some (-1) else if decide ((x.length:Int)>(y.length:Int))=true then some 1 else some 0) (fun r=>some (id r))=some (lexC (x.drop i) (y.drop i)):=by
  intro k
  induction k with
  | zero =>
   intro i hk hy
   rw[zm,<- y38 hF]
   simp only[S_qi_b1,Scr.den,z9]
   rw[y5 (by simp only[y9,y7]; omega),y1g om]
   simp only[outM]
   by_cases h:y.length<=i
   ·rw[y1g h,y5 sk,y5 sk]; rfl
   ·rw[y1a (by omega:i<y.length),y6 sk]; rfl
  | succ k ih =>
   intro i hk hy
   have hi:i<x.length:=om
   rw[zm,<- y38 hF,y1a hi]
   simp only[S_qi_b1,Scr.den,z9]
   by_cases h:y.length<=i
   ·rw[y5 (by simp only[y9,y7]; omega),y1g h]
    simp only[outM]
    rw[y5 sk,y6 sk]; rfl
   ·have hj:i<y.length:=om
    have w1:i64.wrap ((i:Int)+1)=((i+1:Nat):Int):=by rw[wrapId om om]; omega
    rw[y6 (by simp only[y9,y7]; omega),Gc,y1a hj]
    simp only[yf,z4u hi,z4u hj,lexC]
    by_cases h1:x[i]<y[i]
    ·rw[y6 (yx h1),y6 h1]; rfl
    ·rw[y5 (by simpa using h1),y5 h1]
     by_cases h2:x[i]>y[i]
     ·rw[y6 (yx h2),y6 h2]; rfl
     ·rw[y5 (by simpa using h2),y5 h2,w1]
      exact ih (i+1) om om
 have:=key x.length 0 om om
 simpa using this
theorem z2c [Inhabited α] (l:List α) (p:α->Bool) (v:Nat->ρ) (hs:∀ i,i<l.length->body i ()=some (if p (l.getD i dF)=true then .ret (v i) else .cont ())) :
  rangeM body l.length 0 ()=some (if l.any p=true then .ret (v (l.findIdx p)) else .next ()):=by
 have key:∀ (k i:Nat),i+k=l.length->rangeM body k i ()=some (if (l.drop i).any p=true then .ret (v (i+(l.drop i).findIdx p)) else .next ()):=by
  intro k
  induction k with
  | zero=>intro i hk; rw[y1g om]; rfl
  | succ k ih =>
   intro i hk
   have hi:i<l.length:=om
   have e:l.getD i dF=l[i]:=by simp[List.getD_eq_getElem?_getD,List.getElem?_eq_getElem hi]
   rw[y1a hi]
   simp only[rangeM,hs i hi,e,y46,y2s]
   cases hp:p l[i] with
   | true=>simp
   | false =>
    simp only[y1u,y2u,y4t,y5u]
    rw[ih (i+1) om,show i+1+(l.drop (i+1)).findIdx p=i+((l.drop (i+1)).findIdx p+1) from om]
 have:=key l.length 0 om
 simpa using this
end Go.Proofs.YtgfgnhpecnmlpaaGreatDoor
/- Codes,names,trees: what both programs say of them. No condition. -/
namespace Go.Proofs.YtgfgnhpecnmlpaaGreatDoor
open Go Go.TA
open Go.IntKind (i64)
def fstE (n:Nat) (e:Nat->Int):Int:=match (List.range n).find? (fun i=>e i != 0) with
 | some i=>e i
 | none=>0
variable {n:Nat}
theorem z4o {ρ:Type} {body:Nat->Unit->Option (Step Unit ρ)} (e:Nat->Int) (g:Nat->ρ) (hs:∀ i,i<n->(∀ j,j<i->e j=0)->body i ()=some (if e i=0 then .cont () else .ret (g i))) :
  rangeM body n 0 ()=some (match (List.range n).find? (fun i=>e i != 0) with | some j=>.ret (g j) | none=>.next ()):=by
 have key:∀ (k i:Nat),i+k=n->(∀ j,j<i->e j=0)->rangeM body k i ()=some (match (List.range' i k).find? (fun i=>e i != 0) with | some j=>.ret (g j) | none=>.next ()):=by
  intro k
  induction k with
  | zero=>intro i hk hz; rfl
  | succ k ih =>
   intro i hk hz
   simp only[rangeM,hs i om hz,List.range'_succ,y59]
   by_cases h:e i=0
   ·rw[y6 h]
    simp only[h,bne_self_eq_false]
    exact ih (i+1) om (fun j hj=>by
     by_cases e':j=i
     ·rw[e']; exact h
     ·exact hz j om)
   ·rw[y5 h]
    have:(e i != 0)=true:=by simpa using h
    simp only[this]
 have:=key n 0 om (fun j hj=>om)
 rwa [<- List.range_eq_range'] at this
theorem z1b {body:Nat->Unit->Option (Step Unit Int)} (e:Nat->Int) (hs:∀ i,i<n->(∀ j,j<i->e j=0)->body i ()=some (if e i=0 then .cont () else .ret (e i))) :
  outM (rangeM body n 0 ()) (fun _=>some 0) (fun x=>some (id x))=some (fstE n e):=by
 rw[z4o e e hs]
 unfold fstE
 split <;> rfl
theorem z1m {e:Nat->Int}:fstE n e=0↔∀ i,i<n->e i=0:=by
 unfold fstE
 split
 ·rename_i i h
  have h1:=y4l h
  have h2:=y3x h
  exact⟨fun h0=>by simp[h0] at h1,fun h0=>h0 i (y2a.1 h2)⟩
 ·rename_i h
  rw[y5k] at h
  exact⟨fun _ i hi=>by simpa using h i (y2a.2 hi),fun _=>rfl⟩
def ldot (c:Y8):Nat->Nat
 | 0=>0
 | k+1=>if (c.getD k 0).toNat=46 then k else ldot c k
def par (c:Y8):Y8:=if good c=true then c.take (ldot c c.length) else []
theorem zf5 (c:Y8):∀ k,ldot c k<=k
 | 0=>ya _
 | k+1=>by unfold ldot; split; omega; exact y2i (zf5 c k)
variable {c:Y8}
theorem zge (hl:c.length<=1000000):F_q30 c=some (good c):=by
 simp only[F_q30,S_q30,Scr.den,z57 (l:=c) om,obind]
 rw[show (decide (((parts c).length:Int)>0))=decide ((parts c).length>0) from sj,z3q]
theorem z37 (hl:c.length<=1000000):F_qf c=some (par c):=by
 simp only[F_qf,S_qf,Scr.den,z1z (l:=c) om,obind]
 unfold par
 by_cases hg:good c=true
 ·rw[y5 (by simp[hg]),y6 hg]
  generalize hF:(fun s=>(S_qf_b1 c s).den)=F
  have key:∀ k:Nat,k<=c.length->outM (iterM F ((k:Int)-1)) (fun _=>some []) (fun x=>some (id x))=some (c.take (ldot c k)):=by
   intro k
   induction k with
   | zero =>
    intro _
    rw[zm,<- y38 hF]
    simp only[S_qf_b1,Scr.den]
    rw[y5 sj]
    rfl
   | succ k ih =>
    intro hk
    have ek:(((k+1:Nat):Int)-1)=(k:Int):=om
    rw[ek,zm,<- y38 hF]
    simp only[S_qf_b1,Scr.den,yf,ldot]
    rw[y6 sj,Gb]
    by_cases h:(c.getD k 0).toNat=46
    ·rw[y6 (by simp only[yy]; omega),y6 h,Ga]
     rfl
    ·rw[y5 (by simp only[yy]; omega),y5 h]
     have w1:i64.wrap ((k:Int)-1)=(k:Int)-1:=wrapId om om
     simp only[w1]
     exact ih om
  have w1:i64.wrap ((c.length:Int)-1)=(c.length:Int)-1:=wrapId om om
  rw[w1]
  exact key c.length (ya _)
 ·rw[y6 (by simp[hg]),y5 hg]
theorem zm2 (hl:c.length<=1000000):∃ v,F_q3s c 46=some v/\(if 0>v then 0 else v)=(ldot c c.length:Int):=by
 simp only[F_q3s,S_q3s,F_q1n,S_q1n,Scr.den]
 generalize hF:(fun s=>(S_q1n_b1 c 46 s).den)=F
 have key:∀ k:Nat,k<=c.length->∃ v,outM (iterM F ((k:Int)-1)) (fun _=>some (-1)) (fun x=>some (id x))=some v/\(if 0>v then 0 else v)=(ldot c k:Int):=by
  intro k
  induction k with
  | zero =>
   intro _
   rw[zm,<- y38 hF]
   simp only[S_q1n_b1,Scr.den]
   rw[y5 sj]
   exact⟨-1,rfl,rfl⟩
  | succ k ih =>
   intro hk
   have ek:(((k+1:Nat):Int)-1)=(k:Int):=om
   rw[ek,zm,<- y38 hF]
   simp only[S_q1n_b1,Scr.den,yf,ldot]
   rw[y6 sj,Gb]
   by_cases h:(c.getD k 0).toNat=46
   ·rw[y6 (by simp only[yy]; omega),y6 h]
    have hk0:¬ (0:Int)>(k:Int):=om
    exact⟨k,rfl,y5 hk0⟩
   ·rw[y5 (by simp only[yy]; omega),y5 h]
    have w1:i64.wrap ((k:Int)-1)=(k:Int)-1:=wrapId om om
    simp only[w1]
    exact ih om
 have w1:i64.wrap ((c.length:Int)-1)=(c.length:Int)-1:=wrapId om om
 rw[w1]
 obtain⟨v,h1,h2⟩:=key c.length (ya _)
 exact⟨v,by rw[h1]; rfl,h2⟩
theorem zbt (hl:c.length<=1000000):F_q3c c=some (par c):=by
 obtain⟨v,h1,h2⟩:=zm2 hl
 simp only[F_q3c,S_q3c,Scr.den,zge hl,h1,obind]
 unfold par
 by_cases hg:good c=true
 ·have:=zf5 c c.length
  rw[y5 (by simp[hg]),y6 hg]
  simp only[h2,yf]
  rw[Gb]
 ·rw[y6 (by simp[hg]),y5 hg]
def und (a b:Y8):Bool:=good a&&good b&&decide (b.length<=a.length)&&(a.take b.length==b)&&(a.length==b.length||(a.getD b.length 0).toNat==46)
theorem z59 {a b:Y8} (ha:a.length<=1000000) (hb:b.length<=1000000):F_q2y a b=some (und a b):=by
 simp only[F_q2y,S_q2y,Scr.den,z1z (l:=a) om,obind]
 unfold und
 by_cases h1:good a=true
 ·rw[zg (by simp[AllP,h1])]
  simp only[z1z (l:=b) om,obind]
  by_cases h2:good b=true
  ·by_cases h3:b.length<=a.length
   ·rw[z3 ⟨fun _=>om,trivial⟩]
    by_cases h4:a.take b.length=b
    ·rw[y5 (by simp[h1,h2,h4]; omega),z3 ⟨fun h=>by
      have:¬ a.length=b.length:=by have h:=h.1; simp only[y2c,ne_eq] at h; omega
      omega,trivial⟩]
     simp only[h1,h2,h3,h4,zi]
     congr 1
     rw[y1o]; simp; omega
    ·rw[y6 (by simp[h1,h2,h4])]
     simp[h4]
   ·rw[z3 ⟨fun h=>by have h:=h.1; simp[h1,h2] at h; omega,trivial⟩,y6 (by simp[h1,h2]; exact .inl om)]
    simp[h3]
  ·rw[z3 ⟨fun h=>by have h:=h.1; simp[h2] at h,trivial⟩,y6 (by simp[h2])]
   simp[h2]
 ·rw[zo (by simp[AllP,h1]),obind,z3 ⟨fun h=>by have h:=h.1; simp[h1] at h,trivial⟩,y6 (by simp[h1])]
  simp[h1]
def joinD:List Y8->Y8
 | []=>[]
 | [w]=>w
 | w :: ws=>w++46 :: joinD ws
theorem z30 {w:Y8} {ws:List Y8} (h:ws≠[]):joinD (w :: ws)=w++46 :: joinD ws:=by
 cases ws with
 | nil=>exact absurd rfl h
 | cons x xs=>rfl
theorem z43:∀ l:Y8,joinD (pieces l)=l
 | []=>rfl
 | b :: l=>by
  have ih:=z43 l
  have hne:=zu l
  rw[zy]
  split
  ·rename_i h
   rw[z30 hne,ih]
   have:b=46:=by simpa using h
   rw[this]; rfl
  ·cases hp:pieces l with
   | nil=>exact absurd hp hne
   | cons w ws =>
    rw[hp] at ih
    cases ws with
    | nil=>simp only[joinD] at ih |-; rw[ih]
    | cons x xs =>
     rw[z30 sj] at ih
     show joinD ((b :: w) :: x :: xs)=_
     rw[z30 sj,y2d,ih]
theorem z4p:∀ a b:Y8,pieces (a++46 :: b)=pieces a++pieces b
 | [],b=>by rw[y20,zy]; rfl
 | x :: a,b=>by
  have ih:=z4p a b
  have hne:=zu a
  rw[y2d,zy,zy,ih]
  split
  ·rfl
  ·cases hp:pieces a with
   | nil=>exact absurd hp hne
   | cons w ws=>rfl
theorem z4b {xs ys:List Y8} (hx:xs≠[]) (hy:ys≠[]):joinD (xs++ys)=joinD xs++46 :: joinD ys:=by
 induction xs with
 | nil=>exact absurd rfl hx
 | cons x xs ih =>
  cases xs with
  | nil=>rw[List.singleton_append,z30 hy]; rfl
  | cons x' xs' =>
   have h1:=ih sj
   rw[y2d,z30 sj,h1,z30 (List.cons_ne_nil x' xs'),y22]
   rfl
theorem z6u:∀ {xs ys:List Y8} {ns:List Int},nums (xs++ys)=some ns->∃ a b,nums xs=some a/\nums ys=some b/\ns=a++b
 | [],ys,ns,h=>⟨[],ns,rfl,h,rfl⟩
 | x :: xs,ys,ns,h=>by
  simp only[y2d,nums] at h |-
  cases hv:pv x with
  | none=>simp[hv] at h
  | some v =>
   cases hn:nums (xs++ys) with
   | none=>simp[hv,hn] at h
   | some m =>
    obtain⟨a,b,h1,h2,h3⟩:=z6u hn
    simp only[hv,hn,y1p,yo] at h
    exact⟨v :: a,b,by simp[h1],h2,by rw[<- h,h3]; rfl⟩
end Go.Proofs.YtgfgnhpecnmlpaaGreatDoor
/- One code under another,in the program; names. No condition. -/
namespace Go.Proofs.YtgfgnhpecnmlpaaGreatDoor
open Go Go.TA
open Go.IntKind (i64)
theorem zek (x y:List Int):F_qo x y=some (x==y):=by
 simp only[F_qo,S_qo,Scr.den]
 by_cases h:x.length=y.length
 ·rw[y5 (by simp only[y5t,ne_eq]; omega)]
  have h1:∀ i,i<x.length->(x.getD i dF=y.getD i dF)->(S_qo_b1 x y i ()).den=some (.cont ()):=fun i hi e=>by
   simp only[S_qo_b1,Scr.den]
   rw[Ga,y5 (by simp only[y5t,ne_eq,y3s]; exact e)]
  have h2:∀ i,i<x.length->¬ (x.getD i dF=y.getD i dF)->(S_qo_b1 x y i ()).den=some (.ret false):=fun i hi e=>by
   simp only[S_qo_b1,Scr.den]
   rw[Ga,y6 (by simp only[y5t,ne_eq]; exact e)]
  obtain⟨k1,k2⟩:=zgc (body:=fun i s=>(S_qo_b1 x y i s).den) (n:=x.length) (c:=false) (fun i=>x.getD i dF=y.getD i dF) h1 h2
  by_cases e:x=y
  ·subst e
   rw[k1 fun j _=>rfl]; simp[outM]
  ·rw[k2 fun hh=>e (List.ext_getElem h fun i hi hj=>by
    have:=hh i hi
    rw[z4u hi,z4u hj] at this
    exact this)]
   simp[outM,e]
 ·rw[y6 (by simp only[y5t,ne_eq]; omega)]
  have:(x==y)=false:=by simp only[y2c,ne_eq]; intro e; exact h (by rw[e])
  rw[this]
variable {a b:Y8}
theorem zhw:und a b=(decide (0<(parts b).length)&&decide ((parts b).length<=(parts a).length)&&((parts a).take (parts b).length==parts b)):=by
 rw[y1o]
 unfold und
 simp only[y9,y7,yy,yl]
 constructor
 ·rintro⟨⟨⟨⟨ha,hb⟩,h1⟩,h2⟩,h3⟩
  obtain⟨na,ga⟩:=z14 ha
  obtain⟨nb,gb⟩:=z14 hb
  refine⟨⟨gb.1,?_⟩,?_⟩ <;> rcases h3 with h3 | h3
  ·have e:a=b:=by rw[<- h2,y1v om]
   rw[e]; exact ya _
  ·have hlt:b.length<a.length:=by
    rcases yn b.length a.length with h | h
    ·exact h
    ·rw[List.getD_eq_getElem?_getD,yb h] at h3; simp at h3
   have e:a=b++46 :: a.drop (b.length+1):=by
    have h3':a[b.length]=46:=by
     rw[List.getD_eq_getElem?_getD,yc hlt] at h3
     simp only[y4a] at h3
     exact y47.1 h3
    conv=>lhs; rw[<- y1w b.length a,h2,y1a hlt,h3']
   rw[e,z4p] at na
   obtain⟨x,y,k1,k2,k3⟩:=z6u na
   rw[nb] at k1; cases k1
   rw[<- e] at k3
   rw[k3]; simp
  ·have e:a=b:=by rw[<- h2,y1v om]
   rw[e]; simp
  ·have hlt:b.length<a.length:=by
    rcases yn b.length a.length with h | h
    ·exact h
    ·rw[List.getD_eq_getElem?_getD,yb h] at h3; simp at h3
   have e:a=b++46 :: a.drop (b.length+1):=by
    have h3':a[b.length]=46:=by
     rw[List.getD_eq_getElem?_getD,yc hlt] at h3
     simp only[y4a] at h3
     exact y47.1 h3
    conv=>lhs; rw[<- y1w b.length a,h2,y1a hlt,h3']
   rw[e,z4p] at na
   obtain⟨x,y,k1,k2,k3⟩:=z6u na
   rw[nb] at k1; cases k1
   rw[<- e] at k3
   rw[k3]; simp
 ·rintro⟨⟨h1,h2⟩,h3⟩
  have hb:good b=true:=by rw[<- z3q]; simpa using h1
  have ha:good a=true:=by rw[<- z3q]; simp; omega
  obtain⟨na,ga⟩:=z14 ha
  obtain⟨nb,gb⟩:=z14 hb
  have hla:=z2b na
  have hlb:=z2b nb
  have hsplit:pieces a=(pieces a).take (pieces b).length++(pieces a).drop (pieces b).length:=(y1w _ _).symm
  rw[hsplit] at na
  obtain⟨x,y,k1,k2,k3⟩:=z6u na
  have hx:x=parts b:=by
   have:=z2b k1
   rw[y15] at this
   rw[<- h3,k3,List.take_append_of_le_length om,y1v om]
  have e1:(pieces a).take (pieces b).length=pieces b:=z98 (by rw[k1,hx]) nb
  rw[e1] at hsplit
  have ja:=z43 a
  have jb:=z43 b
  refine⟨⟨⟨⟨ha,hb⟩,?_⟩,?_⟩,?_⟩ <;> by_cases hr:(pieces a).drop (pieces b).length=[]
  ·rw[hr,y2r] at hsplit
   rw[z2y hsplit]; exact ya _
  ·rw[hsplit,z4b (zu b) hr,jb] at ja
   rw[<- ja]; simp
  ·rw[hr,y2r] at hsplit
   rw[z2y hsplit]; simp
  ·rw[hsplit,z4b (zu b) hr,jb] at ja
   rw[<- ja]; simp
  ·rw[hr,y2r] at hsplit
   exact .inl (by rw[z2y hsplit])
  ·rw[hsplit,z4b (zu b) hr,jb] at ja
   right
   rw[<- ja]; simp
theorem zjj (ha:a.length<=1000000) (hb:b.length<=1000000):F_q3e a b=some (und a b):=by
 simp only[F_q3e,S_q3e,Scr.den,z57 (l:=a) om,z57 (l:=b) om,obind,z9,zhw]
 by_cases h:0<(parts b).length/\(parts b).length<=(parts a).length
 ·rw[zg (by simp[AllP]; omega),zek,obind,z3 ⟨fun _=>h.2,trivial⟩]
  simp[h.1,h.2]
 ·rw[zo (by simp only[AllP,y30,y9,y7]; omega),obind,z3 ⟨fun hh=>by have hh:=hh.1; simp only[y9,y7] at hh; omega,trivial⟩]
  have:(decide (0<(parts b).length)&&decide ((parts b).length<=(parts a).length))=false:=by
   rw[y13]; intro hh; simp only[y9,y7] at hh; omega
  rw[this]
  congr 1
  have:(decide (((parts b).length:Int)>0)&&decide (((parts a).length:Int)>=((parts b).length:Int)))=false:=by
   rw[y13]; intro hh; simp only[y9,y7] at hh; omega
  simp
def nameOk (s:Y8):Bool:=decide (1<=s.length)&&decide (s.length<=40)&&!((s.getD 0 0).toNat==32)&&!((s.getD (s.length-1) 0).toNat==32)&&s.all fun c=>decide (32<=c.toNat)&&decide (c.toNat<=126)
variable {s:Y8}
theorem zdl {i:Nat} {p:UInt8->Bool} (hi:i<s.length):(s.drop i).all p=(p (s.getD i 0)&&(s.drop (i+1)).all p):=by
 rw[y1a hi,y44]
 simp[List.getD_eq_getElem?_getD,List.getElem?_eq_getElem hi]
theorem zel (hl:s.length<=1000000):F_qr s=some (nameOk s):=by
 simp only[F_qr,S_qr,Scr.den,zi]
 have w1:i64.wrap ((s.length:Int)-1)=(s.length:Int)-1:=wrapId om om
 have w2:((s.length:Int)-1).toNat=s.length-1:=om
 simp only[w1,w2]
 rw[z3 ⟨fun h=>by simp[AllP] at h; omega,fun h=>by simp[AllP] at h; omega,fun h=>by simp[AllP] at h; omega,trivial⟩]
 have hlp:∀ k i:Nat,i+k=s.length->outM (iterM (fun s_1=>(S_qr_b1 s s_1).den) (i:Int)) (fun _=>some true) (fun x=>some (id x))=some ((s.drop i).all fun c=>decide (32<=c.toNat)&&decide (c.toNat<=126)):=by
  generalize hF:(fun s_1=>(S_qr_b1 s s_1).den)=F
  intro k
  induction k with
  | zero =>
   intro i hk
   rw[zm,<- y38 hF,y1g om]
   simp only[S_qr_b1,Scr.den]
   rw[y5 sk]
   rfl
  | succ k ih =>
   intro i hk
   rw[zm,<- y38 hF,zdl om]
   simp only[S_qr_b1,Scr.den,yf,zi]
   rw[y6 sk,z3 ⟨om,om,fun _=>om,fun _=>om,trivial⟩]
   by_cases h:32<=(s.getD i 0).toNat/\(s.getD i 0).toNat<=126
   ·have w3:i64.wrap ((i:Int)+1)=((i+1:Nat):Int):=by rw[wrapId om om]; omega
    rw[y5 (by simp only[yl,y7]; omega)]
    simp only[w3,h,y4r,y4g,y28]
    exact ih (i+1) om
   ·rw[y6 (by simp only[yl,y7]; omega)]
    have:(decide (32<=(s.getD i 0).toNat)&&decide ((s.getD i 0).toNat<=126))=false:=by rw[y13]; simp only[ne_eq,y9,y7]; omega
    rw[this]
    rfl
 unfold nameOk
 by_cases h:1<=s.length/\s.length<=40/\¬ (s.getD 0 0).toNat=32/\¬ (s.getD (s.length-1) 0).toNat=32
 ·obtain⟨h1,h2,h3,h4⟩:=h
  rw[y5 (by simp only[yl,y7,yy]; omega)]
  have:=hlp s.length 0 om
  rw[show ((0:Nat):Int)=0 from rfl] at this
  rw[this]
  simp only[List.drop_zero,h1,h2,y4r,y28]
  have e3:((s.getD 0 0).toNat==32)=false:=by simpa using h3
  have e4:((s.getD (s.length-1) 0).toNat==32)=false:=by simpa using h4
  simp only[e3,e4,y5g,y28]
 ·rw[y6 (by simp only[yl,y7,yy]; omega)]
  congr 1
  symm
  rw[y13]
  intro hh
  simp only[y9,y7,y2h,y2c,ne_eq] at hh
  exact h ⟨hh.1.1.1.1,hh.1.1.1.2,hh.1.1.2,hh.1.2⟩
end Go.Proofs.YtgfgnhpecnmlpaaGreatDoor
/- Names in the program. No condition. -/
namespace Go.Proofs.YtgfgnhpecnmlpaaGreatDoor
open Go Go.TA
open Go.IntKind (i64)
variable {s:Y8} {p:Nat}
theorem zgf (_hp:p<s.length) (h:(s.getD p 0).toNat<128):runeAt s p=((s.getD p 0).toNat:Int)/\widAt s p=1:=by
 have hg:(ByteArray.mk s.toArray).get! (p+0)=s.getD p 0:=by
  show (s.toArray)[p+0]! = _
  simp[List.getD_eq_getElem?_getD,getElem!_def]
  cases s[p]? <;> rfl
 unfold runeAt widAt Utf8.decode
 simp only[hg]
 rw[y6 h]
 exact⟨rfl,rfl⟩
theorem zjk (_hp:p<s.length) (h:128<=(s.getD p 0).toNat):128<=runeAt s p:=by
 have hg:(ByteArray.mk s.toArray).get! (p+0)=s.getD p 0:=by
  show (s.toArray)[p+0]! = _
  simp[List.getD_eq_getElem?_getD,getElem!_def]
  cases s[p]? <;> rfl
 unfold runeAt Utf8.decode
 simp only[hg]
 rw[y5 om]
 have e:Utf8.runeError=65533:=rfl
 split
 ·split
  ·simp only; omega
  ·simp only[e]; omega
 ·split
  ·split
   ·rename_i h1
    simp only[y9,y7] at h1
    simp only; omega
   ·simp only[e]; omega
  ·split
   ·split
    ·rename_i h1
     simp only[y9,y7] at h1
     simp only; omega
    ·simp only[e]; omega
   ·simp only[e]; omega
theorem trimR (hl:s.length<=1000000) (h0:1<=s.length):∃ r,F_q1o s 32=some r/\r.length<=s.length/\((s.getD (s.length-1) 0).toNat≠32->r=s)/\((s.getD (s.length-1) 0).toNat=32->r.length<s.length):=by
 simp only[F_q1o,S_q1o,Scr.den]
 generalize hF:(fun sv1=>(S_q1o_b1 32 sv1).den)=F
 have step:∀ t:Y8,t.length<=s.length->(0<t.length/\(t.getD (t.length-1) 0).toNat=32/\F t=some (.cont (t.take (t.length-1))))\/(¬ (0<t.length/\(t.getD (t.length-1) 0).toNat=32)/\F t=some (.brk t)):=fun t ht=>by
  rw[<- y38 hF]
  simp only[S_q1o_b1,Scr.den,z9]
  by_cases hp:0<t.length
  ·have w1:i64.wrap ((t.length:Int)-1)=(t.length:Int)-1:=wrapId om om
   have w2:((t.length:Int)-1).toNat=t.length-1:=om
   simp only[w1,w2]
   rw[z3 ⟨fun _=>om,fun _=>om,trivial⟩]
   by_cases h:(t.getD (t.length-1) 0).toNat=32
   ·rw[y6 (by simp only[y9,y7,yy]; omega),Gb]
    exact .inl ⟨hp,h,rfl⟩
   ·rw[y5 (by simp only[y9,y7,yy]; omega)]
    exact .inr ⟨fun hh=>h hh.2,rfl⟩
  ·have hd:decide ((t.length:Int)>0)=false:=by simp only[y1j]; omega
   rw[z3 ⟨fun h=>by rw[hd] at h; exact absurd h.1 sj,fun h=>by rw[hd] at h; exact absurd h.1 sj,trivial⟩,y5 (by simp only[hd,y5h]; simp)]
   exact .inr ⟨fun hh=>hp hh.1,rfl⟩
 have tot:∀ t:Y8,t.length<=s.length->∃ r,iterM F t=some (.next r)/\r.length<=t.length:=fun t ht=>by
  refine zt (fun x:Y8=>x.length) (fun x=>x.length<=t.length) (fun x=>x.length<=t.length) (fun x hx=>?_) (t.length+1) t om (ya _)
  rcases step x om with ⟨h1,_,h3⟩ | ⟨_,h3⟩
  ·exact .inl ⟨_,h3,by simp <;> omega,by simp <;> omega⟩
  ·exact .inr ⟨_,h3,hx⟩
 rcases step s (ya _) with ⟨h1,h2,h3⟩ | ⟨h2,h3⟩
 ·obtain⟨r,k1,k2⟩:=tot (s.take (s.length-1)) (by simp <;> omega)
  refine⟨r,by rw[zm,h3]; simp only[k1]; rfl,?_,fun h=>absurd h2 h,fun _=>?_⟩ <;> (simp at k2; omega)
 ·exact⟨s,by rw[zm,h3]; rfl,ya _,fun _=>rfl,fun h=>absurd ⟨om,h⟩ h2⟩
theorem trimL:∃ r,F_q1p s 32=some r/\r.length<=s.length/\((s.getD 0 0).toNat≠32->r=s)/\(0<s.length->(s.getD 0 0).toNat=32->r.length<s.length):=by
 simp only[F_q1p,S_q1p,Scr.den]
 generalize hF:(fun sv1=>(S_q1p_b1 32 sv1).den)=F
 have step:∀ t:Y8,(0<t.length/\(t.getD 0 0).toNat=32/\F t=some (.cont ((t.drop 1).take (t.length-1))))\/(¬ (0<t.length/\(t.getD 0 0).toNat=32)/\F t=some (.brk t)):=fun t=>by
  rw[<- y38 hF]
  simp only[S_q1p_b1,Scr.den,z9]
  by_cases hp:0<t.length
  ·rw[z3 ⟨fun _=>hp,trivial⟩]
   by_cases h:(t.getD 0 0).toNat=32
   ·rw[y6 (by simp only[y9,y7,yy]; omega),Ga]
    exact .inl ⟨hp,h,rfl⟩
   ·rw[y5 (by simp only[y9,y7,yy]; omega)]
    exact .inr ⟨fun hh=>h hh.2,rfl⟩
  ·have hd:decide ((t.length:Int)>0)=false:=by simp only[y1j]; omega
   rw[z3 ⟨fun h=>by rw[hd] at h; exact absurd h.1 sj,trivial⟩,y5 (by simp only[hd,y5h]; simp)]
   exact .inr ⟨fun hh=>hp hh.1,rfl⟩
 have tot:∀ t:Y8,∃ r,iterM F t=some (.next r)/\r.length<=t.length:=fun t=>by
  refine zt (fun x:Y8=>x.length) (fun x=>x.length<=t.length) (fun x=>x.length<=t.length) (fun x hx=>?_) (t.length+1) t om (ya _)
  rcases step x with ⟨h1,_,h3⟩ | ⟨_,h3⟩
  ·exact .inl ⟨_,h3,by simp <;> omega,by simp <;> omega⟩
  ·exact .inr ⟨_,h3,hx⟩
 rcases step s with ⟨h1,h2,h3⟩ | ⟨h2,h3⟩
 ·obtain⟨r,k1,k2⟩:=tot ((s.drop 1).take (s.length-1))
  refine⟨r,by rw[zm,h3]; simp only[k1]; rfl,?_,fun h=>absurd h2 h,fun _ _=>?_⟩ <;> (simp at k2; omega)
 ·exact⟨s,by rw[zm,h3]; rfl,ya _,fun _=>rfl,fun hp h=>absurd ⟨hp,h⟩ h2⟩
theorem zkw (hl:s.length<=1000000) (h0:1<=s.length):∃ r,F_q3t s [32]=some r/\(r==s)=(!((s.getD 0 0).toNat==32)&&!((s.getD (s.length-1) 0).toNat==32)):=by
 obtain⟨r,a1,a2,a3,a4⟩:=trimR hl h0
 obtain⟨q,b1,b2,b3,b4⟩:=trimL (s:=r)
 refine⟨q,?_,?_⟩
 ·simp only[F_q3t,S_q3t,Scr.den,zi]
  have hs:(s==[])=false:=by rw[y2c]; intro e; rw[e] at h0; simp at h0
  rw[y5 (by simp[hs]),z3 ⟨fun _=>sj,trivial⟩,Gd]
  have e32:((([32]:Y8).getD 0 0).toNat:Int)=32:=rfl
  simp only[e32,a1,b1,obind]
  rw[z3 ⟨sj,trivial⟩]
 ·by_cases h1:(s.getD (s.length-1) 0).toNat=32
  ·have:=a4 h1
   have hne:(q==s)=false:=by rw[y2c]; intro e; rw[e] at b2; omega
   have e1:((s.getD (s.length-1) 0).toNat==32)=true:=by simpa using h1
   rw[hne,e1,y4f,Bool.and_false]
  ·have e:=a3 h1
   subst e
   by_cases h2:(r.getD 0 0).toNat=32
   ·have:=b4 om h2
    have hne:(q==r)=false:=by rw[y2c]; intro e; rw[e] at this; omega
    have e2:((r.getD 0 0).toNat==32)=true:=by simpa using h2
    rw[hne,e2]; rfl
   ·have e:=b3 h2
    have e1:((r.getD (r.length-1) 0).toNat==32)=false:=by rw[y2c]; exact h1
    have e2:((r.getD 0 0).toNat==32)=false:=by rw[y2c]; exact h2
    rw[e,e1,e2]; simp
theorem zkx (hl:s.length<=1000000):F_qt s=some (nameOk s):=by
 simp only[F_qt,S_qt,Scr.den,z9]
 have hlp:∀ K:Nat->Option Bool,(∀ a b,K a=K b)->∀ k i:Nat,i+k=s.length->outM (iterM (fun s_1=>(S_qt_b1 s s_1).den) i) K (fun x:Bool=>some (id x))=(if ((s.drop i).all fun c=>decide (32<=c.toNat)&&decide (c.toNat<=126))=true then K 0 else some false):=by
  generalize hF:(fun s_1=>(S_qt_b1 s s_1).den)=F
  intro K hK k
  induction k with
  | zero =>
   intro i hk
   rw[zm,<- y38 hF,y1g om]
   simp only[S_qt_b1,Scr.den]
   rw[y5 sk]
   simp only[outM,List.all_nil,y3i]
   exact hK _ _
  | succ k ih =>
   intro i hk
   have hi:i<s.length:=om
   rw[zm,<- y38 hF,zdl hi]
   simp only[S_qt_b1,Scr.den,zi]
   rw[y6 sk]
   by_cases hb:(s.getD i 0).toNat<128
   ·obtain⟨r1,r2⟩:=zgf hi hb
    simp only[r1,r2]
    by_cases h:32<=(s.getD i 0).toNat/\(s.getD i 0).toNat<=126
    ·rw[y5 (by simp only[yl,y7]; omega)]
     simp only[h,y4r,y4g,y28]
     exact ih (i+1) om
    ·rw[y6 (by simp only[yl,y7]; omega)]
     have:(decide (32<=(s.getD i 0).toNat)&&decide ((s.getD i 0).toNat<=126))=false:=by rw[y13]; simp only[ne_eq,y9,y7]; omega
     rw[this,y5h,y5 sj]
     rfl
   ·have:=zjk hi om
    rw[y6 (by simp only[yl,y7]; omega)]
    have:(decide (32<=(s.getD i 0).toNat)&&decide ((s.getD i 0).toNat<=126))=false:=by rw[y13]; simp only[ne_eq,y9,y7]; omega
    rw[this,y5h,y5 sj]
    rfl
 rw[hlp _ (fun _ _=>rfl) s.length 0 om,List.drop_zero]
 unfold nameOk
 by_cases ha:(s.all fun c=>decide (32<=c.toNat)&&decide (c.toNat<=126))=true
 ·rw[y6 ha,ha,Bool.and_true]
  by_cases h:1<=s.length/\s.length<=40
  ·obtain⟨r,k1,k2⟩:=zkw hl h.1
   rw[zg (by simp only[AllP,y30,y9,y7]; omega),k1,obind,k2]
   have e1:decide ((s.length:Int)>=1)=true:=by simp only[y7]; omega
   have e2:decide ((s.length:Int)<=40)=true:=by simp only[y7]; omega
   simp only[e1,e2,h,y4r,y28,y4g]
  ·rw[zo (by simp only[AllP,y30,y9,y7]; omega),obind]
   have e1:(decide ((s.length:Int)>=1)&&decide ((s.length:Int)<=40))=false:=by rw[y13]; simp only[ne_eq,y9,y7]; omega
   have e2:(decide (1<=s.length)&&decide (s.length<=40))=false:=by rw[y13]; simp only[ne_eq,y9,y7]; omega
   rw[e1,e2]; rfl
 ·rw[y5 ha]
  have:(s.all fun c=>decide (32<=c.toNat)&&decide (c.toNat<=126))=false:=by rw[y13]; exact ha
  rw[this,Bool.and_false]
end Go.Proofs.YtgfgnhpecnmlpaaGreatDoor
/- Trees of codes: their checks,their leaves,in both programs. No condition. -/
namespace Go.Proofs.YtgfgnhpecnmlpaaGreatDoor
open Go Go.TA
open Go.IntKind (i64)
attribute [-simp] List.getD_eq_getElem?_getD
def has (t:List THe) (c:Y8):Bool:=t.any fun h=>h.B==c
theorem z4q (t:List THe) (c:Y8):F_qq t c=some (has t c):=by
 simp only[F_qq,S_qq,Scr.den]
 rw[z2c t (fun h=>h.B==c) (fun _=>true) fun i hi=>by
  simp only[S_qq_b1,Scr.den]
  split <;> rfl]
 unfold has
 split
 ·rename_i h; rw[h]; rfl
 ·rename_i h; rw[y13.2 h]; rfl
theorem zhx (t:List THe) (c:Y8):F_q3d t c=some (has t c):=by
 simp only[F_q3d,S_q3d,F_q4n,S_q4n,F_q2o,S_q2o,Scr.den]
 rw[z2c t (fun h=>h.B==c) (fun i=>(i:Int)) fun i hi=>by
  simp only[S_q2o_b1,F_q4m,S_q4m,Scr.den,obind]
  split <;> rfl]
 unfold has
 split
 ·rename_i h; rw[h]; simp[outM]
 ·rename_i h; rw[y13.2 h]; simp only[outM,obind]; rfl
def headE (t:List THe) (i:Nat):Int :=
 if good (t.getD i dF).B=false then 5
 else if nameOk (t.getD i dF).V=false then 4
 else if 0<i/\¬ lexC (parts (t.getD (i-1) dF).B) (parts (t.getD i dF).B)<0 then 8
 else if par (t.getD i dF).B≠[]/\has t (par (t.getD i dF).B)=false then 6 else 0
def treeE (t:List THe):Int:=if t.length>60 then 3 else fstE t.length (headE t)
def SmT (t:List THe):Prop:=∀ h∈t,h.B.length<=1000000/\h.V.length<=1000000
variable {t:List THe} {i:Nat}
theorem za5 (h:headE t i=0):good (t.getD i dF).B=true:=by
 unfold headE at h
 split at h
 ·cases h
 ·rename_i hg; simpa using hg
variable {α:Type} {k:Option α} {d:α} {gs:List Prop}
theorem oT:optD (True :: gs) k d=optD gs k d:=by
 by_cases h:AllP gs
 ·rw[zg (gs:=True :: gs) ⟨trivial,h⟩,zg h]
 ·rw[zo (gs:=True :: gs) fun hh=>h hh.2,zo h]
theorem oF:optD (False :: gs) k d=some d:=by unfold optD; simp[AllP]
theorem oN:optD [] k d=k:=by unfold optD; simp[AllP]
theorem gT:guardP True k=k:=z3 trivial
theorem zay (hs:SmT t) (hl:t.length<=60) (hi:i<t.length) (hz:∀ j,j<i->headE t j=0) :
  (S_q26_b1 t i ()).den=some (if headE t i=0 then .cont () else .ret (i64.wrap ((i:Int)+1),headE t i)):=by
 obtain⟨hc,hn⟩:=hs _ (z4 hi)
 have hw:0<i->i64.wrap ((i:Int)-1)=((i-1:Nat):Int):=fun h0=>by rw[wrapId om om]; omega
 have hi':i-1<t.length:=om
 simp only[S_q26_b1,Scr.den,z1z (l:=(t.getD i dF).B) om,zel hn,z37 hc,z4q,obind,z9,headE]
 by_cases hg:good (t.getD i dF).B=true
 ·by_cases h0:0<i
  ·have hg':good (t.getD (i-1) dF).B=true:=za5 (hz (i-1) om)
   simp only[hw h0,yf,z23 hg' hg,hg]
   by_cases hp:par (t.getD i dF).B=[] <;> by_cases hh:has t (par (t.getD i dF).B)=true <;> simp[h0,hi',hp,hh,AllP,oT,oF,oN,gT] <;> (repeat' split) <;> simp_all
  ·have h0':i=0:=om
   subst h0'
   by_cases hp:par (t.getD 0 dF).B=[] <;> by_cases hh:has t (par (t.getD 0 dF).B)=true <;> simp[hg,hp,hh,AllP,oT,oF,oN,gT] <;> (repeat' split) <;> simp_all
 ·simp[hg]
theorem zdm (hs:SmT t):F_q3r t=some (treeE t):=by
 simp only[F_q3r,S_q3r,F_q26,S_q26,Scr.den,treeE]
 by_cases hl:t.length>60
 ·rw[y6 (by simp only[y7]; omega),y6 hl]; rfl
 ·rw[y5 (by simp only[y7]; omega),y5 hl]
  rw[z4o (headE t) (fun i=>(i64.wrap ((i:Int)+1),headE t i)) fun i hi hz=>zay hs om hi hz]
  unfold fstE
  split <;> rfl
end Go.Proofs.YtgfgnhpecnmlpaaGreatDoor
/- Trees in the program; leaves in both. No condition. -/
namespace Go.Proofs.YtgfgnhpecnmlpaaGreatDoor
open Go Go.TA
open Go.IntKind (i64)
attribute [-simp] List.getD_eq_getElem?_getD
variable {t:List THe}
theorem zgg (hs:SmT t) (hl:t.length<=60) {i:Nat} (hi:i<t.length) (hz:∀ j,j<i->headE t j=0):F_q3w t (i:Int)=some (headE t i):=by
 obtain⟨hc,hn⟩:=hs _ (z4 hi)
 have hw:0<i->i64.wrap ((i:Int)-1)=((i-1:Nat):Int):=fun h0=>by rw[wrapId om om]; omega
 have hi':i-1<t.length:=om
 obtain⟨hc',_⟩:=hs _ (z4 hi')
 simp only[F_q3w,S_q3w,Scr.den,yf,zbt hc,zge hc,zkx hn,zhx,obind,z9,headE]
 by_cases hg:good (t.getD i dF).B=true
 ·by_cases h0:0<i
  ·simp only[hw h0,yf,z6t hc' hc,z3i (.inr hg),hg]
   by_cases hp:par (t.getD i dF).B=[] <;> by_cases hh:has t (par (t.getD i dF).B)=true <;> simp[h0,hi,hi',hp,hh,AllP,oT,oF,oN,gT] <;> (repeat' split) <;> simp_all
  ·have h0':i=0:=om
   subst h0'
   by_cases hp:par (t.getD 0 dF).B=[] <;> by_cases hh:has t (par (t.getD 0 dF).B)=true <;> simp[hg,hi,hp,hh,AllP,oT,oF,oN,gT] <;> (repeat' split) <;> simp_all
 ·simp[hg,hi,AllP,gT]
theorem zjl (hs:SmT t):F_q3x t=some (treeE t):=by
 simp only[F_q3x,S_q3x,F_q2p,S_q2p,Scr.den,treeE]
 by_cases hl:t.length>60
 ·rw[y6 (by simp only[y7]; omega),y6 hl]; rfl
 ·rw[y5 (by simp only[y7]; omega),y5 hl]
  rw[z4o (headE t) (fun i=>(i64.wrap ((i:Int)+1),headE t i)) fun i hi hz=>by
   simp only[S_q2p_b1,Scr.den,zgg hs om hi hz,obind]
   by_cases h:headE t i=0 <;> simp[h]]
  unfold fstE
  split <;> rfl
def leafT (t:List THe) (c:Y8):Bool:=good c&&has t c&&t.all fun x=>!(par x.B==c)
def leavesU (t:List THe) (top:Y8):List Y8:=(t.filter fun h=>good h.B&&(top==[]||und h.B top)&&t.all fun x=>!(par x.B==h.B)).map (·.B)
theorem z3r {c:Y8}:c∈leavesU t []↔leafT t c=true:=by
 unfold leavesU leafT has
 simp only[yw,y19,y9,y3z,Bool.true_or,y30,y1r,yy]
 constructor
 ·rintro⟨h,⟨h1,h2,h3⟩,rfl⟩; exact⟨⟨h2,h,h1,rfl⟩,h3⟩
 ·rintro⟨⟨h1,h,h2,rfl⟩,h3⟩; exact⟨h,⟨h2,h1,h3⟩,rfl⟩
theorem z20 (t:List THe) (top:Y8):(leavesU t top).length<=t.length:=by unfold leavesU; simp; exact y3p _ _
variable {α:Type}
theorem zbu (l:List α) (p:α->Bool):∀ b:Bool,l.foldl (fun s x=>s&&p x) b=(b&&l.all p):=by
 induction l with
 | nil=>intro b; simp
 | cons x l ih=>intro b; rw[y2p,ih,y44,Bool.and_assoc]
theorem z1t {β ρ:Type} [Inhabited α] {body:Nat->List β->Option (Step (List β) ρ)} (l:List α) (p:α->Bool) (f:α->β) (N:Nat) (hN:l.length<=N) (hs:∀ i s,i<l.length->s.length<=N->body i s=some (.cont (if p (l.getD i dF)=true then s++[f (l.getD i dF)] else s))) :
  rangeM body l.length 0 []=some (.next ((l.filter p).map f)):=by
 obtain⟨s,h1,h2,_⟩:=zr (body:=body) (n:=l.length) (fun i s=>s=((l.take i).filter p).map f/\s.length<=i) (s0:=[]) ⟨rfl,y3j _⟩ (fun i s hi ⟨h1,h2⟩=>by
  refine⟨_,hs i s hi om,?_,?_⟩
  ·rw[y12 hi,y3n,y3f,<- h1]
   have e:l.getD i dF=l[i]:=by simp[List.getD_eq_getElem?_getD,List.getElem?_eq_getElem hi]
   rw[e]
   by_cases h:p l[i]=true
   ·simp[h]
   ·simp[h]
  ·split
   ·simp; omega
   ·omega)
 rw[h1,h2,y1v (ya _)]
theorem z1u {top:Y8} (hs:SmT t) (hl:t.length<=1000000) (ht:top.length<=1000000):F_q3 t top=some (leavesU t top):=by
 simp only[F_q3,S_q3,Scr.den]
 rw[z1t t (fun h=>good h.B&&(top==[]||und h.B top)&&t.all fun x=>!(par x.B==h.B)) (·.B) 1000000 hl fun i s hi hsl=>by
  obtain⟨hc,_⟩:=hs _ (z4 hi)
  have hin:rangeM (fun i1 s1=>(S_q3_b1 t i i1 s1).den) t.length 0 true=some (.next (t.all fun x=>!(par x.B==(t.getD i dF).B))):=by
   rw[z2i t (fun s x=>s&&!(par x.B==(t.getD i dF).B)) fun j b hj=>by
    obtain⟨hcj,_⟩:=hs _ (z4 hj)
    simp only[S_q3_b1,Scr.den,z37 hcj,z9]
    cases b <;> simp[oT,oF,oN]]
   rw[zbu,y28]
  simp only[S_q3_b2,Scr.den,z1z (l:=(t.getD i dF).B) om,z59 hc ht,obind,hin,outM,z9,zi]
  by_cases hg:good (t.getD i dF).B=true <;> by_cases h0:top=[] <;> by_cases hu:und (t.getD i dF).B top=true <;> simp[hg,h0,hu,oT,oF,oN] <;> (split <;> first | rfl | (rw[Ga]))]
 simp only[outM]
 have:=z20 t top
 unfold leavesU at this |-
 rw[Ga]
end Go.Proofs.YtgfgnhpecnmlpaaGreatDoor
/- Leaves in the program: a map of which entries are deleted. No condition. -/
namespace Go.Proofs.YtgfgnhpecnmlpaaGreatDoor
open Go Go.TA
open Go.IntKind (i64)
attribute [-simp] List.getD_eq_getElem?_getD
section
variable {α β:Type} [BEq α]
theorem z2p (a:α) (b:β) (l:List (α×β)) (c:α) (z:β):mget ((a,b) :: l) c z=if c==a then b else mget l c z:=by
 unfold mget
 rw[y59]
 cases h:c==a <;> simp
theorem zbv (a:α) (b:β) (l:List (α×β)) (k:α) (v:β):mupd ((a,b) :: l) k v=if k==a then (a,v) :: l else (a,b) :: mupd l k v:=by
 unfold mupd msto ment midx
 rw[y46,y2s]
 cases h:k==a
 ·simp only[y4t,y5u,y1u,y2u]
  split <;> rfl
 ·simp
theorem zhy (a:α) (b:β) (l:List (α×β)) (k:α):mdel ((a,b) :: l) k=if k==a then l else (a,b) :: mdel l k:=by
 unfold mdel midx
 rw[y2s]
 cases h:k==a <;> simp
theorem zbw [LawfulBEq α] (c k:α) (v z:β):∀ l:List (α×β),mget (mupd l k v) c z=if c==k then v else mget l c z
 | []=>by show mget [(k,v)] c z=_; rw[z2p]
 | (a,b) :: l=>by
  rw[zbv,z2p]
  by_cases h:(k==a)=true
  ·have e:=eq_of_beq h
   subst e
   rw[y6 h,z2p]
   by_cases h2:(c==k)=true <;> simp[h2]
  ·rw[y5 h,z2p,zbw c k v z l]
   by_cases h2:(c==a)=true
   ·have e:=eq_of_beq h2
    subst e
    have:¬ (c==k)=true:=fun h3=>h (by rw[eq_of_beq h3]; exact y3z k)
    rw[y6 h2,y5 this,y6 h2]
   ·rw[y5 h2,y5 h2]
theorem zbx [LawfulBEq α] (k:α) (v:β):∀ l:List (α×β),(l.map (·.1)).Nodup->((mupd l k v).map (·.1)).Nodup/\∀ x,x∈(mupd l k v).map (·.1)->x=k\/x∈l.map (·.1)
 | [],_=>⟨by show ([k]:List α).Nodup; simp,fun x hx=>.inl (by have:x∈([k]:List α):=hx; simpa using this)⟩
 | (a,b) :: l,h=>by
  rw[zbv]
  obtain⟨h1,h2⟩:=y4k.1 h
  by_cases hk:(k==a)=true
  ·rw[y6 hk]
   exact⟨h,fun x hx=>.inr hx⟩
  ·rw[y5 hk]
   obtain⟨k1,k2⟩:=zbx k v l h2
   refine⟨y4k.2 ⟨fun ha=>?_,k1⟩,fun x hx=>?_⟩
   ·rcases k2 a ha with e | e
    ·exact hk (by rw[e]; exact y3z k)
    ·exact h1 e
   ·rcases yi.1 hx with e | e
    ·exact .inr (yi.2 (.inl e))
    ·rcases k2 x e with e | e
     ·exact .inl e
     ·exact .inr (yi.2 (.inr e))
theorem zf6 [LawfulBEq α] (c:α) (z:β):∀ l:List (α×β),c ∉ l.map (·.1)->mget l c z=z
 | [],_=>rfl
 | (a,b) :: l,h=>by
  rw[z2p,y5 (fun e=>h (by rw[eq_of_beq e]; simp))]
  exact zf6 c z l fun h'=>h (ym _ h')
theorem zby [LawfulBEq α] (c k:α) (z:β):∀ l:List (α×β),(l.map (·.1)).Nodup->mget (mdel l k) c z=(if c==k then z else mget l c z)
 | [],_=>by show z=_; split <;> rfl
 | (a,b) :: l,h=>by
  obtain⟨h1,h2⟩:=y4k.1 h
  rw[zhy,z2p]
  by_cases hk:(k==a)=true
  ·have e:=eq_of_beq hk
   subst e
   rw[y6 hk]
   by_cases hc:(c==k)=true
   ·have e:=eq_of_beq hc
    subst e
    rw[y6 hc,zf6 c z l h1]
   ·rw[y5 hc,y5 hc]
  ·rw[y5 hk,z2p,zby c k z l h2]
   by_cases hc:(c==a)=true
   ·have e:=eq_of_beq hc
    subst e
    have:¬ (c==k)=true:=fun h3=>hk (by rw[eq_of_beq h3]; exact y3z k)
    rw[y6 hc,y5 this,y6 hc]
   ·rw[y5 hc,y5 hc]
theorem zhz (k:α) (l:List (α×β)) (h:(l.map (·.1)).Nodup):((mdel l k).map (·.1)).Nodup:=by
 refine List.Nodup.sublist ?_ h
 exact (List.eraseIdx_sublist _ _).map _
end
theorem zjm (t:List THe):∀ l:List (Y8×Bool),(l.map (·.1)).Nodup->((t.foldl (fun s h=>mupd s h.B (good h.B)) l).map (·.1)).Nodup /\
  ∀ c,mget (t.foldl (fun s h=>mupd s h.B (good h.B)) l) c false=if has t c=true then good c else mget l c false:=by
 induction t with
 | nil=>intro l h; exact⟨h,fun c=>by simp[has]⟩
 | cons x t ih =>
  intro l h
  obtain⟨k1,k2⟩:=ih _ (zbx x.B (good x.B) l h).1
  refine⟨k1,fun c=>?_⟩
  rw[y2p,k2,zbw]
  unfold has
  rw[y46]
  by_cases h1:(t.any fun h=>h.B==c)=true
  ·simp[h1]
  ·rw[y5 h1]
   by_cases h2:c=x.B
   ·subst h2; simp
   ·have:(x.B==c)=false:=by simpa using fun e:x.B=c=>h2 e.symm
    simp[h1,h2,this]
theorem zjn (t:List THe):∀ l:List (Y8×Bool),(l.map (·.1)).Nodup ->
  ∀ c,mget (t.foldl (fun s h=>mdel s (par h.B)) l) c false=((t.all fun h=>!(par h.B==c))&&mget l c false):=by
 induction t with
 | nil=>intro l h c; simp
 | cons x t ih =>
  intro l h c
  rw[y2p,ih _ (zhz (par x.B) l h),zby _ _ _ _ h,y44]
  by_cases h2:c=par x.B
  ·subst h2; simp
  ·have:(par x.B==c)=false:=by simpa using fun e:par x.B=c=>h2 e.symm
   simp[h2,this]
theorem zbz {t:List THe} (hs:SmT t) (hl:t.length<=1000000):F_q7 t []=some (leavesU t []):=by
 simp only[F_q7,S_q7,Scr.den]
 rw[z2i t (fun s h=>mupd s h.B (good h.B)) fun i s hi=>by
  obtain⟨hc,_⟩:=hs _ (z4 hi)
  simp only[S_q7_b1,Scr.den,zge hc,obind]]
 simp only[outM]
 rw[z2i t (fun s h=>mdel s (par h.B)) fun i s hi=>by
  obtain⟨hc,_⟩:=hs _ (z4 hi)
  simp only[S_q7_b2,Scr.den,zbt hc,obind]]
 simp only
 obtain⟨k1,k2⟩:=zjm t [] sj
 have k3:=zjn t _ k1
 generalize t.foldl (fun s h=>mdel s (par h.B)) (t.foldl (fun s h=>mupd s h.B (good h.B)) [])=M at k3
 rw[z1t t (fun h=>good h.B&&(([]:Y8)==[]||und h.B [])&&t.all fun x=>!(par x.B==h.B)) (·.B) 1000000 hl fun i s hi hsl=>by
  have hh:has t (t.getD i dF).B=true:=by
   unfold has; rw[y1r]; exact⟨_,z4 hi,sj⟩
  have hm:mget M (t.getD i dF).B false=((t.all fun h=>!(par h.B==(t.getD i dF).B))&&good (t.getD i dF).B):=by rw[k3,k2,y6 hh]
  simp only[S_q7_b3,Scr.den,hm,z9,zi]
  by_cases hg:good (t.getD i dF).B=true <;> by_cases ha:(t.all fun h=>!(par h.B==(t.getD i dF).B))=true <;> simp[hg,ha,oF] <;> (rw[Ga])]
 simp only
 have:=z20 t []
 unfold leavesU at this |-
 rw[Ga]
theorem z8t (l:List Y8) (c:Y8):F_q3f l c=some (l.contains c):=by
 simp only[F_q3f,S_q3f,F_q2r,S_q2r,Scr.den]
 rw[z2c l (fun x=>c==x) (fun i=>(i:Int)) fun i hi=>by
  simp only[S_q2r_b1,Scr.den]
  split <;> rfl]
 rw[List.contains_eq_any_beq]
 split
 ·rename_i h; rw[h]; simp[outM]
 ·rename_i h; rw[y13.2 h]; simp only[outM,obind]; rfl
end Go.Proofs.YtgfgnhpecnmlpaaGreatDoor
/- What a law's parts must be. No condition. -/
namespace Go.Proofs.YtgfgnhpecnmlpaaGreatDoor
open Go Go.TA
open Go.IntKind (i64)
attribute [-simp] List.getD_eq_getElem?_getD
def inY (f y x:Int):Bool:=decide (x>=f)&&decide (IntKind.u64.wrap (IntKind.u64.wrap x-IntKind.u64.wrap f)<IntKind.u64.wrap y)
def amt (n:Int):Bool:=decide (0<=n)&&decide (n<=1000000000000)
def ltC (a:Y8) (m:Int) (b:Y8) (n:Int):Bool:=decide (lexC (parts a) (parts b)<0)||(decide (lexC (parts a) (parts b)=0)&&decide (m<n))
def chE (one:Nat->Int) (ord:Nat->Bool) (i:Nat):Int:=if one i=0 then (if 0<i/\ord i=false then 8 else 0) else one i
variable {one:Nat->Int} {ord:Nat->Bool} {i:Nat}
theorem z31 (h:chE one ord i=0):one i=0:=by
 unfold chE at h
 split at h
 ·assumption
 ·exact h
theorem z6v:chE one ord i=0↔one i=0/\(0<i->ord i=true):=by
 unfold chE
 by_cases h:one i=0
 ·rw[y6 h]
  by_cases h0:0<i <;> cases ho:ord i <;> simp[h0,h]
 ·rw[y5 h]; simp[h]
def z2e (t:List THe) (f y:Int) (x:TLi):Int:=if leafT t x.B=false then 5 else if inY f y x.H=false then 16 else if amt x.D=false then 2 else 0
def lineE (t:List THe) (f y:Int) (l:List TLi):Nat->Int:=chE (fun i=>z2e t f y (l.getD i dF)) fun i=>ltC (l.getD (i-1) dF).B (l.getD (i-1) dF).H (l.getD i dF).B (l.getD i dF).H
def z1a (t:List THe) (f y:Int) (x:TBo):Int:=if has t x.B=false then 5 else if x.H≠-1/\inY f y x.H=false then 16 else if amt x.D=false then 2 else 0
def boundE (t:List THe) (f y:Int) (l:List TBo):Nat->Int:=chE (fun i=>z1a t f y (l.getD i dF)) fun i=>ltC (l.getD (i-1) dF).B (l.getD (i-1) dF).H (l.getD i dF).B (l.getD i dF).H
def z5o (t:List THe) (x:TEa):Int:=if has t x.Q=false\/leafT t x.B=false then 5 else if x.R<0\/x.R>100 then 2 else 0
def earE (t:List THe) (l:List TEa):Nat->Int:=chE (fun i=>z5o t (l.getD i dF)) fun i=>ltC (l.getD (i-1) dF).Q (lexC (parts (l.getD (i-1) dF).B) (parts (l.getD i dF).B)) (l.getD i dF).Q 0
def shSum (l:List TEa) (c:Y8):Int:=l.foldl (fun s x=>if und c x.Q=true then i64.wrap (s+x.R) else s) 0
def shareE (t:List THe) (l:List TEa):Int:=if (leavesU t []).any (fun c=>decide (shSum l c>100))=true then 13 else 0
def condBad (x:TCo):Prop:=(x.C≠1/\x.C≠2)\/(x.C=1/\(x.Q≠[]\/x.U≠0))\/(x.C=2/\x.L≠0)
instance (x:TCo):Decidable (condBad x):=inferInstanceAs (Decidable (_\/_))
def z24 (t:List THe) (f y:Int) (x:TCo):Int:=if condBad x then 1 else if leafT t x.B=false\/(x.C=2/\has t x.Q=false) then 5 else if inY f y x.H=false then 16 else
 if amt x.D=false\/amt x.U=false\/x.L<0\/x.L>35990 then 2 else 0
def za6 (t:List THe) (x:TRu):Int:=if x.J<1\/x.J>1000000\/x.R<0\/x.R>100 then 2 else if has t x.T=false\/has t x.W=false then 5 else 0
def ruleE (t:List THe) (l:List TRu):Nat->Int:=chE (fun i=>za6 t (l.getD i dF)) fun i=>decide ((l.getD (i-1) dF).J<(l.getD i dF).J)
def zk (t:List THe) (f y:Int) (x:TCh):Int:=if x.C<1\/x.C>3 then 1 else if has t x.B=false\/(x.C=1/\leafT t x.B=false) then 5 else
 if inY f y x.H=false/\(x.C=1\/x.H≠-1) then 16 else if amt x.D=false/\(x.C≠2\/x.D≠-1) then 2 else 0
def ltX (a b:TCh):Bool:=decide (a.C<b.C)||(decide (a.C=b.C)&&ltC a.B a.H b.B b.H)
def chgE (t:List THe) (f y:Int) (l:List TCh):Nat->Int:=chE (fun i=>zk t f y (l.getD i dF)) fun i=>ltX (l.getD (i-1) dF) (l.getD i dF)
def ltA (a b:TAm):Bool:=decide (a.L<b.L)||(decide (a.L=b.L)&&decide (a.J<b.J))
def amdE (t:List THe) (f y:Int) (l:List TAm) (i:Nat):Int :=
 if (l.getD i dF).L<0\/(l.getD i dF).L>35990\/(l.getD i dF).J<1\/(l.getD i dF).J>1000000 then 2
 else if 0<i/\ltA (l.getD (i-1) dF) (l.getD i dF)=false then 8 else if (l.getD i dF).G=[] then 1 else fstE (l.getD i dF).G.length (chgE t f y (l.getD i dF).G)
def orE (l:List Int):Int:=match l.find? (· != 0) with
 | some x=>x
 | none=>0
theorem z1i (x:Int) (l:List Int):orE (x :: l)=if x=0 then orE l else x:=by
 unfold orE
 rw[y59]
 by_cases h:x=0
 ·subst h; simp
 ·have:(x != 0)=true:=by simpa using h
  rw[this,y5 h]
theorem z25:orE []=0:=rfl
theorem zaz (l:List Int) {body:Nat->Unit->Option (Step Unit Int)} (hs:∀ i,i<l.length->body i ()=some (if (l.getD i dF)=0 then .cont () else .ret (l.getD i dF))) :
  outM (rangeM body l.length 0 ()) (fun _=>some 0) (fun x=>some (id x))=some (orE l):=by
 rw[za2 l (fun x=>x != 0) id fun i hi=>by
  rw[hs i hi]
  by_cases h:l.getD i dF=0 <;> simp]
 unfold orE
 cases l.find? (fun x=>x != 0) <;> rfl
def limB (l:TLa):Prop:=l.N.length>120\/l.K.length>60\/l.P.length>60\/l.O.length>20\/l.M.length>20\/l.S.length>20\/l.A.length>20\/l.A.any (fun a=>decide (a.G.length>20))=true
instance (l:TLa):Decidable (limB l):=inferInstanceAs (Decidable (_\/_))
def yrB (l:TLa):Prop:=l.E<0\/l.E>99\/l.F<1\/l.F>4\/l.E+l.F>100
instance (l:TLa):Decidable (yrB l):=inferInstanceAs (Decidable (_\/_))
def errL (l:TLa):Int:=if yrB l then 2 else if treeE l.I=0 then (if limB l then 3 else
 orE [fstE l.N.length (lineE l.I l.E l.F l.N),fstE l.K.length (boundE l.I l.E l.F l.K),fstE l.P.length (boundE l.I l.E l.F l.P),
  fstE l.O.length (earE l.I l.O),shareE l.I l.O,fstE l.M.length (fun i=>z24 l.I l.E l.F (l.M.getD i dF)),
  fstE l.S.length (ruleE l.I l.S),fstE l.A.length (amdE l.I l.E l.F l.A)]) else treeE l.I
structure SmL (l:TLa):Prop where
 t:SmT l.I
 tl:l.I.length<=1000000
 li:∀ x∈l.N,x.B.length<=1000000
 ll:l.N.length<=1000000
 ce:∀ x∈l.K,x.B.length<=1000000
 cl:l.K.length<=1000000
 fl:∀ x∈l.P,x.B.length<=1000000
 fll:l.P.length<=1000000
 ea:∀ x∈l.O,x.Q.length<=1000000/\x.B.length<=1000000
 el:l.O.length<=1000000
 co:∀ x∈l.M,x.Q.length<=1000000/\x.B.length<=1000000
 col:l.M.length<=1000000
 rl:l.S.length<=1000000
 am:∀ x∈l.A,x.G.length<=1000000/\∀ c∈x.G,c.B.length<=1000000
 al:l.A.length<=1000000
end Go.Proofs.YtgfgnhpecnmlpaaGreatDoor
/- The reference's checks of a law. No condition. -/
namespace Go.Proofs.YtgfgnhpecnmlpaaGreatDoor
open Go Go.TA
open Go.IntKind (i64)
attribute [-simp] List.getD_eq_getElem?_getD
theorem z2q (n:Int):F_q1g n=some (amt n):=by
 simp only[F_q1g,S_q1g,Scr.den,z9,amt,ge_iff_le]
theorem z5p {a b:Y8} (ha:good a=true) (hb:good b=true) (m n:Int):F_q2n a m b n=some (ltC a m b n):=by
 simp only[F_q2n,S_q2n,Scr.den,z23 ha hb,obind,z9,zi,ltC]
 congr 2
variable {t:List THe} {c:Y8}
theorem hasGood (ht:treeE t=0) (h:has t c=true):good c=true:=by
 unfold has at h
 obtain⟨x,hx,e⟩:=y1r.1 h
 obtain⟨i,hi,rfl⟩:=z1y hx
 have e:(t.getD i dF).B=c:=by simpa using e
 unfold treeE at ht
 split at ht
 ·cases ht
 ·rw[<- e]; exact za5 (z1m.1 ht i hi)
theorem leafGood (h:leafT t c=true):good c=true:=by
 unfold leafT at h
 simp only[y9] at h
 exact h.1.1
theorem wp {i:Nat} (h0:0<i) (h:i<=1000000):i64.wrap ((i:Int)-1)=((i-1:Nat):Int):=by rw[wrapId om om]; omega
variable {f y:Int} {ea:List TEa} {co:List TCo} {ru:List TRu} {ls:List TLi} {ce fl:List TBo} {am:List TAm}
theorem HasA (c:Y8):F_q13 f y t ea co ru c ls ce fl am=some (has t c):=by simp only[F_q13,S_q13,Scr.den,z4q,obind]
theorem LeafA (hs:SmT t) (hc:c.length<=1000000):F_qs f y t ea co ru c ls ce fl am=some (leafT t c):=by
 simp only[F_qs,S_qs,Scr.den,z1z (l:=c) om,HasA,obind,zi,leafT]
 by_cases hg:good c=true
 ·by_cases hh:has t c=true
  ·simp[hg,hh,oT,oN]
   rw[z2c t (fun x=>par x.B==c) (fun _=>false) fun i hi=>by
    obtain⟨hc,_⟩:=hs _ (z4 hi)
    simp only[S_qs_b1,Scr.den,z37 hc,obind]
    split <;> rfl]
   by_cases ha:(t.any fun x=>par x.B==c)=true
   ·rw[y6 ha]; simp only[outM]; congr 1; symm; rw[y13]; intro h
    obtain⟨x,hx,e⟩:=y1r.1 ha
    have:=y1m.1 h x hx
    simp[e] at this
   ·rw[y5 ha]; simp only[outM]; congr 1; symm; rw[y1m]; intro x hx
    have:=fun e=>ha (y1r.2 ⟨x,hx,e⟩)
    simpa using this
  ·simp[hg,hh,oT,oN]
 ·simp[hg,oF]
theorem InA (hy:1<=y) (x:Int):F_q2m f y t ea co ru x ls ce fl am=some (inY f y x):=by
 simp only[F_q2m,S_q2m,Scr.den,z9,inY]
 rw[yx (show y>0 from om),y28]
theorem linesA (hs:SmT t) (hy:1<=y) (hc:∀ x∈ls,x.B.length<=1000000) (hl:ls.length<=1000000):F_q1h f y t ea co ru ls ce fl am=some (fstE ls.length (lineE t f y ls)):=by
 simp only[F_q1h,S_q1h,Scr.den]
 rw[Ga]
 refine z1b (lineE t f y ls) fun i hi hz=>?_
 have hci:=hc _ (z4 hi)
 have hi':i-1<ls.length:=om
 simp only[S_q1h_b1,Scr.den,y17,LeafA hs hci,InA hy,z2q,obind,z9,lineE,chE,z2e]
 by_cases hf:leafT t (ls.getD i dF).B=true
 ·have hg:=leafGood hf
  by_cases h0:0<i
  ·have hz':=z31 (hz (i-1) om)
   have hf':leafT t (ls.getD (i-1) dF).B=true:=by
    simp only[z2e] at hz'
    split at hz'
    ·cases hz'
    ·rename_i h; simpa using h
   simp only[wp h0 (show i<=1000000 from om),yf,z5p (leafGood hf') hg,hf]
   by_cases h1:inY f y (ls.getD i dF).H=true <;> by_cases h2:amt (ls.getD i dF).D=true <;>
    by_cases h3:ltC (ls.getD (i-1) dF).B (ls.getD (i-1) dF).H (ls.getD i dF).B (ls.getD i dF).H=true <;> simp[h0,hi,hi',h1,h2,h3,AllP,oT,oN,gT]
  ·have h0':i=0:=om
   subst h0'
   by_cases h1:inY f y (ls.getD 0 dF).H=true <;> by_cases h2:amt (ls.getD 0 dF).D=true <;> simp[hf,hi,h1,h2,AllP,oF,gT]
 ·simp[hf,hi,AllP,gT]
theorem boundsAC (ht:treeE t=0) (hy:1<=y) (hl:ce.length<=1000000):F_q1i f y t ea co ru ls ce fl am=some (fstE ce.length (boundE t f y ce)):=by
 simp only[F_q1i,S_q1i,Scr.den]
 rw[Ga]
 refine z1b (boundE t f y ce) fun i hi hz=>?_
 have hi':i-1<ce.length:=om
 simp only[S_q1i_b1,Scr.den,y17,HasA,InA hy,z2q,obind,z9,boundE,chE,z1a]
 by_cases hf:has t (ce.getD i dF).B=true
 ·have hg:=hasGood ht hf
  by_cases h0:0<i
  ·have hz':=z31 (hz (i-1) om)
   have hf':has t (ce.getD (i-1) dF).B=true:=by
    simp only[z1a] at hz'
    split at hz'
    ·cases hz'
    ·rename_i h; simpa using h
   simp only[wp h0 (show i<=1000000 from om),yf,z5p (hasGood ht hf') hg,hf]
   by_cases h1:inY f y (ce.getD i dF).H=true <;> by_cases h2:amt (ce.getD i dF).D=true <;> by_cases h4:(ce.getD i dF).H=-1 <;>
    by_cases h3:ltC (ce.getD (i-1) dF).B (ce.getD (i-1) dF).H (ce.getD i dF).B (ce.getD i dF).H=true <;> (try simp only[h4] at h1 h3 |-) <;> simp[h0,hi,hi',h1,h2,h3,h4,AllP,oT,oF,oN,gT]
  ·have h0':i=0:=om
   subst h0'
   by_cases h1:inY f y (ce.getD 0 dF).H=true <;> by_cases h2:amt (ce.getD 0 dF).D=true <;> by_cases h4:(ce.getD 0 dF).H=-1 <;> (try simp only[h4] at h1 |-) <;> simp[hf,hi,h1,h2,h4,AllP,oT,oF,oN,gT]
 ·simp[hf,hi,AllP,gT]
theorem boundsAF (ht:treeE t=0) (hy:1<=y) (hl:fl.length<=1000000):F_q1j f y t ea co ru ls ce fl am=some (fstE fl.length (boundE t f y fl)):=by
 simp only[F_q1j,S_q1j,Scr.den]
 rw[Ga]
 refine z1b (boundE t f y fl) fun i hi hz=>?_
 have hi':i-1<fl.length:=om
 simp only[S_q1j_b1,Scr.den,y17,HasA,InA hy,z2q,obind,z9,boundE,chE,z1a]
 by_cases hf:has t (fl.getD i dF).B=true
 ·have hg:=hasGood ht hf
  by_cases h0:0<i
  ·have hz':=z31 (hz (i-1) om)
   have hf':has t (fl.getD (i-1) dF).B=true:=by
    simp only[z1a] at hz'
    split at hz'
    ·cases hz'
    ·rename_i h; simpa using h
   simp only[wp h0 (show i<=1000000 from om),yf,z5p (hasGood ht hf') hg,hf]
   by_cases h1:inY f y (fl.getD i dF).H=true <;> by_cases h2:amt (fl.getD i dF).D=true <;> by_cases h4:(fl.getD i dF).H=-1 <;>
    by_cases h3:ltC (fl.getD (i-1) dF).B (fl.getD (i-1) dF).H (fl.getD i dF).B (fl.getD i dF).H=true <;> (try simp only[h4] at h1 h3 |-) <;> simp[h0,hi,hi',h1,h2,h3,h4,AllP,oT,oF,oN,gT]
  ·have h0':i=0:=om
   subst h0'
   by_cases h1:inY f y (fl.getD 0 dF).H=true <;> by_cases h2:amt (fl.getD 0 dF).D=true <;> by_cases h4:(fl.getD 0 dF).H=-1 <;> (try simp only[h4] at h1 |-) <;> simp[hf,hi,h1,h2,h4,AllP,oT,oF,oN,gT]
 ·simp[hf,hi,AllP,gT]
end Go.Proofs.YtgfgnhpecnmlpaaGreatDoor
/- The reference's Valid. No condition. -/
namespace Go.Proofs.YtgfgnhpecnmlpaaGreatDoor
open Go Go.TA
open Go.IntKind (i64)
attribute [-simp] List.getD_eq_getElem?_getD
theorem zdn (l:List TEa) (c:Y8):shSum l c=l.foldl (fun s x=>if und c x.Q=true then i64.wrap (s+x.R) else s) 0:=rfl
theorem ordB (u v:Int):(decide (u>0)||u==0&&decide (v>=0))=!(decide (u<0)||decide (u=0)&&decide (v<0)):=by
 rw[y1o]
 simp only[yl,y9,y7,yy,y2h,y2j,y33,y1j]
 omega
variable {f y:Int} {t:List THe} {ea:List TEa} {co:List TCo} {ru:List TRu} {ls:List TLi} {ce fl:List TBo} {am:List TAm}
theorem earsA (hs:SmT t) (ht:treeE t=0) (htl:t.length<=1000000) (hc:∀ x∈ea,x.Q.length<=1000000/\x.B.length<=1000000) (hl:ea.length<=1000000) :
  F_q6 f y t ea co ru ls ce fl am=some (orE [fstE ea.length (earE t ea),shareE t ea]):=by
 simp only[F_q6,S_q6,Scr.den]
 rw[z4o (earE t ea) (earE t ea) fun i hi hz=>by
  have hi':i-1<ea.length:=om
  obtain⟨hcs,hci⟩:=hc _ (z4 hi)
  simp only[S_q6_b1,Scr.den,HasA,LeafA hs hci,obind,z9,zi,earE,chE,z5o]
  by_cases hf:has t (ea.getD i dF).Q=true <;> by_cases hf2:leafT t (ea.getD i dF).B=true
  ·have hg:=hasGood ht hf
   have hg2:=leafGood hf2
   by_cases h0:0<i
   ·have hz':=z31 (hz (i-1) om)
    have hf':has t (ea.getD (i-1) dF).Q=true/\leafT t (ea.getD (i-1) dF).B=true:=by
     simp only[z5o] at hz'
     split at hz'
     ·cases hz'
     ·rename_i h; simp only[not_or,y48] at h; exact h
    simp only[wp h0 (show i<=1000000 from om),yf,z23 (hasGood ht hf'.1) hg,z23 (leafGood hf'.2) hg2,hf,hf2,obind,ltC,ordB]
    by_cases h1:(ea.getD i dF).R<0 <;> by_cases h2:(ea.getD i dF).R>100 <;>
     by_cases h3:(decide (lexC (parts (ea.getD (i-1) dF).Q) (parts (ea.getD i dF).Q)<0)||decide (lexC (parts (ea.getD (i-1) dF).Q) (parts (ea.getD i dF).Q)=0)&&decide (lexC (parts (ea.getD (i-1) dF).B) (parts (ea.getD i dF).B)<0))=true <;> (try rw[y4c] at h3) <;> simp only[h3] <;> simp[h0,hi',h1,h2,AllP,oT,oN,gT]
   ·have h0':i=0:=om
    subst h0'
    by_cases h1:(ea.getD 0 dF).R<0 <;> by_cases h2:(ea.getD 0 dF).R>100 <;> simp[hf,hf2,h1,h2,oT,oN]
  all_goals simp[hf,hf2,AllP,oT,oF,oN]]
 have hsh:(outM (F_q3 t [] >>= fun rv6=>rangeM (fun i s=>(S_q6_b3 ea rv6 i s).den) rv6.length 0 ()) (fun _=>some 0) (fun x=>some (id x)))=some (shareE t ea):=by
  rw[z1u hs htl sj]
  show outM (rangeM (fun i s=>(S_q6_b3 ea (leavesU t []) i s).den) (leavesU t []).length 0 ()) _ _=_
  rw[z2c (leavesU t []) (fun c=>decide (shSum ea c>100)) (fun _=>13) fun i hi=>by
   have hlen:((leavesU t []).getD i dF).length<=1000000:=by
    have:=z3r.1 (z4 hi)
    have:=z2o (leafGood this)
    omega
   simp only[S_q6_b3,Scr.den]
   rw[z2i ea (fun s x=>if und ((leavesU t []).getD i dF) x.Q=true then i64.wrap (s+x.R) else s) fun j s hj=>by
    obtain⟨hcs,_⟩:=hc _ (z4 hj)
    simp only[S_q6_b2,Scr.den,z59 hlen hcs,obind]
    split <;> rfl]
   simp only[outM,<- zdn]
   by_cases h:shSum ea ((leavesU t []).getD i dF)>100 <;> simp[h]]
  unfold shareE
  split <;> rfl
 rw[z1i,z1i,z25]
 unfold fstE
 split
 ·rename_i j hj
  have:=y4l hj
  have hne:earE t ea j≠0:=by simpa using this
  rw[y5 hne]
  rfl
 ·simp only[outM,y3i]
  simp only[z1u (top:=[]) hs htl sj,obind] at hsh |-
  have e:(if shareE t ea=0 then (0:Int) else shareE t ea)=shareE t ea:=by split <;> simp_all
  rw[e]
  exact hsh
theorem condsA (hs:SmT t) (hy:1<=y) (hc:∀ x∈co,x.Q.length<=1000000/\x.B.length<=1000000) (_hl:co.length<=1000000) :
  F_q1k f y t ea co ru ls ce fl am=some (fstE co.length fun i=>z24 t f y (co.getD i dF)):=by
 simp only[F_q1k,S_q1k,Scr.den]
 refine z1b (fun i=>z24 t f y (co.getD i dF)) fun i hi hz=>?_
 obtain⟨hcs,hci⟩:=hc _ (z4 hi)
 simp only[S_q1k_b1,Scr.den,HasA,LeafA hs hci,InA hy,z2q,obind,z9,zi,z24]
 generalize co.getD i dF=x
 have hb:(!(x.C==1)&&!(x.C==2)||x.C==1&&(!(x.Q==[])||x.U != 0)||x.C==2&&x.L != 0)=decide (condBad x):=by
  rw[y1o,y5l]
  unfold condBad
  simp[or_assoc]
 rw[hb]
 by_cases h1:condBad x
 ·simp[h1]
 ·by_cases h2:leafT t x.B=true <;> by_cases h3:has t x.Q=true <;> by_cases h4:x.C=2 <;> by_cases h5:inY f y x.H=true <;> by_cases h6:amt x.D=true <;> by_cases h7:amt x.U=true <;>
   simp[h1,h2,h3,h4,h5,h6,h7,oT,oF,oN] <;> (split <;> simp_all <;> omega)
theorem rulesA (hl:ru.length<=1000000):F_q1l f y t ea co ru ls ce fl am=some (fstE ru.length (ruleE t ru)):=by
 simp only[F_q1l,S_q1l,Scr.den]
 refine z1b (ruleE t ru) fun i hi hz=>?_
 have hi':i-1<ru.length:=om
 simp only[S_q1l_b1,Scr.den,HasA,obind,z9,zi,ruleE,chE,za6]
 by_cases h0:0<i
 ·simp only[wp h0 (show i<=1000000 from om),yf]
  by_cases h1:has t (ru.getD i dF).T=true <;> by_cases h2:has t (ru.getD i dF).W=true <;> by_cases h3:(ru.getD (i-1) dF).J>=(ru.getD i dF).J <;>
   by_cases h4:(ru.getD i dF).J<1\/(ru.getD i dF).J>1000000\/(ru.getD i dF).R<0\/(ru.getD i dF).R>100 <;>
   simp[h0,hi',h1,h2,h3,h4,or_assoc,AllP,oT,oF,oN,gT] <;> omega
 ·have h0':i=0:=om
  subst h0'
  by_cases h1:has t (ru.getD 0 dF).T=true <;> by_cases h2:has t (ru.getD 0 dF).W=true <;>
   by_cases h4:(ru.getD 0 dF).J<1\/(ru.getD 0 dF).J>1000000\/(ru.getD 0 dF).R<0\/(ru.getD 0 dF).R>100 <;>
   simp[h1,h2,h4,or_assoc,AllP,oT,oF,oN,gT]
end Go.Proofs.YtgfgnhpecnmlpaaGreatDoor
/- The reference's Valid. No condition. -/
namespace Go.Proofs.YtgfgnhpecnmlpaaGreatDoor
open Go Go.TA
open Go.IntKind (i64)
attribute [-simp] List.getD_eq_getElem?_getD
theorem z40 {one:Nat->Int} {ord:Nat->Bool} {i:Nat} {X:Option (Step Unit Int)} (h1:one i≠0->X=some (.ret (one i))) (h2:one i=0->X=some (if 0<i/\ord i=false then .ret 8 else .cont ())) :
  X=some (if chE one ord i=0 then .cont () else .ret (chE one ord i)):=by
 unfold chE
 by_cases h:one i=0
 ·rw[h2 h,y6 h]
  by_cases h':0<i/\ord i=false
  ·rw[y6 h',y6 h',y5 dk]
  ·rw[y5 h',y5 h',y6 rfl]
 ·rw[h1 h,y5 h,y5 h]
theorem chgsA {f y:Int} {t:List THe} {ea:List TEa} {co:List TCo} {ru:List TRu} {ls:List TLi} {ce fl:List TBo} {am:List TAm} (hs:SmT t) (ht:treeE t=0) (hy:1<=y) {b:List TCh} (hc:∀ x∈b,x.B.length<=1000000) (hl:b.length<=1000000) :
  F_q27 f y t ea co ru b ls ce fl am=some (fstE b.length (chgE t f y b)):=by
 simp only[F_q27,S_q27,Scr.den]
 refine z1b (chgE t f y b) fun i hi hz=>?_
 have hci:=hc _ (z4 hi)
 have hi':i-1<b.length:=om
 simp only[S_q27_b1,Scr.den,HasA,LeafA hs hci,InA hy,z2q,obind,z9,zi]
 unfold chgE
 by_cases p1:(b.getD i dF).C<1\/(b.getD i dF).C>3
 ·refine z40 (fun _=>by simp[zk,p1]) (fun h=>by simp[zk,p1] at h)
 have k1:¬ (b.getD i dF).C<1:=fun h=>p1 (.inl h)
 have k2:¬ (b.getD i dF).C>3:=fun h=>p1 (.inr h)
 by_cases p2:has t (b.getD i dF).B=false\/((b.getD i dF).C=1/\leafT t (b.getD i dF).B=false)
 ·refine z40 (fun _=>?_) (fun h=>by simp[zk,p1,p2] at h)
  simp only[zk,y5 p1,y6 p2]
  rcases p2 with h | ⟨h,h'⟩
  ·simp[k1,k2,h]
   by_cases h4:(b.getD i dF).C=1 <;> simp[h4,oT,oF]
  ·by_cases hh:has t (b.getD i dF).B=true <;> simp[h,h',hh,oT,oF,oN]
 have hf:has t (b.getD i dF).B=true:=by
  cases h:has t (b.getD i dF).B
  ·exact absurd (.inl h) p2
  ·rfl
 have hlf:(b.getD i dF).C=1->leafT t (b.getD i dF).B=true:=fun e=>by
  cases h:leafT t (b.getD i dF).B
  ·exact absurd (.inr ⟨e,h⟩) p2
  ·rfl
 have e2:(optD [((b.getD i dF).C==1)=true,(!true)=false] (some (leafT t (b.getD i dF).B)) dF)=some (if (b.getD i dF).C=1 then true else dF):=by
  by_cases h4:(b.getD i dF).C=1 <;> simp[h4,oT,oF,oN,hlf]
 have e3:(!inY f y (b.getD i dF).H&&((b.getD i dF).C==1||(b.getD i dF).H != -1))=decide (inY f y (b.getD i dF).H=false/\((b.getD i dF).C=1\/(b.getD i dF).H≠-1)):=by
  rw[y1o,y5l]; simp
 have e4:(!amt (b.getD i dF).D&&((b.getD i dF).C != 2||(b.getD i dF).D != -1))=decide (amt (b.getD i dF).D=false/\((b.getD i dF).C≠2\/(b.getD i dF).D≠-1)):=by
  rw[y1o,y5l]; simp
 have e1:(decide ((b.getD i dF).C<1)||decide ((b.getD i dF).C>3))=false:=by simp[k1]; omega
 simp only[hf,e1,e2,e3,e4,obind,y1u,y2u]
 have e5:(!true||(b.getD i dF).C==1&&!(if (b.getD i dF).C=1 then true else dF))=false:=by
  by_cases h4:(b.getD i dF).C=1 <;> simp[h4]
 simp only[e5,y1u,y2u]
 by_cases p3:inY f y (b.getD i dF).H=false/\((b.getD i dF).C=1\/(b.getD i dF).H≠-1)
 ·refine z40 (fun _=>?_) (fun h=>by simp only[zk,y5 p1,y5 p2,y6 p3] at h; cases h)
  simp only[zk,y5 p1,y5 p2,y6 p3,yx p3,y3i]
 by_cases p4:amt (b.getD i dF).D=false/\((b.getD i dF).C≠2\/(b.getD i dF).D≠-1)
 ·refine z40 (fun _=>?_) (fun h=>by simp only[zk,y5 p1,y5 p2,y5 p3,y6 p4] at h; cases h)
  simp only[zk,y5 p1,y5 p2,y5 p3,y6 p4,yx p4,y27 p3,y3i,y1u,y2u]
 refine z40 (fun h=>by simp only[zk,y5 p1,y5 p2,y5 p3,y5 p4] at h; exact absurd rfl h) (fun _=>?_)
 simp only[y27 p4,y27 p3,y1u,y2u]
 have hg:=hasGood ht hf
 by_cases h0:0<i
 ·have hz':=z31 (hz (i-1) om)
  have hf':has t (b.getD (i-1) dF).B=true:=by
   simp only[zk] at hz'
   split at hz'
   ·cases hz'
   ·split at hz'
    ·cases hz'
    ·rename_i h; simp only[not_or,y48] at h; exact h.1
  simp only[wp h0 (show i<=1000000 from om),yf,z5p (hasGood ht hf') hg,ltX]
  rcases Int.lt_trichotomy (b.getD (i-1) dF).C (b.getD i dF).C with hh | hh | hh
  ·have a1:¬ (b.getD (i-1) dF).C>(b.getD i dF).C:=om
   have a2:¬ (b.getD (i-1) dF).C=(b.getD i dF).C:=om
   simp[h0,hi',hh,a1,a2,AllP,oF,gT]
  ·by_cases hq:ltC (b.getD (i-1) dF).B (b.getD (i-1) dF).H (b.getD i dF).B (b.getD i dF).H=true <;> simp[h0,hi',hh,hq,AllP,oT,oN,gT]
  ·have a1:¬ (b.getD (i-1) dF).C<(b.getD i dF).C:=om
   have a2:¬ (b.getD (i-1) dF).C=(b.getD i dF).C:=om
   simp[h0,hi',hh,a1,a2,AllP,oF,gT]
 ·have h0':i=0:=om
  subst h0'
  simp[AllP,gT]
  by_cases hh:(b.getD (i64.wrap (-1)).toNat dF).C=(b.getD 0 dF).C <;> simp[hh,oT,oF]
end Go.Proofs.YtgfgnhpecnmlpaaGreatDoor
/- The reference's Valid. No condition. -/
namespace Go.Proofs.YtgfgnhpecnmlpaaGreatDoor
open Go Go.TA
open Go.IntKind (i64)
attribute [-simp] List.getD_eq_getElem?_getD
theorem zb0 (l:List Int) (i:Nat):(if (l.getD i dF != 0)=true then some (.ret (l.getD i dF)) else some (.cont ()):Option (Step Unit Int))=some (if l.getD i dF=0 then .cont () else .ret (l.getD i dF)):=by
 generalize l.getD i dF=v
 by_cases h:v=0 <;> simp[h]
variable {f y:Int} {t:List THe} {ea:List TEa} {co:List TCo} {ru:List TRu} {ls:List TLi} {ce fl:List TBo} {am:List TAm}
theorem amdsA (hs:SmT t) (ht:treeE t=0) (hy:1<=y) (hc:∀ x∈am,x.G.length<=1000000/\∀ c∈x.G,c.B.length<=1000000) (hl:am.length<=1000000) :
  F_q1m f y t ea co ru ls ce fl am=some (fstE am.length (amdE t f y am)):=by
 simp only[F_q1m,S_q1m,Scr.den]
 rw[Ga]
 refine z1b (amdE t f y am) fun i hi hz=>?_
 obtain⟨hcl,hcc⟩:=hc _ (z4 hi)
 have hi':i-1<am.length:=om
 simp only[S_q1m_b1,Scr.den,y17,chgsA hs ht hy hcc hcl,obind,z9,zi,amdE]
 rw[z3 ⟨hi,trivial⟩]
 by_cases p1:(am.getD i dF).L<0\/(am.getD i dF).L>35990\/(am.getD i dF).J<1\/(am.getD i dF).J>1000000
 ·simp only[y6 p1]
  rw[y6 (by simp only[yl,y7]; omega)]
  rfl
 simp only[y5 p1]
 rw[y5 (by simp only[yl,y7]; omega)]
 have he:(am.getD i dF).G=[]↔((((am.getD i dF).G).length:Int)==0)=true:=by
  rw[yy,<- y25]; omega
 have hfin:(if ((((am.getD i dF).G).length:Int)==0)=true then some (Step.ret 1) else if (fstE (am.getD i dF).G.length (chgE t f y (am.getD i dF).G) != 0)=true then
   some (Step.ret (fstE (am.getD i dF).G.length (chgE t f y (am.getD i dF).G))) else some (Step.cont ()):Option (Step Unit Int)) =
   some (if (if (am.getD i dF).G=[] then 1 else fstE (am.getD i dF).G.length (chgE t f y (am.getD i dF).G))=0 then Step.cont () else
    Step.ret (if (am.getD i dF).G=[] then 1 else fstE (am.getD i dF).G.length (chgE t f y (am.getD i dF).G))):=by
  by_cases h:(am.getD i dF).G=[]
  ·rw[y6 (he.1 h)]; simp only[y6 h]; rfl
  ·rw[y5 (fun h'=>h (he.2 h'))]; simp only[y5 h]
   by_cases h0:fstE (am.getD i dF).G.length (chgE t f y (am.getD i dF).G)=0
   ·simp[h0]
   ·simp[h0]
 by_cases h0:0<i
 ·simp only[wp h0 (show i<=1000000 from om),yf,ltA]
  rcases Int.lt_trichotomy (am.getD (i-1) dF).L (am.getD i dF).L with hh | hh | hh
  ·have a1:¬ (am.getD (i-1) dF).L>(am.getD i dF).L:=om
   have a2:¬ (am.getD (i-1) dF).L=(am.getD i dF).L:=om
   rw[z3 (by simp[h0,hi',a1,a2,AllP])]
   rw[y5 (by simp[a1,a2])]
   simp only[hh,y4r,Bool.true_or,y3o,and_false,y2u]
   exact hfin
  ·have a1:¬ (am.getD (i-1) dF).L>(am.getD i dF).L:=om
   have a3:¬ (am.getD (i-1) dF).L<(am.getD i dF).L:=om
   rw[z3 (by simp[h0,hi',hh,AllP])]
   by_cases hn:(am.getD (i-1) dF).J<(am.getD i dF).J
   ·rw[y5 (by simp only[y9,yl,y7,yy]; omega)]
    simp only[hh,hn,y4r,y4g,Bool.or_true,y3o,and_false,y2u]
    exact hfin
   ·rw[y6 (by simp only[y9,yl,y7,yy]; omega)]
    have:(decide ((am.getD (i-1) dF).L<(am.getD i dF).L)||decide ((am.getD (i-1) dF).L=(am.getD i dF).L)&&decide ((am.getD (i-1) dF).J<(am.getD i dF).J))=false:=by
     rw[y13]; simp only[ne_eq,y9,yl,y7]; omega
    simp only[this,h0,and_self,y3i]
    rfl
  ·have a1:¬ (am.getD (i-1) dF).L<(am.getD i dF).L:=om
   have a2:¬ (am.getD (i-1) dF).L=(am.getD i dF).L:=om
   rw[z3 (by simp[h0,hi',hh,a2,AllP])]
   rw[y6 (by simp only[y9,yl,y7,yy]; omega)]
   have:(decide ((am.getD (i-1) dF).L<(am.getD i dF).L)||decide ((am.getD (i-1) dF).L=(am.getD i dF).L)&&decide ((am.getD (i-1) dF).J<(am.getD i dF).J))=false:=by
    rw[y13]; simp only[ne_eq,y9,yl,y7]; omega
   simp only[this,h0,and_self,y3i]
   rfl
 ·have h0':i=0:=om
  subst h0'
  rw[z3 (by simp[AllP])]
  rw[y5 sj]
  simp only[Nat.lt_irrefl,false_and,y2u]
  exact hfin
theorem limsA (hl:am.length<=1000000):F_q1f f y t ea co ru ls ce fl am=some (if limB (⟨f,y,t,ls,ce,fl,ea,co,ru,am⟩:TLa) then 3 else 0):=by
 simp only[F_q1f,S_q1f,Scr.den,zi]
 by_cases h:ls.length>120\/ce.length>60\/fl.length>60\/ea.length>20\/co.length>20\/ru.length>20\/am.length>20
 ·rw[y6 (by simp only[yl,y7]; omega),y6 (by rcases h with h | h | h | h | h | h | h <;> simp[limB,h])]
 ·rw[y5 (by simp only[yl,y7]; omega)]
  rw[Ga]
  rw[z2c am (fun a=>decide (a.G.length>20)) (fun _=>3) fun i hi=>by
   simp only[S_q1f_b1,Scr.den,y17]
   rw[z3 ⟨hi,trivial⟩]
   by_cases hx:(am.getD i dF).G.length>20
   ·rw[y6 (by simp only[y7]; omega),y6 (yx hx)]
   ·rw[y5 (by simp only[y7]; omega),y5 (by simpa using hx)]]
  by_cases ha:(am.any fun a=>decide (a.G.length>20))=true
  ·rw[y6 ha,y6 (show limB (⟨f,y,t,ls,ce,fl,ea,co,ru,am⟩:TLa) from .inr (.inr (.inr (.inr (.inr (.inr (.inr ha)))))))]; rfl
  ·rw[y5 ha,y5 (show ¬ limB (⟨f,y,t,ls,ce,fl,ea,co,ru,am⟩:TLa) from fun hb=>by
    rcases hb with hb | hb | hb | hb | hb | hb | hb | hb
    ·exact h (.inl hb)
    ·exact h (.inr (.inl hb))
    ·exact h (.inr (.inr (.inl hb)))
    ·exact h (.inr (.inr (.inr (.inl hb))))
    ·exact h (.inr (.inr (.inr (.inr (.inl hb)))))
    ·exact h (.inr (.inr (.inr (.inr (.inr (.inl hb))))))
    ·exact h (.inr (.inr (.inr (.inr (.inr (.inr hb))))))
    ·exact ha hb)]; rfl
theorem za7 (hs:SmL (⟨f,y,t,ls,ce,fl,ea,co,ru,am⟩:TLa)):F_q28 f y t ea co ru ls ce fl am=some (errL (⟨f,y,t,ls,ce,fl,ea,co,ru,am⟩:TLa)):=by
 simp only[F_q28,S_q28,Scr.den,zi,zdm (t:=t) hs.t,obind]
 unfold errL
 by_cases p1:yrB (⟨f,y,t,ls,ce,fl,ea,co,ru,am⟩:TLa)
 ·rw[y6 p1,y6]
  unfold yrB at p1
  simp only[yl,y7] at p1 |-
  by_cases hr:0<=f/\f<=99/\1<=y/\y<=4
  ·rw[wrapId (n:=f+y) om om,wrapId om om]; omega
  ·omega
 have q1:¬ (f<0\/f>99\/y<1\/y>4\/f+y>100):=p1
 rw[y5 p1,y5 (by simp only[yl,y7]; rw[wrapId (n:=f+y) om om,wrapId om om]; omega)]
 by_cases p2:treeE t=0
 ·have hy:1<=y:=om
  rw[y5 (by simp[p2]),y6 p2]
  simp only[limsA hs.al,linesA hs.t hy hs.li hs.ll,boundsAC p2 hy hs.cl,boundsAF p2 hy hs.fll,earsA hs.t p2 hs.tl hs.ea hs.el,condsA hs.t hy hs.co hs.col,rulesA hs.rl,amdsA hs.t p2 hy hs.am hs.al,obind]
  refine (zaz [if limB (⟨f,y,t,ls,ce,fl,ea,co,ru,am⟩:TLa) then 3 else 0,fstE ls.length (lineE t f y ls),fstE ce.length (boundE t f y ce),fstE fl.length (boundE t f y fl),
   orE [fstE ea.length (earE t ea),shareE t ea],fstE co.length (fun i=>z24 t f y (co.getD i dF)),fstE ru.length (ruleE t ru),fstE am.length (amdE t f y am)] fun i hi=>?_).trans ?_
  ·simp only[S_q28_b1,Scr.den]
   exact zb0 _ i
  congr 1
  rw[z1i]
  by_cases p3:limB (⟨f,y,t,ls,ce,fl,ea,co,ru,am⟩:TLa)
  ·simp only[y6 p3]; rfl
  ·simp only[y5 p3,y3i]
   simp only[z1i,z25]
   (repeat' split) <;> simp_all
 ·rw[y6 (by simp[p2]),y5 p2]
end Go.Proofs.YtgfgnhpecnmlpaaGreatDoor
/- The program's Valid: the same. No condition. -/
namespace Go.Proofs.YtgfgnhpecnmlpaaGreatDoor
open Go Go.TA
open Go.IntKind (i64)
attribute [-simp] List.getD_eq_getElem?_getD
theorem z3c (n a b:Int):F_q14 n a b=some (decide (n>=a)&&decide (n<=b)):=by simp only[F_q14,S_q14,Scr.den,z9]
theorem z5a (n:Int):F_q29 n=some (amt n):=by simp only[F_q29,S_q29,Scr.den,z9,amt,ge_iff_le]
theorem zi0 (n:Int):F_q3g n=some (decide (n>=0)&&decide (n<=35990)):=by simp only[F_q3g,S_q3g,Scr.den,z3c,obind]
theorem zc0 (n:Int):F_q3h n=some (decide (n>=1)&&decide (n<=1000000)):=by simp only[F_q3h,S_q3h,Scr.den,z3c,obind]
variable {l:TLa}
theorem z7n (hy:1<=l.F) (x:Int):F_q2s l x=some (inY l.E l.F x):=by
 simp only[F_q2s,S_q2s,Scr.den,z9,inY]
 rw[y5 om]
theorem z4v (l:TLa) (c:Y8):F_q1s l c=some (has l.I c):=by simp only[F_q1s,S_q1s,Scr.den,zhx,obind]
def ck (l:TLa):TChe:=⟨l,leavesU l.I []⟩
theorem z8a (l:TLa) (c:Y8):F_q2w (ck l) c=some (leafT l.I c):=by
 simp only[F_q2w,S_q2w,Scr.den,z8t,obind,ck]
 congr 1
 rw[y1o,<- z3r]
 simp
theorem z4c (l:List Int):F_qh l=some (orE l):=by
 simp only[F_qh,S_qh,Scr.den]
 refine zaz l fun i hi=>?_
 simp only[S_qh_b1,Scr.den]
 exact zb0 l i
theorem zi1 (l:List Int):F_q1w l=some (orE l):=by
 simp only[F_q1w,S_q1w,Scr.den]
 refine zaz l fun i hi=>?_
 simp only[S_q1w_b1,Scr.den]
 exact zb0 l i
variable {u:Int}
theorem or2 {m n:Int}:(decide (orE [u,cmpI m n]>=0))=!(decide (u<0)||(decide (u=0)&&decide (m<n))):=by
 simp only[z1i,z25,cmpI]
 rw[y1o]
 simp only[y2h,y7,y2j,y33,y1j]
 (repeat' split) <;> omega
theorem zmu {v:Int}:(decide (orE [u,v]>=0))=!(decide (u<0)||(decide (u=0)&&decide (v<0))):=by
 simp only[z1i,z25]
 rw[y1o]
 simp only[y2h,y7,y2j,y33,y1j]
 (repeat' split) <;> omega
theorem lenC {c:Y8} (h:good c=true):c.length<=1000000:=by have:=z2o h; omega
theorem z65 {a b:Y8} (ha:good a=true) (hb:good b=true):F_qu a b=some (lexC (parts a) (parts b)):=by rw[z6t (lenC ha) (lenC hb),z3i (.inl ha)]
theorem z4d {n:Nat} {one:Nat->Int} {ord:Nat->Bool} {body:Nat->Unit->Option (Step Unit Int)}
  (hs:∀ i,i<n->one i≠0->body i ()=some (.ret (one i)))
  (hz:∀ i,i<n->one i=0->(0<i->one (i-1)=0)->body i ()=some (if 0<i/\ord i=false then .ret 8 else .cont ())) :
  outM (rangeM body n 0 ()) (fun _=>some 0) (fun x=>some (id x))=some (fstE n (chE one ord)) :=
 z1b (chE one ord) fun i hi h=>z40 (hs i hi) fun h0=>hz i hi h0 fun h1=>z31 (h (i-1) om)
theorem zf7 (hy:1<=l.F) (x:TLi):F_q40 (ck l) x=some (z2e l.I l.E l.F x):=by
 simp only[F_q40,S_q40,Scr.den,z8a,z5a,obind,show (ck l).law=l from rfl,z7n hy,z2e]
 by_cases h1:leafT l.I x.B=true <;> by_cases h2:inY l.E l.F x.H=true <;> by_cases h3:amt x.D=true <;> simp[h1,h2,h3]
theorem zdo (hy:1<=l.F) (x:TBo):F_q42 (ck l) x=some (z1a l.I l.E l.F x):=by
 simp only[F_q42,S_q42,Scr.den,show (ck l).law=l from rfl,z4v,z5a,obind,z7n hy,z1a,z9]
 by_cases h1:has l.I x.B=true <;> by_cases h4:x.H=-1 <;> by_cases h2:inY l.E l.F x.H=true <;> by_cases h3:amt x.D=true <;> (try simp only[h4] at h2 |-) <;> simp[h1,h2,h3,h4,oT,oF,oN]
theorem za8 (x:TEa):F_q44 (ck l) x=some (z5o l.I x):=by
 simp only[F_q44,S_q44,Scr.den,show (ck l).law=l from rfl,z4v,z8a,z3c,obind,z5o,zi]
 by_cases h1:has l.I x.Q=true <;> by_cases h2:leafT l.I x.B=true <;> simp[h1,h2,oT,oF,oN]
 by_cases h3:x.R<0\/x.R>100
 ·rw[y6 om,y6 h3]
 ·rw[y5 om,y5 h3]
theorem zky (hy:1<=l.F) (x:TCo):F_q46 (ck l) x=some (z24 l.I l.E l.F x):=by
 simp only[F_q46,S_q46,Scr.den,show (ck l).law=l from rfl,z4v,z8a,z3c,z5a,zi0,z7n hy,obind,z24,zi,z9]
 have hb:∀ (K:Bool->Option Int),outM (if (!(decide (x.C>=1)&&decide (x.C<=2)))=true then some (Out.next (!(decide (x.C>=1)&&decide (x.C<=2)))) else
   if (x.C==2&&x.L != 0)=true then some (Out.next (x.C==2&&x.L != 0)) else some (Out.next (!(x.C==2)&&(!(x.Q==[])||x.U != 0)))) K some=K (decide (condBad x)):=fun K=>by
  unfold condBad
  by_cases k1:x.C=1
  ·simp only[k1]; simp[outM]
   congr 1
   rw[y1o]
   simp
  ·by_cases k2:x.C=2
   ·simp only[k2]
    by_cases d:x.L=0
    ·simp[outM,d]
    ·have e:(x.L != 0)=true:=by simpa using d
     simp[outM,d,e]
   ·have:(decide (x.C>=1)&&decide (x.C<=2))=false:=by rw[y13]; simp only[ne_eq,y9,y7]; omega
    simp[this,outM,k1,k2]
 rw[hb]
 by_cases h1:condBad x
 ·simp[h1]
 ·by_cases h2:leafT l.I x.B=true <;> by_cases h3:has l.I x.Q=true <;> by_cases h4:x.C=2 <;> by_cases h5:inY l.E l.F x.H=true <;> by_cases h6:amt x.D=true <;> by_cases h7:amt x.U=true <;>
   simp[h1,h2,h3,h4,h5,h6,h7,oT,oF,oN] <;> (split <;> simp_all <;> omega)
theorem zf8 (x:TRu):F_q47 (ck l) x=some (za6 l.I x):=by
 simp only[F_q47,S_q47,Scr.den,show (ck l).law=l from rfl,z4v,zc0,z3c,obind,za6,zi]
 by_cases h4:x.J<1\/x.J>1000000\/x.R<0\/x.R>100
 ·rw[y6 h4]
  by_cases h5:1<=x.J/\x.J<=1000000
  ·simp[h5,oT,oN]; omega
  ·have:(decide (x.J>=1)&&decide (x.J<=1000000))=false:=by rw[y13]; simp only[ne_eq,y9,y7]; omega
   simp[this,oF]
 ·rw[y5 h4]
  have e1:(decide (x.J>=1)&&decide (x.J<=1000000))=true:=by simp only[y9,y7]; omega
  have e2:(decide (x.R>=0)&&decide (x.R<=100))=true:=by simp only[y9,y7]; omega
  simp only[e1,e2]
  by_cases h1:has l.I x.T=true <;> by_cases h2:has l.I x.W=true <;> simp[h1,h2,oT,oF,oN]
theorem zc1 (hy:1<=l.F) (x:TCh):F_q4a (ck l) x=some (zk l.I l.E l.F x):=by
 simp only[F_q4a,S_q4a,Scr.den,show (ck l).law=l from rfl,z4v,z8a,z3c,z5a,z7n hy,obind,zk,zi,z9]
 by_cases p1:x.C<1\/x.C>3
 ·rw[y6 p1,y6 (by simp only[y2h,y33,y1j]; omega)]
 ·rw[y5 p1,y5 (by simp only[y2h,y33,y1j]; omega)]
  by_cases h1:has l.I x.B=true <;> by_cases h2:leafT l.I x.B=true <;> by_cases h4:x.C=1 <;> simp[h1,h2,h4,oT,oF,oN] <;> ((repeat' split) <;> simp_all)
end Go.Proofs.YtgfgnhpecnmlpaaGreatDoor
/- The program's Valid. No condition. -/
namespace Go.Proofs.YtgfgnhpecnmlpaaGreatDoor
open Go Go.TA
open Go.IntKind (i64)
attribute [-simp] List.getD_eq_getElem?_getD
theorem zm3 {a b:Y8} (_ha:good a=true) (_hb:good b=true) (m n:Int):(decide (orE [lexC (parts a) (parts b),cmpI m n]>=0))=!ltC a m b n:=by rw[or2]; rfl
variable {t:List THe} {f y:Int}
theorem lineG {x:TLi} (h:z2e t f y x=0):good x.B=true:=by
 unfold z2e at h
 split at h
 ·cases h
 ·rename_i hg; exact leafGood (by simpa using hg)
theorem boundG (ht:treeE t=0) {x:TBo} (h:z1a t f y x=0):good x.B=true:=by
 unfold z1a at h
 split at h
 ·cases h
 ·rename_i hg; exact hasGood ht (by simpa using hg)
theorem earG (ht:treeE t=0) {x:TEa} (h:z5o t x=0):good x.Q=true/\good x.B=true:=by
 unfold z5o at h
 split at h
 ·cases h
 ·rename_i hg; simp only[not_or,y48] at hg; exact⟨hasGood ht hg.1,leafGood hg.2⟩
theorem chgG (ht:treeE t=0) {x:TCh} (h:zk t f y x=0):good x.B=true:=by
 unfold zk at h
 split at h
 ·cases h
 ·split at h
  ·cases h
  ·rename_i hg; simp only[not_or,y48] at hg; exact hasGood ht hg.1
theorem cmpLine {a b:TLi} (ha:good a.B=true) (hb:good b.B=true):F_q41 a b=some (orE [lexC (parts a.B) (parts b.B),cmpI a.H b.H]):=by
 simp only[F_q41,S_q41,Scr.den,z65 ha hb,z2z,z4c,obind]
theorem cmpBound {a b:TBo} (ha:good a.B=true) (hb:good b.B=true):F_q43 a b=some (orE [lexC (parts a.B) (parts b.B),cmpI a.H b.H]):=by
 simp only[F_q43,S_q43,Scr.den,z65 ha hb,z2z,z4c,obind]
theorem cmpEar {a b:TEa} (ha:good a.Q=true/\good a.B=true) (hb:good b.Q=true/\good b.B=true):F_q45 a b=some (orE [lexC (parts a.Q) (parts b.Q),lexC (parts a.B) (parts b.B)]):=by
 simp only[F_q45,S_q45,Scr.den,z65 ha.1 hb.1,z65 ha.2 hb.2,z4c,obind]
theorem cmpRule (a b:TRu):F_q48 a b=some (cmpI a.J b.J):=by simp only[F_q48,S_q48,Scr.den,z2z,obind]
theorem cmpChg {a b:TCh} (ha:good a.B=true) (hb:good b.B=true):F_q4b a b=some (orE [cmpI a.C b.C,lexC (parts a.B) (parts b.B),cmpI a.H b.H]):=by
 simp only[F_q4b,S_q4b,Scr.den,z65 ha hb,z2z,z4c,obind]
theorem cmpAmd (a b:TAm):F_q49 a b=some (orE [cmpI a.L b.L,cmpI a.J b.J]):=by simp only[F_q49,S_q49,Scr.den,z2z,z4c,obind]
theorem geRule (m n:Int):(decide (cmpI m n>=0))=!decide (m<n):=by
 unfold cmpI; rw[y1o]; simp only[y2h,y7,y1j]; (repeat' split) <;> omega
theorem geAmd (a b:TAm):(decide (orE [cmpI a.L b.L,cmpI a.J b.J]>=0))=!ltA a b:=by
 unfold ltA
 simp only[z1i,z25,cmpI]
 rw[y1o]
 simp only[y2h,y7,y2j,y33,y1j]
 (repeat' split) <;> omega
theorem geChg (a b:TCh):(decide (orE [cmpI a.C b.C,lexC (parts a.B) (parts b.B),cmpI a.H b.H]>=0))=!ltX a b:=by
 unfold ltX ltC
 generalize lexC (parts a.B) (parts b.B)=u
 simp only[z1i,z25,cmpI]
 rw[y1o]
 simp only[y2h,y7,y2j,y33,y1j]
 (repeat' split) <;> omega
variable {l:TLa}
theorem eachL (hy:1<=l.F) {b:List TLi} (hl:b.length<=1000000):F_q1r b (ck l)=some (fstE b.length (lineE l.I l.E l.F b)):=by
 simp only[F_q1r,S_q1r,Scr.den]
 refine z4d (fun i hi h=>?_) fun i hi h hp=>?_
 ·simp only[S_q1r_b1,Scr.den,zf7 hy,obind]
  rw[y6 (by simpa using h)]
 ·have hi':i-1<b.length:=om
  simp only[S_q1r_b1,Scr.den,zf7 hy,obind,z9]
  rw[y5 (by simpa using h)]
  by_cases h0:0<i
  ·have h':=hp h0
   skip
   simp only[wp h0 (show i<=1000000 from om),yf]
   rw[zg (by simp only[AllP,y30,y7]; omega),cmpLine (lineG h') (lineG h),obind,z3 (by simp[h0,hi',AllP])]
   simp only[h0,yx (show (i:Int)>0 from om),y28,true_and,zm3 (lineG h') (lineG h)]
   by_cases hq:ltC (b.getD (i-1) dF).B (b.getD (i-1) dF).H (b.getD i dF).B (b.getD i dF).H=true <;> simp[hq]
  ·have h0':i=0:=om
   subst h0'
   rw[Gh,obind,z3 (by simp[AllP]),y5 sj,y5 sj]
theorem eachB (ht:treeE l.I=0) (hy:1<=l.F) {b:List TBo} (hl:b.length<=1000000):F_q15 b (ck l)=some (fstE b.length (boundE l.I l.E l.F b)):=by
 simp only[F_q15,S_q15,Scr.den]
 refine z4d (fun i hi h=>?_) fun i hi h hp=>?_
 ·simp only[S_q15_b1,Scr.den,zdo hy,obind]
  rw[y6 (by simpa using h)]
 ·have hi':i-1<b.length:=om
  simp only[S_q15_b1,Scr.den,zdo hy,obind,z9]
  rw[y5 (by simpa using h)]
  by_cases h0:0<i
  ·have h':=hp h0
   skip
   simp only[wp h0 (show i<=1000000 from om),yf]
   rw[zg (by simp only[AllP,y30,y7]; omega),cmpBound (boundG ht h') (boundG ht h),obind,z3 (by simp[h0,hi',AllP])]
   simp only[h0,yx (show (i:Int)>0 from om),y28,true_and,zm3 (boundG ht h') (boundG ht h)]
   by_cases hq:ltC (b.getD (i-1) dF).B (b.getD (i-1) dF).H (b.getD i dF).B (b.getD i dF).H=true <;> simp[hq]
  ·have h0':i=0:=om
   subst h0'
   rw[Gh,obind,z3 (by simp[AllP]),y5 sj,y5 sj]
theorem eachE (ht:treeE l.I=0) {b:List TEa} (hl:b.length<=1000000):F_q1t b (ck l)=some (fstE b.length (earE l.I b)):=by
 simp only[F_q1t,S_q1t,Scr.den]
 refine z4d (fun i hi h=>?_) fun i hi h hp=>?_
 ·simp only[S_q1t_b1,Scr.den,za8,obind]
  rw[y6 (by simpa using h)]
 ·have hi':i-1<b.length:=om
  simp only[S_q1t_b1,Scr.den,za8,obind,z9]
  rw[y5 (by simpa using h)]
  by_cases h0:0<i
  ·have h':=hp h0
   skip
   simp only[wp h0 (show i<=1000000 from om),yf]
   rw[zg (by simp only[AllP,y30,y7]; omega),cmpEar (earG ht h') (earG ht h),obind,z3 (by simp[h0,hi',AllP])]
   simp only[h0,yx (show (i:Int)>0 from om),y28,true_and,zmu]
   by_cases hq:(decide (lexC (parts (b.getD (i-1) dF).Q) (parts (b.getD i dF).Q)<0)||decide (lexC (parts (b.getD (i-1) dF).Q) (parts (b.getD i dF).Q)=0)&&decide (lexC (parts (b.getD (i-1) dF).B) (parts (b.getD i dF).B)<0))=true <;> (try rw[y4c] at hq) <;> simp only[ltC,hq] <;> simp
  ·have h0':i=0:=om
   subst h0'
   rw[Gh,obind,z3 (by simp[AllP]),y5 sj,y5 sj]
theorem eachR {b:List TRu} (hl:b.length<=1000000):F_q1u b (ck l)=some (fstE b.length (ruleE l.I b)):=by
 simp only[F_q1u,S_q1u,Scr.den]
 refine z4d (fun i hi h=>?_) fun i hi h hp=>?_
 ·simp only[S_q1u_b1,Scr.den,zf8,obind]
  rw[y6 (by simpa using h)]
 ·have hi':i-1<b.length:=om
  simp only[S_q1u_b1,Scr.den,zf8,obind,z9]
  rw[y5 (by simpa using h)]
  by_cases h0:0<i
  ·have h':=hp h0
   skip
   simp only[wp h0 (show i<=1000000 from om),yf]
   rw[zg (by simp only[AllP,y30,y7]; omega),cmpRule,obind,z3 (by simp[h0,hi',AllP])]
   simp only[h0,yx (show (i:Int)>0 from om),y28,true_and,geRule]
   by_cases hq:(decide ((b.getD (i-1) dF).J<(b.getD i dF).J))=true <;> simp[hq]
  ·have h0':i=0:=om
   subst h0'
   rw[Gh,obind,z3 (by simp[AllP]),y5 sj,y5 sj]
theorem eachX (ht:treeE l.I=0) (hy:1<=l.F) {b:List TCh} (hl:b.length<=1000000):F_q1v b (ck l)=some (fstE b.length (chgE l.I l.E l.F b)):=by
 simp only[F_q1v,S_q1v,Scr.den]
 refine z4d (fun i hi h=>?_) fun i hi h hp=>?_
 ·simp only[S_q1v_b1,Scr.den,zc1 hy,obind]
  rw[y6 (by simpa using h)]
 ·have hi':i-1<b.length:=om
  simp only[S_q1v_b1,Scr.den,zc1 hy,obind,z9]
  rw[y5 (by simpa using h)]
  by_cases h0:0<i
  ·have h':=hp h0
   skip
   simp only[wp h0 (show i<=1000000 from om),yf]
   rw[zg (by simp only[AllP,y30,y7]; omega),cmpChg (chgG ht h') (chgG ht h),obind,z3 (by simp[h0,hi',AllP])]
   simp only[h0,yx (show (i:Int)>0 from om),y28,true_and,geChg]
   by_cases hq:ltX (b.getD (i-1) dF) (b.getD i dF)=true <;> simp[hq]
  ·have h0':i=0:=om
   subst h0'
   rw[Gh,obind,z3 (by simp[AllP]),y5 sj,y5 sj]
theorem eachC (hy:1<=l.F) {b:List TCo} (hl:b.length<=1000000):F_q2a b (ck l)=some (fstE b.length fun i=>z24 l.I l.E l.F (b.getD i dF)):=by
 simp only[F_q2a,S_q2a,Scr.den]
 refine z1b (fun i=>z24 l.I l.E l.F (b.getD i dF)) fun i hi hz=>?_
 have hi':i-1<b.length:=om
 simp only[S_q2a_b1,Scr.den,zky hy,F_q4p,S_q4p,obind,z9]
 by_cases h:z24 l.I l.E l.F (b.getD i dF)=0
 ·rw[y5 (by simpa using h),y6 h]
  by_cases h0:0<i
  ·simp only[wp h0 (show i<=1000000 from om),yf]
   rw[zg (by simp only[AllP,y30,y7]; omega),obind,z3 (by simp[h0,hi',AllP]),y5 sj]
  ·have h0':i=0:=om
   subst h0'
   rw[Gh,obind,z3 (by simp[AllP]),y5 sj]
 ·rw[y6 (by simpa using h),y5 h]
theorem zi2 (hc:∀ x∈l.O,x.Q.length<=1000000/\x.B.length<=1000000):F_qm (ck l)=some (shareE l.I l.O):=by
 simp only[F_qm,S_qm,Scr.den,show (ck l).leaves=leavesU l.I [] from rfl]
 rw[z2c (leavesU l.I []) (fun c=>decide (shSum l.O c>100)) (fun _=>13) fun i hi=>by
  have hlen:((leavesU l.I []).getD i dF).length<=1000000:=by
   have:=z3r.1 (z4 hi)
   exact lenC (leafGood this)
  simp only[S_qm_b2,Scr.den,show (ck l).law=l from rfl]
  rw[z2i l.O (fun s x=>if und ((leavesU l.I []).getD i dF) x.Q=true then i64.wrap (s+x.R) else s) fun j s hj=>by
   obtain⟨hcs,_⟩:=hc _ (z4 hj)
   simp only[S_qm_b1,Scr.den,show (ck l).leaves=leavesU l.I [] from rfl,show (ck l).law=l from rfl,zjj hlen hcs,obind]
   split <;> rfl]
  simp only[outM,<- zdn]
  by_cases h:shSum l.O ((leavesU l.I []).getD i dF)>100 <;> simp[h]]
 unfold shareE
 split <;> rfl
theorem zcg (ht:treeE l.I=0) (hy:1<=l.F) (hc:∀ x∈l.A,x.G.length<=1000000) (hl:l.A.length<=1000000):F_q2b (ck l)=some (fstE l.A.length (amdE l.I l.E l.F l.A)):=by
 simp only[F_q2b,S_q2b,Scr.den,show (ck l).law=l from rfl]
 refine z1b (amdE l.I l.E l.F l.A) fun i hi hz=>?_
 have hcl:=hc _ (z4 hi)
 have hi':i-1<l.A.length:=om
 simp only[S_q2b_b1,Scr.den,show (ck l).law=l from rfl,zi0,zc0,eachX ht hy hcl,cmpAmd,obind,z9,zi,amdE]
 by_cases p1:(l.A.getD i dF).L<0\/(l.A.getD i dF).L>35990\/(l.A.getD i dF).J<1\/(l.A.getD i dF).J>1000000
 ·simp only[y6 p1]
  by_cases hd:0<=(l.A.getD i dF).L/\(l.A.getD i dF).L<=35990
  ·have e1:(decide ((l.A.getD i dF).L>=0)&&decide ((l.A.getD i dF).L<=35990))=true:=by simp only[y9,y7]; omega
   have e2:(decide ((l.A.getD i dF).J>=1)&&decide ((l.A.getD i dF).J<=1000000))=false:=by rw[y13]; simp only[ne_eq,y9,y7]; omega
   simp[e1,e2,oT,oN]
  ·have e1:(decide ((l.A.getD i dF).L>=0)&&decide ((l.A.getD i dF).L<=35990))=false:=by rw[y13]; simp only[ne_eq,y9,y7]; omega
   simp[e1,oF]
 simp only[y5 p1]
 have e1:(decide ((l.A.getD i dF).L>=0)&&decide ((l.A.getD i dF).L<=35990))=true:=by simp only[y9,y7]; omega
 have e2:(decide ((l.A.getD i dF).J>=1)&&decide ((l.A.getD i dF).J<=1000000))=true:=by simp only[y9,y7]; omega
 simp only[e1,e2]
 rw[Gg,obind,y5 sj]
 have he:(l.A.getD i dF).G=[]↔((((l.A.getD i dF).G).length:Int)==0)=true:=by
  rw[yy,<- y25]; omega
 have hfin:(if ((((l.A.getD i dF).G).length:Int)==0)=true then some (Step.ret 1) else if (fstE (l.A.getD i dF).G.length (chgE l.I l.E l.F (l.A.getD i dF).G) != 0)=true then
   some (Step.ret (fstE (l.A.getD i dF).G.length (chgE l.I l.E l.F (l.A.getD i dF).G))) else some (Step.cont ()):Option (Step Unit Int)) =
   some (if (if (l.A.getD i dF).G=[] then 1 else fstE (l.A.getD i dF).G.length (chgE l.I l.E l.F (l.A.getD i dF).G))=0 then Step.cont () else
    Step.ret (if (l.A.getD i dF).G=[] then 1 else fstE (l.A.getD i dF).G.length (chgE l.I l.E l.F (l.A.getD i dF).G))):=by
  by_cases h:(l.A.getD i dF).G=[]
  ·rw[y6 (he.1 h)]; simp only[y6 h]; rfl
  ·rw[y5 (fun h'=>h (he.2 h'))]; simp only[y5 h]
   by_cases h0:fstE (l.A.getD i dF).G.length (chgE l.I l.E l.F (l.A.getD i dF).G)=0
   ·simp[h0]
   ·simp[h0]
 by_cases h0:0<i
 ·simp only[wp h0 (show i<=1000000 from om),yf]
  rw[zg (by simp only[AllP,y30,y7]; omega),obind,z3 (by simp[h0,hi',AllP])]
  simp only[geAmd,yx (show (i:Int)>0 from om),y28]
  by_cases hq:ltA (l.A.getD (i-1) dF) (l.A.getD i dF)=true
  ·rw[y5 (by simp[hq])]
   simp only[hq,y3o,and_false,y2u]
   exact hfin
  ·rw[y6 (by simp[hq])]
   simp only[show ltA (l.A.getD (i-1) dF) (l.A.getD i dF)=false by simpa using hq,h0,and_self,y3i]
   rfl
 ·have h0':i=0:=om
  subst h0'
  rw[Gh,obind,z3 (by simp[AllP]),y5 sj]
  simp only[Nat.lt_irrefl,false_and,y2u]
  exact hfin
theorem zjo (hs:SmL l):F_q3z ⟨l,[]⟩=some (if yrB l then 2 else if treeE l.I=0 then (if limB l then 3 else 0) else treeE l.I):=by
 simp only[F_q3z,S_q3z,Scr.den,z3c,obind,zi,zjl hs.t]
 by_cases p1:yrB l
 ·rw[y6 p1]
  unfold yrB at p1
  by_cases hd:0<=l.E/\l.E<=99
  ·have e1:(decide (l.E>=0)&&decide (l.E<=99))=true:=by simp only[y9,y7]; omega
   simp only[e1]
   rw[Gg,obind,y6]
   by_cases hy:1<=l.F/\l.F<=4
   ·rw[wrapId om om]
    simp only[yl,y7]; omega
   ·have e2:(decide (l.F>=1)&&decide (l.F<=4))=false:=by rw[y13]; simp only[ne_eq,y9,y7]; omega
    simp[e2]
  ·have e1:(decide (l.E>=0)&&decide (l.E<=99))=false:=by rw[y13]; simp only[ne_eq,y9,y7]; omega
   simp only[e1]
   rw[Gh,obind,y6 sj]
 ·rw[y5 p1]
  have q1:¬ (l.E<0\/l.E>99\/l.F<1\/l.F>4\/l.E+l.F>100):=p1
  have e1:(decide (l.E>=0)&&decide (l.E<=99))=true:=by simp only[y9,y7]; omega
  have e2:(decide (l.F>=1)&&decide (l.F<=4))=true:=by simp only[y9,y7]; omega
  simp only[e1,e2]
  rw[Gg,obind,wrapId om om,y5 (by simp only[yl,y7,y4f,y1u,false_or]; omega)]
  by_cases p2:treeE l.I=0
  ·rw[y5 (by simp[p2]),y6 p2]
   have hcf:F_q3y l.A=some (l.A.any fun a=>decide (a.G.length>20)):=by
    simp only[F_q3y,S_q3y,F_q2q,S_q2q,Scr.den]
    rw[z2c l.A (fun a=>decide (a.G.length>20)) (fun i=>(i:Int)) fun i hi=>by
     simp only[S_q2q_b1,F_q4o,S_q4o,Scr.den,obind]
     by_cases hx:(l.A.getD i dF).G.length>20
     ·rw[y6 (by simp only[y7]; omega),y6 (yx hx)]
     ·rw[y5 (by simp only[y7]; omega),y5 (by simpa using hx)]]
    split
    ·rename_i h; rw[h]; simp[outM]
    ·rename_i h; rw[y13.2 h]; simp only[outM,obind]; rfl
   by_cases h:l.N.length>120\/l.K.length>60\/l.P.length>60\/l.O.length>20\/l.M.length>20\/l.S.length>20\/l.A.length>20
   ·rw[zo (by simp only[AllP,y30,y2j,y1j]; omega),obind,y6 (by simp only[yl,y7]; omega),y6 (by rcases h with h | h | h | h | h | h | h <;> simp[limB,h])]
   ·rw[zg (by simp only[AllP,y30,y2j,y1j]; omega),hcf,obind]
    by_cases ha:(l.A.any fun a=>decide (a.G.length>20))=true
    ·rw[y6 (by rw[ha,Bool.or_true]),y6 (show limB l from .inr (.inr (.inr (.inr (.inr (.inr (.inr ha)))))))]
    ·rw[y5 (by rw[y13.2 ha]; simp only[yl,y7,Bool.or_false]; omega),y5 (show ¬ limB l from fun hb=>by
      rcases hb with hb | hb | hb | hb | hb | hb | hb | hb
      ·exact h (.inl hb)
      ·exact h (.inr (.inl hb))
      ·exact h (.inr (.inr (.inl hb)))
      ·exact h (.inr (.inr (.inr (.inl hb))))
      ·exact h (.inr (.inr (.inr (.inr (.inl hb)))))
      ·exact h (.inr (.inr (.inr (.inr (.inr (.inl hb))))))
      ·exact h (.inr (.inr (.inr (.inr (.inr (.inr hb))))))
      ·exact ha hb)]
  ·rw[y6 (by simp[p2]),y5 p2]
theorem z26 (hs:SmL l):F_q16 l=some (errL l):=by
 simp only[F_q16,S_q16,Scr.den,zjo hs,obind]
 unfold errL
 by_cases p1:yrB l
 ·simp only[y6 p1]; rfl
 ·simp only[y5 p1]
  have q1:¬ (l.E<0\/l.E>99\/l.F<1\/l.F>4\/l.E+l.F>100):=p1
  have hy:1<=l.F:=om
  by_cases p2:treeE l.I=0
  ·simp only[y6 p2]
   by_cases p3:limB l
   ·simp only[y6 p3]; rfl
   ·simp only[y5 p3]
    rw[y5 sj]
    simp only[zbz hs.t hs.tl,obind]
    rw[show (⟨(⟨l,[]⟩:TChe).law,leavesU l.I []⟩:TChe)=ck l from rfl]
    simp only[eachL hy hs.ll,eachB p2 hy hs.cl,eachB p2 hy hs.fll,eachE p2 hs.el,zi2 hs.ea,eachC hy hs.col,eachR hs.rl,zcg p2 hy (fun x hx=>(hs.am x hx).1) hs.al,zi1,obind]
  ·simp only[y5 p2]
   rw[y6 (by simpa using p2)]
end Go.Proofs.YtgfgnhpecnmlpaaGreatDoor
/- Places in order. (Turned out of the plain law of chapter 13.) No condition. -/
namespace Go.Proofs.YtgfgnhpecnmlpaaGreatDoor
open Go Go.TA
open Go.IntKind (i64)
def cmpP (a b:TPl):Int:=if cmpC a.code b.code≠0 then cmpC a.code b.code else cmpI a.year b.year
variable {a b:TPl}
theorem zgh (ha:a.code.length<=1000000) (hb:b.code.length<=1000000):F_q38 a b=some (cmpP a b):=by
 simp only[F_q38,S_q38,Scr.den,z6t ha hb,z2z,z4c,obind,z1i,z25,cmpP]
 by_cases h:cmpC a.code b.code=0 <;> by_cases h2:cmpI a.year b.year=0 <;> simp[h,h2]
def isP (c:Y8) (y:Int) (p:TPl):Bool:=p.code==c&&p.year==y
variable {c:Y8} {y:Int}
theorem zb1 {p:TPl}:isP c y p=true↔p.code=c/\p.year=y:=by simp[isP]
def hasP (l:List TPl) (c:Y8) (y:Int):Bool:=l.any (isP c y)
def pix (l:List TPl) (c:Y8) (y:Int):Nat:=l.findIdx (isP c y)
variable {l:List TPl}
theorem zdp (h:hasP l c y=true):pix l c y<l.length/\(l.getD (pix l c y) dF).code=c/\(l.getD (pix l c y) dF).year=y:=by
 have h1:pix l c y<l.length:=List.findIdx_lt_length.2 (by simpa [hasP,List.any_eq_true] using h)
 have h2:=y5a (xs:=l) (p:=isP c y) (w:=h1)
 refine⟨h1,?_⟩
 rw[show l.getD (pix l c y) dF=l[pix l c y] by simp[List.getD_eq_getElem?_getD,List.getElem?_eq_getElem h1]]
 exact zb1.1 h2
def PGood (p:TPl):Prop:=good p.code=true/\True
theorem zb2:hasP l c y=true↔∃ x∈l,x.code=c/\x.year=y:=by
 unfold hasP
 rw[y1r]
 exact⟨fun⟨x,h1,h2⟩=>⟨x,h1,zb1.1 h2⟩,fun⟨x,h1,h2⟩=>⟨x,h1,zb1.2 h2⟩⟩
def Srt (l:List TPl):Prop:=∀ i,i<l.length->i=0\/cmpP (l.getD (i-1) dF) (l.getD i dF)<0
theorem z8b (h:good a.code=true\/good b.code=true):cmpP a b<0↔lexC (parts a.code) (parts b.code)<0\/(lexC (parts a.code) (parts b.code)=0/\a.year<b.year):=by
 unfold cmpP
 rw[z3i h]
 generalize lexC (parts a.code) (parts b.code)=c
 by_cases hc:c=0
 ·rw[y5 (by simpa using hc)]
  unfold cmpI
  by_cases h1:a.year<b.year
  ·rw[y6 h1]; simp[hc,h1]
  ·rw[y5 h1]
   split <;> simp[hc,h1]
 ·rw[y6 hc]; simp[hc]
theorem z4w (ha:good a.code=true) (hb:good b.code=true):cmpP a b=0↔a.code=b.code/\a.year=b.year:=by
 unfold cmpP
 rw[z3i (.inl ha)]
 by_cases hc:lexC (parts a.code) (parts b.code)=0
 ·rw[y5 (by simpa using hc)]
  have e:=z4a ha hb (z22 hc)
  unfold cmpI
  by_cases h1:a.year<b.year
  ·rw[y6 h1]; simp; omega
  ·rw[y5 h1]
   by_cases h2:a.year>b.year
   ·rw[y6 h2]; simp; omega
   ·rw[y5 h2]; simp[e]; omega
 ·rw[y6 hc]
  constructor
  ·intro h; exact absurd h hc
  ·rintro⟨h1,_⟩
   exact absurd (by rw[h1]; exact z49 _) hc
theorem za9 {c:TPl} (ha:good a.code=true) (hb:good b.code=true) (h:cmpP a b<0) (h':cmpP b c<0):cmpP a c<0:=by
 rw[z8b (.inl ha)] at h |-
 rw[z8b (.inl hb)] at h'
 rcases h with h | ⟨h,h2⟩
 ·rcases h' with h' | ⟨h',_⟩
  ·exact .inl (z4n h h')
  ·rw[<- z22 h']; exact .inl h
 ·rcases h' with h' | ⟨h',h3⟩
  ·rw[z22 h]; exact .inl h'
  ·rw[z22 h]; exact .inr ⟨h',om⟩
theorem zi3 (ha:good a.code=true):cmpP b a=-cmpP a b:=by
 unfold cmpP
 rw[z3i (.inl ha),z3i (.inr ha),z5n (parts a.code) (parts b.code)]
 by_cases h:lexC (parts a.code) (parts b.code)=0
 ·rw[y5 om,y5 om]
  unfold cmpI
  by_cases h1:a.year<b.year
  ·rw[y5 om,y6 om,y6 h1]; rfl
  ·by_cases h2:b.year<a.year
   ·rw[y6 h2,y5 h1,y6 om]
   ·rw[y5 h2,y5 om,y5 h1,y5 om]; rfl
 ·rw[y6 om,y6 h]
theorem Srt.lt (h:Srt l) (hg:∀ r∈l,PGood r):∀ {i j:Nat},i<j->j<l.length->cmpP (l.getD i dF) (l.getD j dF)<0:=by
 intro i j hij
 induction j with
 | zero=>omega
 | succ j ih =>
  intro hj
  have h1:=(h (j+1) hj).resolve_left om
  rw[show j+1-1=j from om] at h1
  by_cases e:i=j
  ·subst e; exact h1
  ·exact za9 (hg _ (z4 om)).1 (hg _ (z4 om)).1 (ih om om) h1
def posP (l:List TPl) (r:TPl):Nat:=l.findIdx (fun x=>decide (0<=cmpP x r))
variable {i:Nat}
theorem z7 {α:Type} [Inhabited α] {l:List α} (hi:i<l.length):l.getD i dF=l[i]:=by simp[List.getD_eq_getElem?_getD,List.getElem?_eq_getElem hi]
theorem z66 (l:List TPl) (r:TPl):posP l r<=l.length:=y4s
variable {r:TPl}
theorem zb3 (hi:i<posP l r):cmpP (l.getD i dF) r<0:=by
 have hl:i<l.length:=y18 hi (z66 l r)
 have:=List.not_of_lt_findIdx hi
 rw[z7 hl]
 simpa using this
theorem zf9 (hi:posP l r<l.length):0<=cmpP (l.getD (posP l r) dF) r:=by
 have:=y5a (xs:=l) (p:=fun x=>decide (0<=cmpP x r)) (w:=hi)
 rw[z7 hi]
 exact y2t this
theorem zfa (hS:Srt l) (hg:∀ x∈l,PGood x) (hi:i<l.length) (hp:posP l r<=i):0<=cmpP (l.getD i dF) r:=by
 have h0:=zf9 (l:=l) (r:=r) om
 by_cases e:posP l r=i
 ·rwa [e] at h0
 ·have h1:=hS.lt hg (show posP l r<i from om) hi
  by_cases h:cmpP (l.getD i dF) r<0
  ·have:=za9 (hg _ (z4 om)).1 (hg _ (z4 hi)).1 h1 h
   omega
  ·omega
theorem zfb {j:Nat} (h:i+j<4611686018427387904):i64.wrap ((IntKind.u64.wrap (i64.wrap ((i:Int)+(j:Int)))).fdiv (2 ^ (min (1:Int).toNat IntKind.u64.bits)))=(((i+j) / 2:Nat):Int):=by
 rw[wrapId (n:=(i:Int)+(j:Int)) om om]
 have e:IntKind.u64.wrap ((i:Int)+(j:Int))=(i:Int)+(j:Int):=by
  simp only[IntKind.wrap,IntKind.bits,IntKind.signed]
  simp
  omega
 rw[e]
 have e2:(2:Int) ^ (min (1:Int).toNat IntKind.u64.bits)=2:=dk
 rw[e2,Int.fdiv_eq_ediv_of_nonneg _ om,wrapId om om]
 omega
theorem PGood.len (h:PGood r):r.code.length<=1000000:=by have:=z2o h.1; omega
theorem zjp (hg:∀ x∈l,PGood x) (k:Nat):(l.getD k dF).code.length<=1000000:=by
 by_cases h:k<l.length
 ·exact (hg _ (z4 h)).len
 ·rw[List.getD_eq_getElem?_getD,yb om]; exact y3j _
theorem zaa (hl:l.length<=1000000) (hS:Srt l) (hg:∀ x∈l,PGood x) (hr:PGood r) :
  F_q18 r l=some ((posP l r:Int),decide (posP l r<l.length)&&(cmpP (l.getD (posP l r) dF) r==0)):=by
 have hc:∀ k,F_q38 (l.getD k dF) r=some (cmpP (l.getD k dF) r):=fun k=>zgh (zjp hg k) hr.len
 have hp:=z66 l r
 simp only[F_q18,S_q18,Scr.den]
 obtain⟨s,e,hJ⟩:=zt (step:=fun s=>(S_q18_b1 r l s).den) (fun s=>(s.2-s.1).toNat) (fun s=>∃ i j:Nat,s=((i:Int),(j:Int))/\i<=posP l r/\posP l r<=j/\j<=l.length) (fun s=>s.1=(posP l r:Int)) (fun s hI=>by
  obtain⟨i,j,rfl,h1,h2,h3⟩:=hI
  simp only[S_q18_b1,Scr.den,zfb (show i+j<4611686018427387904 from om),hc,obind,yf]
  by_cases hij:i<j
  ·left
   rw[y6 (by simpa using hij),Gc,y17]
   by_cases hlt:cmpP (l.getD ((i+j) / 2) dF) r<0
   ·rw[y6 (by simpa using hlt),wrapId om om]
    have:(i+j) / 2<posP l r:=by
     by_cases h:(i+j) / 2<posP l r
     ·exact h
     ·have:=zfa (r:=r) hS hg (show (i+j) / 2<l.length from om) om
      omega
    exact⟨_,rfl,⟨(i+j) / 2+1,j,sj,om,h2,h3⟩,by simp only; omega⟩
   ·rw[y5 (by simpa using hlt)]
    have:posP l r<=(i+j) / 2:=by
     by_cases h:posP l r<=(i+j) / 2
     ·exact h
     ·have:=zb3 (show (i+j) / 2<posP l r from om)
      omega
    exact⟨_,rfl,⟨i,(i+j) / 2,rfl,h1,this,om⟩,by simp only; omega⟩
  ·right
   rw[y5 (by simpa using hij)]
   exact⟨_,rfl,by simp only; omega⟩) _ (0,(l.length:Int)) (y1t _) ⟨0,l.length,rfl,om,hp,om⟩
 rw[e]
 simp only[outM,hJ,yf,hc,z9,y17]
 by_cases h:posP l r<l.length
 ·rw[zg (by exact⟨sk,trivial⟩),obind,z3 ⟨fun _=>om,fun _=>h,fun _=>h,trivial⟩]
  simp[h]
 ·rw[zo (by simp[AllP]; omega),obind,z3 ⟨fun _=>om,fun h'=>absurd h (by simp[AllP] at h'; omega),fun h'=>absurd h (by simp[AllP] at h'; omega),trivial⟩]
  simp[h]
theorem zb4 (hS:Srt l) (hg:∀ x∈l,PGood x) (hr:PGood r) :
  (decide (posP l r<l.length)&&(cmpP (l.getD (posP l r) dF) r==0))=hasP l r.code r.year/\(hasP l r.code r.year=true->pix l r.code r.year=posP l r):=by
 have key:hasP l r.code r.year=true->pix l r.code r.year=posP l r:=fun h=>by
  obtain⟨h1,h2,h3⟩:=zdp h
  have h4:=hg _ (z4 h1)
  have h5:cmpP (l.getD (pix l r.code r.year) dF) r=0:=(z4w h4.1 hr.1).2 ⟨h2,h3⟩
  rcases y5p (pix l r.code r.year) (posP l r) with h | h | h
  ·have:=zb3 h; omega
  ·exact h
  ·have h6:=hS.lt hg h h1
   have h7:=zf9 (l:=l) (r:=r) om
   have h8:=hg _ (z4 (show posP l r<l.length from om))
   have:cmpP (l.getD (posP l r) dF) r<0:=by
    rw[z8b (.inl h8.1)] at h6 |-
    rw[h2,h3] at h6
    exact h6
   omega
 refine⟨?_,key⟩
 rw[y1o]
 simp only[y9,y7,yy]
 constructor
 ·rintro⟨h1,h2⟩
  obtain⟨h3,h4⟩:=(z4w (hg _ (z4 h1)).1 hr.1).1 h2
  exact zb2.2 ⟨_,z4 h1,h3,h4⟩
 ·intro h
  obtain⟨h1,h2,h3⟩:=zdp h
  rw[key h] at h1 h2 h3
  exact⟨h1,(z4w (hg _ (z4 h1)).1 hr.1).2 ⟨h2,h3⟩⟩
end Go.Proofs.YtgfgnhpecnmlpaaGreatDoor
/- Rows in order: an element set,put in or taken out. No condition. -/
namespace Go.Proofs.YtgfgnhpecnmlpaaGreatDoor
open Go Go.TA
open Go.IntKind (i64)
attribute [-simp] List.getD_eq_getElem?_getD
def PW (l:List TPl):Prop:=l.Pairwise fun a b=>cmpP a b<0
theorem zi4 {l:List TPl} (h:PW l):Srt l:=fun i hi=>by
 by_cases h0:i=0
 ·exact .inl h0
 ·right
  have:=y1f.1 h (i-1) i om hi om
  rw[z7 hi,z7 (show i-1<l.length from om)]
  exact this
theorem zi5 {l:List TPl} (hg:∀ x∈l,PGood x) (h:Srt l):PW l:=y1f.2 fun i j hi hj hij=>by
 have:=h.lt hg hij hj
 rwa [z7 hi,z7 hj] at this
theorem zfc {α:Type} [Inhabited α] (l:List α) (k:Nat) (hk:k<l.length) (z:α) :
  (clearL (copyL l (k-0) (l.length-(k+1)) (fun i=>l.getD ((0+(k+1))+i) dF)) (0+((k-0)+(l.length-(k+1)))) (l.length-((k-0)+(l.length-(k+1)))) z).take ((k-0)+(l.length-(k+1)))=l.eraseIdx k:=by
 refine List.ext_getElem ?_ fun i h1 h2=>?_
 ·rw[y15,z11,zq,List.length_eraseIdx_of_lt hk]; omega
 ·have hi:i<l.length-1:=by rw[List.length_eraseIdx_of_lt hk] at h2; exact h2
  rw[y3t,List.getElem_eraseIdx]
  simp only[clearL,List.getElem_mapIdx]
  rw[y5 om]
  simp only[copyL,y4y,List.getElem_range]
  by_cases h:i<k
  ·rw[y5 om,y45 h,z7 om]
  ·rw[y6 om,dif_neg h,z7 om]
   congr 1; omega
section
variable {α:Type} (pl:α->TPl)
def putG (l:List α) (x:α) (rm:Bool):List α :=
 if hasP (l.map pl) (pl x).code (pl x).year=true then (if rm=true then l.eraseIdx (posP (l.map pl) (pl x)) else l.set (posP (l.map pl) (pl x)) x)
 else (if rm=true then l else insL l (posP (l.map pl) (pl x)) x)
structure OrdG (l:List α):Prop where
 pw:PW (l.map pl)
 good:∀ x∈l,good (pl x).code=true
variable {pl}
theorem OrdG.gd {l:List α} (h:OrdG pl l):∀ x∈l.map pl,PGood x:=fun x hx=>by
 obtain⟨y,hy,rfl⟩:=yw.1 hx
 exact⟨h.good y hy,trivial⟩
theorem OrdG.srt {l:List α} (h:OrdG pl l):Srt (l.map pl):=zi4 h.pw
theorem zab [Inhabited α] {l:List α} (h:OrdG pl l) {x:α} (hx:good (pl x).code=true) (hh:hasP (l.map pl) (pl x).code (pl x).year=true) :
  posP (l.map pl) (pl x)<l.length/\(l.map pl).getD (posP (l.map pl) (pl x)) dF=pl x:=by
 obtain⟨h1,h2⟩:=zb4 h.srt h.gd (r:=pl x) ⟨hx,trivial⟩
 obtain⟨k1,k2,k3⟩:=zdp hh
 rw[h2 hh] at k1 k2 k3
 refine⟨by simpa using k1,?_⟩
 generalize (l.map pl).getD (posP (l.map pl) (pl x)) dF=p at k2 k3
 cases p
 cases hq:pl x
 rw[hq] at k2 k3
 simp only at k2 k3
 rw[k2,k3]
theorem z9b (l:List α) (x:α) (rm:Bool):(putG pl l x rm).length<=l.length+1:=by
 unfold putG
 split <;> split
 ·exact y2i (List.length_eraseIdx_le _ _)
 ·simp
 ·omega
 ·rw[z12]; exact ya _
theorem zdq {l:List α} {x y:α} {rm:Bool} (h:y∈putG pl l x rm):y=x\/y∈l:=by
 unfold putG at h
 split at h <;> split at h
 ·exact .inr (List.mem_of_mem_eraseIdx h)
 ·rcases List.mem_or_eq_of_mem_set h with h | h
  ·exact .inr h
  ·exact .inl h
 ·exact .inr h
 ·unfold insL at h
  rcases yg.1 h with h | h
  ·exact .inr (y1k h)
  ·rcases yi.1 h with h | h
   ·exact .inl h
   ·exact .inr (y2x h)
theorem zdr [Inhabited α] {l:List α} (h:OrdG pl l) {x:α} (hx:good (pl x).code=true) (rm:Bool):OrdG pl (putG pl l x rm):=by
 refine⟨?_,fun y hy=>?_⟩
 ·unfold putG
  split
  ·rename_i hh
   obtain⟨h1,h2⟩:=zab h hx hh
   split
   ·rw[z51]
    exact y50 (List.eraseIdx_sublist _ _) h.pw
   ·rw[List.map_set]
    have:(l.map pl).set (posP (l.map pl) (pl x)) (pl x)=l.map pl:=by
     refine List.ext_getElem sj fun i a b=>?_
     rw[List.getElem_set]
     split
     ·rename_i e
      rw[<- h2,z7 (by simpa using h1)]
      simp only[e]
     ·rfl
    rw[this]; exact h.pw
  ·rename_i hh
   split
   ·exact h.pw
   ·have hm:(insL l (posP (l.map pl) (pl x)) x).map pl=(l.map pl).take (posP (l.map pl) (pl x))++pl x :: (l.map pl).drop (posP (l.map pl) (pl x)):=by
     unfold insL; rw[y3f,y31,List.map_take,List.map_drop]
    rw[hm]
    have hle:=z66 (l.map pl) (pl x)
    have hno:∀ q∈l.map pl,cmpP q (pl x)≠0:=fun q hq e=>by
     obtain⟨e1,e2⟩:=(z4w (h.gd q hq).1 hx).1 e
     exact hh (zb2.2 ⟨q,hq,e1,e2⟩)
    refine y29.2 ⟨y50 (y5q _ _) h.pw,y2k.2 ⟨fun q hq=>?_,y50 (y5r _ _) h.pw⟩,fun a ha b hb=>?_⟩
    ·obtain⟨i,hi,e⟩:=y4d.1 hq
     rw[y3u] at e
     have hi':posP (l.map pl) (pl x)+i<(l.map pl).length:=by simp only[y21] at hi; omega
     have h1:=zfa (r:=pl x) h.srt h.gd hi' om
     have h2:=hno q (y2x hq)
     have h3:=zi3 (a:=pl x) (b:=q) hx
     rw[z7 hi',e] at h1
     omega
    ·obtain⟨i,hi,e⟩:=y4d.1 ha
     rw[y3t] at e
     have hi':i<posP (l.map pl) (pl x):=by simp only[y15] at hi; omega
     have h1:=zb3 (r:=pl x) hi'
     rw[z7 om,e] at h1
     rcases yi.1 hb with rfl | hb
     ·exact h1
     ·have:PW (l.map pl):=h.pw
      unfold PW at this
      rw[<- y1w (posP (l.map pl) (pl x)) (l.map pl)] at this
      exact (y29.1 this).2.2 a ha b hb
 ·rcases zdq hy with rfl | hy
  ·exact hx
  ·exact h.good y hy
end
def plL (x:TLi):TPl:=⟨x.B,x.H⟩
def plB (x:TBo):TPl:=⟨x.B,x.H⟩
theorem cloneLine {l:List TLi} (hl:l.length<=1000000):F_q4c l=some l:=by
 simp only[F_q4c,S_q4c,Scr.den]
 rw[Ga]
theorem deleteLine {l:List TLi} (hl:l.length<=1000000) {k:Nat} (hk:k<l.length):F_q4d (k:Int) ((k+1:Nat):Int) l=some (l.eraseIdx k):=by
 simp only[F_q4d,S_q4d,Scr.den,yf]
 rw[z3 ⟨om,om,om,om,trivial⟩,y5 (by simp only[yy]; omega),Gb,
  z3 ⟨om,by rw[zq]; exact ya _,trivial⟩,z3 ⟨by rw[z11,zq]; omega,trivial⟩,z3 ⟨by rw[z11,zq]; omega,trivial⟩]
 rw[zfc l k hk]
theorem putLine {l:List TLi} (hl:l.length<=100000) (h:OrdG plL l) {x:TLi} (hx:good x.B=true) (rm:Bool):F_q2d l x rm=some (putG plL l x rm):=by
 simp only[F_q2d,S_q2d,Scr.den]
 rw[z1t l (fun _=>true) plL 1000000 om fun i s hi hs=>by
  simp only[S_q2d_b1,Scr.den,F_q37,S_q37,obind]
  rw[Ga,y6 trivial]; rfl]
 rw[y3b.2 (fun _ _=>rfl)]
 simp only[outM,F_q37,S_q37,Scr.den,obind]
 rw[show (⟨x.B,x.H⟩:TPl)=plL x from rfl]
 have hgx:PGood (plL x):=⟨hx,trivial⟩
 have hml:(l.map plL).length<=1000000:=sk
 rw[zaa hml h.srt h.gd hgx,(zb4 h.srt h.gd hgx).1,obind,cloneLine om,obind]
 have hp:=z66 (l.map plL) (plL x)
 simp only[y1i] at hp
 simp only[z9,yf,y17]
 unfold putG
 by_cases hh:hasP (l.map plL) (plL x).code (plL x).year=true
 ·obtain⟨k1,k2⟩:=zab h hx hh
  cases rm with
  | true =>
   rw[y6 (by simp[hh]),y6 hh,y6 rfl,wrapId om om,show ((posP (l.map plL) (plL x):Int)+1)=((posP (l.map plL) (plL x)+1:Nat):Int) from om,deleteLine om k1,obind]
  | false =>
   rw[y5 sj,y5 sj,y6 hh,y6 hh,y5 sj,z3 ⟨om,k1,k1,trivial⟩,z3 ⟨by rw[y2q]; omega,trivial⟩]
 ·cases rm with
  | true =>
   rw[y5 (by simp[hh]),y6 rfl,y5 hh,y6 rfl,Ga]
  | false =>
   rw[y5 sj,y5 sj,y5 hh,y5 hh,y5 sj]
   simp only[F_q4x,yf]
   rw[z3 ⟨om,hp,om⟩,obind,z3 ⟨by rw[z12]; omega,trivial⟩]
theorem cloneBound {l:List TBo} (hl:l.length<=1000000):F_q4e l=some l:=by
 simp only[F_q4e,S_q4e,Scr.den]
 rw[Ga]
theorem deleteBound {l:List TBo} (hl:l.length<=1000000) {k:Nat} (hk:k<l.length):F_q4f (k:Int) ((k+1:Nat):Int) l=some (l.eraseIdx k):=by
 simp only[F_q4f,S_q4f,Scr.den,yf]
 rw[z3 ⟨om,om,om,om,trivial⟩,y5 (by simp only[yy]; omega),Gb,
  z3 ⟨om,by rw[zq]; exact ya _,trivial⟩,z3 ⟨by rw[z11,zq]; omega,trivial⟩,z3 ⟨by rw[z11,zq]; omega,trivial⟩]
 rw[zfc l k hk]
theorem putBound {l:List TBo} (hl:l.length<=100000) (h:OrdG plB l) {x:TBo} (hx:good x.B=true) (rm:Bool):F_q1x l x rm=some (putG plB l x rm):=by
 simp only[F_q1x,S_q1x,Scr.den]
 rw[z1t l (fun _=>true) plB 1000000 om fun i s hi hs=>by
  simp only[S_q1x_b1,Scr.den,F_q39,S_q39,obind]
  rw[Ga,y6 trivial]; rfl]
 rw[y3b.2 (fun _ _=>rfl)]
 simp only[outM,F_q39,S_q39,Scr.den,obind]
 rw[show (⟨x.B,x.H⟩:TPl)=plB x from rfl]
 have hgx:PGood (plB x):=⟨hx,trivial⟩
 have hml:(l.map plB).length<=1000000:=sk
 rw[zaa hml h.srt h.gd hgx,(zb4 h.srt h.gd hgx).1,obind,cloneBound om,obind]
 have hp:=z66 (l.map plB) (plB x)
 simp only[y1i] at hp
 simp only[z9,yf,y17]
 unfold putG
 by_cases hh:hasP (l.map plB) (plB x).code (plB x).year=true
 ·obtain⟨k1,k2⟩:=zab h hx hh
  cases rm with
  | true =>
   rw[y6 (by simp[hh]),y6 hh,y6 rfl,wrapId om om,show ((posP (l.map plB) (plB x):Int)+1)=((posP (l.map plB) (plB x)+1:Nat):Int) from om,deleteBound om k1,obind]
  | false =>
   rw[y5 sj,y5 sj,y6 hh,y6 hh,y5 sj,z3 ⟨om,k1,k1,trivial⟩,z3 ⟨by rw[y2q]; omega,trivial⟩]
 ·cases rm with
  | true =>
   rw[y5 (by simp[hh]),y6 rfl,y5 hh,y6 rfl,Ga]
  | false =>
   rw[y5 sj,y5 sj,y5 hh,y5 hh,y5 sj]
   simp only[F_q4y,yf]
   rw[z3 ⟨om,hp,om⟩,obind,z3 ⟨by rw[z12]; omega,trivial⟩]
end Go.Proofs.YtgfgnhpecnmlpaaGreatDoor
/- A law that is valid; changes carried out; the law in force. No condition. -/
namespace Go.Proofs.YtgfgnhpecnmlpaaGreatDoor
open Go Go.TA
open Go.IntKind (i64)
attribute [-simp] List.getD_eq_getElem?_getD
theorem z7o {α:Type} [Inhabited α] {pl:α->TPl} {l:List α} {x y:α} {rm:Bool} (h:y∈putG pl l x rm):(y=x/\rm=false)\/y∈l:=by
 cases rm with
 | false=>exact (zdq h).imp (fun e=>⟨e,rfl⟩) id
 | true =>
  right
  unfold putG at h
  split at h
  ·rw[y6 rfl] at h; exact List.mem_of_mem_eraseIdx h
  ·rw[y6 rfl] at h; exact h
theorem zds {a b:TPl} (h:good a.code=true\/good b.code=true):cmpP a b<0↔ltC a.code a.year b.code b.year=true:=by
 rw[z8b h]; unfold ltC; simp
section
variable {α:Type} [Inhabited α] {pl:α->TPl}
theorem z5b {l:List α} {i:Nat} (hi:i<l.length):(l.map pl).getD i dF=pl (l.getD i dF):=by
 rw[z7 (by simpa using hi),z7 hi,y4y]
theorem zfd {one:α->Int} (hg:∀ x,one x=0->good (pl x).code=true) {l:List α} :
  fstE l.length (chE (fun i=>one (l.getD i dF)) fun i=>ltC (pl (l.getD (i-1) dF)).code (pl (l.getD (i-1) dF)).year (pl (l.getD i dF)).code (pl (l.getD i dF)).year)=0 ↔
   OrdG pl l/\∀ x∈l,one x=0:=by
 rw[z1m]
 constructor
 ·intro h
  have h1:∀ x∈l,one x=0:=fun x hx=>by
   obtain⟨i,hi,rfl⟩:=z1y hx
   exact z31 (h i hi)
  refine⟨⟨zi5 (fun q hq=>?_) fun i hi=>?_,fun x hx=>hg x (h1 x hx)⟩,h1⟩
  ·obtain⟨x,hx,rfl⟩:=yw.1 hq
   exact⟨hg x (h1 x hx),trivial⟩
  ·have hi':i<l.length:=by simpa using hi
   by_cases h0:i=0
   ·exact .inl h0
   ·right
    rw[z5b hi',z5b (show i-1<l.length from om),zds (.inr (hg _ (h1 _ (z4 hi'))))]
    exact (z6v.1 (h i hi')).2 om
 ·rintro⟨ho,h1⟩ i hi
  refine z6v.2 ⟨h1 _ (z4 hi),fun h0=>?_⟩
  have:=(ho.srt i (by simpa using hi)).resolve_left om
  rwa [z5b hi,z5b (show i-1<l.length from om),zds (.inr (hg _ (h1 _ (z4 hi))))] at this
end
variable {t:List THe} {f y:Int}
theorem ordL {l:List TLi}:fstE l.length (lineE t f y l)=0↔OrdG plL l/\∀ x∈l,z2e t f y x=0 :=
 zfd (pl:=plL) (one:=z2e t f y) fun _ h=>lineG h
theorem ordBd (ht:treeE t=0) {l:List TBo}:fstE l.length (boundE t f y l)=0↔OrdG plB l/\∀ x∈l,z1a t f y x=0 :=
 zfd (pl:=plB) (one:=z1a t f y) fun _ h=>boundG ht h
structure RestOk (l:TLa):Prop where
 yr:¬ yrB l
 tr:treeE l.I=0
 li:¬ (l.O.length>20\/l.M.length>20\/l.S.length>20\/l.A.length>20\/l.A.any (fun a=>decide (a.G.length>20))=true)
 ea:fstE l.O.length (earE l.I l.O)=0
 sh:shareE l.I l.O=0
 co:fstE l.M.length (fun i=>z24 l.I l.E l.F (l.M.getD i dF))=0
 ru:fstE l.S.length (ruleE l.I l.S)=0
 am:fstE l.A.length (amdE l.I l.E l.F l.A)=0
structure RowsOk (l:TLa):Prop where
 lo:OrdG plL l.N
 l1:∀ x∈l.N,z2e l.I l.E l.F x=0
 co:OrdG plB l.K
 c1:∀ x∈l.K,z1a l.I l.E l.F x=0
 fo:OrdG plB l.P
 f1:∀ x∈l.P,z1a l.I l.E l.F x=0
def bigL (l:TLa):Prop:=l.N.length>120\/l.K.length>60\/l.P.length>60
instance (l:TLa):Decidable (bigL l):=inferInstanceAs (Decidable (_\/_))
variable {l:TLa}
theorem zw:errL l=0↔RestOk l/\RowsOk l/\¬ bigL l:=by
 unfold errL
 by_cases p1:yrB l
 ·rw[y6 p1]; exact⟨fun h=>absurd h dk,fun h=>absurd p1 h.1.yr⟩
 rw[y5 p1]
 by_cases p2:treeE l.I=0
 ·rw[y6 p2]
  by_cases p3:limB l
  ·rw[y6 p3]
   refine⟨fun h=>absurd h dk,fun⟨h1,_,h3⟩=>?_⟩
   have h4:=h1.li
   unfold bigL at h3
   rcases p3 with p | p | p | p | p | p | p | p
   ·exact absurd (.inl p) h3
   ·exact absurd (.inr (.inl p)) h3
   ·exact absurd (.inr (.inr p)) h3
   ·exact absurd (.inl p) h4
   ·exact absurd (.inr (.inl p)) h4
   ·exact absurd (.inr (.inr (.inl p))) h4
   ·exact absurd (.inr (.inr (.inr (.inl p)))) h4
   ·exact absurd (.inr (.inr (.inr (.inr p)))) h4
  ·rw[y5 p3]
   have hz:∀ (a b c d e f g h:Int),orE [a,b,c,d,e,f,g,h]=0↔a=0/\b=0/\c=0/\d=0/\e=0/\f=0/\g=0/\h=0:=fun a b c d e f g h=>by
    simp only[z1i,z25]
    constructor
    ·intro hh
     by_cases ha:a=0 <;> by_cases hb:b=0 <;> by_cases hc:c=0 <;> by_cases hd:d=0 <;> by_cases he:e=0 <;> by_cases hf:f=0 <;> by_cases hg:g=0 <;> by_cases hi:h=0 <;> simp_all
    ·rintro⟨rfl,rfl,rfl,rfl,rfl,rfl,rfl,rfl⟩; rfl
   rw[hz,ordL,ordBd p2,ordBd p2]
   constructor
   ·rintro⟨⟨a1,a2⟩,⟨b1,b2⟩,⟨c1,c2⟩,d,e,f,g,h⟩
    refine⟨⟨p1,p2,fun hb=>p3 ?_,d,e,f,g,h⟩,⟨a1,a2,b1,b2,c1,c2⟩,fun hb=>p3 ?_⟩
    ·exact .inr (.inr (.inr hb))
    ·rcases hb with hb | hb | hb
     ·exact .inl hb
     ·exact .inr (.inl hb)
     ·exact .inr (.inr (.inl hb))
   ·rintro⟨h1,h2,_⟩
    exact⟨⟨h2.lo,h2.l1⟩,⟨h2.co,h2.c1⟩,⟨h2.fo,h2.f1⟩,h1.ea,h1.sh,h1.co,h1.ru,h1.am⟩
 ·rw[y5 p2]; exact⟨fun h=>absurd h p2,fun h=>absurd h.1.tr p2⟩
def setS (x:TCh) (l:TLa):TLa :=
 if x.C=1 then { l with N:=putG plL l.N ⟨x.B,x.H,x.D⟩ (x.D==0) }
 else if x.C=2 then { l with K:=putG plB l.K ⟨x.B,x.H,x.D⟩ (x.D==-1) }
 else if x.C=3 then { l with P:=putG plB l.P ⟨x.B,x.H,x.D⟩ (x.D==0) }
 else l
structure WL (n:Nat) (l:TLa):Prop where
 lo:OrdG plL l.N
 ll:l.N.length<=n
 co:OrdG plB l.K
 cl:l.K.length<=n
 fo:OrdG plB l.P
 fl:l.P.length<=n
theorem putLo {l:List TLi} (h:OrdG plL l) {x:TLi} (hx:good x.B=true) (rm:Bool):OrdG plL (putG plL l x rm):=zdr h hx rm
theorem putBo {l:List TBo} (h:OrdG plB l) {x:TBo} (hx:good x.B=true) (rm:Bool):OrdG plB (putG plB l x rm):=zdr h hx rm
variable {x:TCh} {n:Nat}
theorem zb5 (h:WL n l) (hx:good x.B=true):WL (n+1) (setS x l):=by
 unfold setS
 have g1:=h.ll; have g2:=h.cl; have g3:=h.fl
 split
 ·exact⟨putLo h.lo hx _,y1z (z9b _ _ _) (Nat.succ_le_succ g1),h.co,y2i g2,h.fo,y2i g3⟩
 ·split
  ·exact⟨h.lo,y2i g1,putBo h.co hx _,y1z (z9b _ _ _) (Nat.succ_le_succ g2),h.fo,y2i g3⟩
  ·split
   ·exact⟨h.lo,y2i g1,h.co,y2i g2,putBo h.fo hx _,y1z (z9b _ _ _) (Nat.succ_le_succ g3)⟩
   ·exact⟨h.lo,y2i g1,h.co,y2i g2,h.fo,y2i g3⟩
theorem zi6 (hn:n<=100000) (h:WL n l) (hx:good x.B=true):F_q3i x l=some (setS x l):=by
 have g1:=h.ll; have g2:=h.cl; have g3:=h.fl
 simp only[F_q3i,S_q3i,Scr.den]
 unfold setS
 by_cases k1:x.C=1
 ·rw[y6 (by simpa using k1),y6 k1,putLine om h.lo hx,obind]
 ·rw[y5 (by simpa using k1),y5 k1]
  by_cases k2:x.C=2
  ·rw[y6 (by simpa using k2),y6 k2,putBound om h.co hx,obind]
  ·rw[y5 (by simpa using k2),y5 k2]
   by_cases k3:x.C=3
   ·rw[y6 (by simpa using k3),y6 k3,putBound om h.fo hx,obind]
   ·rw[y5 (by simpa using k3),y5 k3]
theorem zc2 (x:TCh) (l:TLa):(setS x l).E=l.E/\(setS x l).F=l.F/\(setS x l).I=l.I/\(setS x l).O=l.O/\(setS x l).M=l.M /\
  (setS x l).S=l.S/\(setS x l).A=l.A:=by
 unfold setS
 split
 ·exact⟨rfl,rfl,rfl,rfl,rfl,rfl,rfl⟩
 ·split
  ·exact⟨rfl,rfl,rfl,rfl,rfl,rfl,rfl⟩
  ·split <;> exact⟨rfl,rfl,rfl,rfl,rfl,rfl,rfl⟩
theorem zi7 (h:RowsOk l) (ht:treeE l.I=0) (hx:zk l.I l.E l.F x=0):RowsOk (setS x l):=by
 have hg:=chgG ht hx
 have hx':¬ (has l.I x.B=false\/(x.C=1/\leafT l.I x.B=false))/\¬ (inY l.E l.F x.H=false/\(x.C=1\/x.H≠-1))/\¬ (amt x.D=false/\(x.C≠2\/x.D≠-1)):=by
  unfold zk at hx
  split at hx
  ·cases hx
  ·split at hx
   ·cases hx
   ·split at hx
    ·cases hx
    ·split at hx
     ·cases hx
     ·rename_i a b c d; exact⟨b,c,d⟩
 obtain⟨q1,q2,q3⟩:=hx'
 have hb:∀ rm:Bool,(rm=true\/amt x.D=true)->rm=false->z1a l.I l.E l.F ⟨x.B,x.H,x.D⟩=0:=fun rm h1 h2=>by
  unfold z1a
  rw[y5 (fun h=>q1 (.inl h)),y5 (fun h=>q2 ⟨h.2,.inr h.1⟩),y5 (by rcases h1 with h1 | h1; rw[h1] at h2; cases h2; simp[h1])]
 unfold setS
 split
 ·rename_i k1
  refine⟨putLo h.lo hg _,fun y hy=>?_,h.co,h.c1,h.fo,h.f1⟩
  rcases z7o hy with ⟨rfl,_⟩ | hy
  ·unfold z2e
   have e1:leafT l.I x.B=true:=by
    cases e:leafT l.I x.B
    ·exact absurd (.inr ⟨k1,e⟩) q1
    ·rfl
   have e2:inY l.E l.F x.H=true:=by
    cases e:inY l.E l.F x.H
    ·exact absurd ⟨e,.inl k1⟩ q2
    ·rfl
   have e3:amt x.D=true:=by
    cases e:amt x.D
    ·exact absurd ⟨e,.inl om⟩ q3
    ·rfl
   show (if leafT l.I x.B=false then (5:Int) else if inY l.E l.F x.H=false then 16 else if amt x.D=false then 2 else 0)=0
   simp[e1,e2,e3]
  ·exact h.l1 y hy
 ·split
  ·rename_i k2
   refine⟨h.lo,h.l1,putBo h.co hg _,fun y hy=>?_,h.fo,h.f1⟩
   rcases z7o hy with ⟨rfl,hr⟩ | hy
   ·refine hb _ ?_ hr
    by_cases e:amt x.D=true
    ·exact .inr e
    ·left
     have:¬ (x.C≠2\/x.D≠-1):=fun h=>q3 ⟨by simpa using e,h⟩
     simp only[not_or,ne_eq,y3s] at this
     simpa using this.2
   ·exact h.c1 y hy
  ·rename_i k1 k2
   split
   ·refine⟨h.lo,h.l1,h.co,h.c1,putBo h.fo hg _,fun y hy=>?_⟩
    rcases z7o hy with ⟨rfl,hr⟩ | hy
    ·refine hb _ ?_ hr
     right
     cases e:amt x.D
     ·exact absurd ⟨e,.inl k2⟩ q3
     ·rfl
    ·exact h.f1 y hy
   ·exact h
end Go.Proofs.YtgfgnhpecnmlpaaGreatDoor
/- The law in force. No condition. -/
namespace Go.Proofs.YtgfgnhpecnmlpaaGreatDoor
open Go Go.TA
open Go.IntKind (i64)
attribute [-simp] List.getD_eq_getElem?_getD
def applyS (cs:List TCh) (l:TLa):TLa:=cs.foldl (fun l x=>setS x l) l
def zL:TLa:=⟨0,0,[],[],[],[],[],[],[],[]⟩
theorem zac (a b:List TCh) (l:TLa):applyS (a++b) l=applyS b (applyS a l):=List.foldl_append
theorem zkz (x:TCh) (l:TLa) (A:List TAm):setS x { l with A:=A }={ setS x l with A:=A }:=by
 unfold setS
 split
 ·rfl
 ·split
  ·rfl
  ·split <;> rfl
theorem zi8 (cs:List TCh) (A:List TAm):∀ l:TLa,applyS cs { l with A:=A }={ applyS cs l with A:=A }:=by
 induction cs with
 | nil=>intro l; rfl
 | cons x cs ih=>intro l; show applyS cs (setS x { l with A:=A })=_; rw[zkz,ih]; rfl
theorem z44 (cs:List TCh):∀ l:TLa,(applyS cs l).E=l.E/\(applyS cs l).F=l.F/\(applyS cs l).I=l.I/\(applyS cs l).O=l.O /\
  (applyS cs l).M=l.M/\(applyS cs l).S=l.S/\(applyS cs l).A=l.A:=by
 induction cs with
 | nil=>intro l; exact⟨rfl,rfl,rfl,rfl,rfl,rfl,rfl⟩
 | cons x cs ih =>
  intro l
  obtain⟨a1,a2,a3,a4,a5,a6,a7⟩:=ih (setS x l)
  obtain⟨b1,b2,b3,b4,b5,b6,b7⟩:=zc2 x l
  exact⟨a1.trans b1,a2.trans b2,a3.trans b3,a4.trans b4,a5.trans b5,a6.trans b6,a7.trans b7⟩
variable {cs:List TCh}
theorem z5q (hc:∀ x∈cs,good x.B=true):∀ {n:Nat} {l:TLa},WL n l->WL (n+cs.length) (applyS cs l):=by
 induction cs with
 | nil=>intro n l h; exact h
 | cons x cs ih =>
  intro n l h
  have:=ih (fun y hy=>hc y (ym _ hy)) (zb5 h (hc x y14))
  rwa [y11,show n+(cs.length+1)=n+1+cs.length from om]
theorem zem:∀ {l:TLa},RowsOk l->treeE l.I=0->(∀ x∈cs,zk l.I l.E l.F x=0)->RowsOk (applyS cs l):=by
 induction cs with
 | nil=>intro l h _ _; exact h
 | cons x cs ih =>
  intro l h ht hc
  obtain⟨b1,b2,b3,_⟩:=zc2 x l
  exact ih (zi7 h ht (hc x y14)) (by rw[b3]; exact ht) (fun y hy=>by rw[b1,b2,b3]; exact hc y (ym _ hy))
structure FewL (l:TLa):Prop where
 t:l.I.length<=1000000
 li:l.N.length<=1000000
 c:l.K.length<=1000000
 f:l.P.length<=1000000
 e:l.O.length<=1000000
 o:l.M.length<=1000000
 r:l.S.length<=1000000
 a:l.A.length<=1000000
 x:∀ x∈l.A,x.G.length<=1000000
variable {l:TLa}
theorem zad (h:FewL l):F_q17 l=some l:=by
 have g1:=h.t; have g2:=h.li; have g3:=h.c; have g4:=h.f; have g5:=h.e; have g6:=h.o; have g7:=h.r; have g8:=h.a
 simp only[F_q17,S_q17,Scr.den,F_q31,S_q31,F_q32,S_q32,F_q2t,S_q2t,
  F_q33,S_q33,F_q34,S_q34,F_q35,S_q35]
 rw[Ga,obind,Ga,obind,Ga,obind,Ga,obind,Ga,obind,Ga,obind,Ga,obind]
 obtain⟨s,e,hs⟩:=zr (body:=fun i s=>(S_q17_b1 l i s).den) (n:=l.A.length) (fun i s=>s=(l.E,l.F,l.I,l.N,l.K,l.P,l.O,l.M,l.S,l.A.take i))
  (s0:=(l.E,l.F,l.I,l.N,l.K,l.P,l.O,l.M,l.S,[])) rfl (fun i s hi h1=>by
   subst h1
   have hx:=h.x _ (z4 hi)
   refine⟨_,?_,rfl⟩
   simp only[S_q17_b1,Scr.den,F_q36,S_q36]
   rw[Ga,obind,z3 ⟨by rw[y15]; omega,trivial⟩]
   rw[y12 hi,z7 hi])
 rw[e,hs]
 simp only[outM,y2e]
 rw[Ga]
theorem zdt {n:Nat} (hf:FewL l) (h:WL n l) (hc:∀ x∈cs,good x.B=true) (hn:n+cs.length<=100000) :
  F_qv l cs=some (if bigL (applyS cs l) then (zL,3) else (applyS cs l,0)):=by
 simp only[F_qv,S_qv,Scr.den,zad hf,obind]
 rw[Ga]
 obtain⟨s,e,hs⟩:=zr (body:=fun i s=>(S_qv_b1 cs i s).den) (n:=cs.length) (fun i s=>s=applyS (cs.take i) l) (s0:=l) rfl (fun i s hi h1=>by
  refine⟨_,?_,rfl⟩
  have hw:WL (n+i) s:=by
   rw[h1]
   have:=z5q (cs:=cs.take i) (fun x hx=>hc x (y1k hx)) h
   rwa [y15,Nat.min_eq_left om] at this
  simp only[S_qv_b1,Scr.den,y17]
  rw[z3 ⟨hi,trivial⟩,zi6 om hw (hc _ (z4 hi)),obind,h1,y12 hi,zac,z7 hi]
  rfl)
 rw[e,hs]
 simp only[outM,y2e,zi]
 by_cases hb:bigL (applyS cs l)
 ·rw[y6 hb,y6 (by unfold bigL at hb; simp only[yl,y7]; omega)]
  rfl
 ·rw[y5 hb,y5 (by unfold bigL at hb; simp only[yl,y7]; omega)]
def laterI (l:TLa) (d:Int):Nat:=l.A.findIdx fun a=>decide (a.L>d)
def nowC (l:TLa) (d:Int):List TCh:=(l.A.take (laterI l d)).flatMap (·.G)
def forceL (l:TLa) (d:Int):TLa:=applyS (nowC l d) { l with A:=l.A.drop (laterI l d) }
def inS (l:TLa) (d:Int):TLa×Int:=if errL l=0 then (if d<0\/d>36000 then (zL,2) else if bigL (forceL l d) then (zL,3) else (forceL l d,0)) else (zL,errL l)
theorem zc3 (l:TLa) (d:Int):laterI l d<=l.A.length:=y4s
theorem zb6 {L:List TAm} {k:Nat} (h:∀ a∈L,a.G.length<=k):(L.flatMap (·.G)).length<=L.length * k:=by
 induction L with
 | nil=>simp
 | cons a L ih =>
  have h1:=ih fun x hx=>h x (ym _ hx)
  have h2:=h a y14
  rw[y5m,yd,y11,y1l]; omega
theorem z9c (h:RestOk l):l.A.length<=20/\∀ a∈l.A,a.G.length<=20:=by
 have h1:=h.li
 simp only[not_or] at h1
 refine⟨om,fun a ha=>?_⟩
 have:=h1.2.2.2.2
 rcases yn 20 a.G.length with h2 | h2
 ·exact absurd (y1r.2 ⟨a,ha,yx h2⟩) this
 ·exact h2
theorem zdu (h:RestOk l):∀ a∈l.A,∀ c∈a.G,zk l.I l.E l.F c=0:=fun a ha c hc=>by
 obtain⟨i,hi,rfl⟩:=z1y ha
 have h1:=z1m.1 h.am i hi
 unfold amdE at h1
 split at h1
 ·cases h1
 ·split at h1
  ·cases h1
  ·split at h1
   ·cases h1
   ·obtain⟨j,hj,rfl⟩:=z1y hc
    exact z31 (z1m.1 h1 j hj)
theorem zfe (h:RestOk l) (d:Int):∀ c∈nowC l d,zk l.I l.E l.F c=0:=fun c hc=>by
 obtain⟨a,ha,hca⟩:=y3y.1 hc
 exact zdu h a (y1k ha) c hca
theorem zl0 (h:RestOk l) (d:Int):(nowC l d).length<=400:=by
 obtain⟨h1,h2⟩:=z9c h
 have:=zb6 (L:=l.A.take (laterI l d)) (k:=20) fun a ha=>h2 a (y1k ha)
 have h3:=zc3 l d
 unfold nowC
 rw[y15] at this
 have:min (laterI l d) l.A.length * 20<=20 * 20:=yh 20 om
 omega
theorem z4r (h:RowsOk l) (hb:¬ bigL l):WL 120 l:=by
 unfold bigL at hb
 exact⟨h.lo,om,h.co,om,h.fo,om⟩
theorem z3s (hs:SmL l) (d:Int):F_qk l d=some (inS l d):=by
 simp only[F_qk,S_qk,Scr.den,z26 hs,obind,zi]
 unfold inS
 by_cases hne:¬ errL l=0
 ·rw[y6 (by simpa using hne),y5 hne]; rfl
 have he:errL l=0:=y3s.1 hne
 rw[y5 (by simpa using he),y6 he]
 by_cases hd:d<0\/d>36000
 ·rw[y6 (by simpa using hd),y6 hd]; rfl
 rw[y5 (by simpa using hd),y5 hd]
 obtain⟨hr,hw,hb⟩:=zw.1 he
 obtain⟨f1,f2⟩:=z9c hr
 have hle:=zc3 l d
 have hidx:∃ v,F_q2c l.A d=some v/\(if v<0 then (l.A.length:Int) else v)=(laterI l d:Int):=by
  simp only[F_q2c,S_q2c,Scr.den]
  rw[z2c l.A (fun a=>decide (a.L>d)) (fun i=>(i:Int)) fun i hi=>by
   simp only[S_q2c_b1,F_q4q,S_q4q,Scr.den,obind]
   split <;> rfl]
  by_cases ha:(l.A.any fun a=>decide (a.L>d))=true
  ·rw[y6 ha]
   refine⟨_,rfl,?_⟩
   have h0:¬ ((l.A.findIdx fun a=>decide (a.L>d):Nat):Int)<0:=om
   exact y5 h0
  ·rw[y5 ha]
   refine⟨_,rfl,?_⟩
   rw[y6 dk]
   have:laterI l d=l.A.length:=List.findIdx_eq_length.2 fun a ha'=>by
    cases h:decide (a.L>d)
    ·rfl
    ·exact absurd (y1r.2 ⟨a,ha',h⟩) ha
   rw[this]
 obtain⟨v,hv,hv2⟩:=hidx
 rw[hv,obind]
 have hcut:(if decide (v<0)=true then some (Out.next (l.A.length:Int)) else some (Out.next v):Option (Out Int R_qk))=some (.next (laterI l d:Int)):=by
  rw[<- hv2]
  by_cases h:v<0
  ·rw[y6 (yx h),y6 h]
  ·rw[y5 (by simpa using h),y5 h]
 rw[hcut]
 simp only[outM,yf]
 rw[z3 ⟨om,hle,trivial⟩]
 obtain⟨s,e,h1⟩:=zr (body:=fun i s=>(S_qk_b1 l (laterI l d:Int) i s).den) (n:=(l.A.take (laterI l d)).length) (fun i s=>s=((l.A.take (laterI l d)).take i).flatMap (·.G)) (s0:=[]) rfl (fun i s hi h1=>by
  refine⟨_,?_,rfl⟩
  have hsl:s.length<=400:=by
   rw[h1]
   have:=zb6 (L:=(l.A.take (laterI l d)).take i) (k:=20) fun a ha=>f2 a (y1k (y1k ha))
   have h3:((l.A.take (laterI l d)).take i).length * 20<=20 * 20:=yh 20 (by rw[y15,y15]; omega)
   omega
  have hcl:=f2 _ (y1k (z4 hi))
  simp only[S_qk_b1,Scr.den,yf]
  rw[Ga,h1,y12 hi,y5c,z7 hi]
  simp)
 rw[e,h1]
 simp only[y2e]
 have hcc:∀ x∈nowC l d,good x.B=true:=fun x hx=>chgG hr.tr (zfe hr d x hx)
 have hlim:=hr.li
 have htl:l.I.length<=60:=by
  have:=hr.tr
  unfold treeE at this
  split at this
  ·cases this
  ·omega
 have hbb:=hb
 unfold bigL at hbb
 have hfew:FewL { l with A:=l.A.drop (laterI l d) }:=⟨by simp only; omega,by simp only; omega,by simp only; omega,by simp only; omega,by simp only; omega,by simp only; omega,by simp only; omega,
  by simp only[y21]; omega,fun x hx=>by have:=f2 x (y2x hx); omega⟩
 have hwl:WL 120 { l with A:=l.A.drop (laterI l d) }:=z4r (l:={ l with A:=l.A.drop (laterI l d) }) ⟨hw.lo,hw.l1,hw.co,hw.c1,hw.fo,hw.f1⟩ hb
 have hnl:=zl0 hr d
 rw[show (l.A.take (laterI l d)).flatMap (·.G)=nowC l d from rfl]
 show ((F_qv { l with A:=l.A.drop (laterI l d) } (nowC l d)).bind fun r=>some (r.1,r.2))=_
 rw[zdt hfew hwl hcc om,obind]
 rfl
end Go.Proofs.YtgfgnhpecnmlpaaGreatDoor
/- A law is the same as itself; the days; the law in force on a later day. No condition. -/
namespace Go.Proofs.YtgfgnhpecnmlpaaGreatDoor
open Go Go.TA
open Go.IntKind (i64)
attribute [-simp] List.getD_eq_getElem?_getD
theorem z13 {ρ:Type} {body:Nat->Unit->Option (Step Unit ρ)} {n:Nat} (hs:∀ i,i<n->body i ()=some (.cont ())):rangeM body n 0 ()=some (.next ()):=by
 obtain⟨s,e,_⟩:=zr (body:=body) (n:=n) (fun _ _=>True) (s0:=()) trivial (fun i s hi _=>⟨(),hs i hi,trivial⟩)
 exact e
theorem zgi (t:List THe):F_q2e t t=some true:=by
 simp only[F_q2e,S_q2e,Scr.den]
 rw[y5 sj,z13 fun i hi=>by
  simp only[S_q2e_b1,Scr.den]
  rw[z3 ⟨hi,trivial⟩,y5 sj]]
 rfl
theorem zen (t:List TLi):F_q2f t t=some true:=by
 simp only[F_q2f,S_q2f,Scr.den]
 rw[y5 sj,z13 fun i hi=>by
  simp only[S_q2f_b1,Scr.den]
  rw[z3 ⟨hi,trivial⟩,y5 sj]]
 rfl
theorem zeo (t:List TBo):F_q1y t t=some true:=by
 simp only[F_q1y,S_q1y,Scr.den]
 rw[y5 sj,z13 fun i hi=>by
  simp only[S_q1y_b1,Scr.den]
  rw[z3 ⟨hi,trivial⟩,y5 sj]]
 rfl
theorem zep {t:List TAm} (h:∀ x∈t,x.G.length<=1000000):F_qn t t=some true:=by
 simp only[F_qn,S_qn,Scr.den]
 rw[y5 sj,z13 fun i hi=>by
  have:=h _ (z4 hi)
  simp only[S_qn_b2,Scr.den]
  rw[z3 ⟨hi,fun _=>hi,fun _=>hi,trivial⟩,y5 sj,Ga,z13 fun j hj=>by
   simp only[S_qn_b1,Scr.den]
   rw[z3 ⟨hj,trivial⟩,y5 sj]]
  rfl]
 rfl
theorem zi9 {l:TLa} (h:FewL l):F_q8 l l=some true:=by
 have g5:=h.e; have g6:=h.o; have g7:=h.r
 simp only[F_q8,S_q8,Scr.den,zgi,zen,zeo,zep h.x]
 rw[Gg,obind,Gg,obind,Gg,obind,Gg,obind,Gg,obind]
 rw[y5 sj,y5 sj,Ga,z13 fun i hi=>by
  simp only[S_q8_b1,Scr.den]
  rw[z3 ⟨hi,trivial⟩,y5 sj]]
 simp only[outM]
 rw[Ga,z13 fun i hi=>by
  simp only[S_q8_b2,Scr.den]
  rw[z3 ⟨hi,trivial⟩,y5 sj]]
 simp only
 rw[Ga,z13 fun i hi=>by
  simp only[S_q8_b3,Scr.den]
  rw[z3 ⟨hi,trivial⟩,y5 sj]]
def daysL (l:TLa):List Int:=Lib.compact (l.A.map (·.L))
theorem zl1 {l:TLa} (hs:SmL l):F_q2g l=some (if errL l=0 then daysL l else []):=by
 have hal:=hs.al
 simp only[F_q2g,S_q2g,Scr.den,z26 hs,obind]
 by_cases he:errL l=0
 ·rw[y5 (by simpa using he),y6 he]
  rw[z1t l.A (fun _=>true) (·.L) 1000000 hal fun i s hi hsl=>by
   simp only[S_q2g_b1,Scr.den]
   rw[Ga,y6 trivial]]
  rw[y3b.2 (fun _ _=>rfl)]
  simp only[outM,F_q4z]
  rw[z3 sk,obind]
  rfl
 ·rw[y6 (by simpa using he),y5 he]
end Go.Proofs.YtgfgnhpecnmlpaaGreatDoor
/- Trees that are made. No condition. -/
namespace Go.Proofs.YtgfgnhpecnmlpaaGreatDoor
open Go Go.TA
open Go.IntKind (i64)
attribute [-simp] List.getD_eq_getElem?_getD
variable {w:Y8} {n:Int}
theorem zl2 (h:pv w=some n):w=Lib.decDigits n.toNat/\1<=n/\n<=99:=by
 obtain⟨k,h1,h2,rfl,rfl⟩:=zde h
 exact⟨by rw[yf,z64 om],om,om⟩
theorem z9d:∀ {ws:List Y8} {ns:List Int},nums ws=some ns->ws=ns.map (fun n=>Lib.decDigits n.toNat)/\∀ n∈ns,1<=n/\n<=99
 | [],ns,h=>by cases h; exact⟨rfl,fun n hn=>by simp at hn⟩
 | w :: ws,ns,h=>by
  simp only[nums] at h
  cases hv:pv w with
  | none=>simp[hv] at h
  | some v =>
   cases hn:nums ws with
   | none=>simp[hv,hn] at h
   | some m =>
    simp only[hv,hn,y1p,yo] at h
    subst h
    obtain⟨h1,h2⟩:=z9d hn
    obtain⟨k1,k2⟩:=zl2 hv
    exact⟨by rw[y31,<- h1,<- k1],fun n hn'=>by
     rcases yi.1 hn' with rfl | hn'
     ·exact k2
     ·exact h2 n hn'⟩
variable {c:Y8}
theorem zia (h:good c=true):c=joinD ((parts c).map fun n=>Lib.decDigits n.toNat):=by
 rw[<- (z9d (z14 h).1).1,z43]
theorem zeq {ns:List Int} (hl:ns.length<=4) (hn:∀ n∈ns,1<=n/\n<=99):F_qy ns=some (joinD (ns.map fun n=>Lib.decDigits n.toNat)):=by
 simp only[F_qy,S_qy,Scr.den]
 rw[y5 (by simp only[y7]; omega),Ga]
 have hd:∀ n:Int,(Lib.decDigits n.toNat).length<=20\/¬ (1<=n/\n<=99):=fun n=>by
  by_cases h:1<=n/\n<=99
  ·left
   rw[z64 om]
   unfold z7j
   split <;> simp
  ·exact .inr h
 obtain⟨s,e,h1,_⟩:=zr (body:=fun i s=>(S_qy_b1 ns i s).den) (n:=ns.length) (fun i s=>s=joinD ((ns.take i).map fun n=>Lib.decDigits n.toNat)/\s.length<=30 * i) (s0:=[]) ⟨rfl,sj⟩ (fun i s hi ⟨h1,h2⟩=>by
  have hr:=hn _ (z4 hi)
  have hdl:(Lib.decDigits (ns.getD i dF).toNat).length<=20:=(hd _).resolve_right (by simpa using hr)
  have hI:F_q4w (ns.getD i dF)=some (Lib.decDigits (ns.getD i dF).toNat):=z3 ⟨om,om⟩
  simp only[S_qy_b1,Scr.den,y17,hI,obind,zi]
  rw[z3 ⟨hi,trivial⟩,y5 (by simp only[yl,y7]; omega)]
  have ht:(ns.take (i+1)).map (fun n=>Lib.decDigits n.toNat)=(ns.take i).map (fun n=>Lib.decDigits n.toNat)++[Lib.decDigits (ns.getD i dF).toNat]:=by
   rw[y12 hi,y3f,z7 hi]; rfl
  by_cases h0:0<i
  ·rw[y6 (by simp only[y7]; omega),z3 ⟨by simp only[y11,y1c]; omega,trivial⟩]
   simp only[outM]
   rw[z3 ⟨by rw[yd,y11,y1c]; omega,trivial⟩]
   refine⟨_,rfl,?_,by rw[yd,yd,y11,y1c]; omega⟩
   rw[ht,z4b (by
    intro h
    have:=y4v List.length h
    rw[y1i,y15] at this
    simp only[y1c] at this
    omega) sj,<- h1]
   simp[joinD]
  ·have h0':i=0:=om
   subst h0'
   rw[y5 sj]
   simp only[outM]
   have hs:s=[]:=by rw[h1]; rfl
   subst hs
   rw[z3 ⟨by simp only[y1c]; omega,trivial⟩]
   refine⟨_,rfl,?_,by simp only[y20]; omega⟩
   rw[ht]; rfl)
 rw[e,h1]
 simp only[outM,y2e]
theorem zjq {a:Y8} (hw:∀ c∈w,c.toNat≠46):ldot (a++46 :: w) (a++46 :: w).length=a.length:=by
 have key:∀ k,k<=w.length->ldot (a++46 :: w) (a.length+1+k)=a.length:=by
  intro k
  induction k with
  | zero =>
   intro _
   show (if ((a++46 :: w).getD a.length 0).toNat=46 then a.length else _)=_
   rw[y6]
   rw[List.getD_eq_getElem?_getD,y1d (ya _)]; simp
  | succ k ih =>
   intro hk
   show (if ((a++46 :: w).getD (a.length+1+k) 0).toNat=46 then a.length+1+k else ldot _ (a.length+1+k))=_
   rw[y5,ih om]
   rw[List.getD_eq_getElem?_getD,y1d om,show a.length+1+k-a.length=k+1 from om,List.getElem?_cons_succ,yc om]
   exact hw _ (y3c _)
 have:=key w.length (ya _)
 rwa [show a.length+1+w.length=(a++46 :: w).length from sk] at this
theorem zjr (hc:good c=true) (hl:(parts c).length<4) (hw:pv w=some n):good (c++46 :: w)=true/\parts (c++46 :: w)=parts c++[n]/\par (c++46 :: w)=c:=by
 obtain⟨_,_,_,_,hdig⟩:=za3 hw
 have hnd:∀ x∈w,x.toNat≠46:=fun x hx=>by have:=hdig x hx; omega
 have hpw:pieces w=[w]:=by
  have:∀ w:Y8,(∀ x∈w,x.toNat≠46)->pieces w=[w]:=by
   intro w
   induction w with
   | nil=>intro _; rfl
   | cons x w ih =>
    intro h
    rw[zy,ih fun y hy=>h y (ym _ hy),y5]
    have:=h x y14
    intro e
    have e:x=46:=by simpa using e
    exact this (by rw[e]; rfl)
  exact this w hnd
 obtain⟨h1,h2,h3⟩:=z14 hc
 have hn:∀ xs ns,nums xs=some ns->nums (xs++[w])=some (ns++[n]):=by
  intro xs
  induction xs with
  | nil=>intro ns h; cases h; simp[nums,hw]
  | cons x xs ih =>
   intro ns h
   simp only[y2d,nums] at h |-
   cases hv:pv x with
   | none=>simp[hv] at h
   | some v =>
    cases hm:nums xs with
    | none=>simp[hv,hm] at h
    | some m =>
     simp only[hv,hm,y1p,yo] at h
     subst h
     simp[ih m hm]
 have hp:parts (c++46 :: w)=parts c++[n]:=by
  unfold parts
  rw[z4p,hpw,hn _ _ h1]
  simp only[yd,yp]
  rw[y5 om]
  rw[h1]
  simp only
  rw[y5 om]
 have hg:good (c++46 :: w)=true:=by rw[<- z3q,hp]; simp
 refine⟨hg,hp,?_⟩
 unfold par
 rw[y6 hg,zjq hnd,List.take_left']
 rfl
end Go.Proofs.YtgfgnhpecnmlpaaGreatDoor
/- Trees that are made. No condition. -/
namespace Go.Proofs.YtgfgnhpecnmlpaaGreatDoor
open Go Go.TA
open Go.IntKind (i64)
attribute [-simp] List.getD_eq_getElem?_getD
def ltK (a b:Y8):Bool:=decide (lexC (parts a) (parts b)<0)
def insK (c:Y8):List Y8->List Y8
 | []=>[c]
 | x :: l=>if ltK c x=true then c :: x :: l else x :: insK c l
theorem zdv {c x:Y8}:∀ {l:List Y8},l.any (ltK c)=true->insK c (l++[x])=insK c l++[x]
 | [],h=>by cases h
 | y :: l,h=>by
  rw[y2d]
  unfold insK
  by_cases hy:ltK c y=true
  ·rw[y6 hy,y6 hy]; rfl
  ·rw[y5 hy,y5 hy,zdv (by rw[y46] at h; simpa [hy] using h)]; rfl
theorem z7p {c:Y8} {m:List Y8}:∀ {l:List Y8},l.any (ltK c)=false->insK c (l++m)=l++insK c m
 | [],_=>rfl
 | y :: l,h=>by
  rw[y46,y2j] at h
  rw[y2d]
  conv=>lhs; unfold insK
  rw[y5 (by rw[h.1]; simp),z7p h.2]; rfl
theorem z9e (c:Y8):∀ l,(insK c l).length=l.length+1
 | []=>rfl
 | y :: l=>by
  unfold insK
  split
  ·rfl
  ·rw[y11,z9e c l]; rfl
theorem z3d {c x:Y8}:∀ {l:List Y8},x∈insK c l↔x=c\/x∈l
 | []=>by simp[insK]
 | y :: l=>by
  unfold insK
  split
  ·simp
  ·rw[yi,z3d,yi]
   constructor
   ·rintro (h | h | h)
    ·exact .inr (.inl h)
    ·exact .inl h
    ·exact .inr (.inr h)
   ·rintro (h | h | h)
    ·exact .inr (.inl h)
    ·exact .inl h
    ·exact .inr (.inr h)
structure CL (l:List Y8):Prop where
 pw:l.Pairwise fun a b=>ltK a b=true
 gd:∀ c∈l,good c=true
 pa:∀ c∈l,par c=[]\/par c∈l
variable {l:List Y8} {c:Y8}
theorem zm4 (h:CL l) (hc:good c=true) (hn:c ∉ l) (hp:par c=[]\/par c∈l):CL (insK c l):=by
 refine⟨?_,fun x hx=>?_,fun x hx=>?_⟩
 ·have key:∀ m:List Y8,m.Pairwise (fun a b=>ltK a b=true)->(∀ x∈m,good x=true)->c ∉ m->(insK c m).Pairwise (fun a b=>ltK a b=true):=by
   intro m
   induction m with
   | nil=>intro _ _ _; exact y43 _ _
   | cons y m ih =>
    intro h1 h2 h3
    obtain⟨h4,h5⟩:=y2k.1 h1
    unfold insK
    by_cases hy:ltK c y=true
    ·rw[y6 hy]
     refine y2k.2 ⟨fun z hz=>?_,h1⟩
     rcases yi.1 hz with rfl | hz
     ·exact hy
     ·exact yx (z4n (y2t hy) (y2t (h4 z hz)))
    ·rw[y5 hy]
     refine y2k.2 ⟨fun z hz=>?_,ih h5 (fun x hx=>h2 x (ym _ hx)) fun h=>h3 (ym _ h)⟩
     rcases z3d.1 hz with rfl | hz
     ·have h6:¬ lexC (parts z) (parts y)<0:=by simpa [ltK] using hy
      have h7:lexC (parts z) (parts y)≠0:=fun e=>h3 (by rw[z4a hc (h2 y y14) (z22 e)]; exact y14)
      have h8:=z5n (parts z) (parts y)
      exact yx om
     ·exact h4 z hz
  exact key l h.pw h.gd hn
 ·rcases z3d.1 hx with rfl | hx
  ·exact hc
  ·exact h.gd x hx
 ·rcases z3d.1 hx with rfl | hx
  ·exact hp.imp id fun h=>z3d.2 (.inr h)
  ·exact (h.pa x hx).imp id fun h=>z3d.2 (.inr h)
def withS (l:List Y8) (c:Y8):List Y8:=if c∈l then l else insK c l
theorem zb7 (h:CL l) (hl:l.length<=1000000) (hc:good c=true):F_ql l c=some (withS l c):=by
 simp only[F_ql,S_ql,Scr.den]
 unfold withS
 have hst:∀ (i:Nat) (s:List Y8×Bool),i<l.length->s.1.length<=2000000->(S_ql_b1 l c i s).den=some (if c=l.getD i dF then .ret l else .cont (if ltK c (l.getD i dF)=true/\s.2=false then (s.1++[c]++[l.getD i dF],true) else (s.1++[l.getD i dF],s.2))):=fun i s hi hsl=>by
  have hg:=h.gd _ (z4 hi)
  simp only[S_ql_b1,Scr.den,z23 hc hg,obind,z9]
  by_cases he:c=l.getD i dF
  ·rw[y6 (by rw[<- he,z49]; rfl),y6 he]
  ·have hne:lexC (parts c) (parts (l.getD i dF))≠0:=fun e=>he (z4a hc hg (z22 e))
   rw[y5 (by simpa using hne),y5 he]
   by_cases hlt:ltK c (l.getD i dF)=true/\s.2=false
   ·rw[y6 (by rw[show decide (lexC (parts c) (parts (l.getD i dF))<0)=true from hlt.1,hlt.2]; rfl),Ga]
    simp only[outM]
    rw[z3 ⟨by rw[yd,yp]; omega,trivial⟩,y6 hlt]
   ·rw[y5 (by
     intro hh
     simp only[y9,y2h] at hh
     exact hlt ⟨hh.1,hh.2⟩)]
    simp only[outM]
    rw[Ga,y5 hlt]
 by_cases hm:c∈l
 ·rw[y6 hm]
  obtain⟨k,hk,e⟩:=z1y hm
  have hloop:∀ (j i:Nat) (s:List Y8×Bool),i+j=l.length->i<=k->s.1.length<=2 * i->rangeM (fun i s=>(S_ql_b1 l c i s).den) j i s=some (.ret l):=by
   intro j
   induction j with
   | zero=>intro i s hij hik _; omega
   | succ j ih =>
    intro i s hij hik hsl
    simp only[rangeM,hst i s om om]
    by_cases he:c=l.getD i dF
    ·rw[y6 he]
    ·rw[y5 he]
     refine ih (i+1) _ om ?_ ?_
     ·rcases yn i k with h | h
      ·omega
      ·have:i=k:=om
       rw[this] at he
       exact absurd e.symm he
     ·split <;> simp only[yd,yp] <;> omega
  rw[hloop l.length 0 _ om om sj]
  rfl
 ·rw[y5 hm]
  obtain⟨s,e,h1,_⟩:=zr (body:=fun i s=>(S_ql_b1 l c i s).den) (n:=l.length) (fun i s=>s=(if (l.take i).any (ltK c)=true then (insK c (l.take i),true) else (l.take i,false))/\s.1.length<=i+1) (s0:=([],false)) ⟨rfl,sj⟩ (fun i s hi ⟨h1,h2⟩=>by
   have hne:¬ c=l.getD i dF:=fun e=>hm (by rw[e]; exact z4 hi)
   have ht:l.take (i+1)=l.take i++[l.getD i dF]:=by rw[y12 hi,z7 hi]
   refine⟨_,by rw[hst i s hi om,y5 hne],?_⟩
   rw[ht,List.any_append]
   by_cases ha:(l.take i).any (ltK c)=true
   ·rw[y6 ha] at h1
    rw[h1,ha]
    simp only[y3o,and_false,y2u,Bool.true_or,y3i]
    rw[zdv ha]
    refine⟨rfl,?_⟩
    rw[h1] at h2
    simp only[yd,yp] at h2 |-
    omega
   ·rw[y5 ha] at h1
    have ha':=y13.2 ha
    rw[h1,ha']
    simp only[y30,y4t,y46,List.any_nil,Bool.or_false]
    by_cases hlt:ltK c (l.getD i dF)=true
    ·rw[y6 hlt,y6 hlt,z7p ha']
     refine⟨?_,by simp only[yd,yp,y15]; omega⟩
     unfold insK
     rw[y6 hlt]
     simp
    ·rw[y5 hlt,y5 hlt]
     exact⟨rfl,by simp only[yd,yp,y15]; omega⟩)
  rw[e,h1,y2e]
  simp only[outM]
  by_cases ha:l.any (ltK c)=true
  ·rw[y6 ha]
   simp only
   rw[y5 sj,z3 ⟨by rw[z9e]; omega,trivial⟩]
  ·rw[y5 ha]
   simp only
   have hi:insK c l=l++[c]:=by
    have:=z7p (m:=[]) (y13.2 ha)
    rw[y2r] at this
    exact this
   rw[y6 sj,Ga,z3 ⟨by simp only[yd,yp]; omega,trivial⟩,hi]
theorem z9f (h:CL l) (hc:good c=true) (hp:par c=[]\/par c∈l):CL (withS l c):=by
 unfold withS
 split
 ·exact h
 ·exact zm4 h hc aj hp
theorem z7q (l:List Y8) (c:Y8):(withS l c).length<=l.length+1/\l.length<=(withS l c).length:=by
 unfold withS
 split
 ·omega
 ·rw[z9e]; omega
theorem z4e {x:Y8}:x∈withS l c↔x=c\/x∈l:=by
 unfold withS
 split
 ·rename_i h
  exact⟨.inr,fun h'=>h'.elim (fun e=>e▸h) id⟩
 ·exact z3d
end Go.Proofs.YtgfgnhpecnmlpaaGreatDoor
/- Trees that are made. No condition. -/
namespace Go.Proofs.YtgfgnhpecnmlpaaGreatDoor
open Go Go.TA
open Go.IntKind (i64)
attribute [-simp] List.getD_eq_getElem?_getD
structure MT (t:List THe):Prop where
 ok:treeE t=0
 ge:1<=t.length
 le:t.length<=11
theorem zjs {c:Y8} (hc:good c=true) (hl:(parts c).length<3) {n:Int} (hn:n∈([1,2,3,10]:List Int)) :
  F_qy (parts c++[n])=some (c++46 :: Lib.decDigits n.toNat)/\good (c++46 :: Lib.decDigits n.toNat)=true/\par (c++46 :: Lib.decDigits n.toNat)=c:=by
 have hr:1<=n/\n<=99:=by simp at hn; rcases hn with rfl | rfl | rfl | rfl <;> omega
 have hw:pv (Lib.decDigits n.toNat)=some n:=by
  have h1:=(z4m ⟨n.toNat,om⟩ (by simp only; omega)).1
  simp only at h1
  rw[z64 om,h1]
  congr 1; omega
 obtain⟨k1,k2,k3⟩:=zjr hc om hw
 obtain⟨h1,h2,h3⟩:=z14 hc
 refine⟨?_,k1,k3⟩
 rw[zeq (by rw[yd,yp]; omega) (fun m hm=>by
  rcases yg.1 hm with hm | hm
  ·exact (z9d h1).2 m hm
  ·have:m=n:=by simpa using hm
   rw[this]; exact hr)]
 congr 1
 rw[y3f,z4b (by
  intro e
  have:=y4v List.length e
  rw[y1i,y1c] at this
  omega) sj,<- zia hc]
 rfl
theorem CL0:CL [[49],[50]]:=⟨dk,dk,dk⟩
end Go.Proofs.YtgfgnhpecnmlpaaGreatDoor
/- What is drawn: amounts,years,leaves,codes,changes. No condition. -/
namespace Go.Proofs.YtgfgnhpecnmlpaaGreatDoor
open Go Go.TA
open Go.IntKind (i64)
attribute [-simp] List.getD_eq_getElem?_getD
theorem MT.good {t:List THe} (h:MT t):∀ x∈t,good x.B=true:=fun x hx=>hasGood h.ok (y1r.2 ⟨x,hx,sj⟩)
theorem nameL {s:Y8} (h:nameOk s=true):s.length<=40:=by
 unfold nameOk at h
 simp only[y9,y7] at h
 exact h.1.1.1.2
variable {t:List THe}
theorem treeName (h:treeE t=0):∀ x∈t,nameOk x.V=true:=fun x hx=>by
 obtain⟨i,hi,rfl⟩:=z1y hx
 unfold treeE at h
 split at h
 ·cases h
 ·have:=z1m.1 h i hi
  unfold headE at this
  split at this
  ·cases this
  ·split at this
   ·cases this
   ·rename_i h; simpa using h
theorem MT.sm (h:MT t):SmT t:=fun x hx=>⟨lenC (h.good x hx),by have:=nameL (treeName h.ok x hx); omega⟩
variable {s:TTape}
theorem z2j (hs:TapeOk s):∃ v s',F_q1d s=some (v,s')/\TapeOk s'/\0<=v/\v<=1000000000000:=by
 obtain⟨a,s1,e1,o1,l1,u1⟩:=zh (n:=1000) hs om om
 obtain⟨b,s2,e2,o2,l2,u2⟩:=zh (n:=1000) o1 om om
 obtain⟨c,s3,e3,o3,l3,u3⟩:=zh (n:=100000) o2 om om
 obtain⟨v,s4,e4,o4,h4⟩:=z19 (l:=[0,100,a,b,c,1000000000000]) o3 sj sj
 refine⟨v,s4,?_,o4,?_⟩
 ·simp only[F_q1d,S_q1d,Scr.den,e1,e2,e3,e4,obind]
 ·simp only[yi,y2z,y4b] at h4
  omega
def YrsOk (f y:Int) (r:List Int):Prop:=1<=r.length/\r.length<=4/\∀ x∈r,x=-1\/(f<=x/\x<f+y)
variable {f y:Int}
theorem z6w (_hf:0<=f/\f<=95) (hy:1<=y/\y<=3) {ρ:Type} {F:List Int×Int->Option (Step (List Int×Int) ρ)} (hF:∀ s:List Int×Int,s.1.length<=100->f<=s.2->s.2<=f+y->F s=some (if s.2<f+y then .cont (s.1++[s.2],s.2+1) else .brk s)) :
  ∃ r,iterM F ([-1],f)=some (.next r)/\YrsOk f y r.1:=by
 refine zt (step:=F) (fun s:List Int×Int=>(f+y-s.2).toNat) (fun s=>(s.1.length:Int)=1+(s.2-f)/\f<=s.2/\s.2<=f+y/\∀ x∈s.1,x=-1\/(f<=x/\x<f+y)) (fun s=>YrsOk f y s.1) (fun s ⟨h1,h2,h3,h4⟩=>?_) _ _ (y1t _) ⟨sj,sj,by simp only; omega,sj⟩
 rw[hF s om h2 h3]
 by_cases h:s.2<f+y
 ·rw[y6 h]
  refine .inl ⟨_,rfl,⟨by rw[yd,yp]; simp only; omega,by simp only; omega,by simp only; omega,fun x hx=>?_⟩,by simp only; omega⟩
  rcases yg.1 hx with hx | hx
  ·exact h4 x hx
  ·have:x=s.2:=by simpa using hx
   exact .inr om
 ·rw[y5 h]
  exact .inr ⟨_,rfl,om,om,h4⟩
theorem zgj (hf:0<=f/\f<=95) (hy:1<=y/\y<=3) (t:List THe) (ls:List TLi) (ce fl:List TBo) (ea:List TEa) (co:List TCo) (ru:List TRu) (am:List TAm) :
  ∃ r,F_qz f y t ls ce fl ea co ru am=some r/\YrsOk f y r:=by
 simp only[F_qz,S_qz,Scr.den]
 obtain⟨r,e,h⟩:=z6w hf hy (F:=fun s=>(S_qz_b1 f y s).den) (fun s h1 h2 h3=>by
  simp only[S_qz_b1,Scr.den]
  rw[wrapId (n:=f+y) om om,wrapId (n:=s.2+1) om om]
  by_cases h:s.2<f+y
  ·rw[y6 (by simpa using h),y6 h,Ga]
  ·rw[y5 (by simpa using h),y5 h])
 rw[e]
 have:=h.2.1
 simp only[outM]
 rw[Ga]
 exact⟨_,rfl,h⟩
theorem zdw (hf:0<=f/\f<=95) (hy:1<=y/\y<=3) (t:List THe) (ls:List TLi) (ce fl:List TBo) (ea:List TEa) (co:List TCo) (ru:List TRu) (am:List TAm) :
  ∃ r,F_q1e f y t ea co ru ls ce fl am=some r/\YrsOk f y r:=by
 simp only[F_q1e,S_q1e,Scr.den]
 obtain⟨r,e,h⟩:=z6w hf hy (F:=fun s=>(S_q1e_b1 f y s).den) (fun s h1 h2 h3=>by
  simp only[S_q1e_b1,Scr.den]
  rw[wrapId (n:=f+y) om om,wrapId (n:=s.2+1) om om]
  by_cases h:s.2<f+y
  ·rw[y6 (by simpa using h),y6 h,Ga]
  ·rw[y5 (by simpa using h),y5 h])
 rw[e]
 have:=h.2.1
 simp only[outM]
 rw[Ga]
 exact⟨_,rfl,h⟩
variable {top:Y8}
theorem zer (hs:SmT t) (hl:t.length<=1000000) (ht:top.length<=1000000):F_qj t top=some (leavesU t top):=by
 simp only[F_qj,S_qj,Scr.den]
 rw[z1t t (fun h=>good h.B&&(top==[]||und h.B top)&&t.all fun x=>!(par x.B==h.B)) (·.B) 1000000 hl fun i s hi hsl=>by
  obtain⟨hc,_⟩:=hs _ (z4 hi)
  have hin:rangeM (fun i1 s1=>(S_qj_b1 t i i1 s1).den) t.length 0 true=some (.next (t.all fun x=>!(par x.B==(t.getD i dF).B))):=by
   rw[z2i t (fun s x=>s&&!(par x.B==(t.getD i dF).B)) fun j b hj=>by
    obtain⟨hcj,_⟩:=hs _ (z4 hj)
    simp only[S_qj_b1,Scr.den,z37 hcj,z9]
    cases b <;> simp[oT,oF,oN]]
   rw[zbu,y28]
  simp only[S_qj_b2,Scr.den,z1z (l:=(t.getD i dF).B) om,z59 hc ht,obind,hin,outM,z9,zi]
  by_cases hg:good (t.getD i dF).B=true <;> by_cases h0:top=[] <;> by_cases hu:und (t.getD i dF).B top=true <;> simp[hg,h0,hu,oT,oF,oN] <;> (split <;> first | rfl | (rw[z3 ⟨by first | omega | (simp only[y11,y1c]; omega),trivial⟩]))]
 simp only[outM]
 rfl
def leafs (t:List THe):List Y8:=leavesU t [49]++leavesU t [50]
theorem z2r:∀ c∈leavesU t top,good c=true:=fun c hc=>by
 unfold leavesU at hc
 obtain⟨x,hx,rfl⟩:=yw.1 hc
 have:=(y19.1 hx).2
 simp only[y9] at this
 exact this.1.1
theorem z3j (h:MT t) (hs:TapeOk s):∃ c s',F_q10 t s=some (c,s')/\TapeOk s'/\good c=true/\(leafs t≠[]->c∈leafs t):=by
 have hle:=h.le
 have g1:=z20 t [49]
 have g2:=z20 t [50]
 simp only[F_q10,S_q10,Scr.den,zer h.sm (show t.length<=1000000 from om) (show ([49]:Y8).length<=1000000 from sj),z1u h.sm (show t.length<=1000000 from om) (show ([50]:Y8).length<=1000000 from sj),obind]
 rw[Ga,z3 ⟨by rw[yd]; omega,trivial⟩]
 rw[show leavesU t [49]++leavesU t [50]=leafs t from rfl]
 have gl:(leafs t).length<=22:=by unfold leafs; rw[yd]; omega
 by_cases h0:(leafs t).length=0
 ·rw[y6 (by simp only[yy]; omega)]
  exact⟨_,_,rfl,hs,dk,fun hne=>absurd (y25.1 h0) hne⟩
 ·rw[y5 (by simp only[yy]; omega)]
  obtain⟨v,s',e,o,l,u⟩:=zh (n:=((leafs t).length:Int)) hs om om
  rw[e,obind,z3 ⟨l,om,trivial⟩]
  have hm:=z4 (l:=leafs t) (i:=v.toNat) om
  refine⟨_,_,rfl,o,?_,fun _=>hm⟩
  unfold leafs at hm |-
  rcases yg.1 hm with hm | hm
  ·exact z2r _ hm
  ·exact z2r _ hm
theorem zdx (hs:TapeOk s):∃ c s',F_q3q s=some (c,s')/\TapeOk s'/\c.length<=60:=by
 simp only[F_q3q,S_q3q,Scr.den]
 obtain⟨v,s',h3,h4,h5,h6⟩:=zh (n:=12) hs om om
 have h:∀ c∈([[],[48],[48,49],[49,46],[46,49],[49,46,46,50],[49,48,48],[49,46,50,46,51,46,52,46,53],[120],[49,32],[57,57,46,57,57,46,57,57,46,57,57],[52]]:List Y8),c.length<=60:=dk
 refine⟨_,s',?_,h4,h _ (z4 (show v.toNat<12 from om))⟩
 rw[h3,obind,z3 ⟨by simpa using h5,by simp only; omega,trivial⟩]
theorem zc4 (h:MT t) (hs:TapeOk s):∃ c s',F_q11 t s=some (c,s')/\TapeOk s'/\c.length<=60:=by
 have hge:=h.ge
 have hle:=h.le
 simp only[F_q11,S_q11,Scr.den,zi]
 obtain⟨v,s1,e1,o1,l1,u1⟩:=zh (n:=12) hs om om
 have h0:((t.length:Int)==0)=false:=by simp only[y2c,ne_eq]; omega
 rw[zg (by simp only[AllP,y30]; exact h0),e1,obind,h0,y4t]
 by_cases hv:v=11
 ·rw[y6 (by simpa using hv)]
  obtain⟨c,s',h1,h2,h3⟩:=zdx o1
  exact⟨_,_,by rw[h1,obind],h2,h3⟩
 ·rw[y5 (by simpa using hv)]
  obtain⟨w,s',h1,h2,h3,h4⟩:=zh (n:=(t.length:Int)) o1 om om
  rw[h1,obind,z3 ⟨h3,om,trivial⟩]
  refine⟨_,_,rfl,h2,?_⟩
  have:=z2o (h.good _ (z4 (show w.toNat<t.length from om)))
  show (t.getD w.toNat dF).B.length<=60
  omega
end Go.Proofs.YtgfgnhpecnmlpaaGreatDoor
/- Changes that are made. No condition. -/
namespace Go.Proofs.YtgfgnhpecnmlpaaGreatDoor
open Go Go.TA
open Go.IntKind (i64)
attribute [-simp] List.getD_eq_getElem?_getD
structure ChOk (f y:Int) (t:List THe) (c:TCh):Prop where
 gd:good c.B=true
 k:c.C=1\/c.C=2\/c.C=3
 k1:c.C=1->(leafs t≠[]->c.B∈leafs t)/\(f<=c.H/\c.H<f+y)/\0<=c.D/\c.D<=1000000000000
 k2:c.C≠1->has t c.B=true/\(c.H=-1\/(f<=c.H/\c.H<f+y))/\(0<=c.D/\c.D<=1000000000000\/(c.C=2/\c.D=-1))
structure ChsOk (f y:Int) (t:List THe) (l:List TCh):Prop where
 ok:∀ c∈l,ChOk f y t c
 le:l.length<=3
 ge:1<=l.length
 kd:l.Pairwise fun a b=>a.C<b.C
theorem z7r {f y:Int} (hf:0<=f/\f<=95) (hy:1<=y/\y<=3) {t:List THe} (ht:MT t) (ea:List TEa) (co:List TCo) (ru:List TRu) (ls:List TLi) (ce fl:List TBo) (am:List TAm)
  {s:TTape} (hs:TapeOk s):∃ cs s',F_q12 f y t ea co ru s ls ce fl am=some (cs,s')/\TapeOk s'/\ChsOk f y t cs:=by
 have hge:=ht.ge; have hle:=ht.le
 simp only[F_q12,S_q12,Scr.den]
 obtain⟨st,e,o,h1,h2,h3,h4⟩:=zt (step:=fun s=>(S_q12_b1 f y t ea co ru ls ce fl am s).den) (fun s=>(4-s.2.2).toNat)
  (fun s=>TapeOk s.1/\(∀ c∈s.2.1,ChOk f y t c)/\(s.2.1.length:Int)<=s.2.2-1/\(2<=s.2.2->1<=s.2.1.length)/\(1<=s.2.2/\s.2.2<=4)/\s.2.1.Pairwise (fun a b=>a.C<b.C)/\∀ c∈s.2.1,c.C<s.2.2)
  (fun s=>TapeOk s.1/\(∀ c∈s.2.1,ChOk f y t c)/\s.2.1.length<=3/\1<=s.2.1.length/\s.2.1.Pairwise (fun a b=>a.C<b.C)) (fun s ⟨o,c,l,g,k,p,q⟩=>by
   simp only[S_q12_b1,Scr.den]
   by_cases hk:¬ s.2.2<=3
   ·right
    rw[y5 (by simpa using hk)]
    exact⟨_,rfl,o,c,by simp only; omega,g om,p⟩
   ·left
    have hk:s.2.2<=3:=y3s.1 hk
    have w1:i64.wrap (s.2.2+1)=s.2.2+1:=wrapId om om
    obtain⟨v,s1,e1,o1,l1,u1⟩:=zh (n:=2) o om om
    rw[y6 (by simpa using hk),e1,obind,w1]
    simp only[z9]
    by_cases hv:v=0/\0<s.2.1.length
    ·rw[y6 (by simp only[y9,yy,y7]; omega)]
     exact⟨_,rfl,⟨o1,c,by simp only; omega,fun _=>hv.2,by simp only; omega,p,fun x hx=>by have:=q x hx; simp only; omega⟩,by simp only; omega⟩
    rw[y5 (by simp only[y9,yy,y7]; omega)]
    obtain⟨w,s2,e2,o2,l2,u2⟩:=zh (n:=(t.length:Int)) o1 om om
    obtain⟨r,e3,r1,r2,r3⟩:=zdw hf hy t ls ce fl ea co ru am
    obtain⟨yv,s3,e4,o3,my⟩:=z19 (l:=r) o2 r1 om
    obtain⟨a,s4,e5,o4,a0,a1⟩:=z2j o3
    simp only[e2,e3,e4,e5,obind]
    rw[z3 ⟨l2,om,trivial⟩]
    have hw:w.toNat<t.length:=om
    have hgw:=ht.good _ (z4 hw)
    have hhw:has t (t.getD w.toNat dF).B=true:=y1r.2 ⟨_,z4 hw,sj⟩
    have hyv:=r3 yv my
    have fin:∀ (s5:TTape) (x:TCh),TapeOk s5->ChOk f y t x->x.C=s.2.2 ->
      ∃ s',guardP (AllP [(s.2.1.length+1) * (2 * 40)<=2 ^ 48]) (some (Step.cont (s5,s.2.1++[x],s.2.2+1)):Option (Step (TTape×List TCh×Int) R_q12))=some (.cont s') /\
       (TapeOk s'.1/\(∀ c∈s'.2.1,ChOk f y t c)/\(s'.2.1.length:Int)<=s'.2.2-1/\(2<=s'.2.2->1<=s'.2.1.length)/\(1<=s'.2.2/\s'.2.2<=4)/\s'.2.1.Pairwise (fun a b=>a.C<b.C)/\∀ c∈s'.2.1,c.C<s'.2.2)/\(4-s'.2.2).toNat<(4-s.2.2).toNat:=fun s5 x o5 hx hxk=>by
     rw[Ga]
     refine⟨_,rfl,⟨o5,fun z hz=>?_,by rw[yd,yp]; simp only; omega,fun _=>by rw[yd,yp]; omega,by simp only; omega,?_,fun z hz=>?_⟩,by simp only; omega⟩
     ·rcases yg.1 hz with hz | hz
      ·exact c z hz
      ·have:z=x:=by simpa using hz
       rw[this]; exact hx
     ·refine y29.2 ⟨p,y43 _ _,fun a ha b hb=>?_⟩
      have:b=x:=by simpa using hb
      rw[this,hxk]; exact q a ha
     ·rcases yg.1 hz with hz | hz
      ·have:=q z hz; simp only; omega
      ·have:z=x:=by simpa using hz
       rw[this,hxk]; simp only; omega
    by_cases k1:s.2.2=1
    ·rw[y6 (by simpa using k1)]
     obtain⟨lc,s5,e6,o5,gl,ml⟩:=z3j ht o4
     obtain⟨z,s6,e7,o6,l6,u6⟩:=zh (n:=y) o5 om om
     have w2:i64.wrap (f+z)=f+z:=wrapId om om
     simp only[e6,e7,obind,outM,w2]
     exact fin s6 _ o6 ⟨gl,.inl k1,fun _=>⟨ml,⟨by simp only; omega,by simp only; omega⟩,a0,a1⟩,fun h=>absurd k1 h⟩ rfl
    ·rw[y5 (by simpa using k1)]
     by_cases k2:s.2.2=2
     ·obtain⟨z,s5,e6,o5,l6,u6⟩:=zh (n:=3) o4 om om
      rw[zg (by simp[AllP,k2]),e6,obind]
      by_cases hz:z=0
      ·rw[y6 (by simp[k2,hz])]
       simp only[outM]
       exact fin s5 _ o5 ⟨hgw,.inr (.inl k2),fun h=>absurd h k1,fun _=>⟨hhw,hyv,.inr ⟨k2,rfl⟩⟩⟩ rfl
      ·rw[y5 (by simp[k2,hz]),y5 (by simp[k2])]
       simp only[outM]
       exact fin s5 _ o5 ⟨hgw,.inr (.inl k2),fun h=>absurd h k1,fun _=>⟨hhw,hyv,.inl ⟨a0,a1⟩⟩⟩ rfl
     ·have k3:s.2.2=3:=om
      rw[zo (by simp[AllP,k2]),obind]
      obtain⟨z,s5,e6,o5,l6,u6⟩:=zh (n:=200) o4 om om
      rw[y5 (by simp[k2]),y6 (by simp[k3])]
      simp only[e6,obind,outM]
      exact fin s5 _ o5 ⟨hgw,.inr (.inr k3),fun h=>absurd h k1,fun _=>⟨hhw,hyv,.inl ⟨l6,by simp only; omega⟩⟩⟩ rfl) _ (s,[],1) (y1t _)
  ⟨hs,sj,sj,sj,sj,y3g,sj⟩
 rw[e]
 simp only[outM]
 rw[Ga]
 exact⟨_,_,rfl,o,h1,h2,h3,h4⟩
end Go.Proofs.YtgfgnhpecnmlpaaGreatDoor
/- What else is made: earmarks,conditions,rules. No condition. -/
namespace Go.Proofs.YtgfgnhpecnmlpaaGreatDoor
open Go Go.TA
open Go.IntKind (i64)
attribute [-simp] List.getD_eq_getElem?_getD
def EaS (l:List TEa):Prop:=∀ x∈l,x.Q.length<=60/\x.B.length<=60
def CoS (l:List TCo):Prop:=∀ x∈l,x.Q.length<=60/\x.B.length<=60
def RuS (l:List TRu):Prop:=∀ x∈l,x.T.length<=60/\x.W.length<=60
theorem z67 {c:Y8} (h:good c=true):c.length<=60:=by have:=z2o h; omega
section
variable {f y:Int} (hy:1<=y/\y<=3) {t:List THe} (ht:MT t)
include ht
theorem zmn (rv:R_q3) (hrv:∀ c∈rv,good c=true) (hrl:rv.length<=11) {s:TTape} (hs:TapeOk s) :
  ∃ r,rangeM (fun i s=>(S_q1_b1 rv i s).den) rv.length 0 (s,f,y,t,[])=some (.next r)/\TapeOk r.1/\r.2.1=f/\r.2.2.1=y/\r.2.2.2.1=t/\r.2.2.2.2.length<=11/\EaS r.2.2.2.2:=by
 obtain⟨r,e,h1,h2,h3,h4,h5,h6⟩:=zr (body:=fun i s=>(S_q1_b1 rv i s).den) (n:=rv.length) (fun i r=>TapeOk r.1/\r.2.1=f/\r.2.2.1=y/\r.2.2.2.1=t/\r.2.2.2.2.length<=i/\EaS r.2.2.2.2) (s0:=(s,f,y,t,[])) ⟨hs,rfl,rfl,rfl,sj,fun x hx=>by cases hx⟩
  (fun i s hi ⟨o,q1,q2,q3,q4,q5⟩=>by
   obtain⟨s0,f0,y0,t0,ea⟩:=s
   simp only at o q1 q2 q3 q4 q5
   subst q1; subst q2; subst q3
   obtain⟨v,s1,e1,o1,l1,u1⟩:=zh (n:=2) o om om
   simp only[S_q1_b1,Scr.den,e1,obind]
   by_cases hv:v=0
   ·rw[y6 (by simpa using hv)]
    obtain⟨c,s2,e2,o2,gc,_⟩:=z3j ht o1
    obtain⟨p,s3,e3,o3,_⟩:=z19 (l:=[0,10,33,50]) o2 sj sj
    simp only[e2,e3,obind]
    rw[Ga]
    refine⟨_,rfl,o3,rfl,rfl,rfl,by rw[yd,yp]; omega,fun x hx=>?_⟩
    rcases yg.1 hx with hx | hx
    ·exact q5 x hx
    ·have:x=⟨rv.getD i dF,c,p⟩:=by simpa using hx
     rw[this]
     exact⟨z67 (hrv _ (z4 hi)),z67 gc⟩
   ·rw[y5 (by simpa using hv)]
    exact⟨_,rfl,o1,rfl,rfl,rfl,by simp only; omega,q5⟩)
 exact⟨r,e,h1,h2,h3,h4,om,h6⟩
include hy
theorem zmo (p2:List TLi) (p3 p4:List TBo) (p7:List TRu) (p8:List TAm) (ea:List TEa) {i:Int} (hi:i<=3) {s:TTape} (hs:TapeOk s) :
  ∃ r,iterM (fun s=>(S_q1_b2 p2 p3 p4 p7 p8 s).den) (s,f,y,t,ea,[],i)=some (.next r)/\TapeOk r.1/\r.2.1=f/\r.2.2.1=y/\r.2.2.2.1=t/\r.2.2.2.2.1=ea/\r.2.2.2.2.2.1.length<=3/\CoS r.2.2.2.2.2.1:=by
 refine zt (step:=fun s=>(S_q1_b2 p2 p3 p4 p7 p8 s).den) (fun s=>s.2.2.2.2.2.2.toNat)
  (fun r=>TapeOk r.1/\r.2.1=f/\r.2.2.1=y/\r.2.2.2.1=t/\r.2.2.2.2.1=ea/\(r.2.2.2.2.2.1.length:Int)+max r.2.2.2.2.2.2 0<=3/\r.2.2.2.2.2.2<=3/\CoS r.2.2.2.2.2.1)
  (fun r=>TapeOk r.1/\r.2.1=f/\r.2.2.1=y/\r.2.2.2.1=t/\r.2.2.2.2.1=ea/\r.2.2.2.2.2.1.length<=3/\CoS r.2.2.2.2.2.1) (fun s ⟨o,q1,q2,q3,q4,q5,q6,q7⟩=>?_) _ _ (y1t _) ⟨hs,rfl,rfl,rfl,rfl,by simp only[y1c]; omega,hi,fun x hx=>by cases hx⟩
 obtain⟨s0,f0,y0,t0,e0,co,k⟩:=s
 simp only at o q1 q2 q3 q4 q5 q6 q7
 subst q1; subst q2; subst q3; subst q4
 simp only[S_q1_b2,Scr.den]
 by_cases hk:k>0
 ·left
  rw[y6 (by simpa using hk)]
  have w1:i64.wrap (k-1)=k-1:=wrapId om om
  obtain⟨c,s1,e1,o1,gc,_⟩:=z3j ht o
  obtain⟨v2,s2,e2,o2,l2,u2⟩:=zh (n:=y0) o1 om om
  obtain⟨v3,s3,e3,o3,_,_⟩:=z2j o2
  obtain⟨v4,s4,e4,o4,_⟩:=z19 (l:=[50,200,v3]) o3 sj sj
  obtain⟨v5,s5,e5,o5,_,_⟩:=zh (n:=360) o4 om om
  obtain⟨v6,s6,e6,o6,_,_⟩:=zh (n:=2) o5 om om
  simp only[e1,e2,e3,e4,e5,e6,obind,w1]
  have fin:∀ (s7:TTape) (x:TCo),TapeOk s7->x.Q.length<=60/\x.B.length<=60 ->
    ∃ r,guardP (AllP [(co.length+1) * (2 * 72)<=2 ^ 48]) (some (Step.cont (s7,f0,y0,t0,e0,co++[x],k-1)):Option (Step (TTape×Int×Int×List THe×List TEa×List TCo×Int) R_q1))=some (.cont r) /\
     (TapeOk r.1/\r.2.1=f0/\r.2.2.1=y0/\r.2.2.2.1=t0/\r.2.2.2.2.1=e0/\(r.2.2.2.2.2.1.length:Int)+max r.2.2.2.2.2.2 0<=3/\r.2.2.2.2.2.2<=3/\CoS r.2.2.2.2.2.1)/\r.2.2.2.2.2.2.toNat<k.toNat:=fun s7 x o7 hx=>by
   rw[Ga]
   refine⟨_,rfl,⟨o7,rfl,rfl,rfl,rfl,by rw[yd,yp]; simp only; omega,by simp only; omega,fun z hz=>?_⟩,by simp only; omega⟩
   rcases yg.1 hz with hz | hz
   ·exact q7 z hz
   ·have:z=x:=by simpa using hz
    rw[this]; exact hx
  by_cases hv:v6=0
  ·rw[y6 (by simpa using hv)]
   obtain⟨v7,s7,e7,o7,_,_⟩:=zh (n:=2000) o6 om om
   simp only[e7,obind,outM]
   exact fin s7 _ o7 ⟨sj,z67 gc⟩
  ·rw[y5 (by simpa using hv)]
   simp only[outM]
   exact fin s6 _ o6 ⟨sj,z67 gc⟩
 ·right
  rw[y5 (by simpa using hk)]
  exact⟨_,rfl,o,rfl,rfl,rfl,rfl,by simp only; omega,q7⟩
omit hy in
theorem zmp (p2:List TLi) (p3 p4:List TBo) (p8:List TAm) (h2:p2.length<=1000000) (h3:p3.length<=1000000) (h4:p4.length<=1000000) (h8:p8.length<=1000000) (ea:List TEa) (co:List TCo) {s:TTape} (hs:TapeOk s) :
  ∃ r,iterM (fun s=>(S_q1_b3 p2 p3 p4 p8 s).den) (s,f,y,t,ea,co,0,[],1)=some (.next r)/\TapeOk r.1/\r.2.1=f/\r.2.2.1=y/\r.2.2.2.1=t/\r.2.2.2.2.1=ea/\r.2.2.2.2.2.1=co /\
   r.2.2.2.2.2.2.1<=r.2.2.2.2.2.2.2.1.length/\r.2.2.2.2.2.2.2.1.length<=3/\RuS r.2.2.2.2.2.2.2.1:=by
 refine zt (step:=fun s=>(S_q1_b3 p2 p3 p4 p8 s).den) (fun s=>(4-s.2.2.2.2.2.2.2.2).toNat)
  (fun r=>TapeOk r.1/\r.2.1=f/\r.2.2.1=y/\r.2.2.2.1=t/\r.2.2.2.2.1=ea/\r.2.2.2.2.2.1=co/\r.2.2.2.2.2.2.1<=r.2.2.2.2.2.2.2.1.length/\(r.2.2.2.2.2.2.2.1.length:Int)<=r.2.2.2.2.2.2.2.2-1/\(1<=r.2.2.2.2.2.2.2.2/\r.2.2.2.2.2.2.2.2<=4)/\RuS r.2.2.2.2.2.2.2.1)
  (fun r=>TapeOk r.1/\r.2.1=f/\r.2.2.1=y/\r.2.2.2.1=t/\r.2.2.2.2.1=ea/\r.2.2.2.2.2.1=co/\r.2.2.2.2.2.2.1<=r.2.2.2.2.2.2.2.1.length/\r.2.2.2.2.2.2.2.1.length<=3/\RuS r.2.2.2.2.2.2.2.1) (fun s ⟨o,q1,q2,q3,q4,q5,q6,q7,q8,q9⟩=>?_) _ _ (y1t _)
  ⟨hs,rfl,rfl,rfl,rfl,rfl,ya _,sj,sj,fun x hx=>by cases hx⟩
 obtain⟨s0,f0,y0,t0,e0,co0,n,row,i⟩:=s
 simp only at o q1 q2 q3 q4 q5 q6 q7 q8 q9
 subst q1; subst q2; subst q3; subst q4; subst q5
 obtain⟨v,s1,e1,o1,l1,u1⟩:=zh (n:=4) o om om
 simp only[S_q1_b3,Scr.den,e1,obind]
 by_cases hi:i<=v
 ·left
  rw[y6 (by simpa using hi)]
  have w1:i64.wrap (i+1)=i+1:=wrapId om om
  obtain⟨c1,s2,e2,o2,g2⟩:=zc4 ht o1
  obtain⟨c2,s3,e3,o3,g3⟩:=zc4 ht o2
  obtain⟨pc,s4,e4,o4,_⟩:=z19 (l:=[0,10,50,100]) o3 sj sj
  simp only[e2,e3,e4,obind,w1]
  by_cases hn:n=row.length
  ·rw[y6 (yx hn)]
   have hl:(row++[(⟨i,c1,c2,pc⟩:TRu)]).length=row.length+1:=sj
   have hw:i64.wrap (((row++[(⟨i,c1,c2,pc⟩:TRu)]).length:Int)-1)=((row.length:Nat):Int):=by rw[hl,wrapId om om]; omega
   rw[Ga]
   simp only[F_q2z,S_q2z,Scr.den,z4q,obind,hw,yf,y17]
   have hru:RuS (row++[(⟨i,c1,c2,pc⟩:TRu)]):=fun x hx=>by
    rcases yg.1 hx with hx | hx
    ·exact q9 x hx
    ·have:x=⟨i,c1,c2,pc⟩:=by simpa using hx
     rw[this]; exact⟨g2,g3⟩
   generalize hB:has t0 ((row++[(⟨i,c1,c2,pc⟩:TRu)]).getD row.length dF).T=b1
   generalize hB2:has t0 ((row++[(⟨i,c1,c2,pc⟩:TRu)]).getD row.length dF).W=b2
   have key:∀ b:Bool,∃ r,guardP (AllP [(0:Int)<=(row.length:Int),row.length<(row++[(⟨i,c1,c2,pc⟩:TRu)]).length,row.length<(row++[(⟨i,c1,c2,pc⟩:TRu)]).length]) (some b)=some r:=fun b=>⟨b,by rw[Gc]⟩
   cases b1 <;> cases b2 <;> simp only[y4f,y5g,y3o,zi,oT,oF,oN] <;> rw[obind,z3 (by simp[AllP])] <;>
    (first
     | (rw[y6 dk,z3 (by simp[AllP])]; exact⟨_,rfl,⟨o4,rfl,rfl,rfl,rfl,rfl,by simp only; omega,by simp only; omega,by simp only; omega,hru⟩,by simp only; omega⟩)
     | (rw[y5 dk]; exact⟨_,rfl,⟨o4,rfl,rfl,rfl,rfl,rfl,by simp only; omega,by simp only; omega,by simp only; omega,hru⟩,by simp only; omega⟩))
  ·rw[y5 (by simpa using hn)]
   have hl:(copyL row n 1 (fun i_1=>([(⟨i,c1,c2,pc⟩:TRu)]:List TRu).getD i_1 dF)).length=row.length:=zq
   have hw:i64.wrap (((n:Int)+1)-1)=((n:Nat):Int)/\i64.wrap (((n+1:Nat):Int)-1)=((n:Nat):Int):=⟨by rw[wrapId om om]; omega,by rw[wrapId om om]; omega⟩
   rw[Ga]
   simp only[F_q2v,S_q2v,Scr.den,z4q,obind,hw,yf,y17]
   have hru:RuS (copyL row n 1 (fun i_1=>([(⟨i,c1,c2,pc⟩:TRu)]:List TRu).getD i_1 dF)):=fun x hx=>by
    unfold copyL at hx
    obtain⟨j,hj,rfl⟩:=yw.1 hx
    have hj:=y2a.1 hj
    split
    ·have:j-n=0:=om
     rw[this]
     exact⟨g2,g3⟩
    ·exact q9 _ (z4 hj)
   rw[z3 ⟨om,om,om,⟨om,om⟩,om⟩,obind]
   generalize has t0 ((copyL row n 1 (fun i_1=>([(⟨i,c1,c2,pc⟩:TRu)]:List TRu).getD i_1 dF)).getD n dF).T=b1
   generalize has t0 ((copyL row n 1 (fun i_1=>([(⟨i,c1,c2,pc⟩:TRu)]:List TRu).getD i_1 dF)).getD n dF).W=b2
   rw[z3 ⟨om,om,om,⟨om,om⟩,om⟩]
   have hnn:n+1<=row.length:=om
   cases b1 <;> cases b2 <;> simp only[y4f,y5g,y3o,zi,oT,oF,oN] <;> rw[obind,z3 (by simp[AllP,hl]; try omega)] <;>
    (first
     | (rw[y6 dk,z3 (by simp[AllP,hl]; try omega)]; exact⟨_,rfl,⟨o4,rfl,rfl,rfl,rfl,rfl,by simp only; omega,by simp only; omega,by simp only; omega,hru⟩,by simp only; omega⟩)
     | (rw[y5 dk]; exact⟨_,rfl,⟨o4,rfl,rfl,rfl,rfl,rfl,by simp only; omega,by simp only; omega,by simp only; omega,hru⟩,by simp only; omega⟩))
 ·right
  rw[y5 (by simpa using hi)]
  exact⟨_,rfl,o1,rfl,rfl,rfl,rfl,rfl,q6,by simp only; omega,q9⟩
end
end Go.Proofs.YtgfgnhpecnmlpaaGreatDoor
/- Laws that are made. No condition. -/
namespace Go.Proofs.YtgfgnhpecnmlpaaGreatDoor
open Go Go.TA
open Go.IntKind (i64)
attribute [-simp] List.getD_eq_getElem?_getD
theorem zm5 (p2:List TLi) (p3 p4:List TBo) (p7:List TRu) (p8:List TAm) (s:TTape×Int×Int×List THe×List TEa×List TCo×Int):(S_q1_b4 p2 p3 p4 p7 p8 s).den=(S_q1_b2 p2 p3 p4 p7 p8 s).den:=by
 simp only[S_q1_b4,S_q1_b2,Scr.den]
theorem zm6 (p2:List TLi) (p3 p4:List TBo) (p8:List TAm) (s:TTape×Int×Int×List THe×List TEa×List TCo×Nat×List TRu×Int):(S_q1_b5 p2 p3 p4 p8 s).den=(S_q1_b3 p2 p3 p4 p8 s).den:=by
 simp only[S_q1_b5,S_q1_b3,Scr.den]
theorem zc5 {f y:Int} (hy:1<=y/\y<=3) {t:List THe} (ht:MT t) (p2:List TLi) (p3 p4:List TBo) (h2:p2.length<=1000000) (h3:p3.length<=1000000) (h4:p4.length<=1000000) {s:TTape} (hs:TapeOk s) :
  ∃ s' ea co ru,F_q1 s f y t p2 p3 p4 [] [] [] []=some (s',f,y,t,ea,co,ru)/\TapeOk s'/\ea.length<=12/\EaS ea/\co.length<=3/\CoS co/\ru.length<=3/\RuS ru:=by
 have hge:=ht.ge; have hle:=ht.le
 simp only[F_q1,S_q1,Scr.den,z1u ht.sm (show t.length<=1000000 from om) (show ([57]:Y8).length<=1000000 from sj),obind]
 have hll:=z20 t [57]
 obtain⟨r,e,o,q1,q2,q3,q4,q5⟩:=zmn (f:=f) (y:=y) ht (leavesU t [57]) z2r om hs
 obtain⟨s0,f0,y0,t0,ea⟩:=r
 simp only at o q1 q2 q3 q4 q5
 subst q1; subst q2; subst q3
 rw[e]
 simp only[outM]
 rw[Ga]
 have hrest:∀ (s1:TTape) (ea:List TEa),TapeOk s1->ea.length<=12->EaS ea->∃ s' co ru,
   (F_q0 4 s1).bind (fun r=>outM (iterM (fun s=>(S_q1_b2 p2 p3 p4 [] [] s).den) (r.2,f0,y0,t0,ea,[],r.1)) (fun s=>guardP (AllP [s.2.2.2.2.2.1.length<2 ^ 63])
    (outM (iterM (fun s_1=>(S_q1_b3 p2 p3 p4 [] s_1).den) (s.1,s.2.1,s.2.2.1,s.2.2.2.1,s.2.2.2.2.1,s.2.2.2.2.2.1,0,[],1)) (fun s=>guardP (AllP [s.2.2.2.2.2.2.2.1.length<2 ^ 63/\s.2.2.2.2.2.2.1<=s.2.2.2.2.2.2.2.1.length])
     (some (s.1,s.2.1,s.2.2.1,s.2.2.2.1,s.2.2.2.2.1,s.2.2.2.2.2.1,s.2.2.2.2.2.2.2.1.take s.2.2.2.2.2.2.1))) fun x=>some (id x))) fun x=>some (id x))=some (s',f0,y0,t0,ea,co,ru)/\TapeOk s'/\co.length<=3/\CoS co/\ru.length<=3/\RuS ru:=fun s1 ea o1 h1 h1'=>by
  obtain⟨v,s2,e2,o2,l2,u2⟩:=zh (n:=4) o1 om om
  rw[e2,obind]
  obtain⟨r,e3,k1,k2,k3,k4,k5,k6,k7⟩:=zmo (f:=f0) hy ht p2 p3 p4 [] [] ea (i:=v) om o2
  obtain⟨s3,f3,y3,t3,ea3,co3,i3⟩:=r
  simp only at k1 k2 k3 k4 k5 k6 k7
  subst k2; subst k3; subst k4; subst k5
  simp only[e3,outM]
  rw[Ga]
  obtain⟨r,e4,j1,j2,j3,j4,j5,j6,j7,j8,j9⟩:=zmp (f:=f3) (y:=y3) ht p2 p3 p4 [] h2 h3 h4 sj ea3 co3 k1
  obtain⟨s4,f4,y4,t4,ea4,co4,n4,row,i4⟩:=r
  simp only at j1 j2 j3 j4 j5 j6 j7 j8 j9
  subst j2; subst j3; subst j4; subst j5; subst j6
  simp only[e4]
  rw[z3 ⟨⟨om,j7⟩,trivial⟩]
  exact⟨s4,_,_,rfl,j1,k6,k7,by rw[y15]; omega,fun x hx=>j9 x (y1k hx)⟩
 have hpos:AllP [decide ((ea.length:Int)>0)=true]->0<ea.length:=fun h=>by have h:=h.1; simp only[y7] at h; omega
 have go:∀ (b:Bool) (s1:TTape) (v1:Int),TapeOk s1->b=(decide ((ea.length:Int)>0)&&!((ea.getD 0 dF).Q==[57]))->∃ s' ea' co ru,(guardP (AllP [AllP [decide ((ea.length:Int)>0)=true]->0<ea.length]) (if (b&&v1==0)=true then
   (F_q10 t0 s1).bind fun r=>(F_q0 51 r.2).bind fun r_1=>guardP (AllP [([(⟨[57],r.1,r_1.1⟩:TEa)].length+ea.length) * (2 * 40)<=2 ^ 48]) (guardP (AllP [([(⟨[57],r.1,r_1.1⟩:TEa)]++ea).length<2 ^ 63])
    ((F_q0 4 r_1.2).bind (fun r_2=>outM (iterM (fun s=>(S_q1_b2 p2 p3 p4 [] [] s).den) (r_2.2,f0,y0,t0,[(⟨[57],r.1,r_1.1⟩:TEa)]++ea,[],r_2.1)) (fun s=>guardP (AllP [s.2.2.2.2.2.1.length<2 ^ 63])
    (outM (iterM (fun s_1=>(S_q1_b3 p2 p3 p4 [] s_1).den) (s.1,s.2.1,s.2.2.1,s.2.2.2.1,s.2.2.2.2.1,s.2.2.2.2.2.1,0,[],1)) (fun s=>guardP (AllP [s.2.2.2.2.2.2.2.1.length<2 ^ 63/\s.2.2.2.2.2.2.1<=s.2.2.2.2.2.2.2.1.length])
     (some (s.1,s.2.1,s.2.2.1,s.2.2.2.1,s.2.2.2.2.1,s.2.2.2.2.2.1,s.2.2.2.2.2.2.2.1.take s.2.2.2.2.2.2.1))) fun x=>some (id x))) fun x=>some (id x))))
   else (F_q0 4 s1).bind (fun r=>outM (iterM (fun s=>(S_q1_b2 p2 p3 p4 [] [] s).den) (r.2,f0,y0,t0,ea,[],r.1)) (fun s=>guardP (AllP [s.2.2.2.2.2.1.length<2 ^ 63])
    (outM (iterM (fun s_1=>(S_q1_b3 p2 p3 p4 [] s_1).den) (s.1,s.2.1,s.2.2.1,s.2.2.2.1,s.2.2.2.2.1,s.2.2.2.2.2.1,0,[],1)) (fun s=>guardP (AllP [s.2.2.2.2.2.2.2.1.length<2 ^ 63/\s.2.2.2.2.2.2.1<=s.2.2.2.2.2.2.2.1.length])
     (some (s.1,s.2.1,s.2.2.1,s.2.2.2.1,s.2.2.2.2.1,s.2.2.2.2.2.1,s.2.2.2.2.2.2.2.1.take s.2.2.2.2.2.2.1))) fun x=>some (id x))) fun x=>some (id x))))=some (s',f0,y0,t0,ea',co,ru)/\TapeOk s'/\ea'.length<=12/\EaS ea'/\co.length<=3/\CoS co/\ru.length<=3/\RuS ru:=fun b s1 v1 o1 _=>by
  rw[z3 ⟨hpos,trivial⟩]
  by_cases hb:(b&&v1==0)=true
  ·rw[y6 hb]
   obtain⟨c,s2,e2,o2,gc,_⟩:=z3j ht o1
   obtain⟨v3,s3,e3,o3,_,_⟩:=zh (n:=51) o2 om om
   rw[e2,obind,e3,obind,z3 ⟨by simp only[yp]; omega,trivial⟩,z3 ⟨by simp only[yd,yp]; omega,trivial⟩]
   obtain⟨s',co,ru,k1,k2,k3,k4,k5,k6⟩:=hrest s3 ([⟨[57],c,v3⟩]++ea) o3 (by simp only[yd,yp]; omega) (fun x hx=>by
    rcases yg.1 hx with hx | hx
    ·have:x=⟨[57],c,v3⟩:=by simpa using hx
     rw[this]; exact⟨sj,z67 gc⟩
    ·exact q5 x hx)
   exact⟨s',_,co,ru,k1,k2,by simp only[yd,yp]; omega,fun x hx=>by
    rcases yg.1 hx with hx | hx
    ·have:x=⟨[57],c,v3⟩:=by simpa using hx
     rw[this]; exact⟨sj,z67 gc⟩
    ·exact q5 x hx,k3,k4,k5,k6⟩
  ·rw[y5 hb]
   obtain⟨s',co,ru,k1,k2,k3,k4,k5,k6⟩:=hrest s1 ea o1 om q5
   exact⟨s',ea,co,ru,k1,k2,om,q5,k3,k4,k5,k6⟩
 simp only[z9,zm5,zm6,y1c]
 by_cases hb:(decide ((ea.length:Int)>0)&&!((ea.getD 0 dF).Q==[57]))=true
 ·obtain⟨v1,s1,e1,o1,_,_⟩:=zh (n:=2) o om om
  rw[zg (by simp only[AllP,y30]; exact hb),e1,obind]
  exact go _ s1 v1 o1 rfl
 ·rw[zo (by simp only[AllP,y30]; exact hb),obind]
  exact go _ s0 dF o rfl
end Go.Proofs.YtgfgnhpecnmlpaaGreatDoor
