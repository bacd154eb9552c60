/- A part of the proof: plain laws of what the functions compute. No condition. -/
import Derived.Test.YtgfgnhpecnmlpaaGreatDoorG5
import Derived.Test.YtgfgnhpecnmlpaaGreatDoorT7
import Derived.Test.YtgfgnhpecnmlpaaGreatDoorT4
namespace Go.Proofs.YtgfgnhpecnmlpaaGreatDoor
open Go Go.TA
open Go.IntKind (i64)
def dayP (d:Int):Prop:=0<=d/\d<=35990
def amtP (n:Int):Prop:=1<=n/\n<=1000000000000
instance (d:Int):Decidable (dayP d):=inferInstanceAs (Decidable (_/\_))
instance (d:Int):Decidable (amtP d):=inferInstanceAs (Decidable (_/\_))
def yr (d:Int):Int:=if 0<=d/\d<=36000 then d / 360 else -1
variable {α ρ:Type} {body:Nat->Unit->Option (Step Unit ρ)}
theorem z8t [Inhabited α] (l:List α) (p:α->Bool) (v:α->ρ) (hs:∀ i,i<l.length->body i ()=some (if p (l.getD i dF)=true then .ret (v (l.getD i dF)) else .cont ())) :
  rangeM body l.length 0 ()=some (match l.find? p with | some x=>.ret (v x) | none=>.next ()):=by
 have key:∀ (k i:Nat),i+k=l.length->rangeM body k i ()=some (match (l.drop i).find? p with | some x=>.ret (v x) | none=>.next ()):=by
  intro k
  induction k with
  | zero=>intro i hk; rw[y1d om]; rfl
  | succ k ih =>
   intro i hk
   have hi:i<l.length:=om
   have e:l.getD i dF=l[i]:=by simp[List.getD_eq_getElem?_getD,List.getElem?_eq_getElem hi]
   rw[y18 hi]
   simp only[rangeM,hs i hi,y4u,e]
   cases hp:p l[i] with
   | true=>simp
   | false=>simp only[y1g,y1y]; exact ih (i+1) om
 have:=key l.length 0 om
 simpa using this
def goodR:Y8->Nat->Nat->Bool
 | [],d,p=>decide (0<d)&&decide (p<=4)
 | c :: l,d,p=>if c.toNat=46 then (if d=0 then false else goodR l 0 (p+1)) else
  if c.toNat<48\/57<c.toNat\/(d=0/\c.toNat=48)\/d=2 then false else goodR l (d+1) p
def dig (c:UInt8):Prop:=48<=c.toNat/\c.toNat<=57
def preOk:Y8->Prop
 | []=>True
 | [a]=>dig a/\a.toNat≠48
 | [a,b]=>dig a/\a.toNat≠48/\dig b
 | _=>False
def cntOk (ws:List Y8) (p:Nat):Bool:=match nums ws with
 | none=>false
 | some ns=>decide (ns.length+p<=5)
theorem z4q (w:Y8) (ws:List Y8) (p:Nat):cntOk (w :: ws) p=match pv w with
  | none=>false
  | some _=>cntOk ws (p+1):=by
 unfold cntOk
 simp only[nums]
 cases pv w with
 | none=>rfl
 | some n =>
  cases nums ws with
  | none=>rfl
  | some ns =>
   simp only[y1k,yy]
   congr 1
   rw[eq_iff_iff]; omega
theorem z7r:∀ {w:Y8},preOk w->w≠[]->∃ n,pv w=some n
 | [a],h,_=>⟨_,by simp only[pv]; rw[y6 ⟨by have:=h.1.1; have:=h.2; omega,h.1.2⟩]⟩
 | [a,b],h,_=>⟨_,by simp only[pv]; rw[y6 ⟨⟨by have:=h.1.1; have:=h.2.1; omega,h.1.2⟩,h.2.2⟩]⟩
 | [],_,h=>absurd rfl h
 | _ :: _ :: _ :: _,h,_=>h.elim
variable {w:Y8} {c:UInt8}
theorem ze4 {pre:Y8} (hc:¬ dig c):pv (pre++c :: w)=none:=by
 match pre,w with
 | [],[]=>simp only[y21,pv]; rw[y5]; intro h; exact hc ⟨om,h.2⟩
 | [],[b]=>simp only[y21,pv]; rw[y5]; intro h; exact hc ⟨om,h.1.2⟩
 | [],b :: d :: w=>rfl
 | [a],[]=>simp only[y22,y21,pv]; rw[y5]; intro h; exact hc h.2
 | [a],b :: w=>rfl
 | [a,b],w=>rfl
 | a :: b :: d :: pre,w=>rfl
theorem zbw (hc:c.toNat=48):pv (c :: w)=none:=by
 match w with
 | []=>simp only[pv]; rw[y5]; omega
 | [b]=>simp only[pv]; rw[y5]; omega
 | b :: d :: w=>rfl
theorem z6q:∀ (l pre p0:Y8) (ps:List Y8) (p:Nat),preOk pre->pieces l=p0 :: ps->goodR l pre.length p=cntOk ((pre++p0) :: ps) p
 | [],pre,p0,ps,p,hp,he=>by
  cases he
  rw[y35,z4q]
  simp only[goodR]
  match pre,hp with
  | [],_=>rfl
  | a :: pre,hp =>
   obtain⟨n,hn⟩:=z7r hp sj
   rw[hn]
   simp[cntOk,nums]
 | c :: l,pre,p0,ps,p,hp,he=>by
  rw[zu] at he
  simp only[goodR]
  by_cases hc:c.toNat=46
  ·rw[y6 (by rw[show c=46 from UInt8.toNat_inj.mp hc]; rfl)] at he
   cases he
   rw[y6 hc,y35,z4q]
   match pre,hp with
   | [],_=>rfl
   | a :: pre,hp =>
    obtain⟨n,hn⟩:=z7r hp sj
    rw[hn,y5 sj]
    simp only
    cases hl:pieces l with
    | nil=>exact absurd hl (zp l)
    | cons q qs =>
     have:=z6q l [] q qs (p+1) trivial hl
     simpa using this
  ·rw[y5 (by intro h; rw[eq_of_beq h] at hc; exact hc rfl)] at he
   rw[y5 hc]
   cases hl:pieces l with
   | nil=>exact absurd hl (zp l)
   | cons q qs =>
    rw[hl] at he
    injection he with e1 e2
    subst e1
    subst e2
    have ih:=z6q l (pre++[c]) q qs p
    by_cases hd:dig c
    ·match pre,hp with
     | [],_ =>
      by_cases h0:c.toNat=48
      ·rw[y6 (by right; right; left; exact⟨rfl,h0⟩),z4q,y21,zbw h0]
      ·rw[y5 (by have:=hd.1; have:=hd.2; simp; omega)]
       exact ih ⟨hd,h0⟩ hl
     | [a],hp =>
      rw[y5 (by have:=hd.1; have:=hd.2; simp; omega)]
      have:=ih ⟨hp.1,hp.2,hd⟩ hl
      simpa using this
     | [a,b],hp =>
      rw[y6 (by right; right; right; rfl),z4q]
      rfl
     | _ :: _ :: _ :: _,hp=>exact hp.elim
    ·rw[y6 (by unfold dig at hd; omega),z4q,ze4 hd]
theorem z2a:∀ {ws:List Y8} {ns:List Int},nums ws=some ns->ns.length=ws.length
 | [],ns,h=>by cases h; rfl
 | w :: ws,ns,h=>by
  simp only[nums] at h
  split at h
  ·cases h
  ·cases hn:nums ws with
   | none=>rw[hn] at h; cases h
   | some ms =>
    rw[hn] at h
    cases h
    simp[z2a hn]
def good (l:Y8):Bool:=goodR l 0 1
theorem z3g (l:Y8):decide ((parts l).length>0)=good l:=by
 unfold good
 cases hl:pieces l with
 | nil=>exact absurd hl (zp l)
 | cons q qs =>
  have:=z6q l [] q qs 1 trivial hl
  simp only[y1e,y21] at this
  rw[this]
  unfold parts cntOk
  rw[hl]
  cases hn:nums (q :: qs) with
  | none=>rfl
  | some ns =>
   have h1:=z2a hn
   simp only[yy] at h1
   simp only
   by_cases h4:ns.length>4
   ·simp only[y6 h4]; simp; omega
   ·simp only[y5 h4]; rw[y1f]; simp; omega
variable {l:Y8}
theorem z1r (hl:l.length<4611686018427387904):F_q9 l=some (good l):=by
 simp only[F_q9,S_q9,Scr.den,z8]
 generalize hF:(fun s=>(S_q9_b1 l s).den)=F
 have key:∀ (k i d p:Nat),i+k=l.length->d<=i->p<=i+1->outM (iterM F ((d:Int),(p:Int),(i:Int))) (fun s=>some (decide (s.1>0)&&decide (s.2.1<=4))) (fun x=>some (id x))=some (goodR (l.drop i) d p):=by
  intro k
  induction k with
  | zero =>
   intro i d p hk hd hp
   rw[zq,y1d om,<- hF]
   simp only[S_q9_b1,Scr.den]
   rw[y5 sk]
   simp only[outM,goodR]
   congr 1
   rw[y1f]; simp; omega
  | succ k ih =>
   intro i d p hk hd hp
   have hi:i<l.length:=om
   have ei:l.getD i 0=l[i]:=by simp[List.getD_eq_getElem?_getD,List.getElem?_eq_getElem hi]
   rw[zq,y18 hi,<- y2y hF]
   simp only[S_q9_b1,Scr.den,yd,ei,z8,zd]
   generalize hcc:l[i]=c
   rw[y6 sk,z3 ⟨om,hi,trivial⟩]
   have w1:i64.wrap ((p:Int)+1)=((p+1:Nat):Int):=by rw[wrapId om om]; omega
   have w2:i64.wrap ((i:Int)+1)=((i+1:Nat):Int):=by rw[wrapId om om]; omega
   have w3:i64.wrap ((d:Int)+1)=((d+1:Nat):Int):=by rw[wrapId om om]; omega
   simp only[w1,w2,w3,goodR]
   by_cases hc:c.toNat=46
   ·rw[y6 (by simp[hc]),y6 hc]
    by_cases h0:d=0
    ·rw[y6 (by simp[h0]),y6 h0]; rfl
    ·rw[y5 (by simpa using h0),y5 h0]
     have h:=ih (i+1) 0 (p+1) om om om
     rw[show ((0:Nat):Int)=0 from rfl] at h
     exact h
   ·rw[y5 sk,y5 hc,z3 ⟨fun _=>om,fun _=>hi,fun _=>om,fun _=>hi,trivial⟩]
    by_cases hb:c.toNat<48\/57<c.toNat\/(d=0/\c.toNat=48)\/d=2
    ·rw[y6 sk,y6 hb]; rfl
    ·rw[y5 sk,y5 hb]
     exact ih (i+1) (d+1) p om om om
 exact key l.length 0 0 1 om om om
theorem z4r (hl:l.length<=1099511627776):F_q49 l=some (parts l):=by
 unfold F_q49
 exact za7 hl rfl
def lexC:List Int->List Int->Int
 | [],[]=>0
 | [],_ :: _=>-1
 | _ :: _,[]=>1
 | a :: x,b :: y=>if a<b then -1 else if a>b then 1 else lexC x y
theorem z6r:∀ x,lexC x x=0
 | []=>rfl
 | a :: x=>by simp[lexC,z6r x]
theorem z3r:∀ {x y:List Int},lexC x y=0->x=y
 | [],[],_=>rfl
 | [],_ :: _,h=>by simp[lexC] at h
 | _ :: _,[],h=>by simp[lexC] at h
 | a :: x,b :: y,h=>by
  simp only[lexC] at h
  split at h
  ·omega
  ·split at h
   ·omega
   ·rw[z3r h,show a=b from om]
theorem z6s:∀ x y:List Int,lexC y x=-lexC x y
 | [],[]=>rfl
 | [],_ :: _=>rfl
 | _ :: _,[]=>rfl
 | a :: x,b :: y=>by
  simp only[lexC]
  by_cases h1:a<b
  ·rw[y6 h1,y5 om,y6 om]; rfl
  ·by_cases h2:a>b
   ·rw[y6 om,y5 h1,y6 h2]
   ·rw[y5 h1,y5 h2,y5 om,y5 om,z6s x y]
theorem z5y:∀ {x y z:List Int},lexC x y<0->lexC y z<0->lexC x z<0
 | [],_,[],h,h'=>by
  rename_i y
  cases y with
  | nil=>simp[lexC] at h
  | cons b y=>simp[lexC] at h'
 | [],_,c :: z,_,_=>by simp[lexC]
 | a :: x,[],_,h,_=>by simp[lexC] at h
 | a :: x,b :: y,[],_,h'=>by simp[lexC] at h'
 | a :: x,b :: y,c :: z,h,h'=>by
  simp only[lexC] at h h' |-
  by_cases h1:a<b
  ·by_cases h2:b<c
   ·rw[y6 om]; omega
   ·rw[y5 h2] at h'
    by_cases h3:b>c
    ·rw[y6 h3] at h'; omega
    ·rw[y6 om]; omega
  ·rw[y5 h1] at h
   by_cases h2:a>b
   ·rw[y6 h2] at h; omega
   ·rw[y5 h2] at h
    by_cases h3:b<c
    ·rw[y6 om]; omega
    ·rw[y5 h3] at h'
     by_cases h4:b>c
     ·rw[y6 h4] at h'; omega
     ·rw[y5 h4] at h'
      rw[y5 om,y5 om]
      exact z5y h h'
theorem zj5:∀ {w w':Y8} {n:Int},pv w=some n->pv w'=some n->w=w'
 | [],_,_,h,_=>by simp[pv] at h
 | [a],[],_,_,h=>by simp[pv] at h
 | [a,b],[],_,_,h=>by simp[pv] at h
 | [a],[c],n,h,h'=>by
  simp only[pv] at h h'
  split at h <;> split at h' <;> simp at h h'
  have:a.toNat=c.toNat:=om
  rw[y3q.1 this]
 | [a],[c,d],n,h,h'=>by
  simp only[pv] at h h'
  split at h <;> split at h' <;> simp at h h'
  omega
 | [a,b],[c],n,h,h'=>by
  simp only[pv] at h h'
  split at h <;> split at h' <;> simp at h h'
  omega
 | [a,b],[c,d],n,h,h'=>by
  simp only[pv] at h h'
  split at h <;> split at h' <;> simp at h h'
  have h1:a.toNat=c.toNat:=om
  have h2:b.toNat=d.toNat:=om
  rw[y3q.1 h1,y3q.1 h2]
 | _ :: _ :: _ :: _,_,_,h,_=>by simp[pv] at h
 | _,_ :: _ :: _ :: _,_,_,h=>by simp[pv] at h
theorem z85:∀ {ws ws':List Y8} {ns:List Int},nums ws=some ns->nums ws'=some ns->ws=ws'
 | [],[],_,_,_=>rfl
 | [],w :: ws,ns,h,h'=>by
  have h1:=z2a h; have h2:=z2a h'; simp only[y1e,yy] at h1 h2; omega
 | w :: ws,[],ns,h,h'=>by
  have h1:=z2a h; have h2:=z2a h'; simp only[y1e,yy] at h1 h2; omega
 | w :: ws,w' :: ws',ns,h,h'=>by
  simp only[nums] at h h'
  split at h
  ·cases h
  ·rename_i n hn
   split at h'
   ·cases h'
   ·rename_i n' hn'
    cases hm:nums ws with
    | none=>rw[hm] at h; cases h
    | some ms =>
     cases hm':nums ws' with
     | none=>rw[hm'] at h'; cases h'
     | some ms' =>
      rw[hm] at h; rw[hm'] at h'
      simp only[y1k,yk] at h h'
      rw[<- h] at h'
      simp only[y3c] at h'
      obtain⟨rfl,rfl⟩:=h'
      rw[zj5 hn hn',z85 hm hm']
theorem z2s:∀ {l l':Y8},pieces l=pieces l'->l=l'
 | [],[],_=>rfl
 | [],b :: m,h=>by
  rw[zu] at h
  split at h
  ·simp[pieces] at h; first | exact absurd h (zp m) | exact absurd h.symm (zp m)
  ·split at h <;> simp[pieces] at h
 | b :: m,[],h=>by
  rw[zu] at h
  split at h
  ·simp[pieces] at h; first | exact absurd h (zp m) | exact absurd h.symm (zp m)
  ·split at h <;> simp[pieces] at h
 | b :: l,c :: m,h=>by
  rw[zu,zu] at h
  cases hl:pieces l with
  | nil=>exact absurd hl (zp l)
  | cons p ps =>
   cases hm:pieces m with
   | nil=>exact absurd hm (zp m)
   | cons q qs =>
    rw[hl,hm] at h
    by_cases hb:(b==46)=true
    ·by_cases hc:(c==46)=true
     ·rw[y6 hb,y6 hc] at h
      have e:pieces l=pieces m:=by rw[hl,hm]; simpa using h
      rw[z2s e,show b=c by rw[eq_of_beq hb,eq_of_beq hc]]
     ·rw[y6 hb,y5 hc] at h; simp at h
    ·by_cases hc:(c==46)=true
     ·rw[y5 hb,y6 hc] at h; simp at h
     ·rw[y5 hb,y5 hc] at h
      simp only[y3c] at h
      obtain⟨⟨rfl,rfl⟩,rfl⟩:=h
      rw[z2s (hl.trans hm.symm)]
theorem zy (h:good l=true):nums (pieces l)=some (parts l)/\0<(parts l).length/\(parts l).length<=4:=by
 rw[<- z3g] at h
 have h0:0<(parts l).length:=by simpa using h
 unfold parts at h0 |-
 split at h0
 ·simp at h0
 ·rename_i ns hn
  split at h0
  ·simp at h0
  ·rename_i h4
   rw[hn]
   simp only[y5 h4]
   exact⟨trivial,h0,om⟩
theorem z6t {l':Y8} (h:good l=true) (h':good l'=true) (e:parts l=parts l'):l=l' :=
 z2s (z85 (zy h).1 (e▸(zy h').1))
def valW (w:Y8):Int:=w.foldl (fun n c=>10 * n+((c.toNat:Int)-48)) 0
theorem z8u:∀ {w:Y8} {n:Int},pv w=some n->valW w=n/\1<=w.length/\w.length<=2/\(w.getD 0 0).toNat≠48/\∀ c∈w,48<=c.toNat/\c.toNat<=57
 | [],_,h=>by simp[pv] at h
 | [a],n,h=>by
  simp only[pv] at h
  split at h <;> simp at h
  rename_i h1
  refine⟨by simp[valW]; omega,sj,sj,sk,fun c hc=>by simp at hc; subst hc; omega⟩
 | [a,b],n,h=>by
  simp only[pv] at h
  split at h <;> simp at h
  rename_i h1
  refine⟨by simp[valW]; omega,sj,sj,sk,fun c hc=>?_⟩
  simp at hc
  rcases hc with rfl | rfl <;> omega
 | _ :: _ :: _ :: _,_,h=>by simp[pv] at h
theorem z34 (h:good l=true):l.length<=11:=by
 have key:∀ (l:Y8) (ns:List Int),nums (pieces l)=some ns->l.length+1<=3 * ns.length:=by
  intro l
  suffices H:∀ (l p0:Y8) (ps:List Y8),pieces l=p0 :: ps->l.length=p0.length+(ps.map fun q=>q.length+1).sum by
   intro ns hn
   cases hp:pieces l with
   | nil=>exact absurd hp (zp l)
   | cons p0 ps =>
    rw[hp] at hn
    rw[H l p0 ps hp]
    have hall:∀ (ws:List Y8) (ms:List Int),nums ws=some ms->(ws.map fun q=>q.length+1).sum<=3 * ms.length:=by
     intro ws
     induction ws with
     | nil=>intro ms hm; simp
     | cons w ws ih =>
      intro ms hm
      simp only[nums] at hm
      split at hm
      ·cases hm
      ·rename_i n hpv
       cases hw:nums ws with
       | none=>rw[hw] at hm; cases hm
       | some ks =>
        rw[hw] at hm; cases hm
        have:=ih ks hw
        have:=(z8u hpv).2.2.1
        simp only[y2o,List.sum_cons,yy]
        omega
    have:=hall _ _ hn
    simp only[y2o,List.sum_cons] at this
    omega
  intro l
  induction l with
  | nil=>intro p0 ps hp; simp[pieces] at hp; obtain⟨rfl,rfl⟩:=hp; simp
  | cons b l ih =>
   intro p0 ps hp
   rw[zu] at hp
   cases hl:pieces l with
   | nil=>exact absurd hl (zp l)
   | cons q qs =>
    have:=ih q qs hl
    rw[hl] at hp
    split at hp
    ·simp only[y3c] at hp
     obtain⟨rfl,rfl⟩:=hp
     simp only[yy,y1e,y2o,List.sum_cons]; omega
    ·simp only[y3c] at hp
     obtain⟨rfl,rfl⟩:=hp
     simp only[yy]; omega
 obtain⟨h1,h2,h3⟩:=zy h
 have:=key l _ h1
 omega
def cmpI (a b:Int):Int:=if a<b then -1 else if a>b then 1 else 0
theorem z3s (a b:Int):F_qr a b=some (cmpI a b):=by
 simp only[F_qr,S_qr,F_q34,S_q34,Scr.den,obind,cmpI,bne_self_eq_false,y1g,y1y,y7]
 by_cases h1:a<b
 ·rw[y6 h1,y6 h1]
 ·rw[y5 h1,y5 h1]
  by_cases h2:a>b
  ·rw[y6 h2,y6 h2]
  ·rw[y5 h2,y5 h2]
theorem z4h {l:List Int} {i:Nat} (hi:i<l.length):l.getD i dF=l[i]:=by simp[List.getD_eq_getElem?_getD,List.getElem?_eq_getElem hi]
theorem z86 (x y:List Int):F_q1h x y=some (lexC x y):=by
 simp only[F_q1h,S_q1h,Scr.den]
 generalize hB:(fun i s=>(S_q1h_b1 x y i s).den)=B
 have key:∀ (k i:Nat),i+k=x.length->i<=y.length->outM (rangeM B k i ()) (fun _=>if decide ((x.length:Int)<(y.length:Int))=true then some (-1) else some 0) (fun r=>some (id r))=some (lexC (x.drop i) (y.drop i)):=by
  intro k
  induction k with
  | zero =>
   intro i hk hy
   rw[y1d om]
   by_cases h:y.length<=i
   ·rw[y1d h]
    simp only[rangeM,outM]
    rw[y5 sk]
    rfl
   ·rw[y18 (by omega:i<y.length)]
    simp only[rangeM,outM]
    rw[y6 sk]
    rfl
  | succ k ih =>
   intro i hk hy
   have hi:i<x.length:=om
   rw[y18 hi]
   simp only[rangeM]
   rw[<- y2y (y2y hB i) ()]
   simp only[S_q1h_b1,Scr.den]
   by_cases h:y.length<=i
   ·rw[y6 sk,y1d h]
    rfl
   ·have hj:i<y.length:=om
    rw[y5 sk,z3 ⟨hj,trivial⟩,y18 hj]
    simp only[z3s,obind,z4h hi,z4h hj,lexC,cmpI]
    by_cases h1:x[i]<y[i]
    ·simp only[y6 h1]; rfl
    ·simp only[y5 h1]
     by_cases h2:x[i]>y[i]
     ·simp only[y6 h2]; rfl
     ·simp only[y5 h2]
      exact ih (i+1) om om
 have:=key x.length 0 om om
 simpa using this
def strC (a b:Y8):Int:=if Op.bytesLess a b=true then -1 else if (!(Op.bytesLess a b||a==b))=true then 1 else 0
def cmpC (a b:Y8):Int:=if (parts a).length=0/\(parts b).length=0 then strC a b else lexC (parts a) (parts b)
variable {a b:Y8}
theorem z5z (ha:a.length<=1000000) (hb:b.length<=1000000):F_q10 a b=some (cmpC a b):=by
 simp only[F_q10,S_q10,Scr.den,z4r (show a.length<=1099511627776 from om),z4r (show b.length<=1099511627776 from om),obind,z8,cmpC,z86]
 by_cases h:(parts a).length=0/\(parts b).length=0
 ·rw[y6 (by simp[h]),y6 h]
  simp only[F_q3t,S_q3t,F_q33,S_q33,Scr.den,obind,y3j,y3x,y1g,y1y,strC]
  by_cases h1:Op.bytesLess a b=true
  ·rw[y6 h1,y6 h1]; rfl
  ·rw[y5 h1,y5 h1]
   by_cases h2:(!(Op.bytesLess a b||a==b))=true
   ·rw[y6 h2,y6 h2]; rfl
   ·rw[y5 h2,y5 h2]; rfl
 ·rw[y5 (by simpa using h),y5 h]
theorem z3a (h:good a=true\/good b=true):cmpC a b=lexC (parts a) (parts b):=by
 unfold cmpC
 rw[y5]
 rintro⟨h1,h2⟩
 rcases h with h | h
 ·have:=(zy h).2.1; omega
 ·have:=(zy h).2.1; omega
theorem z4s (hg:good l=true):F_qc l=some (parts l):=by
 obtain⟨hn,h0,h4⟩:=zy hg
 have hlen:=z34 hg
 simp only[F_qc,S_qc,Scr.den]
 rw[y5 sk]
 generalize hF:(fun s=>(S_qc_b1 l s).den)=F
 have w1:∀ i:Nat,i<=11->i64.wrap ((i:Int)+1)=((i+1:Nat):Int):=fun i hi=>by rw[wrapId om om]; omega
 have flush:∀ (i:Nat) (w:Y8) (out:List Int) (n:Int),i<=l.length->w.length<=i->(∀ j,j<w.length->l.getD (i-w.length+j) 0=w.getD j 0)->pv w=some n->(i=l.length\/(l.getD i 0).toNat=46)->out.length<=4 ->
   F (out,valW w,(w.length:Int),(i:Int))=some (.cont (out++[n],0,0,((i+1:Nat):Int))):=by
  intro i w out n hi hw hg hpv hor ho
  obtain⟨e1,e2,e3,e4,e5⟩:=z8u hpv
  have hk:i64.wrap ((i:Int)-(w.length:Int))=((i-w.length:Nat):Int):=by rw[wrapId om om]; omega
  have h0:=hg 0 om
  rw[y3i] at h0
  rw[<- y2y hF]
  simp only[S_qc_b1,Scr.den,yd,zd,hk,h0]
  rw[y6 sk,z3 ⟨fun _=>om,fun h=>by have h:=h.1; simp at h; omega,trivial⟩,y6 (by
   rcases hor with rfl | h
   ·simp
   ·simp only[yg,yx]; right; omega),z3 ⟨fun _=>om,fun _=>om,trivial⟩,y5 (by
    simp only[yg,yx,y7]; omega),Ga,w1 i om,e1]
 have digit:∀ (i:Nat) (w:Y8) (out:List Int),i<l.length->(l.getD i 0).toNat≠46->48<=(l.getD i 0).toNat/\(l.getD i 0).toNat<=57->w.length<=1->(∀ c∈w,48<=c.toNat/\c.toNat<=57) ->
   F (out,valW w,(w.length:Int),(i:Int))=some (.cont (out,valW (w++[l.getD i 0]),((w++[l.getD i 0]).length:Int),((i+1:Nat):Int))):=by
  intro i w out hi h46 hd hw hall
  have hv:0<=valW w/\valW w<=9:=by
   match w,hw with
   | [],_=>simp[valW]
   | [a],_=>have:=hall a sj; simp[valW]; omega
  have e1:valW (w++[l.getD i 0])=10 * valW w+(((l.getD i 0).toNat:Int)-48):=by simp[valW]
  have e2:IntKind.u8.wrap (((l.getD i 0).toNat:Int)-48)=((l.getD i 0).toNat:Int)-48:=by
   generalize (l.getD i 0).toNat=m at hd
   simp only[IntKind.wrap,IntKind.bits,IntKind.signed]
   simp
   omega
  rw[<- y2y hF]
  simp only[S_qc_b1,Scr.den,yd,zd,e1,e2]
  rw[y6 sk,z3 ⟨fun _=>om,fun _=>om,trivial⟩,y5 (by simp only[yg,yx]; omega),z3 ⟨om,hi,fun _=>om,fun _=>hi,trivial⟩,y5 (by simp only[yg,y7]; omega),w1 i om,w1 w.length om,
   wrapId (n:=10 * valW w) om om,wrapId (n:=((l.getD i 0).toNat:Int)-48) om om,wrapId om om]
  simp
 have key:∀ (k i:Nat) (w p0:Y8) (ps:List Y8) (out ns:List Int),i+k=l.length->w.length<=i->(∀ j,j<w.length->l.getD (i-w.length+j) 0=w.getD j 0)->pieces (l.drop i)=p0 :: ps->nums ((w++p0) :: ps)=some ns->out.length+ns.length<=4 ->
   iterM F (out,valW w,(w.length:Int),(i:Int))=some (.next (out++ns,0,0,((l.length+1:Nat):Int))):=by
  intro k
  induction k with
  | zero =>
   intro i w p0 ps out ns hk hw hgd hpc hnm ho
   obtain rfl:i=l.length:=om
   rw[y1d (ya _)] at hpc
   simp only[pieces,y3c] at hpc
   obtain⟨rfl,rfl⟩:=hpc
   simp only[y35,nums] at hnm
   split at hnm
   ·cases hnm
   ·rename_i n hpv
    simp only[y1k,yk] at hnm
    subst hnm
    rw[zq,flush l.length w out n (ya _) hw hgd hpv (.inl rfl) (by simp at ho; omega)]
    simp only
    rw[zq,<- y2y hF]
    simp only[S_qc_b1,Scr.den]
    rw[y5 sk]
  | succ k ih =>
   intro i w p0 ps out ns hk hw hgd hpc hnm ho
   have hi:i<l.length:=om
   have ei:l.getD i 0=l[i]:=by simp[List.getD_eq_getElem?_getD,List.getElem?_eq_getElem hi]
   rw[y18 hi,zu] at hpc
   cases hq:pieces (l.drop (i+1)) with
   | nil=>exact absurd hq (zp _)
   | cons q qs =>
    rw[hq] at hpc
    by_cases hc:(l[i]==46)=true
    ·rw[y6 hc] at hpc
     simp only[y3c] at hpc
     obtain⟨rfl,rfl⟩:=hpc
     simp only[y35,nums] at hnm
     split at hnm
     ·cases hnm
     ·rename_i n hpv
      cases hm:nums (q :: qs) with
      | none=>simp only[nums] at hm; rw[hm] at hnm; cases hnm
      | some ms =>
       have hm':=hm
       simp only[nums] at hm'
       rw[hm'] at hnm
       simp only[y1k,yk] at hnm
       subst hnm
       simp only[yy] at ho
       have h46:(l.getD i 0).toNat=46:=by rw[ei,eq_of_beq hc]; rfl
       rw[zq,flush i w out n om hw hgd hpv (.inr h46) om]
       simp only
       have:=ih (i+1) [] q qs (out++[n]) ms om sj sj hq (by simpa using hm) sk
       simpa [valW] using this
    ·rw[y5 hc] at hpc
     simp only[y3c] at hpc
     obtain⟨rfl,rfl⟩:=hpc
     have hpv:∃ n,pv (w++l[i] :: q)=some n:=by
      simp only[nums] at hnm
      split at hnm
      ·cases hnm
      ·rename_i n h; exact⟨n,h⟩
     obtain⟨n,hpv⟩:=hpv
     obtain⟨_,_,g3,_,g5⟩:=z8u hpv
     simp only[ym,yy] at g3
     have hne:(l.getD i 0).toNat≠46:=by
      rw[ei]; intro h; exact hc (by rw[y3q.1 (show l[i].toNat=(46:UInt8).toNat from h)]; rfl)
     rw[zq,digit i w out hi hne (by rw[ei]; exact g5 l[i] sj) om (fun c hc=>g5 c (by simp[hc]))]
     simp only
     refine ih (i+1) (w++[l.getD i 0]) q qs out ns om sk (fun j hj=>?_) hq (by rw[ei]; simpa using hnm) ho
     simp only[ym,yy,y1e] at hj |-
     by_cases hjw:j<w.length
     ·have:=hgd j hjw
      rw[show i+1-(w.length+(0+1))+j=i-w.length+j from om,this]
      simp[List.getD_eq_getElem?_getD,List.getElem?_append_left hjw]
     ·obtain rfl:j=w.length:=om
      rw[show i+1-(w.length+(0+1))+w.length=i from om]
      simp[List.getD_eq_getElem?_getD]
 cases hp:pieces l with
 | nil=>exact absurd hp (zp l)
 | cons p0 ps =>
  rw[hp] at hn
  have h:=key l.length 0 [] p0 ps [] (parts l) om sj sj (by simpa using hp) (by simpa using hn) sk
  have h':iterM F (([]:List Int),(0:Int),(0:Int),(0:Int))=some (.next (parts l,0,0,((l.length+1:Nat):Int))):=by simpa [valW] using h
  rw[h']
  simp only[outM]
  rw[y5 sk,Ga]
def TapeOk (s:TTape):Prop:=0<=s.at_/\s.l.length<=500/\s.at_<=s.l.length
theorem zgx (t:List Int):∃ s,F_q2y t=some s/\TapeOk s:=by
 simp only[F_q2y,S_q2y,Scr.den]
 refine⟨_,za7 ⟨?_,?_,trivial⟩ rfl,sj,?_,sj⟩
 ·split <;> omega
 ·split <;> omega
 ·simp only[y1l]
  split <;> omega
variable {s:TTape}
theorem zg {n:Int} (hs:TapeOk s) (h1:1<=n) (hn:n<=4611686018427387904):∃ v s',F_q0 n s=some (v,s')/\TapeOk s'/\0<=v/\v<n:=by
 obtain⟨a1,a2,a3⟩:=hs
 simp only[F_q0,S_q0,Scr.den]
 by_cases hc:s.at_>=(s.l.length:Int)
 ·rw[y6 (by simp[hc])]
  exact⟨0,s,rfl,⟨a1,a2,a3⟩,om,om⟩
 ·rw[y5 sk]
  have e1:i64.wrap (s.at_+1)=s.at_+1:=wrapId om om
  rw[e1,Gc]
  generalize s.l.getD s.at_.toNat dF=x
  have t1:x.tmod n<n:=Int.tmod_lt_of_pos x om
  have t2:-n<x.tmod n:=Int.lt_tmod_of_pos x om
  have e3:i64.wrap (x.tmod n+n)=x.tmod n+n:=wrapId om om
  rw[e3]
  have ht:TapeOk ⟨s.l,s.at_+1⟩:=⟨by simp only; omega,a2,by simp only; omega⟩
  split
  ·rename_i h
   simp only[y7] at h
   exact⟨_,_,rfl,ht,om,om⟩
  ·rename_i h
   simp only[y7] at h
   exact⟨_,_,rfl,ht,om,om⟩
theorem ze5 {lo hi:Int} (hs:TapeOk s) (h0:-1000000000000000<=lo) (h1:lo<=hi) (h2:hi<=1000000000000000):∃ v s',F_q2z lo hi s=some (v,s')/\TapeOk s'/\lo<=v/\v<=hi:=by
 simp only[F_q2z,S_q2z,Scr.den]
 rw[wrapId (n:=hi-lo) om om,wrapId (n:=hi-lo+1) om om]
 obtain⟨v,s',h3,h4,h5,h6⟩:=zg (n:=hi-lo+1) hs om om
 refine⟨lo+v,s',?_,h4,om,om⟩
 rw[h3,obind]
 simp only
 rw[wrapId (n:=lo+v) om om]
theorem z22 {l:List Int} (hs:TapeOk s) (h0:1<=l.length) (h1:l.length<=100):∃ v s',F_qb l s=some (v,s')/\TapeOk s'/\v∈l:=by
 simp only[F_qb,S_qb,Scr.den]
 obtain⟨v,s',h3,h4,h5,h6⟩:=zg (n:=(l.length:Int)) hs om om
 refine⟨_,s',?_,h4,z4 (show v.toNat<l.length from om)⟩
 rw[h3,obind,z3 ⟨by simpa using h5,by simp only; omega,trivial⟩]
theorem z1e (ha:good a=true) (hb:good b=true):F_qa a b=some (lexC (parts a) (parts b)):=by
 have h1:=(zy ha).2
 have h2:=(zy hb).2
 simp only[F_qa,S_qa,Scr.den,z4s ha,z4s hb,obind,zd]
 rw[y5 (by simp only[yg,yx]; omega)]
 generalize parts a=x at h1
 generalize parts b=y at h2
 generalize hF:(fun s=>(S_qa_b1 x y s).den)=F
 have key:∀ (k i:Nat),i+k=x.length->i<=y.length->outM (iterM F (i:Int)) (fun _=>if decide ((x.length:Int)<(y.length:Int))=true then some (-1) else if decide ((x.length:Int)>(y.length:Int))=true then some 1 else some 0) (fun r=>some (id r))=some (lexC (x.drop i) (y.drop i)):=by
  intro k
  induction k with
  | zero =>
   intro i hk hy
   rw[zq,<- y2y hF]
   simp only[S_qa_b1,Scr.den,z8]
   rw[y5 (by simp only[y9,y7]; omega),y1d om]
   simp only[outM]
   by_cases h:y.length<=i
   ·rw[y1d h,y5 sk,y5 sk]; rfl
   ·rw[y18 (by omega:i<y.length),y6 sk]; rfl
  | succ k ih =>
   intro i hk hy
   have hi:i<x.length:=om
   rw[zq,<- y2y hF,y18 hi]
   simp only[S_qa_b1,Scr.den,z8]
   by_cases h:y.length<=i
   ·rw[y5 (by simp only[y9,y7]; omega),y1d h]
    simp only[outM]
    rw[y5 sk,y6 sk]; rfl
   ·have hj:i<y.length:=om
    have w1:i64.wrap ((i:Int)+1)=((i+1:Nat):Int):=by rw[wrapId om om]; omega
    rw[y6 (by simp only[y9,y7]; omega),Gc,y18 hj]
    simp only[yd,z4h hi,z4h hj,lexC]
    by_cases h1:x[i]<y[i]
    ·rw[y6 (y17 h1),y6 h1]; rfl
    ·rw[y5 (by simpa using h1),y5 h1]
     by_cases h2:x[i]>y[i]
     ·rw[y6 (y17 h2),y6 h2]; rfl
     ·rw[y5 (by simpa using h2),y5 h2,w1]
      exact ih (i+1) om om
 have:=key x.length 0 om om
 simpa using this
theorem z1m [Inhabited α] (l:List α) (p:α->Bool) (v:Nat->ρ) (hs:∀ i,i<l.length->body i ()=some (if p (l.getD i dF)=true then .ret (v i) else .cont ())) :
  rangeM body l.length 0 ()=some (if l.any p=true then .ret (v (l.findIdx p)) else .next ()):=by
 have key:∀ (k i:Nat),i+k=l.length->rangeM body k i ()=some (if (l.drop i).any p=true then .ret (v (i+(l.drop i).findIdx p)) else .next ()):=by
  intro k
  induction k with
  | zero=>intro i hk; rw[y1d om]; rfl
  | succ k ih =>
   intro i hk
   have hi:i<l.length:=om
   have e:l.getD i dF=l[i]:=by simp[List.getD_eq_getElem?_getD,List.getElem?_eq_getElem hi]
   rw[y18 hi]
   simp only[rangeM,hs i hi,e,y3d,y1q]
   cases hp:p l[i] with
   | true=>simp
   | false =>
    simp only[y1g,y1y,y4e,y5b]
    rw[ih (i+1) om,show i+1+(l.drop (i+1)).findIdx p=i+((l.drop (i+1)).findIdx p+1) from om]
 have:=key l.length 0 om
 simpa using this
end Go.Proofs.YtgfgnhpecnmlpaaGreatDoor
/- Codes,names,trees: what both programs say of them. No condition. -/
namespace Go.Proofs.YtgfgnhpecnmlpaaGreatDoor
open Go Go.TA
open Go.IntKind (i64)
def fstE (n:Nat) (e:Nat->Int):Int:=match (List.range n).find? (fun i=>e i != 0) with
 | some i=>e i
 | none=>0
variable {n:Nat}
theorem z3h {ρ:Type} {body:Nat->Unit->Option (Step Unit ρ)} (e:Nat->Int) (g:Nat->ρ) (hs:∀ i,i<n->(∀ j,j<i->e j=0)->body i ()=some (if e i=0 then .cont () else .ret (g i))) :
  rangeM body n 0 ()=some (match (List.range n).find? (fun i=>e i != 0) with | some j=>.ret (g j) | none=>.next ()):=by
 have key:∀ (k i:Nat),i+k=n->(∀ j,j<i->e j=0)->rangeM body k i ()=some (match (List.range' i k).find? (fun i=>e i != 0) with | some j=>.ret (g j) | none=>.next ()):=by
  intro k
  induction k with
  | zero=>intro i hk hz; rfl
  | succ k ih =>
   intro i hk hz
   simp only[rangeM,hs i om hz,List.range'_succ,y4u]
   by_cases h:e i=0
   ·rw[y6 h]
    simp only[h,bne_self_eq_false]
    exact ih (i+1) om (fun j hj=>by
     by_cases e':j=i
     ·rw[e']; exact h
     ·exact hz j om)
   ·rw[y5 h]
    have:(e i != 0)=true:=by simpa using h
    simp only[this]
 have:=key n 0 om (fun j hj=>om)
 rwa [<- List.range_eq_range'] at this
theorem zm {body:Nat->Unit->Option (Step Unit Int)} (e:Nat->Int) (hs:∀ i,i<n->(∀ j,j<i->e j=0)->body i ()=some (if e i=0 then .cont () else .ret (e i))) :
  outM (rangeM body n 0 ()) (fun _=>some 0) (fun x=>some (id x))=some (fstE n e):=by
 rw[z3h e e hs]
 unfold fstE
 split <;> rfl
theorem z23 {e:Nat->Int}:fstE n e=0↔∀ i,i<n->e i=0:=by
 unfold fstE
 split
 ·rename_i i h
  have h1:=List.find?_some h
  have h2:=List.mem_of_find?_eq_some h
  exact⟨fun h0=>by simp[h0] at h1,fun h0=>h0 i (y1z.1 h2)⟩
 ·rename_i h
  rw[List.find?_eq_none] at h
  exact⟨fun _ i hi=>by simpa using h i (y1z.2 hi),fun _=>rfl⟩
def ldot (c:Y8):Nat->Nat
 | 0=>0
 | k+1=>if (c.getD k 0).toNat=46 then k else ldot c k
def par (c:Y8):Y8:=if good c=true then c.take (ldot c c.length) else []
theorem zda (c:Y8):∀ k,ldot c k<=k
 | 0=>ya _
 | k+1=>by unfold ldot; split; omega; exact y2c (zda c k)
variable {c:Y8}
theorem ze6 (hl:c.length<=1000000):F_q2n c=some (good c):=by
 simp only[F_q2n,S_q2n,Scr.den,z4r (l:=c) om,obind]
 rw[show (decide (((parts c).length:Int)>0))=decide ((parts c).length>0) from sj,z3g]
theorem z2c (hl:c.length<=1000000):F_qd c=some (par c):=by
 simp only[F_qd,S_qd,Scr.den,z1r (l:=c) om,obind]
 unfold par
 by_cases hg:good c=true
 ·rw[y5 (by simp[hg]),y6 hg]
  generalize hF:(fun s=>(S_qd_b1 c s).den)=F
  have key:∀ k:Nat,k<=c.length->outM (iterM F ((k:Int)-1)) (fun _=>some []) (fun x=>some (id x))=some (c.take (ldot c k)):=by
   intro k
   induction k with
   | zero =>
    intro _
    rw[zq,<- y2y hF]
    simp only[S_qd_b1,Scr.den]
    rw[y5 sj]
    rfl
   | succ k ih =>
    intro hk
    have ek:(((k+1:Nat):Int)-1)=(k:Int):=om
    rw[ek,zq,<- y2y hF]
    simp only[S_qd_b1,Scr.den,yd,ldot]
    rw[y6 sj,Gb]
    by_cases h:(c.getD k 0).toNat=46
    ·rw[y6 (by simp only[yx]; omega),y6 h,Ga]
     rfl
    ·rw[y5 (by simp only[yx]; omega),y5 h]
     have w1:i64.wrap ((k:Int)-1)=(k:Int)-1:=wrapId om om
     simp only[w1]
     exact ih om
  have w1:i64.wrap ((c.length:Int)-1)=(c.length:Int)-1:=wrapId om om
  rw[w1]
  exact key c.length (ya _)
 ·rw[y6 (by simp[hg]),y5 hg]
theorem zj6 (hl:c.length<=1000000):∃ v,F_q31 c 46=some v/\(if 0>v then 0 else v)=(ldot c c.length:Int):=by
 simp only[F_q31,S_q31,F_q1e,S_q1e,Scr.den]
 generalize hF:(fun s=>(S_q1e_b1 c 46 s).den)=F
 have key:∀ k:Nat,k<=c.length->∃ v,outM (iterM F ((k:Int)-1)) (fun _=>some (-1)) (fun x=>some (id x))=some v/\(if 0>v then 0 else v)=(ldot c k:Int):=by
  intro k
  induction k with
  | zero =>
   intro _
   rw[zq,<- y2y hF]
   simp only[S_q1e_b1,Scr.den]
   rw[y5 sj]
   exact⟨-1,rfl,rfl⟩
  | succ k ih =>
   intro hk
   have ek:(((k+1:Nat):Int)-1)=(k:Int):=om
   rw[ek,zq,<- y2y hF]
   simp only[S_q1e_b1,Scr.den,yd,ldot]
   rw[y6 sj,Gb]
   by_cases h:(c.getD k 0).toNat=46
   ·rw[y6 (by simp only[yx]; omega),y6 h]
    have hk0:¬ (0:Int)>(k:Int):=om
    exact⟨k,rfl,y5 hk0⟩
   ·rw[y5 (by simp only[yx]; omega),y5 h]
    have w1:i64.wrap ((k:Int)-1)=(k:Int)-1:=wrapId om om
    simp only[w1]
    exact ih om
 have w1:i64.wrap ((c.length:Int)-1)=(c.length:Int)-1:=wrapId om om
 rw[w1]
 obtain⟨v,h1,h2⟩:=key c.length (ya _)
 exact⟨v,by rw[h1]; rfl,h2⟩
theorem za8 (hl:c.length<=1000000):F_q2s c=some (par c):=by
 obtain⟨v,h1,h2⟩:=zj6 hl
 simp only[F_q2s,S_q2s,Scr.den,ze6 hl,h1,obind]
 unfold par
 by_cases hg:good c=true
 ·have:=zda c c.length
  rw[y5 (by simp[hg]),y6 hg]
  simp only[h2,yd]
  rw[Gb]
 ·rw[y6 (by simp[hg]),y5 hg]
def und (a b:Y8):Bool:=good a&&good b&&decide (b.length<=a.length)&&(a.take b.length==b)&&(a.length==b.length||(a.getD b.length 0).toNat==46)
theorem z3i {a b:Y8} (ha:a.length<=1000000) (hb:b.length<=1000000):F_q2i a b=some (und a b):=by
 simp only[F_q2i,S_q2i,Scr.den,z1r (l:=a) om,obind]
 unfold und
 by_cases h1:good a=true
 ·rw[ze (by simp[AllP,h1])]
  simp only[z1r (l:=b) om,obind]
  by_cases h2:good b=true
  ·by_cases h3:b.length<=a.length
   ·rw[z3 ⟨fun _=>om,trivial⟩]
    by_cases h4:a.take b.length=b
    ·rw[y5 (by simp[h1,h2,h4]; omega),z3 ⟨fun h=>by
      have:¬ a.length=b.length:=by have h:=h.1; simp only[y29,ne_eq] at h; omega
      omega,trivial⟩]
     simp only[h1,h2,h3,h4,zd]
     congr 1
     rw[y1f]; simp; omega
    ·rw[y6 (by simp[h1,h2,h4])]
     simp[h4]
   ·rw[z3 ⟨fun h=>by have h:=h.1; simp[h1,h2] at h; omega,trivial⟩,y6 (by simp[h1,h2]; exact .inl om)]
    simp[h3]
  ·rw[z3 ⟨fun h=>by have h:=h.1; simp[h2] at h,trivial⟩,y6 (by simp[h2])]
   simp[h2]
 ·rw[zr (by simp[AllP,h1]),obind,z3 ⟨fun h=>by have h:=h.1; simp[h1] at h,trivial⟩,y6 (by simp[h1])]
  simp[h1]
def joinD:List Y8->Y8
 | []=>[]
 | [w]=>w
 | w :: ws=>w++46 :: joinD ws
theorem z2t {w:Y8} {ws:List Y8} (h:ws≠[]):joinD (w :: ws)=w++46 :: joinD ws:=by
 cases ws with
 | nil=>exact absurd rfl h
 | cons x xs=>rfl
theorem z3w:∀ l:Y8,joinD (pieces l)=l
 | []=>rfl
 | b :: l=>by
  have ih:=z3w l
  have hne:=zp l
  rw[zu]
  split
  ·rename_i h
   rw[z2t hne,ih]
   have:b=46:=by simpa using h
   rw[this]; rfl
  ·cases hp:pieces l with
   | nil=>exact absurd hp hne
   | cons w ws =>
    rw[hp] at ih
    cases ws with
    | nil=>simp only[joinD] at ih |-; rw[ih]
    | cons x xs =>
     rw[z2t sj] at ih
     show joinD ((b :: w) :: x :: xs)=_
     rw[z2t sj,y22,ih]
theorem z4c:∀ a b:Y8,pieces (a++46 :: b)=pieces a++pieces b
 | [],b=>by rw[y21,zu]; rfl
 | x :: a,b=>by
  have ih:=z4c a b
  have hne:=zp a
  rw[y22,zu,zu,ih]
  split
  ·rfl
  ·cases hp:pieces a with
   | nil=>exact absurd hp hne
   | cons w ws=>rfl
theorem z43 {xs ys:List Y8} (hx:xs≠[]) (hy:ys≠[]):joinD (xs++ys)=joinD xs++46 :: joinD ys:=by
 induction xs with
 | nil=>exact absurd rfl hx
 | cons x xs ih =>
  cases xs with
  | nil=>rw[List.singleton_append,z2t hy]; rfl
  | cons x' xs' =>
   have h1:=ih sj
   rw[y22,z2t sj,h1,z2t (List.cons_ne_nil x' xs'),y2h]
   rfl
theorem z60:∀ {xs ys:List Y8} {ns:List Int},nums (xs++ys)=some ns->∃ a b,nums xs=some a/\nums ys=some b/\ns=a++b
 | [],ys,ns,h=>⟨[],ns,rfl,h,rfl⟩
 | x :: xs,ys,ns,h=>by
  simp only[y22,nums] at h |-
  cases hv:pv x with
  | none=>simp[hv] at h
  | some v =>
   cases hn:nums (xs++ys) with
   | none=>simp[hv,hn] at h
   | some m =>
    obtain⟨a,b,h1,h2,h3⟩:=z60 hn
    simp only[hv,hn,y1k,yk] at h
    exact⟨v :: a,b,by simp[h1],h2,by rw[<- h,h3]; rfl⟩
end Go.Proofs.YtgfgnhpecnmlpaaGreatDoor
/- One code under another,in the program; names. No condition. -/
namespace Go.Proofs.YtgfgnhpecnmlpaaGreatDoor
open Go Go.TA
open Go.IntKind (i64)
theorem zcn (x y:List Int):F_qm x y=some (x==y):=by
 simp only[F_qm,S_qm,Scr.den]
 by_cases h:x.length=y.length
 ·rw[y5 (by simp only[y5a,ne_eq]; omega)]
  have h1:∀ i,i<x.length->(x.getD i dF=y.getD i dF)->(S_qm_b1 x y i ()).den=some (.cont ()):=fun i hi e=>by
   simp only[S_qm_b1,Scr.den]
   rw[Ga,y5 (by simp only[y5a,ne_eq,y49]; exact e)]
  have h2:∀ i,i<x.length->¬ (x.getD i dF=y.getD i dF)->(S_qm_b1 x y i ()).den=some (.ret false):=fun i hi e=>by
   simp only[S_qm_b1,Scr.den]
   rw[Ga,y6 (by simp only[y5a,ne_eq]; exact e)]
  obtain⟨k1,k2⟩:=ze3 (body:=fun i s=>(S_qm_b1 x y i s).den) (n:=x.length) (c:=false) (fun i=>x.getD i dF=y.getD i dF) h1 h2
  by_cases e:x=y
  ·subst e
   rw[k1 fun j _=>rfl]; simp[outM]
  ·rw[k2 fun hh=>e (List.ext_getElem h fun i hi hj=>by
    have:=hh i hi
    rw[z4h hi,z4h hj] at this
    exact this)]
   simp[outM,e]
 ·rw[y6 (by simp only[y5a,ne_eq]; omega)]
  have:(x==y)=false:=by simp only[y29,ne_eq]; intro e; exact h (by rw[e])
  rw[this]
variable {a b:Y8}
theorem zfo:und a b=(decide (0<(parts b).length)&&decide ((parts b).length<=(parts a).length)&&((parts a).take (parts b).length==parts b)):=by
 rw[y1f]
 unfold und
 simp only[y9,y7,yx,yg]
 constructor
 ·rintro⟨⟨⟨⟨ha,hb⟩,h1⟩,h2⟩,h3⟩
  obtain⟨na,ga⟩:=zy ha
  obtain⟨nb,gb⟩:=zy hb
  refine⟨⟨gb.1,?_⟩,?_⟩ <;> rcases h3 with h3 | h3
  ·have e:a=b:=by rw[<- h2,y2g om]
   rw[e]; exact ya _
  ·have hlt:b.length<a.length:=by
    rcases yj b.length a.length with h | h
    ·exact h
    ·rw[List.getD_eq_getElem?_getD,yb h] at h3; simp at h3
   have e:a=b++46 :: a.drop (b.length+1):=by
    have h3':a[b.length]=46:=by
     rw[List.getD_eq_getElem?_getD,yc hlt] at h3
     simp only[y3u] at h3
     exact y3q.1 h3
    conv=>lhs; rw[<- y2r b.length a,h2,y18 hlt,h3']
   rw[e,z4c] at na
   obtain⟨x,y,k1,k2,k3⟩:=z60 na
   rw[nb] at k1; cases k1
   rw[<- e] at k3
   rw[k3]; simp
  ·have e:a=b:=by rw[<- h2,y2g om]
   rw[e]; simp
  ·have hlt:b.length<a.length:=by
    rcases yj b.length a.length with h | h
    ·exact h
    ·rw[List.getD_eq_getElem?_getD,yb h] at h3; simp at h3
   have e:a=b++46 :: a.drop (b.length+1):=by
    have h3':a[b.length]=46:=by
     rw[List.getD_eq_getElem?_getD,yc hlt] at h3
     simp only[y3u] at h3
     exact y3q.1 h3
    conv=>lhs; rw[<- y2r b.length a,h2,y18 hlt,h3']
   rw[e,z4c] at na
   obtain⟨x,y,k1,k2,k3⟩:=z60 na
   rw[nb] at k1; cases k1
   rw[<- e] at k3
   rw[k3]; simp
 ·rintro⟨⟨h1,h2⟩,h3⟩
  have hb:good b=true:=by rw[<- z3g]; simpa using h1
  have ha:good a=true:=by rw[<- z3g]; simp; omega
  obtain⟨na,ga⟩:=zy ha
  obtain⟨nb,gb⟩:=zy hb
  have hla:=z2a na
  have hlb:=z2a nb
  have hsplit:pieces a=(pieces a).take (pieces b).length++(pieces a).drop (pieces b).length:=(y2r _ _).symm
  rw[hsplit] at na
  obtain⟨x,y,k1,k2,k3⟩:=z60 na
  have hx:x=parts b:=by
   have:=z2a k1
   rw[y1l] at this
   rw[<- h3,k3,List.take_append_of_le_length om,y2g om]
  have e1:(pieces a).take (pieces b).length=pieces b:=z85 (by rw[k1,hx]) nb
  rw[e1] at hsplit
  have ja:=z3w a
  have jb:=z3w b
  refine⟨⟨⟨⟨ha,hb⟩,?_⟩,?_⟩,?_⟩ <;> by_cases hr:(pieces a).drop (pieces b).length=[]
  ·rw[hr,y35] at hsplit
   rw[z2s hsplit]; exact ya _
  ·rw[hsplit,z43 (zp b) hr,jb] at ja
   rw[<- ja]; simp
  ·rw[hr,y35] at hsplit
   rw[z2s hsplit]; simp
  ·rw[hsplit,z43 (zp b) hr,jb] at ja
   rw[<- ja]; simp
  ·rw[hr,y35] at hsplit
   exact .inl (by rw[z2s hsplit])
  ·rw[hsplit,z43 (zp b) hr,jb] at ja
   right
   rw[<- ja]; simp
theorem zgy (ha:a.length<=1000000) (hb:b.length<=1000000):F_q2u a b=some (und a b):=by
 simp only[F_q2u,S_q2u,Scr.den,z4r (l:=a) om,z4r (l:=b) om,obind,z8,zfo]
 by_cases h:0<(parts b).length/\(parts b).length<=(parts a).length
 ·rw[ze (by simp[AllP]; omega),zcn,obind,z3 ⟨fun _=>h.2,trivial⟩]
  simp[h.1,h.2]
 ·rw[zr (by simp only[AllP,y34,y9,y7]; omega),obind,z3 ⟨fun hh=>by have hh:=hh.1; simp only[y9,y7] at hh; omega,trivial⟩]
  have:(decide (0<(parts b).length)&&decide ((parts b).length<=(parts a).length))=false:=by
   rw[yo]; intro hh; simp only[y9,y7] at hh; omega
  rw[this]
  congr 1
  have:(decide (((parts b).length:Int)>0)&&decide (((parts a).length:Int)>=((parts b).length:Int)))=false:=by
   rw[yo]; intro hh; simp only[y9,y7] at hh; omega
  simp
def nameOk (s:Y8):Bool:=decide (1<=s.length)&&decide (s.length<=40)&&!((s.getD 0 0).toNat==32)&&!((s.getD (s.length-1) 0).toNat==32)&&s.all fun c=>decide (32<=c.toNat)&&decide (c.toNat<=126)
variable {s:Y8}
theorem zbx {i:Nat} {p:UInt8->Bool} (hi:i<s.length):(s.drop i).all p=(p (s.getD i 0)&&(s.drop (i+1)).all p):=by
 rw[y18 hi,y3m]
 simp[List.getD_eq_getElem?_getD,List.getElem?_eq_getElem hi]
theorem zco (hl:s.length<=1000000):F_qo s=some (nameOk s):=by
 simp only[F_qo,S_qo,Scr.den,zd]
 have w1:i64.wrap ((s.length:Int)-1)=(s.length:Int)-1:=wrapId om om
 have w2:((s.length:Int)-1).toNat=s.length-1:=om
 simp only[w1,w2]
 rw[z3 ⟨fun h=>by simp[AllP] at h; omega,fun h=>by simp[AllP] at h; omega,fun h=>by simp[AllP] at h; omega,trivial⟩]
 have hlp:∀ k i:Nat,i+k=s.length->outM (iterM (fun s_1=>(S_qo_b1 s s_1).den) (i:Int)) (fun _=>some true) (fun x=>some (id x))=some ((s.drop i).all fun c=>decide (32<=c.toNat)&&decide (c.toNat<=126)):=by
  generalize hF:(fun s_1=>(S_qo_b1 s s_1).den)=F
  intro k
  induction k with
  | zero =>
   intro i hk
   rw[zq,<- y2y hF,y1d om]
   simp only[S_qo_b1,Scr.den]
   rw[y5 sk]
   rfl
  | succ k ih =>
   intro i hk
   rw[zq,<- y2y hF,zbx om]
   simp only[S_qo_b1,Scr.den,yd,zd]
   rw[y6 sk,z3 ⟨om,om,fun _=>om,fun _=>om,trivial⟩]
   by_cases h:32<=(s.getD i 0).toNat/\(s.getD i 0).toNat<=126
   ·have w3:i64.wrap ((i:Int)+1)=((i+1:Nat):Int):=by rw[wrapId om om]; omega
    rw[y5 (by simp only[yg,y7]; omega)]
    simp only[w3,h,y3s,y4f,y1x]
    exact ih (i+1) om
   ·rw[y6 (by simp only[yg,y7]; omega)]
    have:(decide (32<=(s.getD i 0).toNat)&&decide ((s.getD i 0).toNat<=126))=false:=by rw[yo]; simp only[ne_eq,y9,y7]; omega
    rw[this]
    rfl
 unfold nameOk
 by_cases h:1<=s.length/\s.length<=40/\¬ (s.getD 0 0).toNat=32/\¬ (s.getD (s.length-1) 0).toNat=32
 ·obtain⟨h1,h2,h3,h4⟩:=h
  rw[y5 (by simp only[yg,y7,yx]; omega)]
  have:=hlp s.length 0 om
  rw[show ((0:Nat):Int)=0 from rfl] at this
  rw[this]
  simp only[List.drop_zero,h1,h2,y3s,y1x]
  have e3:((s.getD 0 0).toNat==32)=false:=by simpa using h3
  have e4:((s.getD (s.length-1) 0).toNat==32)=false:=by simpa using h4
  simp only[e3,e4,y52,y1x]
 ·rw[y6 (by simp only[yg,y7,yx]; omega)]
  congr 1
  symm
  rw[yo]
  intro hh
  simp only[y9,y7,y25,y29,ne_eq] at hh
  exact h ⟨hh.1.1.1.1,hh.1.1.1.2,hh.1.1.2,hh.1.2⟩
end Go.Proofs.YtgfgnhpecnmlpaaGreatDoor
/- Names in the program. No condition. -/
namespace Go.Proofs.YtgfgnhpecnmlpaaGreatDoor
open Go Go.TA
open Go.IntKind (i64)
variable {s:Y8} {p:Nat}
theorem ze7 (_hp:p<s.length) (h:(s.getD p 0).toNat<128):runeAt s p=((s.getD p 0).toNat:Int)/\widAt s p=1:=by
 have hg:(ByteArray.mk s.toArray).get! (p+0)=s.getD p 0:=by
  show (s.toArray)[p+0]! = _
  simp[List.getD_eq_getElem?_getD,getElem!_def]
  cases s[p]? <;> rfl
 unfold runeAt widAt Utf8.decode
 simp only[hg]
 rw[y6 h]
 exact⟨rfl,rfl⟩
theorem zgz (_hp:p<s.length) (h:128<=(s.getD p 0).toNat):128<=runeAt s p:=by
 have hg:(ByteArray.mk s.toArray).get! (p+0)=s.getD p 0:=by
  show (s.toArray)[p+0]! = _
  simp[List.getD_eq_getElem?_getD,getElem!_def]
  cases s[p]? <;> rfl
 unfold runeAt Utf8.decode
 simp only[hg]
 rw[y5 om]
 have e:Utf8.runeError=65533:=rfl
 split
 ·split
  ·simp only; omega
  ·simp only[e]; omega
 ·split
  ·split
   ·rename_i h1
    simp only[y9,y7] at h1
    simp only; omega
   ·simp only[e]; omega
  ·split
   ·split
    ·rename_i h1
     simp only[y9,y7] at h1
     simp only; omega
    ·simp only[e]; omega
   ·simp only[e]; omega
theorem trimR (hl:s.length<=1000000) (h0:1<=s.length):∃ r,F_q1f s 32=some r/\r.length<=s.length/\((s.getD (s.length-1) 0).toNat≠32->r=s)/\((s.getD (s.length-1) 0).toNat=32->r.length<s.length):=by
 simp only[F_q1f,S_q1f,Scr.den]
 generalize hF:(fun sv1=>(S_q1f_b1 32 sv1).den)=F
 have step:∀ t:Y8,t.length<=s.length->(0<t.length/\(t.getD (t.length-1) 0).toNat=32/\F t=some (.cont (t.take (t.length-1))))\/(¬ (0<t.length/\(t.getD (t.length-1) 0).toNat=32)/\F t=some (.brk t)):=fun t ht=>by
  rw[<- y2y hF]
  simp only[S_q1f_b1,Scr.den,z8]
  by_cases hp:0<t.length
  ·have w1:i64.wrap ((t.length:Int)-1)=(t.length:Int)-1:=wrapId om om
   have w2:((t.length:Int)-1).toNat=t.length-1:=om
   simp only[w1,w2]
   rw[z3 ⟨fun _=>om,fun _=>om,trivial⟩]
   by_cases h:(t.getD (t.length-1) 0).toNat=32
   ·rw[y6 (by simp only[y9,y7,yx]; omega),Gb]
    exact .inl ⟨hp,h,rfl⟩
   ·rw[y5 (by simp only[y9,y7,yx]; omega)]
    exact .inr ⟨fun hh=>h hh.2,rfl⟩
  ·have hd:decide ((t.length:Int)>0)=false:=by simp only[y1h]; omega
   rw[z3 ⟨fun h=>by rw[hd] at h; exact absurd h.1 sj,fun h=>by rw[hd] at h; exact absurd h.1 sj,trivial⟩,y5 (by simp only[hd,y53]; simp)]
   exact .inr ⟨fun hh=>hp hh.1,rfl⟩
 have tot:∀ t:Y8,t.length<=s.length->∃ r,iterM F t=some (.next r)/\r.length<=t.length:=fun t ht=>by
  refine z1c (fun x:Y8=>x.length) (fun x=>x.length<=t.length) (fun x=>x.length<=t.length) (fun x hx=>?_) (t.length+1) t om (ya _)
  rcases step x om with ⟨h1,_,h3⟩ | ⟨_,h3⟩
  ·exact .inl ⟨_,h3,by simp <;> omega,by simp <;> omega⟩
  ·exact .inr ⟨_,h3,hx⟩
 rcases step s (ya _) with ⟨h1,h2,h3⟩ | ⟨h2,h3⟩
 ·obtain⟨r,k1,k2⟩:=tot (s.take (s.length-1)) (by simp <;> omega)
  refine⟨r,by rw[zq,h3]; simp only[k1]; rfl,?_,fun h=>absurd h2 h,fun _=>?_⟩ <;> (simp at k2; omega)
 ·exact⟨s,by rw[zq,h3]; rfl,ya _,fun _=>rfl,fun h=>absurd ⟨om,h⟩ h2⟩
theorem trimL:∃ r,F_q1g s 32=some r/\r.length<=s.length/\((s.getD 0 0).toNat≠32->r=s)/\(0<s.length->(s.getD 0 0).toNat=32->r.length<s.length):=by
 simp only[F_q1g,S_q1g,Scr.den]
 generalize hF:(fun sv1=>(S_q1g_b1 32 sv1).den)=F
 have step:∀ t:Y8,(0<t.length/\(t.getD 0 0).toNat=32/\F t=some (.cont ((t.drop 1).take (t.length-1))))\/(¬ (0<t.length/\(t.getD 0 0).toNat=32)/\F t=some (.brk t)):=fun t=>by
  rw[<- y2y hF]
  simp only[S_q1g_b1,Scr.den,z8]
  by_cases hp:0<t.length
  ·rw[z3 ⟨fun _=>hp,trivial⟩]
   by_cases h:(t.getD 0 0).toNat=32
   ·rw[y6 (by simp only[y9,y7,yx]; omega),Ga]
    exact .inl ⟨hp,h,rfl⟩
   ·rw[y5 (by simp only[y9,y7,yx]; omega)]
    exact .inr ⟨fun hh=>h hh.2,rfl⟩
  ·have hd:decide ((t.length:Int)>0)=false:=by simp only[y1h]; omega
   rw[z3 ⟨fun h=>by rw[hd] at h; exact absurd h.1 sj,trivial⟩,y5 (by simp only[hd,y53]; simp)]
   exact .inr ⟨fun hh=>hp hh.1,rfl⟩
 have tot:∀ t:Y8,∃ r,iterM F t=some (.next r)/\r.length<=t.length:=fun t=>by
  refine z1c (fun x:Y8=>x.length) (fun x=>x.length<=t.length) (fun x=>x.length<=t.length) (fun x hx=>?_) (t.length+1) t om (ya _)
  rcases step x with ⟨h1,_,h3⟩ | ⟨_,h3⟩
  ·exact .inl ⟨_,h3,by simp <;> omega,by simp <;> omega⟩
  ·exact .inr ⟨_,h3,hx⟩
 rcases step s with ⟨h1,h2,h3⟩ | ⟨h2,h3⟩
 ·obtain⟨r,k1,k2⟩:=tot ((s.drop 1).take (s.length-1))
  refine⟨r,by rw[zq,h3]; simp only[k1]; rfl,?_,fun h=>absurd h2 h,fun _ _=>?_⟩ <;> (simp at k2; omega)
 ·exact⟨s,by rw[zq,h3]; rfl,ya _,fun _=>rfl,fun hp h=>absurd ⟨hp,h⟩ h2⟩
theorem zi8 (hl:s.length<=1000000) (h0:1<=s.length):∃ r,F_q32 s [32]=some r/\(r==s)=(!((s.getD 0 0).toNat==32)&&!((s.getD (s.length-1) 0).toNat==32)):=by
 obtain⟨r,a1,a2,a3,a4⟩:=trimR hl h0
 obtain⟨q,b1,b2,b3,b4⟩:=trimL (s:=r)
 refine⟨q,?_,?_⟩
 ·simp only[F_q32,S_q32,Scr.den,zd]
  have hs:(s==[])=false:=by rw[y29]; intro e; rw[e] at h0; simp at h0
  rw[y5 (by simp[hs]),z3 ⟨fun _=>sj,trivial⟩,Gd]
  have e32:((([32]:Y8).getD 0 0).toNat:Int)=32:=rfl
  simp only[e32,a1,b1,obind]
  rw[z3 ⟨sj,trivial⟩]
 ·by_cases h1:(s.getD (s.length-1) 0).toNat=32
  ·have:=a4 h1
   have hne:(q==s)=false:=by rw[y29]; intro e; rw[e] at b2; omega
   have e1:((s.getD (s.length-1) 0).toNat==32)=true:=by simpa using h1
   rw[hne,e1,y3x,Bool.and_false]
  ·have e:=a3 h1
   subst e
   by_cases h2:(r.getD 0 0).toNat=32
   ·have:=b4 om h2
    have hne:(q==r)=false:=by rw[y29]; intro e; rw[e] at this; omega
    have e2:((r.getD 0 0).toNat==32)=true:=by simpa using h2
    rw[hne,e2]; rfl
   ·have e:=b3 h2
    have e1:((r.getD (r.length-1) 0).toNat==32)=false:=by rw[y29]; exact h1
    have e2:((r.getD 0 0).toNat==32)=false:=by rw[y29]; exact h2
    rw[e,e1,e2]; simp
theorem zi9 (hl:s.length<=1000000):F_qq s=some (nameOk s):=by
 simp only[F_qq,S_qq,Scr.den,z8]
 have hlp:∀ K:Nat->Option Bool,(∀ a b,K a=K b)->∀ k i:Nat,i+k=s.length->outM (iterM (fun s_1=>(S_qq_b1 s s_1).den) i) K (fun x:Bool=>some (id x))=(if ((s.drop i).all fun c=>decide (32<=c.toNat)&&decide (c.toNat<=126))=true then K 0 else some false):=by
  generalize hF:(fun s_1=>(S_qq_b1 s s_1).den)=F
  intro K hK k
  induction k with
  | zero =>
   intro i hk
   rw[zq,<- y2y hF,y1d om]
   simp only[S_qq_b1,Scr.den]
   rw[y5 sk]
   simp only[outM,List.all_nil,y2p]
   exact hK _ _
  | succ k ih =>
   intro i hk
   have hi:i<s.length:=om
   rw[zq,<- y2y hF,zbx hi]
   simp only[S_qq_b1,Scr.den,zd]
   rw[y6 sk]
   by_cases hb:(s.getD i 0).toNat<128
   ·obtain⟨r1,r2⟩:=ze7 hi hb
    simp only[r1,r2]
    by_cases h:32<=(s.getD i 0).toNat/\(s.getD i 0).toNat<=126
    ·rw[y5 (by simp only[yg,y7]; omega)]
     simp only[h,y3s,y4f,y1x]
     exact ih (i+1) om
    ·rw[y6 (by simp only[yg,y7]; omega)]
     have:(decide (32<=(s.getD i 0).toNat)&&decide ((s.getD i 0).toNat<=126))=false:=by rw[yo]; simp only[ne_eq,y9,y7]; omega
     rw[this,y53,y5 sj]
     rfl
   ·have:=zgz hi om
    rw[y6 (by simp only[yg,y7]; omega)]
    have:(decide (32<=(s.getD i 0).toNat)&&decide ((s.getD i 0).toNat<=126))=false:=by rw[yo]; simp only[ne_eq,y9,y7]; omega
    rw[this,y53,y5 sj]
    rfl
 rw[hlp _ (fun _ _=>rfl) s.length 0 om,List.drop_zero]
 unfold nameOk
 by_cases ha:(s.all fun c=>decide (32<=c.toNat)&&decide (c.toNat<=126))=true
 ·rw[y6 ha,ha,Bool.and_true]
  by_cases h:1<=s.length/\s.length<=40
  ·obtain⟨r,k1,k2⟩:=zi8 hl h.1
   rw[ze (by simp only[AllP,y34,y9,y7]; omega),k1,obind,k2]
   have e1:decide ((s.length:Int)>=1)=true:=by simp only[y7]; omega
   have e2:decide ((s.length:Int)<=40)=true:=by simp only[y7]; omega
   simp only[e1,e2,h,y3s,y1x,y4f]
  ·rw[zr (by simp only[AllP,y34,y9,y7]; omega),obind]
   have e1:(decide ((s.length:Int)>=1)&&decide ((s.length:Int)<=40))=false:=by rw[yo]; simp only[ne_eq,y9,y7]; omega
   have e2:(decide (1<=s.length)&&decide (s.length<=40))=false:=by rw[yo]; simp only[ne_eq,y9,y7]; omega
   rw[e1,e2]; rfl
 ·rw[y5 ha]
  have:(s.all fun c=>decide (32<=c.toNat)&&decide (c.toNat<=126))=false:=by rw[yo]; exact ha
  rw[this,Bool.and_false]
end Go.Proofs.YtgfgnhpecnmlpaaGreatDoor
/- Trees of codes: their checks,their leaves,in both programs. No condition. -/
namespace Go.Proofs.YtgfgnhpecnmlpaaGreatDoor
open Go Go.TA
open Go.IntKind (i64)
attribute [-simp] List.getD_eq_getElem?_getD
def has (t:List THe) (c:Y8):Bool:=t.any fun h=>h.B==c
theorem z3j (t:List THe) (c:Y8):F_qn t c=some (has t c):=by
 simp only[F_qn,S_qn,Scr.den]
 rw[z1m t (fun h=>h.B==c) (fun _=>true) fun i hi=>by
  simp only[S_qn_b1,Scr.den]
  split <;> rfl]
 unfold has
 split
 ·rename_i h; rw[h]; rfl
 ·rename_i h; rw[yo.2 h]; rfl
theorem zfp (t:List THe) (c:Y8):F_q2t t c=some (has t c):=by
 simp only[F_q2t,S_q2t,F_q3v,S_q3v,F_q2d,S_q2d,Scr.den]
 rw[z1m t (fun h=>h.B==c) (fun i=>(i:Int)) fun i hi=>by
  simp only[S_q2d_b1,F_q3u,S_q3u,Scr.den,obind]
  split <;> rfl]
 unfold has
 split
 ·rename_i h; rw[h]; simp[outM]
 ·rename_i h; rw[yo.2 h]; simp only[outM,obind]; rfl
def headE (t:List THe) (i:Nat):Int :=
 if good (t.getD i dF).B=false then 5
 else if nameOk (t.getD i dF).W=false then 4
 else if 0<i/\¬ lexC (parts (t.getD (i-1) dF).B) (parts (t.getD i dF).B)<0 then 8
 else if par (t.getD i dF).B≠[]/\has t (par (t.getD i dF).B)=false then 6 else 0
def treeE (t:List THe):Int:=if t.length>60 then 3 else fstE t.length (headE t)
def SmT (t:List THe):Prop:=∀ h∈t,h.B.length<=1000000/\h.W.length<=1000000
variable {t:List THe} {i:Nat}
theorem z8v (h:headE t i=0):good (t.getD i dF).B=true:=by
 unfold headE at h
 split at h
 ·cases h
 ·rename_i hg; simpa using hg
variable {α:Type} {k:Option α} {d:α} {gs:List Prop}
theorem oT:optD (True :: gs) k d=optD gs k d:=by
 by_cases h:AllP gs
 ·rw[ze (gs:=True :: gs) ⟨trivial,h⟩,ze h]
 ·rw[zr (gs:=True :: gs) fun hh=>h hh.2,zr h]
theorem oF:optD (False :: gs) k d=some d:=by unfold optD; simp[AllP]
theorem oN:optD [] k d=k:=by unfold optD; simp[AllP]
theorem gT:guardP True k=k:=z3 trivial
theorem z9h (hs:SmT t) (hl:t.length<=60) (hi:i<t.length) (hz:∀ j,j<i->headE t j=0) :
  (S_q1x_b1 t i ()).den=some (if headE t i=0 then .cont () else .ret (i64.wrap ((i:Int)+1),headE t i)):=by
 obtain⟨hc,hn⟩:=hs _ (z4 hi)
 have hw:0<i->i64.wrap ((i:Int)-1)=((i-1:Nat):Int):=fun h0=>by rw[wrapId om om]; omega
 have hi':i-1<t.length:=om
 simp only[S_q1x_b1,Scr.den,z1r (l:=(t.getD i dF).B) om,zco hn,z2c hc,z3j,obind,z8,headE]
 by_cases hg:good (t.getD i dF).B=true
 ·by_cases h0:0<i
  ·have hg':good (t.getD (i-1) dF).B=true:=z8v (hz (i-1) om)
   simp only[hw h0,yd,z1e hg' hg,hg]
   by_cases hp:par (t.getD i dF).B=[] <;> by_cases hh:has t (par (t.getD i dF).B)=true <;> simp[h0,hi',hp,hh,AllP,oT,oF,oN,gT] <;> (repeat' split) <;> simp_all
  ·have h0':i=0:=om
   subst h0'
   by_cases hp:par (t.getD 0 dF).B=[] <;> by_cases hh:has t (par (t.getD 0 dF).B)=true <;> simp[hg,hp,hh,AllP,oT,oF,oN,gT] <;> (repeat' split) <;> simp_all
 ·simp[hg]
theorem z6u (hs:SmT t):F_q2r t=some (treeE t):=by
 simp only[F_q2r,S_q2r,F_q1x,S_q1x,Scr.den,treeE]
 by_cases hl:t.length>60
 ·rw[y6 (by simp only[y7]; omega),y6 hl]; rfl
 ·rw[y5 (by simp only[y7]; omega),y5 hl]
  rw[z3h (headE t) (fun i=>(i64.wrap ((i:Int)+1),headE t i)) fun i hi hz=>z9h hs om hi hz]
  unfold fstE
  split <;> rfl
end Go.Proofs.YtgfgnhpecnmlpaaGreatDoor
/- Trees in the program; leaves in both. No condition. -/
namespace Go.Proofs.YtgfgnhpecnmlpaaGreatDoor
open Go Go.TA
open Go.IntKind (i64)
attribute [-simp] List.getD_eq_getElem?_getD
variable {t:List THe}
theorem ze8 (hs:SmT t) (hl:t.length<=60) {i:Nat} (hi:i<t.length) (hz:∀ j,j<i->headE t j=0):F_q35 t (i:Int)=some (headE t i):=by
 obtain⟨hc,hn⟩:=hs _ (z4 hi)
 have hw:0<i->i64.wrap ((i:Int)-1)=((i-1:Nat):Int):=fun h0=>by rw[wrapId om om]; omega
 have hi':i-1<t.length:=om
 obtain⟨hc',_⟩:=hs _ (z4 hi')
 simp only[F_q35,S_q35,Scr.den,yd,za8 hc,ze6 hc,zi9 hn,zfp,obind,z8,headE]
 by_cases hg:good (t.getD i dF).B=true
 ·by_cases h0:0<i
  ·simp only[hw h0,yd,z5z hc' hc,z3a (.inr hg),hg]
   by_cases hp:par (t.getD i dF).B=[] <;> by_cases hh:has t (par (t.getD i dF).B)=true <;> simp[h0,hi,hi',hp,hh,AllP,oT,oF,oN,gT] <;> (repeat' split) <;> simp_all
  ·have h0':i=0:=om
   subst h0'
   by_cases hp:par (t.getD 0 dF).B=[] <;> by_cases hh:has t (par (t.getD 0 dF).B)=true <;> simp[hg,hi,hp,hh,AllP,oT,oF,oN,gT] <;> (repeat' split) <;> simp_all
 ·simp[hg,hi,AllP,gT]
theorem zh0 (hs:SmT t):F_q36 t=some (treeE t):=by
 simp only[F_q36,S_q36,F_q2e,S_q2e,Scr.den,treeE]
 by_cases hl:t.length>60
 ·rw[y6 (by simp only[y7]; omega),y6 hl]; rfl
 ·rw[y5 (by simp only[y7]; omega),y5 hl]
  rw[z3h (headE t) (fun i=>(i64.wrap ((i:Int)+1),headE t i)) fun i hi hz=>by
   simp only[S_q2e_b1,Scr.den,ze8 hs om hi hz,obind]
   by_cases h:headE t i=0 <;> simp[h]]
  unfold fstE
  split <;> rfl
def leafT (t:List THe) (c:Y8):Bool:=good c&&has t c&&t.all fun x=>!(par x.B==c)
def leavesU (t:List THe) (top:Y8):List Y8:=(t.filter fun h=>good h.B&&(top==[]||und h.B top)&&t.all fun x=>!(par x.B==h.B)).map (·.B)
theorem z4d {c:Y8}:c∈leavesU t []↔leafT t c=true:=by
 unfold leavesU leafT has
 simp only[y19,y1v,y9,y3j,Bool.true_or,y34,y1i,yx]
 constructor
 ·rintro⟨h,⟨h1,h2,h3⟩,rfl⟩; exact⟨⟨h2,h,h1,rfl⟩,h3⟩
 ·rintro⟨⟨h1,h,h2,rfl⟩,h3⟩; exact⟨h,⟨h2,h1,h3⟩,rfl⟩
theorem z2f (t:List THe) (top:Y8):(leavesU t top).length<=t.length:=by unfold leavesU; simp; exact List.length_filter_le _ _
variable {α:Type}
theorem za9 (l:List α) (p:α->Bool):∀ b:Bool,l.foldl (fun s x=>s&&p x) b=(b&&l.all p):=by
 induction l with
 | nil=>intro b; simp
 | cons x l ih=>intro b; rw[y3b,ih,y3m,Bool.and_assoc]
theorem z1z {β ρ:Type} [Inhabited α] {body:Nat->List β->Option (Step (List β) ρ)} (l:List α) (p:α->Bool) (f:α->β) (N:Nat) (hN:l.length<=N) (hs:∀ i s,i<l.length->s.length<=N->body i s=some (.cont (if p (l.getD i dF)=true then s++[f (l.getD i dF)] else s))) :
  rangeM body l.length 0 []=some (.next ((l.filter p).map f)):=by
 obtain⟨s,h1,h2,_⟩:=z13 (body:=body) (n:=l.length) (fun i s=>s=((l.take i).filter p).map f/\s.length<=i) (s0:=[]) ⟨rfl,y3r _⟩ (fun i s hi ⟨h1,h2⟩=>by
  refine⟨_,hs i s hi om,?_,?_⟩
  ·rw[y1w hi,List.filter_append,y3p,<- h1]
   have e:l.getD i dF=l[i]:=by simp[List.getD_eq_getElem?_getD,List.getElem?_eq_getElem hi]
   rw[e]
   by_cases h:p l[i]=true
   ·simp[h]
   ·simp[h]
  ·split
   ·simp; omega
   ·omega)
 rw[h1,h2,y2g (ya _)]
theorem z1n {top:Y8} (hs:SmT t) (hl:t.length<=1000000) (ht:top.length<=1000000):F_q3 t top=some (leavesU t top):=by
 simp only[F_q3,S_q3,Scr.den]
 rw[z1z t (fun h=>good h.B&&(top==[]||und h.B top)&&t.all fun x=>!(par x.B==h.B)) (·.B) 1000000 hl fun i s hi hsl=>by
  obtain⟨hc,_⟩:=hs _ (z4 hi)
  have hin:rangeM (fun i1 s1=>(S_q3_b1 t i i1 s1).den) t.length 0 true=some (.next (t.all fun x=>!(par x.B==(t.getD i dF).B))):=by
   rw[z1q t (fun s x=>s&&!(par x.B==(t.getD i dF).B)) fun j b hj=>by
    obtain⟨hcj,_⟩:=hs _ (z4 hj)
    simp only[S_q3_b1,Scr.den,z2c hcj,z8]
    cases b <;> simp[oT,oF,oN]]
   rw[za9,y1x]
  simp only[S_q3_b2,Scr.den,z1r (l:=(t.getD i dF).B) om,z3i hc ht,obind,hin,outM,z8,zd]
  by_cases hg:good (t.getD i dF).B=true <;> by_cases h0:top=[] <;> by_cases hu:und (t.getD i dF).B top=true <;> simp[hg,h0,hu,oT,oF,oN] <;> (split <;> first | rfl | (rw[Ga]))]
 simp only[outM]
 have:=z2f t top
 unfold leavesU at this |-
 rw[Ga]
end Go.Proofs.YtgfgnhpecnmlpaaGreatDoor
/- Leaves in the program: a map of which entries are deleted. No condition. -/
namespace Go.Proofs.YtgfgnhpecnmlpaaGreatDoor
open Go Go.TA
open Go.IntKind (i64)
attribute [-simp] List.getD_eq_getElem?_getD
section
variable {α β:Type} [BEq α]
theorem z2l (a:α) (b:β) (l:List (α×β)) (c:α) (z:β):mget ((a,b) :: l) c z=if c==a then b else mget l c z:=by
 unfold mget
 rw[y4u]
 cases h:c==a <;> simp
theorem zaa (a:α) (b:β) (l:List (α×β)) (k:α) (v:β):mupd ((a,b) :: l) k v=if k==a then (a,v) :: l else (a,b) :: mupd l k v:=by
 unfold mupd msto ment midx
 rw[y3d,y1q]
 cases h:k==a
 ·simp only[y4e,y5b,y1g,y1y]
  split <;> rfl
 ·simp
theorem zfq (a:α) (b:β) (l:List (α×β)) (k:α):mdel ((a,b) :: l) k=if k==a then l else (a,b) :: mdel l k:=by
 unfold mdel midx
 rw[y1q]
 cases h:k==a <;> simp
theorem zab [LawfulBEq α] (c k:α) (v z:β):∀ l:List (α×β),mget (mupd l k v) c z=if c==k then v else mget l c z
 | []=>by show mget [(k,v)] c z=_; rw[z2l]
 | (a,b) :: l=>by
  rw[zaa,z2l]
  by_cases h:(k==a)=true
  ·have e:=eq_of_beq h
   subst e
   rw[y6 h,z2l]
   by_cases h2:(c==k)=true <;> simp[h2]
  ·rw[y5 h,z2l,zab c k v z l]
   by_cases h2:(c==a)=true
   ·have e:=eq_of_beq h2
    subst e
    have:¬ (c==k)=true:=fun h3=>h (by rw[eq_of_beq h3]; exact y3j k)
    rw[y6 h2,y5 this,y6 h2]
   ·rw[y5 h2,y5 h2]
theorem zac [LawfulBEq α] (k:α) (v:β):∀ l:List (α×β),(l.map (·.1)).Nodup->((mupd l k v).map (·.1)).Nodup/\∀ x,x∈(mupd l k v).map (·.1)->x=k\/x∈l.map (·.1)
 | [],_=>⟨by show ([k]:List α).Nodup; simp,fun x hx=>.inl (by have:x∈([k]:List α):=hx; simpa using this)⟩
 | (a,b) :: l,h=>by
  rw[zaa]
  obtain⟨h1,h2⟩:=y44.1 h
  by_cases hk:(k==a)=true
  ·rw[y6 hk]
   exact⟨h,fun x hx=>.inr hx⟩
  ·rw[y5 hk]
   obtain⟨k1,k2⟩:=zac k v l h2
   refine⟨y44.2 ⟨fun ha=>?_,k1⟩,fun x hx=>?_⟩
   ·rcases k2 a ha with e | e
    ·exact hk (by rw[e]; exact y3j k)
    ·exact h1 e
   ·rcases yl.1 hx with e | e
    ·exact .inr (yl.2 (.inl e))
    ·rcases k2 x e with e | e
     ·exact .inl e
     ·exact .inr (yl.2 (.inr e))
theorem zdb [LawfulBEq α] (c:α) (z:β):∀ l:List (α×β),c ∉ l.map (·.1)->mget l c z=z
 | [],_=>rfl
 | (a,b) :: l,h=>by
  rw[z2l,y5 (fun e=>h (by rw[eq_of_beq e]; simp))]
  exact zdb c z l fun h'=>h (yw _ h')
theorem zad [LawfulBEq α] (c k:α) (z:β):∀ l:List (α×β),(l.map (·.1)).Nodup->mget (mdel l k) c z=(if c==k then z else mget l c z)
 | [],_=>by show z=_; split <;> rfl
 | (a,b) :: l,h=>by
  obtain⟨h1,h2⟩:=y44.1 h
  rw[zfq,z2l]
  by_cases hk:(k==a)=true
  ·have e:=eq_of_beq hk
   subst e
   rw[y6 hk]
   by_cases hc:(c==k)=true
   ·have e:=eq_of_beq hc
    subst e
    rw[y6 hc,zdb c z l h1]
   ·rw[y5 hc,y5 hc]
  ·rw[y5 hk,z2l,zad c k z l h2]
   by_cases hc:(c==a)=true
   ·have e:=eq_of_beq hc
    subst e
    have:¬ (c==k)=true:=fun h3=>hk (by rw[eq_of_beq h3]; exact y3j k)
    rw[y6 hc,y5 this,y6 hc]
   ·rw[y5 hc,y5 hc]
theorem zfr (k:α) (l:List (α×β)) (h:(l.map (·.1)).Nodup):((mdel l k).map (·.1)).Nodup:=by
 refine List.Nodup.sublist ?_ h
 exact (List.eraseIdx_sublist _ _).map _
end
theorem zh1 (t:List THe):∀ l:List (Y8×Bool),(l.map (·.1)).Nodup->((t.foldl (fun s h=>mupd s h.B (good h.B)) l).map (·.1)).Nodup /\
  ∀ c,mget (t.foldl (fun s h=>mupd s h.B (good h.B)) l) c false=if has t c=true then good c else mget l c false:=by
 induction t with
 | nil=>intro l h; exact⟨h,fun c=>by simp[has]⟩
 | cons x t ih =>
  intro l h
  obtain⟨k1,k2⟩:=ih _ (zac x.B (good x.B) l h).1
  refine⟨k1,fun c=>?_⟩
  rw[y3b,k2,zab]
  unfold has
  rw[y3d]
  by_cases h1:(t.any fun h=>h.B==c)=true
  ·simp[h1]
  ·rw[y5 h1]
   by_cases h2:c=x.B
   ·subst h2; simp
   ·have:(x.B==c)=false:=by simpa using fun e:x.B=c=>h2 e.symm
    simp[h1,h2,this]
theorem zh2 (t:List THe):∀ l:List (Y8×Bool),(l.map (·.1)).Nodup ->
  ∀ c,mget (t.foldl (fun s h=>mdel s (par h.B)) l) c false=((t.all fun h=>!(par h.B==c))&&mget l c false):=by
 induction t with
 | nil=>intro l h c; simp
 | cons x t ih =>
  intro l h c
  rw[y3b,ih _ (zfr (par x.B) l h),zad _ _ _ _ h,y3m]
  by_cases h2:c=par x.B
  ·subst h2; simp
  ·have:(par x.B==c)=false:=by simpa using fun e:par x.B=c=>h2 e.symm
   simp[h2,this]
theorem zfs {t:List THe} (hs:SmT t) (hl:t.length<=1000000):F_q8 t []=some (leavesU t []):=by
 simp only[F_q8,S_q8,Scr.den]
 rw[z1q t (fun s h=>mupd s h.B (good h.B)) fun i s hi=>by
  obtain⟨hc,_⟩:=hs _ (z4 hi)
  simp only[S_q8_b1,Scr.den,ze6 hc,obind]]
 simp only[outM]
 rw[z1q t (fun s h=>mdel s (par h.B)) fun i s hi=>by
  obtain⟨hc,_⟩:=hs _ (z4 hi)
  simp only[S_q8_b2,Scr.den,za8 hc,obind]]
 simp only
 obtain⟨k1,k2⟩:=zh1 t [] sj
 have k3:=zh2 t _ k1
 generalize t.foldl (fun s h=>mdel s (par h.B)) (t.foldl (fun s h=>mupd s h.B (good h.B)) [])=M at k3
 rw[z1z t (fun h=>good h.B&&(([]:Y8)==[]||und h.B [])&&t.all fun x=>!(par x.B==h.B)) (·.B) 1000000 hl fun i s hi hsl=>by
  have hh:has t (t.getD i dF).B=true:=by
   unfold has; rw[y1i]; exact⟨_,z4 hi,sj⟩
  have hm:mget M (t.getD i dF).B false=((t.all fun h=>!(par h.B==(t.getD i dF).B))&&good (t.getD i dF).B):=by rw[k3,k2,y6 hh]
  simp only[S_q8_b3,Scr.den,hm,z8,zd]
  by_cases hg:good (t.getD i dF).B=true <;> by_cases ha:(t.all fun h=>!(par h.B==(t.getD i dF).B))=true <;> simp[hg,ha,oF] <;> (rw[Ga])]
 simp only
 have:=z2f t []
 unfold leavesU at this |-
 rw[Ga]
theorem zcp (l:List Y8) (c:Y8):F_q39 l c=some (l.contains c):=by
 simp only[F_q39,S_q39,F_q2g,S_q2g,Scr.den]
 rw[z1m l (fun x=>c==x) (fun i=>(i:Int)) fun i hi=>by
  simp only[S_q2g_b1,Scr.den]
  split <;> rfl]
 rw[List.contains_eq_any_beq]
 split
 ·rename_i h; rw[h]; simp[outM]
 ·rename_i h; rw[yo.2 h]; simp only[outM,obind]; rfl
end Go.Proofs.YtgfgnhpecnmlpaaGreatDoor
/- What a law's parts must be. No condition. -/
namespace Go.Proofs.YtgfgnhpecnmlpaaGreatDoor
open Go Go.TA
open Go.IntKind (i64)
attribute [-simp] List.getD_eq_getElem?_getD
def inY (f y x:Int):Bool:=decide (x>=f)&&decide (IntKind.u64.wrap (IntKind.u64.wrap x-IntKind.u64.wrap f)<IntKind.u64.wrap y)
def amt (n:Int):Bool:=decide (0<=n)&&decide (n<=1000000000000)
def ltC (a:Y8) (m:Int) (b:Y8) (n:Int):Bool:=decide (lexC (parts a) (parts b)<0)||(decide (lexC (parts a) (parts b)=0)&&decide (m<n))
def chE (one:Nat->Int) (ord:Nat->Bool) (i:Nat):Int:=if one i=0 then (if 0<i/\ord i=false then 8 else 0) else one i
variable {one:Nat->Int} {ord:Nat->Bool} {i:Nat}
theorem z1u (h:chE one ord i=0):one i=0:=by
 unfold chE at h
 split at h
 ·assumption
 ·exact h
theorem zby:chE one ord i=0↔one i=0/\(0<i->ord i=true):=by
 unfold chE
 by_cases h:one i=0
 ·rw[y6 h]
  by_cases h0:0<i <;> cases ho:ord i <;> simp[h0,h]
 ·rw[y5 h]; simp[h]
def z26 (t:List THe) (f y:Int) (x:TLi):Int:=if leafT t x.B=false then 5 else if inY f y x.J=false then 16 else if amt x.M=false then 2 else 0
def lineE (t:List THe) (f y:Int) (l:List TLi):Nat->Int:=chE (fun i=>z26 t f y (l.getD i dF)) fun i=>ltC (l.getD (i-1) dF).B (l.getD (i-1) dF).J (l.getD i dF).B (l.getD i dF).J
def z15 (t:List THe) (f y:Int) (x:TBo):Int:=if has t x.B=false then 5 else if x.J≠-1/\inY f y x.J=false then 16 else if amt x.M=false then 2 else 0
def boundE (t:List THe) (f y:Int) (l:List TBo):Nat->Int:=chE (fun i=>z15 t f y (l.getD i dF)) fun i=>ltC (l.getD (i-1) dF).B (l.getD (i-1) dF).J (l.getD i dF).B (l.getD i dF).J
def z3x (t:List THe) (x:TEa):Int:=if has t x.N=false\/leafT t x.B=false then 5 else if x.Q<0\/x.Q>100 then 2 else 0
def earE (t:List THe) (l:List TEa):Nat->Int:=chE (fun i=>z3x t (l.getD i dF)) fun i=>ltC (l.getD (i-1) dF).N (lexC (parts (l.getD (i-1) dF).B) (parts (l.getD i dF).B)) (l.getD i dF).N 0
def shSum (l:List TEa) (c:Y8):Int:=l.foldl (fun s x=>if und c x.N=true then i64.wrap (s+x.Q) else s) 0
def shareE (t:List THe) (l:List TEa):Int:=if (leavesU t []).any (fun c=>decide (shSum l c>100))=true then 13 else 0
def condBad (x:TCo):Prop:=(x.C≠1/\x.C≠2)\/(x.C=1/\(x.N≠[]\/x.T≠0))\/(x.C=2/\x.K≠0)
instance (x:TCo):Decidable (condBad x):=inferInstanceAs (Decidable (_\/_))
def z1j (t:List THe) (f y:Int) (x:TCo):Int:=if condBad x then 1 else if leafT t x.B=false\/(x.C=2/\has t x.N=false) then 5 else if inY f y x.J=false then 16 else
 if amt x.M=false\/amt x.T=false\/x.K<0\/x.K>35990 then 2 else 0
def z6v (t:List THe) (x:TRu):Int:=if x.L<1\/x.L>1000000\/x.Q<0\/x.Q>100 then 2 else if has t x.U=false\/has t x.V=false then 5 else 0
def ruleE (t:List THe) (l:List TRu):Nat->Int:=chE (fun i=>z6v t (l.getD i dF)) fun i=>decide ((l.getD (i-1) dF).L<(l.getD i dF).L)
def zx (t:List THe) (f y:Int) (x:TCh):Int:=if x.C<1\/x.C>3 then 1 else if has t x.B=false\/(x.C=1/\leafT t x.B=false) then 5 else
 if inY f y x.J=false/\(x.C=1\/x.J≠-1) then 16 else if amt x.M=false/\(x.C≠2\/x.M≠-1) then 2 else 0
def ltX (a b:TCh):Bool:=decide (a.C<b.C)||(decide (a.C=b.C)&&ltC a.B a.J b.B b.J)
def chgE (t:List THe) (f y:Int) (l:List TCh):Nat->Int:=chE (fun i=>zx t f y (l.getD i dF)) fun i=>ltX (l.getD (i-1) dF) (l.getD i dF)
def ltA (a b:TAm):Bool:=decide (a.K<b.K)||(decide (a.K=b.K)&&decide (a.L<b.L))
def amdE (t:List THe) (f y:Int) (l:List TAm) (i:Nat):Int :=
 if (l.getD i dF).K<0\/(l.getD i dF).K>35990\/(l.getD i dF).L<1\/(l.getD i dF).L>1000000 then 2
 else if 0<i/\ltA (l.getD (i-1) dF) (l.getD i dF)=false then 8 else if (l.getD i dF).D=[] then 1 else fstE (l.getD i dF).D.length (chgE t f y (l.getD i dF).D)
def orE (l:List Int):Int:=match l.find? (· != 0) with
 | some x=>x
 | none=>0
theorem z17 (x:Int) (l:List Int):orE (x :: l)=if x=0 then orE l else x:=by
 unfold orE
 rw[y4u]
 by_cases h:x=0
 ·subst h; simp
 ·have:(x != 0)=true:=by simpa using h
  rw[this,y5 h]
theorem z2g:orE []=0:=rfl
theorem z7d (l:List Int) {body:Nat->Unit->Option (Step Unit Int)} (hs:∀ i,i<l.length->body i ()=some (if (l.getD i dF)=0 then .cont () else .ret (l.getD i dF))) :
  outM (rangeM body l.length 0 ()) (fun _=>some 0) (fun x=>some (id x))=some (orE l):=by
 rw[z8t l (fun x=>x != 0) id fun i hi=>by
  rw[hs i hi]
  by_cases h:l.getD i dF=0 <;> simp]
 unfold orE
 cases l.find? (fun x=>x != 0) <;> rfl
def limB (l:TLa):Prop:=l.P.length>120\/l.R.length>60\/l.S.length>60\/l.F.length>20\/l.I.length>20\/l.O.length>20\/l.A.length>20\/l.A.any (fun a=>decide (a.D.length>20))=true
instance (l:TLa):Decidable (limB l):=inferInstanceAs (Decidable (_\/_))
def yrB (l:TLa):Prop:=l.E<0\/l.E>99\/l.G<1\/l.G>4\/l.E+l.G>100
instance (l:TLa):Decidable (yrB l):=inferInstanceAs (Decidable (_\/_))
def errL (l:TLa):Int:=if yrB l then 2 else if treeE l.H=0 then (if limB l then 3 else
 orE [fstE l.P.length (lineE l.H l.E l.G l.P),fstE l.R.length (boundE l.H l.E l.G l.R),fstE l.S.length (boundE l.H l.E l.G l.S),
  fstE l.F.length (earE l.H l.F),shareE l.H l.F,fstE l.I.length (fun i=>z1j l.H l.E l.G (l.I.getD i dF)),
  fstE l.O.length (ruleE l.H l.O),fstE l.A.length (amdE l.H l.E l.G l.A)]) else treeE l.H
structure SmL (l:TLa):Prop where
 t:SmT l.H
 tl:l.H.length<=1000000
 li:∀ x∈l.P,x.B.length<=1000000
 ll:l.P.length<=1000000
 ce:∀ x∈l.R,x.B.length<=1000000
 cl:l.R.length<=1000000
 fl:∀ x∈l.S,x.B.length<=1000000
 fll:l.S.length<=1000000
 ea:∀ x∈l.F,x.N.length<=1000000/\x.B.length<=1000000
 el:l.F.length<=1000000
 co:∀ x∈l.I,x.N.length<=1000000/\x.B.length<=1000000
 col:l.I.length<=1000000
 rl:l.O.length<=1000000
 am:∀ x∈l.A,x.D.length<=1000000/\∀ c∈x.D,c.B.length<=1000000
 al:l.A.length<=1000000
end Go.Proofs.YtgfgnhpecnmlpaaGreatDoor
/- The reference's checks of a law. No condition. -/
namespace Go.Proofs.YtgfgnhpecnmlpaaGreatDoor
open Go Go.TA
open Go.IntKind (i64)
attribute [-simp] List.getD_eq_getElem?_getD
theorem z18 (n:Int):F_qi n=some (amt n):=by
 simp only[F_qi,S_qi,Scr.den,z8,amt,ge_iff_le]
theorem z2m {a b:Y8} (ha:good a=true) (hb:good b=true) (m n:Int):F_q17 a m b n=some (ltC a m b n):=by
 simp only[F_q17,S_q17,Scr.den,z1e ha hb,obind,z8,zd,ltC]
 congr 2
variable {t:List THe} {c:Y8}
theorem hasGood (ht:treeE t=0) (h:has t c=true):good c=true:=by
 unfold has at h
 obtain⟨x,hx,e⟩:=y1i.1 h
 obtain⟨i,hi,rfl⟩:=z2k hx
 have e:(t.getD i dF).B=c:=by simpa using e
 unfold treeE at ht
 split at ht
 ·cases ht
 ·rw[<- e]; exact z8v (z23.1 ht i hi)
theorem leafGood (h:leafT t c=true):good c=true:=by
 unfold leafT at h
 simp only[y9] at h
 exact h.1.1
theorem wp {i:Nat} (h0:0<i) (h:i<=1000000):i64.wrap ((i:Int)-1)=((i-1:Nat):Int):=by rw[wrapId om om]; omega
variable {f y:Int} {ea:List TEa} {co:List TCo} {ru:List TRu} {ls:List TLi} {ce fl:List TBo} {am:List TAm}
theorem HasA (c:Y8):F_qy f y t ea co ru c ls ce fl am=some (has t c):=by simp only[F_qy,S_qy,Scr.den,z3j,obind]
theorem LeafA (hs:SmT t) (hc:c.length<=1000000):F_qp f y t ea co ru c ls ce fl am=some (leafT t c):=by
 simp only[F_qp,S_qp,Scr.den,z1r (l:=c) om,HasA,obind,zd,leafT]
 by_cases hg:good c=true
 ·by_cases hh:has t c=true
  ·simp[hg,hh,oT,oN]
   rw[z1m t (fun x=>par x.B==c) (fun _=>false) fun i hi=>by
    obtain⟨hc,_⟩:=hs _ (z4 hi)
    simp only[S_qp_b1,Scr.den,z2c hc,obind]
    split <;> rfl]
   by_cases ha:(t.any fun x=>par x.B==c)=true
   ·rw[y6 ha]; simp only[outM]; congr 1; symm; rw[yo]; intro h
    obtain⟨x,hx,e⟩:=y1i.1 ha
    have:=y16.1 h x hx
    simp[e] at this
   ·rw[y5 ha]; simp only[outM]; congr 1; symm; rw[y16]; intro x hx
    have:=fun e=>ha (y1i.2 ⟨x,hx,e⟩)
    simpa using this
  ·simp[hg,hh,oT,oN]
 ·simp[hg,oF]
theorem InA (hy:1<=y) (x:Int):F_q2c f y t ea co ru x ls ce fl am=some (inY f y x):=by
 simp only[F_q2c,S_q2c,Scr.den,z8,inY]
 rw[y17 (show y>0 from om),y1x]
theorem linesA (hs:SmT t) (hy:1<=y) (hc:∀ x∈ls,x.B.length<=1000000) (hl:ls.length<=1000000):F_q18 f y t ea co ru ls ce fl am=some (fstE ls.length (lineE t f y ls)):=by
 simp only[F_q18,S_q18,Scr.den]
 rw[Ga]
 refine zm (lineE t f y ls) fun i hi hz=>?_
 have hci:=hc _ (z4 hi)
 have hi':i-1<ls.length:=om
 simp only[S_q18_b1,Scr.den,y13,LeafA hs hci,InA hy,z18,obind,z8,lineE,chE,z26]
 by_cases hf:leafT t (ls.getD i dF).B=true
 ·have hg:=leafGood hf
  by_cases h0:0<i
  ·have hz':=z1u (hz (i-1) om)
   have hf':leafT t (ls.getD (i-1) dF).B=true:=by
    simp only[z26] at hz'
    split at hz'
    ·cases hz'
    ·rename_i h; simpa using h
   simp only[wp h0 (show i<=1000000 from om),yd,z2m (leafGood hf') hg,hf]
   by_cases h1:inY f y (ls.getD i dF).J=true <;> by_cases h2:amt (ls.getD i dF).M=true <;>
    by_cases h3:ltC (ls.getD (i-1) dF).B (ls.getD (i-1) dF).J (ls.getD i dF).B (ls.getD i dF).J=true <;> simp[h0,hi,hi',h1,h2,h3,AllP,oT,oN,gT]
  ·have h0':i=0:=om
   subst h0'
   by_cases h1:inY f y (ls.getD 0 dF).J=true <;> by_cases h2:amt (ls.getD 0 dF).M=true <;> simp[hf,hi,h1,h2,AllP,oF,gT]
 ·simp[hf,hi,AllP,gT]
theorem boundsAC (ht:treeE t=0) (hy:1<=y) (hl:ce.length<=1000000):F_q19 f y t ea co ru ls ce fl am=some (fstE ce.length (boundE t f y ce)):=by
 simp only[F_q19,S_q19,Scr.den]
 rw[Ga]
 refine zm (boundE t f y ce) fun i hi hz=>?_
 have hi':i-1<ce.length:=om
 simp only[S_q19_b1,Scr.den,y13,HasA,InA hy,z18,obind,z8,boundE,chE,z15]
 by_cases hf:has t (ce.getD i dF).B=true
 ·have hg:=hasGood ht hf
  by_cases h0:0<i
  ·have hz':=z1u (hz (i-1) om)
   have hf':has t (ce.getD (i-1) dF).B=true:=by
    simp only[z15] at hz'
    split at hz'
    ·cases hz'
    ·rename_i h; simpa using h
   simp only[wp h0 (show i<=1000000 from om),yd,z2m (hasGood ht hf') hg,hf]
   by_cases h1:inY f y (ce.getD i dF).J=true <;> by_cases h2:amt (ce.getD i dF).M=true <;> by_cases h4:(ce.getD i dF).J=-1 <;>
    by_cases h3:ltC (ce.getD (i-1) dF).B (ce.getD (i-1) dF).J (ce.getD i dF).B (ce.getD i dF).J=true <;> (try simp only[h4] at h1 h3 |-) <;> simp[h0,hi,hi',h1,h2,h3,h4,AllP,oT,oF,oN,gT]
  ·have h0':i=0:=om
   subst h0'
   by_cases h1:inY f y (ce.getD 0 dF).J=true <;> by_cases h2:amt (ce.getD 0 dF).M=true <;> by_cases h4:(ce.getD 0 dF).J=-1 <;> (try simp only[h4] at h1 |-) <;> simp[hf,hi,h1,h2,h4,AllP,oT,oF,oN,gT]
 ·simp[hf,hi,AllP,gT]
theorem boundsAF (ht:treeE t=0) (hy:1<=y) (hl:fl.length<=1000000):F_q1a f y t ea co ru ls ce fl am=some (fstE fl.length (boundE t f y fl)):=by
 simp only[F_q1a,S_q1a,Scr.den]
 rw[Ga]
 refine zm (boundE t f y fl) fun i hi hz=>?_
 have hi':i-1<fl.length:=om
 simp only[S_q1a_b1,Scr.den,y13,HasA,InA hy,z18,obind,z8,boundE,chE,z15]
 by_cases hf:has t (fl.getD i dF).B=true
 ·have hg:=hasGood ht hf
  by_cases h0:0<i
  ·have hz':=z1u (hz (i-1) om)
   have hf':has t (fl.getD (i-1) dF).B=true:=by
    simp only[z15] at hz'
    split at hz'
    ·cases hz'
    ·rename_i h; simpa using h
   simp only[wp h0 (show i<=1000000 from om),yd,z2m (hasGood ht hf') hg,hf]
   by_cases h1:inY f y (fl.getD i dF).J=true <;> by_cases h2:amt (fl.getD i dF).M=true <;> by_cases h4:(fl.getD i dF).J=-1 <;>
    by_cases h3:ltC (fl.getD (i-1) dF).B (fl.getD (i-1) dF).J (fl.getD i dF).B (fl.getD i dF).J=true <;> (try simp only[h4] at h1 h3 |-) <;> simp[h0,hi,hi',h1,h2,h3,h4,AllP,oT,oF,oN,gT]
  ·have h0':i=0:=om
   subst h0'
   by_cases h1:inY f y (fl.getD 0 dF).J=true <;> by_cases h2:amt (fl.getD 0 dF).M=true <;> by_cases h4:(fl.getD 0 dF).J=-1 <;> (try simp only[h4] at h1 |-) <;> simp[hf,hi,h1,h2,h4,AllP,oT,oF,oN,gT]
 ·simp[hf,hi,AllP,gT]
variable {l:TLa}
theorem HasB (c:Y8):F_qe l c=some (has l.H c):=by simp only[F_qe,S_qe,Scr.den,z3j,obind]
theorem LeafB (hs:SmT l.H) (hc:c.length<=1000000):F_qs l c=some (leafT l.H c):=by
 simp only[F_qs,S_qs,Scr.den,z1r (l:=c) om,HasB,obind,zd,leafT]
 by_cases hg:good c=true
 ·by_cases hh:has l.H c=true
  ·simp[hg,hh,oT,oN]
   rw[z1m l.H (fun x=>par x.B==c) (fun _=>false) fun i hi=>by
    obtain⟨hc,_⟩:=hs _ (z4 hi)
    simp only[S_qs_b1,Scr.den,z2c hc,obind]
    split <;> rfl]
   by_cases ha:(l.H.any fun x=>par x.B==c)=true
   ·rw[y6 ha]; simp only[outM]; congr 1; symm; rw[yo]; intro h
    obtain⟨x,hx,e⟩:=y1i.1 ha
    have:=y16.1 h x hx
    simp[e] at this
   ·rw[y5 ha]; simp only[outM]; congr 1; symm; rw[y16]; intro x hx
    have:=fun e=>ha (y1i.2 ⟨x,hx,e⟩)
    simpa using this
  ·simp[hg,hh,oT,oN]
 ·simp[hg,oF]
theorem InB (hy:1<=l.G) (x:Int):F_q2l l x=some (inY l.E l.G x):=by
 simp only[F_q2l,S_q2l,Scr.den,z8,inY]
 rw[y17 (show l.G>0 from om),y1x]
theorem linesB (hs:SmT l.H) (hy:1<=l.G) (hc:∀ x∈l.P,x.B.length<=1000000) (hl:l.P.length<=1000000):F_q1q l=some (fstE l.P.length (lineE l.H l.E l.G l.P)):=by
 simp only[F_q1q,S_q1q,Scr.den]
 skip
 refine zm (lineE l.H l.E l.G l.P) fun i hi hz=>?_
 have hci:=hc _ (z4 hi)
 have hi':i-1<l.P.length:=om
 simp only[S_q1q_b1,Scr.den,LeafB hs hci,InB hy,z18,obind,z8,lineE,chE,z26]
 by_cases hf:leafT l.H (l.P.getD i dF).B=true
 ·have hg:=leafGood hf
  by_cases h0:0<i
  ·have hz':=z1u (hz (i-1) om)
   have hf':leafT l.H (l.P.getD (i-1) dF).B=true:=by
    simp only[z26] at hz'
    split at hz'
    ·cases hz'
    ·rename_i h; simpa using h
   simp only[wp h0 (show i<=1000000 from om),yd,z2m (leafGood hf') hg,hf]
   by_cases h1:inY l.E l.G (l.P.getD i dF).J=true <;> by_cases h2:amt (l.P.getD i dF).M=true <;>
    by_cases h3:ltC (l.P.getD (i-1) dF).B (l.P.getD (i-1) dF).J (l.P.getD i dF).B (l.P.getD i dF).J=true <;> simp[h0,hi',h1,h2,h3,AllP,oT,oN,gT]
  ·have h0':i=0:=om
   subst h0'
   by_cases h1:inY l.E l.G (l.P.getD 0 dF).J=true <;> by_cases h2:amt (l.P.getD 0 dF).M=true <;> simp[hf,hi,h1,h2,AllP,oF,gT]
 ·simp[hf]
theorem boundsB {b:List TBo} (ht:treeE l.H=0) (hy:1<=l.G) (hl:b.length<=1000000):F_qt l b=some (fstE b.length (boundE l.H l.E l.G b)):=by
 simp only[F_qt,S_qt,Scr.den]
 skip
 refine zm (boundE l.H l.E l.G b) fun i hi hz=>?_
 have hi':i-1<b.length:=om
 simp only[S_qt_b1,Scr.den,HasB,InB hy,z18,obind,z8,boundE,chE,z15]
 by_cases hf:has l.H (b.getD i dF).B=true
 ·have hg:=hasGood ht hf
  by_cases h0:0<i
  ·have hz':=z1u (hz (i-1) om)
   have hf':has l.H (b.getD (i-1) dF).B=true:=by
    simp only[z15] at hz'
    split at hz'
    ·cases hz'
    ·rename_i h; simpa using h
   simp only[wp h0 (show i<=1000000 from om),yd,z2m (hasGood ht hf') hg,hf]
   by_cases h1:inY l.E l.G (b.getD i dF).J=true <;> by_cases h2:amt (b.getD i dF).M=true <;> by_cases h4:(b.getD i dF).J=-1 <;>
    by_cases h3:ltC (b.getD (i-1) dF).B (b.getD (i-1) dF).J (b.getD i dF).B (b.getD i dF).J=true <;> (try simp only[h4] at h1 h3 |-) <;> simp[h0,hi',h1,h2,h3,h4,AllP,oT,oF,oN,gT]
  ·have h0':i=0:=om
   subst h0'
   by_cases h1:inY l.E l.G (b.getD 0 dF).J=true <;> by_cases h2:amt (b.getD 0 dF).M=true <;> by_cases h4:(b.getD 0 dF).J=-1 <;> (try simp only[h4] at h1 |-) <;> simp[hf,hi,h1,h2,h4,AllP,oT,oF,oN,gT]
 ·simp[hf]
end Go.Proofs.YtgfgnhpecnmlpaaGreatDoor
/- The reference's Valid. No condition. -/
namespace Go.Proofs.YtgfgnhpecnmlpaaGreatDoor
open Go Go.TA
open Go.IntKind (i64)
attribute [-simp] List.getD_eq_getElem?_getD
theorem z87 (l:List TEa) (c:Y8):shSum l c=l.foldl (fun s x=>if und c x.N=true then i64.wrap (s+x.Q) else s) 0:=rfl
theorem ordB (u v:Int):(decide (u>0)||u==0&&decide (v>=0))=!(decide (u<0)||decide (u=0)&&decide (v<0)):=by
 rw[y1f]
 simp only[yg,y9,y7,yx,y25,y26,y2s,y1h]
 omega
variable {f y:Int} {t:List THe} {ea:List TEa} {co:List TCo} {ru:List TRu} {ls:List TLi} {ce fl:List TBo} {am:List TAm}
theorem earsA (hs:SmT t) (ht:treeE t=0) (htl:t.length<=1000000) (hc:∀ x∈ea,x.N.length<=1000000/\x.B.length<=1000000) (hl:ea.length<=1000000) :
  F_q5 f y t ea co ru ls ce fl am=some (orE [fstE ea.length (earE t ea),shareE t ea]):=by
 simp only[F_q5,S_q5,Scr.den]
 rw[z3h (earE t ea) (earE t ea) fun i hi hz=>by
  have hi':i-1<ea.length:=om
  obtain⟨hcs,hci⟩:=hc _ (z4 hi)
  simp only[S_q5_b1,Scr.den,HasA,LeafA hs hci,obind,z8,zd,earE,chE,z3x]
  by_cases hf:has t (ea.getD i dF).N=true <;> by_cases hf2:leafT t (ea.getD i dF).B=true
  ·have hg:=hasGood ht hf
   have hg2:=leafGood hf2
   by_cases h0:0<i
   ·have hz':=z1u (hz (i-1) om)
    have hf':has t (ea.getD (i-1) dF).N=true/\leafT t (ea.getD (i-1) dF).B=true:=by
     simp only[z3x] at hz'
     split at hz'
     ·cases hz'
     ·rename_i h; simp only[not_or,y38] at h; exact h
    simp only[wp h0 (show i<=1000000 from om),yd,z1e (hasGood ht hf'.1) hg,z1e (leafGood hf'.2) hg2,hf,hf2,obind,ltC,ordB]
    by_cases h1:(ea.getD i dF).Q<0 <;> by_cases h2:(ea.getD i dF).Q>100 <;>
     by_cases h3:(decide (lexC (parts (ea.getD (i-1) dF).N) (parts (ea.getD i dF).N)<0)||decide (lexC (parts (ea.getD (i-1) dF).N) (parts (ea.getD i dF).N)=0)&&decide (lexC (parts (ea.getD (i-1) dF).B) (parts (ea.getD i dF).B)<0))=true <;> (try rw[y4k] at h3) <;> simp only[h3] <;> simp[h0,hi',h1,h2,AllP,oT,oN,gT]
   ·have h0':i=0:=om
    subst h0'
    by_cases h1:(ea.getD 0 dF).Q<0 <;> by_cases h2:(ea.getD 0 dF).Q>100 <;> simp[hf,hf2,h1,h2,oT,oN]
  all_goals simp[hf,hf2,AllP,oT,oF,oN]]
 have hsh:(outM (F_q3 t [] >>= fun rv6=>rangeM (fun i s=>(S_q5_b3 ea rv6 i s).den) rv6.length 0 ()) (fun _=>some 0) (fun x=>some (id x)))=some (shareE t ea):=by
  rw[z1n hs htl sj]
  show outM (rangeM (fun i s=>(S_q5_b3 ea (leavesU t []) i s).den) (leavesU t []).length 0 ()) _ _=_
  rw[z1m (leavesU t []) (fun c=>decide (shSum ea c>100)) (fun _=>13) fun i hi=>by
   have hlen:((leavesU t []).getD i dF).length<=1000000:=by
    have:=z4d.1 (z4 hi)
    have:=z34 (leafGood this)
    omega
   simp only[S_q5_b3,Scr.den]
   rw[z1q ea (fun s x=>if und ((leavesU t []).getD i dF) x.N=true then i64.wrap (s+x.Q) else s) fun j s hj=>by
    obtain⟨hcs,_⟩:=hc _ (z4 hj)
    simp only[S_q5_b2,Scr.den,z3i hlen hcs,obind]
    split <;> rfl]
   simp only[outM,<- z87]
   by_cases h:shSum ea ((leavesU t []).getD i dF)>100 <;> simp[h]]
  unfold shareE
  split <;> rfl
 rw[z17,z17,z2g]
 unfold fstE
 split
 ·rename_i j hj
  have:=List.find?_some hj
  have hne:earE t ea j≠0:=by simpa using this
  rw[y5 hne]
  rfl
 ·simp only[outM,y2p]
  simp only[z1n (top:=[]) hs htl sj,obind] at hsh |-
  have e:(if shareE t ea=0 then (0:Int) else shareE t ea)=shareE t ea:=by split <;> simp_all
  rw[e]
  exact hsh
theorem condsA (hs:SmT t) (hy:1<=y) (hc:∀ x∈co,x.N.length<=1000000/\x.B.length<=1000000) (_hl:co.length<=1000000) :
  F_q1b f y t ea co ru ls ce fl am=some (fstE co.length fun i=>z1j t f y (co.getD i dF)):=by
 simp only[F_q1b,S_q1b,Scr.den]
 refine zm (fun i=>z1j t f y (co.getD i dF)) fun i hi hz=>?_
 obtain⟨hcs,hci⟩:=hc _ (z4 hi)
 simp only[S_q1b_b1,Scr.den,HasA,LeafA hs hci,InA hy,z18,obind,z8,zd,z1j]
 generalize co.getD i dF=x
 have hb:(!(x.C==1)&&!(x.C==2)||x.C==1&&(!(x.N==[])||x.T != 0)||x.C==2&&x.K != 0)=decide (condBad x):=by
  rw[y1f,y2z]
  unfold condBad
  simp[or_assoc]
 rw[hb]
 by_cases h1:condBad x
 ·simp[h1]
 ·by_cases h2:leafT t x.B=true <;> by_cases h3:has t x.N=true <;> by_cases h4:x.C=2 <;> by_cases h5:inY f y x.J=true <;> by_cases h6:amt x.M=true <;> by_cases h7:amt x.T=true <;>
   simp[h1,h2,h3,h4,h5,h6,h7,oT,oF,oN] <;> (split <;> simp_all <;> omega)
theorem rulesA (hl:ru.length<=1000000):F_q1c f y t ea co ru ls ce fl am=some (fstE ru.length (ruleE t ru)):=by
 simp only[F_q1c,S_q1c,Scr.den]
 refine zm (ruleE t ru) fun i hi hz=>?_
 have hi':i-1<ru.length:=om
 simp only[S_q1c_b1,Scr.den,HasA,obind,z8,zd,ruleE,chE,z6v]
 by_cases h0:0<i
 ·simp only[wp h0 (show i<=1000000 from om),yd]
  by_cases h1:has t (ru.getD i dF).U=true <;> by_cases h2:has t (ru.getD i dF).V=true <;> by_cases h3:(ru.getD (i-1) dF).L>=(ru.getD i dF).L <;>
   by_cases h4:(ru.getD i dF).L<1\/(ru.getD i dF).L>1000000\/(ru.getD i dF).Q<0\/(ru.getD i dF).Q>100 <;>
   simp[h0,hi',h1,h2,h3,h4,or_assoc,AllP,oT,oF,oN,gT] <;> omega
 ·have h0':i=0:=om
  subst h0'
  by_cases h1:has t (ru.getD 0 dF).U=true <;> by_cases h2:has t (ru.getD 0 dF).V=true <;>
   by_cases h4:(ru.getD 0 dF).L<1\/(ru.getD 0 dF).L>1000000\/(ru.getD 0 dF).Q<0\/(ru.getD 0 dF).Q>100 <;>
   simp[h1,h2,h4,or_assoc,AllP,oT,oF,oN,gT]
variable {l:TLa}
theorem earsB (hs:SmT l.H) (ht:treeE l.H=0) (htl:l.H.length<=1000000) (hc:∀ x∈l.F,x.N.length<=1000000/\x.B.length<=1000000) (hl:l.F.length<=1000000) :
  F_q6 l=some (orE [fstE l.F.length (earE l.H l.F),shareE l.H l.F]):=by
 simp only[F_q6,S_q6,Scr.den]
 rw[z3h (earE l.H l.F) (earE l.H l.F) fun i hi hz=>by
  have hi':i-1<l.F.length:=om
  obtain⟨hcs,hci⟩:=hc _ (z4 hi)
  simp only[S_q6_b1,Scr.den,HasB,LeafB hs hci,obind,z8,zd,earE,chE,z3x]
  by_cases hf:has l.H (l.F.getD i dF).N=true <;> by_cases hf2:leafT l.H (l.F.getD i dF).B=true
  ·have hg:=hasGood ht hf
   have hg2:=leafGood hf2
   by_cases h0:0<i
   ·have hz':=z1u (hz (i-1) om)
    have hf':has l.H (l.F.getD (i-1) dF).N=true/\leafT l.H (l.F.getD (i-1) dF).B=true:=by
     simp only[z3x] at hz'
     split at hz'
     ·cases hz'
     ·rename_i h; simp only[not_or,y38] at h; exact h
    simp only[wp h0 (show i<=1000000 from om),yd,z1e (hasGood ht hf'.1) hg,z1e (leafGood hf'.2) hg2,hf,hf2,obind,ltC,ordB]
    by_cases h1:(l.F.getD i dF).Q<0 <;> by_cases h2:(l.F.getD i dF).Q>100 <;>
     by_cases h3:(decide (lexC (parts (l.F.getD (i-1) dF).N) (parts (l.F.getD i dF).N)<0)||decide (lexC (parts (l.F.getD (i-1) dF).N) (parts (l.F.getD i dF).N)=0)&&decide (lexC (parts (l.F.getD (i-1) dF).B) (parts (l.F.getD i dF).B)<0))=true <;> (try rw[y4k] at h3) <;> simp only[h3] <;> simp[h0,hi',h1,h2,AllP,oT,oN,gT]
   ·have h0':i=0:=om
    subst h0'
    by_cases h1:(l.F.getD 0 dF).Q<0 <;> by_cases h2:(l.F.getD 0 dF).Q>100 <;> simp[hf,hf2,h1,h2,oT,oN]
  all_goals simp[hf,hf2,AllP,oT,oF,oN]]
 have hsh:(outM (F_q3 l.H [] >>= fun rv6=>rangeM (fun i s=>(S_q6_b3 l rv6 i s).den) rv6.length 0 ()) (fun _=>some 0) (fun x=>some (id x)))=some (shareE l.H l.F):=by
  rw[z1n hs htl sj]
  show outM (rangeM (fun i s=>(S_q6_b3 l (leavesU l.H []) i s).den) (leavesU l.H []).length 0 ()) _ _=_
  rw[z1m (leavesU l.H []) (fun c=>decide (shSum l.F c>100)) (fun _=>13) fun i hi=>by
   have hlen:((leavesU l.H []).getD i dF).length<=1000000:=by
    have:=z4d.1 (z4 hi)
    have:=z34 (leafGood this)
    omega
   simp only[S_q6_b3,Scr.den]
   rw[z1q l.F (fun s x=>if und ((leavesU l.H []).getD i dF) x.N=true then i64.wrap (s+x.Q) else s) fun j s hj=>by
    obtain⟨hcs,_⟩:=hc _ (z4 hj)
    simp only[S_q6_b2,Scr.den,z3i hlen hcs,obind]
    split <;> rfl]
   simp only[outM,<- z87]
   by_cases h:shSum l.F ((leavesU l.H []).getD i dF)>100 <;> simp[h]]
  unfold shareE
  split <;> rfl
 rw[z17,z17,z2g]
 unfold fstE
 split
 ·rename_i j hj
  have:=List.find?_some hj
  have hne:earE l.H l.F j≠0:=by simpa using this
  rw[y5 hne]
  rfl
 ·simp only[outM,y2p]
  simp only[z1n (top:=[]) hs htl sj,obind] at hsh |-
  have e:(if shareE l.H l.F=0 then (0:Int) else shareE l.H l.F)=shareE l.H l.F:=by split <;> simp_all
  rw[e]
  exact hsh
theorem condsB (hs:SmT l.H) (hy:1<=l.G) (hc:∀ x∈l.I,x.N.length<=1000000/\x.B.length<=1000000) (_hl:l.I.length<=1000000) :
  F_q1r l=some (fstE l.I.length fun i=>z1j l.H l.E l.G (l.I.getD i dF)):=by
 simp only[F_q1r,S_q1r,Scr.den]
 refine zm (fun i=>z1j l.H l.E l.G (l.I.getD i dF)) fun i hi hz=>?_
 obtain⟨hcs,hci⟩:=hc _ (z4 hi)
 simp only[S_q1r_b1,Scr.den,HasB,LeafB hs hci,InB hy,z18,obind,z8,zd,z1j]
 generalize l.I.getD i dF=x
 have hb:(!(x.C==1)&&!(x.C==2)||x.C==1&&(!(x.N==[])||x.T != 0)||x.C==2&&x.K != 0)=decide (condBad x):=by
  rw[y1f,y2z]
  unfold condBad
  simp[or_assoc]
 rw[hb]
 by_cases h1:condBad x
 ·simp[h1]
 ·by_cases h2:leafT l.H x.B=true <;> by_cases h3:has l.H x.N=true <;> by_cases h4:x.C=2 <;> by_cases h5:inY l.E l.G x.J=true <;> by_cases h6:amt x.M=true <;> by_cases h7:amt x.T=true <;>
   simp[h1,h2,h3,h4,h5,h6,h7,oT,oF,oN] <;> (split <;> simp_all <;> omega)
theorem rulesB (hl:l.O.length<=1000000):F_q1s l=some (fstE l.O.length (ruleE l.H l.O)):=by
 simp only[F_q1s,S_q1s,Scr.den]
 refine zm (ruleE l.H l.O) fun i hi hz=>?_
 have hi':i-1<l.O.length:=om
 simp only[S_q1s_b1,Scr.den,HasB,obind,z8,zd,ruleE,chE,z6v]
 by_cases h0:0<i
 ·simp only[wp h0 (show i<=1000000 from om),yd]
  by_cases h1:has l.H (l.O.getD i dF).U=true <;> by_cases h2:has l.H (l.O.getD i dF).V=true <;> by_cases h3:(l.O.getD (i-1) dF).L>=(l.O.getD i dF).L <;>
   by_cases h4:(l.O.getD i dF).L<1\/(l.O.getD i dF).L>1000000\/(l.O.getD i dF).Q<0\/(l.O.getD i dF).Q>100 <;>
   simp[h0,hi',h1,h2,h3,h4,or_assoc,AllP,oT,oF,oN,gT] <;> omega
 ·have h0':i=0:=om
  subst h0'
  by_cases h1:has l.H (l.O.getD 0 dF).U=true <;> by_cases h2:has l.H (l.O.getD 0 dF).V=true <;>
   by_cases h4:(l.O.getD 0 dF).L<1\/(l.O.getD 0 dF).L>1000000\/(l.O.getD 0 dF).Q<0\/(l.O.getD 0 dF).Q>100 <;>
   simp[h1,h2,h4,or_assoc,AllP,oT,oF,oN,gT]
end Go.Proofs.YtgfgnhpecnmlpaaGreatDoor
/- The reference's Valid. No condition. -/
namespace Go.Proofs.YtgfgnhpecnmlpaaGreatDoor
open Go Go.TA
open Go.IntKind (i64)
attribute [-simp] List.getD_eq_getElem?_getD
theorem z1x {one:Nat->Int} {ord:Nat->Bool} {i:Nat} {X:Option (Step Unit Int)} (h1:one i≠0->X=some (.ret (one i))) (h2:one i=0->X=some (if 0<i/\ord i=false then .ret 8 else .cont ())) :
  X=some (if chE one ord i=0 then .cont () else .ret (chE one ord i)):=by
 unfold chE
 by_cases h:one i=0
 ·rw[h2 h,y6 h]
  by_cases h':0<i/\ord i=false
  ·rw[y6 h',y6 h',y5 dk]
  ·rw[y5 h',y5 h',y6 rfl]
 ·rw[h1 h,y5 h,y5 h]
variable {b:List TCh}
theorem chgsA {f y:Int} {t:List THe} {ea:List TEa} {co:List TCo} {ru:List TRu} {ls:List TLi} {ce fl:List TBo} {am:List TAm} (hs:SmT t) (ht:treeE t=0) (hy:1<=y) (hc:∀ x∈b,x.B.length<=1000000) (hl:b.length<=1000000) :
  F_q1y f y t ea co ru b ls ce fl am=some (fstE b.length (chgE t f y b)):=by
 simp only[F_q1y,S_q1y,Scr.den]
 refine zm (chgE t f y b) fun i hi hz=>?_
 have hci:=hc _ (z4 hi)
 have hi':i-1<b.length:=om
 simp only[S_q1y_b1,Scr.den,HasA,LeafA hs hci,InA hy,z18,obind,z8,zd]
 unfold chgE
 by_cases p1:(b.getD i dF).C<1\/(b.getD i dF).C>3
 ·refine z1x (fun _=>by simp[zx,p1]) (fun h=>by simp[zx,p1] at h)
 have k1:¬ (b.getD i dF).C<1:=fun h=>p1 (.inl h)
 have k2:¬ (b.getD i dF).C>3:=fun h=>p1 (.inr h)
 by_cases p2:has t (b.getD i dF).B=false\/((b.getD i dF).C=1/\leafT t (b.getD i dF).B=false)
 ·refine z1x (fun _=>?_) (fun h=>by simp[zx,p1,p2] at h)
  simp only[zx,y5 p1,y6 p2]
  rcases p2 with h | ⟨h,h'⟩
  ·simp[k1,k2,h]
   by_cases h4:(b.getD i dF).C=1 <;> simp[h4,oT,oF]
  ·by_cases hh:has t (b.getD i dF).B=true <;> simp[h,h',hh,oT,oF,oN]
 have hf:has t (b.getD i dF).B=true:=by
  cases h:has t (b.getD i dF).B
  ·exact absurd (.inl h) p2
  ·rfl
 have hlf:(b.getD i dF).C=1->leafT t (b.getD i dF).B=true:=fun e=>by
  cases h:leafT t (b.getD i dF).B
  ·exact absurd (.inr ⟨e,h⟩) p2
  ·rfl
 have e2:(optD [((b.getD i dF).C==1)=true,(!true)=false] (some (leafT t (b.getD i dF).B)) dF)=some (if (b.getD i dF).C=1 then true else dF):=by
  by_cases h4:(b.getD i dF).C=1 <;> simp[h4,oT,oF,oN,hlf]
 have e3:(!inY f y (b.getD i dF).J&&((b.getD i dF).C==1||(b.getD i dF).J != -1))=decide (inY f y (b.getD i dF).J=false/\((b.getD i dF).C=1\/(b.getD i dF).J≠-1)):=by
  rw[y1f,y2z]; simp
 have e4:(!amt (b.getD i dF).M&&((b.getD i dF).C != 2||(b.getD i dF).M != -1))=decide (amt (b.getD i dF).M=false/\((b.getD i dF).C≠2\/(b.getD i dF).M≠-1)):=by
  rw[y1f,y2z]; simp
 have e1:(decide ((b.getD i dF).C<1)||decide ((b.getD i dF).C>3))=false:=by simp[k1]; omega
 simp only[hf,e1,e2,e3,e4,obind,y1g,y1y]
 have e5:(!true||(b.getD i dF).C==1&&!(if (b.getD i dF).C=1 then true else dF))=false:=by
  by_cases h4:(b.getD i dF).C=1 <;> simp[h4]
 simp only[e5,y1g,y1y]
 by_cases p3:inY f y (b.getD i dF).J=false/\((b.getD i dF).C=1\/(b.getD i dF).J≠-1)
 ·refine z1x (fun _=>?_) (fun h=>by simp only[zx,y5 p1,y5 p2,y6 p3] at h; cases h)
  simp only[zx,y5 p1,y5 p2,y6 p3,y17 p3,y2p]
 by_cases p4:amt (b.getD i dF).M=false/\((b.getD i dF).C≠2\/(b.getD i dF).M≠-1)
 ·refine z1x (fun _=>?_) (fun h=>by simp only[zx,y5 p1,y5 p2,y5 p3,y6 p4] at h; cases h)
  simp only[zx,y5 p1,y5 p2,y5 p3,y6 p4,y17 p4,y28 p3,y2p,y1g,y1y]
 refine z1x (fun h=>by simp only[zx,y5 p1,y5 p2,y5 p3,y5 p4] at h; exact absurd rfl h) (fun _=>?_)
 simp only[y28 p4,y28 p3,y1g,y1y]
 have hg:=hasGood ht hf
 by_cases h0:0<i
 ·have hz':=z1u (hz (i-1) om)
  have hf':has t (b.getD (i-1) dF).B=true:=by
   simp only[zx] at hz'
   split at hz'
   ·cases hz'
   ·split at hz'
    ·cases hz'
    ·rename_i h; simp only[not_or,y38] at h; exact h.1
  simp only[wp h0 (show i<=1000000 from om),yd,z2m (hasGood ht hf') hg,ltX]
  rcases y4a (b.getD (i-1) dF).C (b.getD i dF).C with hh | hh | hh
  ·have a1:¬ (b.getD (i-1) dF).C>(b.getD i dF).C:=om
   have a2:¬ (b.getD (i-1) dF).C=(b.getD i dF).C:=om
   simp[h0,hi',hh,a1,a2,AllP,oF,gT]
  ·by_cases hq:ltC (b.getD (i-1) dF).B (b.getD (i-1) dF).J (b.getD i dF).B (b.getD i dF).J=true <;> simp[h0,hi',hh,hq,AllP,oT,oN,gT]
  ·have a1:¬ (b.getD (i-1) dF).C<(b.getD i dF).C:=om
   have a2:¬ (b.getD (i-1) dF).C=(b.getD i dF).C:=om
   simp[h0,hi',hh,a1,a2,AllP,oF,gT]
 ·have h0':i=0:=om
  subst h0'
  simp[AllP,gT]
  by_cases hh:(b.getD (i64.wrap (-1)).toNat dF).C=(b.getD 0 dF).C <;> simp[hh,oT,oF]
theorem chgsB {l:TLa} (hs:SmT l.H) (ht:treeE l.H=0) (hy:1<=l.G) (hc:∀ x∈b,x.B.length<=1000000) (hl:b.length<=1000000) :
  F_q28 l b=some (fstE b.length (chgE l.H l.E l.G b)):=by
 simp only[F_q28,S_q28,Scr.den]
 refine zm (chgE l.H l.E l.G b) fun i hi hz=>?_
 have hci:=hc _ (z4 hi)
 have hi':i-1<b.length:=om
 simp only[S_q28_b1,Scr.den,HasB,LeafB hs hci,InB hy,z18,obind,z8,zd]
 unfold chgE
 by_cases p1:(b.getD i dF).C<1\/(b.getD i dF).C>3
 ·refine z1x (fun _=>by simp[zx,p1]) (fun h=>by simp[zx,p1] at h)
 have k1:¬ (b.getD i dF).C<1:=fun h=>p1 (.inl h)
 have k2:¬ (b.getD i dF).C>3:=fun h=>p1 (.inr h)
 by_cases p2:has l.H (b.getD i dF).B=false\/((b.getD i dF).C=1/\leafT l.H (b.getD i dF).B=false)
 ·refine z1x (fun _=>?_) (fun h=>by simp[zx,p1,p2] at h)
  simp only[zx,y5 p1,y6 p2]
  rcases p2 with h | ⟨h,h'⟩
  ·simp[k1,k2,h]
   by_cases h4:(b.getD i dF).C=1 <;> simp[h4,oT,oF]
  ·by_cases hh:has l.H (b.getD i dF).B=true <;> simp[h,h',hh,oT,oF,oN]
 have hf:has l.H (b.getD i dF).B=true:=by
  cases h:has l.H (b.getD i dF).B
  ·exact absurd (.inl h) p2
  ·rfl
 have hlf:(b.getD i dF).C=1->leafT l.H (b.getD i dF).B=true:=fun e=>by
  cases h:leafT l.H (b.getD i dF).B
  ·exact absurd (.inr ⟨e,h⟩) p2
  ·rfl
 have e2:(optD [((b.getD i dF).C==1)=true,(!true)=false] (some (leafT l.H (b.getD i dF).B)) dF)=some (if (b.getD i dF).C=1 then true else dF):=by
  by_cases h4:(b.getD i dF).C=1 <;> simp[h4,oT,oF,oN,hlf]
 have e3:(!inY l.E l.G (b.getD i dF).J&&((b.getD i dF).C==1||(b.getD i dF).J != -1))=decide (inY l.E l.G (b.getD i dF).J=false/\((b.getD i dF).C=1\/(b.getD i dF).J≠-1)):=by
  rw[y1f,y2z]; simp
 have e4:(!amt (b.getD i dF).M&&((b.getD i dF).C != 2||(b.getD i dF).M != -1))=decide (amt (b.getD i dF).M=false/\((b.getD i dF).C≠2\/(b.getD i dF).M≠-1)):=by
  rw[y1f,y2z]; simp
 have e1:(decide ((b.getD i dF).C<1)||decide ((b.getD i dF).C>3))=false:=by simp[k1]; omega
 simp only[hf,e1,e2,e3,e4,obind,y1g,y1y]
 have e5:(!true||(b.getD i dF).C==1&&!(if (b.getD i dF).C=1 then true else dF))=false:=by
  by_cases h4:(b.getD i dF).C=1 <;> simp[h4]
 simp only[e5,y1g,y1y]
 by_cases p3:inY l.E l.G (b.getD i dF).J=false/\((b.getD i dF).C=1\/(b.getD i dF).J≠-1)
 ·refine z1x (fun _=>?_) (fun h=>by simp only[zx,y5 p1,y5 p2,y6 p3] at h; cases h)
  simp only[zx,y5 p1,y5 p2,y6 p3,y17 p3,y2p]
 by_cases p4:amt (b.getD i dF).M=false/\((b.getD i dF).C≠2\/(b.getD i dF).M≠-1)
 ·refine z1x (fun _=>?_) (fun h=>by simp only[zx,y5 p1,y5 p2,y5 p3,y6 p4] at h; cases h)
  simp only[zx,y5 p1,y5 p2,y5 p3,y6 p4,y17 p4,y28 p3,y2p,y1g,y1y]
 refine z1x (fun h=>by simp only[zx,y5 p1,y5 p2,y5 p3,y5 p4] at h; exact absurd rfl h) (fun _=>?_)
 simp only[y28 p4,y28 p3,y1g,y1y]
 have hg:=hasGood ht hf
 by_cases h0:0<i
 ·have hz':=z1u (hz (i-1) om)
  have hf':has l.H (b.getD (i-1) dF).B=true:=by
   simp only[zx] at hz'
   split at hz'
   ·cases hz'
   ·split at hz'
    ·cases hz'
    ·rename_i h; simp only[not_or,y38] at h; exact h.1
  simp only[wp h0 (show i<=1000000 from om),yd,z2m (hasGood ht hf') hg,ltX]
  rcases y4a (b.getD (i-1) dF).C (b.getD i dF).C with hh | hh | hh
  ·have a1:¬ (b.getD (i-1) dF).C>(b.getD i dF).C:=om
   have a2:¬ (b.getD (i-1) dF).C=(b.getD i dF).C:=om
   simp[h0,hi',hh,a1,a2,AllP,oF,gT]
  ·by_cases hq:ltC (b.getD (i-1) dF).B (b.getD (i-1) dF).J (b.getD i dF).B (b.getD i dF).J=true <;> simp[h0,hi',hh,hq,AllP,oT,oN,gT]
  ·have a1:¬ (b.getD (i-1) dF).C<(b.getD i dF).C:=om
   have a2:¬ (b.getD (i-1) dF).C=(b.getD i dF).C:=om
   simp[h0,hi',hh,a1,a2,AllP,oF,gT]
 ·have h0':i=0:=om
  subst h0'
  simp[AllP,gT]
  by_cases hh:(b.getD (i64.wrap (-1)).toNat dF).C=(b.getD 0 dF).C <;> simp[hh,oT,oF]
end Go.Proofs.YtgfgnhpecnmlpaaGreatDoor
/- The reference's Valid. No condition. -/
namespace Go.Proofs.YtgfgnhpecnmlpaaGreatDoor
open Go Go.TA
open Go.IntKind (i64)
attribute [-simp] List.getD_eq_getElem?_getD
theorem z7e (l:List Int) (i:Nat):(if (l.getD i dF != 0)=true then some (.ret (l.getD i dF)) else some (.cont ()):Option (Step Unit Int))=some (if l.getD i dF=0 then .cont () else .ret (l.getD i dF)):=by
 generalize l.getD i dF=v
 by_cases h:v=0 <;> simp[h]
variable {f y:Int} {t:List THe} {ea:List TEa} {co:List TCo} {ru:List TRu} {ls:List TLi} {ce fl:List TBo} {am:List TAm}
theorem amdsA (hs:SmT t) (ht:treeE t=0) (hy:1<=y) (hc:∀ x∈am,x.D.length<=1000000/\∀ c∈x.D,c.B.length<=1000000) (hl:am.length<=1000000) :
  F_q1d f y t ea co ru ls ce fl am=some (fstE am.length (amdE t f y am)):=by
 simp only[F_q1d,S_q1d,Scr.den]
 rw[Ga]
 refine zm (amdE t f y am) fun i hi hz=>?_
 obtain⟨hcl,hcc⟩:=hc _ (z4 hi)
 have hi':i-1<am.length:=om
 simp only[S_q1d_b1,Scr.den,y13,chgsA hs ht hy hcc hcl,obind,z8,zd,amdE]
 rw[z3 ⟨hi,trivial⟩]
 by_cases p1:(am.getD i dF).K<0\/(am.getD i dF).K>35990\/(am.getD i dF).L<1\/(am.getD i dF).L>1000000
 ·simp only[y6 p1]
  rw[y6 (by simp only[yg,y7]; omega)]
  rfl
 simp only[y5 p1]
 rw[y5 (by simp only[yg,y7]; omega)]
 have he:(am.getD i dF).D=[]↔((((am.getD i dF).D).length:Int)==0)=true:=by
  rw[yx,<- y23]; omega
 have hfin:(if ((((am.getD i dF).D).length:Int)==0)=true then some (Step.ret 1) else if (fstE (am.getD i dF).D.length (chgE t f y (am.getD i dF).D) != 0)=true then
   some (Step.ret (fstE (am.getD i dF).D.length (chgE t f y (am.getD i dF).D))) else some (Step.cont ()):Option (Step Unit Int)) =
   some (if (if (am.getD i dF).D=[] then 1 else fstE (am.getD i dF).D.length (chgE t f y (am.getD i dF).D))=0 then Step.cont () else
    Step.ret (if (am.getD i dF).D=[] then 1 else fstE (am.getD i dF).D.length (chgE t f y (am.getD i dF).D))):=by
  by_cases h:(am.getD i dF).D=[]
  ·rw[y6 (he.1 h)]; simp only[y6 h]; rfl
  ·rw[y5 (fun h'=>h (he.2 h'))]; simp only[y5 h]
   by_cases h0:fstE (am.getD i dF).D.length (chgE t f y (am.getD i dF).D)=0
   ·simp[h0]
   ·simp[h0]
 by_cases h0:0<i
 ·simp only[wp h0 (show i<=1000000 from om),yd,ltA]
  rcases y4a (am.getD (i-1) dF).K (am.getD i dF).K with hh | hh | hh
  ·have a1:¬ (am.getD (i-1) dF).K>(am.getD i dF).K:=om
   have a2:¬ (am.getD (i-1) dF).K=(am.getD i dF).K:=om
   rw[z3 (by simp[h0,hi',a1,a2,AllP])]
   rw[y5 (by simp[a1,a2])]
   simp only[hh,y3s,Bool.true_or,y30,y56,y1y]
   exact hfin
  ·have a1:¬ (am.getD (i-1) dF).K>(am.getD i dF).K:=om
   have a3:¬ (am.getD (i-1) dF).K<(am.getD i dF).K:=om
   rw[z3 (by simp[h0,hi',hh,AllP])]
   by_cases hn:(am.getD (i-1) dF).L<(am.getD i dF).L
   ·rw[y5 (by simp only[y9,yg,y7,yx]; omega)]
    simp only[hh,hn,y3s,y4f,Bool.or_true,y30,y56,y1y]
    exact hfin
   ·rw[y6 (by simp only[y9,yg,y7,yx]; omega)]
    have:(decide ((am.getD (i-1) dF).K<(am.getD i dF).K)||decide ((am.getD (i-1) dF).K=(am.getD i dF).K)&&decide ((am.getD (i-1) dF).L<(am.getD i dF).L))=false:=by
     rw[yo]; simp only[ne_eq,y9,yg,y7]; omega
    simp only[this,h0,and_self,y2p]
    rfl
  ·have a1:¬ (am.getD (i-1) dF).K<(am.getD i dF).K:=om
   have a2:¬ (am.getD (i-1) dF).K=(am.getD i dF).K:=om
   rw[z3 (by simp[h0,hi',hh,a2,AllP])]
   rw[y6 (by simp only[y9,yg,y7,yx]; omega)]
   have:(decide ((am.getD (i-1) dF).K<(am.getD i dF).K)||decide ((am.getD (i-1) dF).K=(am.getD i dF).K)&&decide ((am.getD (i-1) dF).L<(am.getD i dF).L))=false:=by
    rw[yo]; simp only[ne_eq,y9,yg,y7]; omega
   simp only[this,h0,and_self,y2p]
   rfl
 ·have h0':i=0:=om
  subst h0'
  rw[z3 (by simp[AllP])]
  rw[y5 sj]
  simp only[Nat.lt_irrefl,false_and,y1y]
  exact hfin
theorem limsA (hl:am.length<=1000000):F_q16 f y t ea co ru ls ce fl am=some (if limB (⟨f,y,t,ls,ce,fl,ea,co,ru,am⟩:TLa) then 3 else 0):=by
 simp only[F_q16,S_q16,Scr.den,zd]
 by_cases h:ls.length>120\/ce.length>60\/fl.length>60\/ea.length>20\/co.length>20\/ru.length>20\/am.length>20
 ·rw[y6 (by simp only[yg,y7]; omega),y6 (by rcases h with h | h | h | h | h | h | h <;> simp[limB,h])]
 ·rw[y5 (by simp only[yg,y7]; omega)]
  rw[Ga]
  rw[z1m am (fun a=>decide (a.D.length>20)) (fun _=>3) fun i hi=>by
   simp only[S_q16_b1,Scr.den,y13]
   rw[z3 ⟨hi,trivial⟩]
   by_cases hx:(am.getD i dF).D.length>20
   ·rw[y6 (by simp only[y7]; omega),y6 (y17 hx)]
   ·rw[y5 (by simp only[y7]; omega),y5 (by simpa using hx)]]
  by_cases ha:(am.any fun a=>decide (a.D.length>20))=true
  ·rw[y6 ha,y6 (show limB (⟨f,y,t,ls,ce,fl,ea,co,ru,am⟩:TLa) from .inr (.inr (.inr (.inr (.inr (.inr (.inr ha)))))))]; rfl
  ·rw[y5 ha,y5 (show ¬ limB (⟨f,y,t,ls,ce,fl,ea,co,ru,am⟩:TLa) from fun hb=>by
    rcases hb with hb | hb | hb | hb | hb | hb | hb | hb
    ·exact h (.inl hb)
    ·exact h (.inr (.inl hb))
    ·exact h (.inr (.inr (.inl hb)))
    ·exact h (.inr (.inr (.inr (.inl hb))))
    ·exact h (.inr (.inr (.inr (.inr (.inl hb)))))
    ·exact h (.inr (.inr (.inr (.inr (.inr (.inl hb))))))
    ·exact h (.inr (.inr (.inr (.inr (.inr (.inr hb))))))
    ·exact ha hb)]; rfl
theorem ze9 (hs:SmL (⟨f,y,t,ls,ce,fl,ea,co,ru,am⟩:TLa)):F_q1z f y t ea co ru ls ce fl am=some (errL (⟨f,y,t,ls,ce,fl,ea,co,ru,am⟩:TLa)):=by
 simp only[F_q1z,S_q1z,Scr.den,zd,z6u (t:=t) hs.t,obind]
 unfold errL
 by_cases p1:yrB (⟨f,y,t,ls,ce,fl,ea,co,ru,am⟩:TLa)
 ·rw[y6 p1,y6]
  unfold yrB at p1
  simp only[yg,y7] at p1 |-
  by_cases hr:0<=f/\f<=99/\1<=y/\y<=4
  ·rw[wrapId (n:=f+y) om om,wrapId om om]; omega
  ·omega
 have q1:¬ (f<0\/f>99\/y<1\/y>4\/f+y>100):=p1
 rw[y5 p1,y5 (by simp only[yg,y7]; rw[wrapId (n:=f+y) om om,wrapId om om]; omega)]
 by_cases p2:treeE t=0
 ·have hy:1<=y:=om
  rw[y5 (by simp[p2]),y6 p2]
  simp only[limsA hs.al,linesA hs.t hy hs.li hs.ll,boundsAC p2 hy hs.cl,boundsAF p2 hy hs.fll,earsA hs.t p2 hs.tl hs.ea hs.el,condsA hs.t hy hs.co hs.col,rulesA hs.rl,amdsA hs.t p2 hy hs.am hs.al,obind]
  refine (z7d [if limB (⟨f,y,t,ls,ce,fl,ea,co,ru,am⟩:TLa) then 3 else 0,fstE ls.length (lineE t f y ls),fstE ce.length (boundE t f y ce),fstE fl.length (boundE t f y fl),
   orE [fstE ea.length (earE t ea),shareE t ea],fstE co.length (fun i=>z1j t f y (co.getD i dF)),fstE ru.length (ruleE t ru),fstE am.length (amdE t f y am)] fun i hi=>?_).trans ?_
  ·simp only[S_q1z_b1,Scr.den]
   exact z7e _ i
  congr 1
  rw[z17]
  by_cases p3:limB (⟨f,y,t,ls,ce,fl,ea,co,ru,am⟩:TLa)
  ·simp only[y6 p3]; rfl
  ·simp only[y5 p3,y2p]
   simp only[z17,z2g]
   (repeat' split) <;> simp_all
 ·rw[y6 (by simp[p2]),y5 p2]
variable {l:TLa}
theorem amdsB (hs:SmT l.H) (ht:treeE l.H=0) (hy:1<=l.G) (hc:∀ x∈l.A,x.D.length<=1000000/\∀ c∈x.D,c.B.length<=1000000) (hl:l.A.length<=1000000) :
  F_q1t l=some (fstE l.A.length (amdE l.H l.E l.G l.A)):=by
 simp only[F_q1t,S_q1t,Scr.den]
 skip
 refine zm (amdE l.H l.E l.G l.A) fun i hi hz=>?_
 obtain⟨hcl,hcc⟩:=hc _ (z4 hi)
 have hi':i-1<l.A.length:=om
 simp only[S_q1t_b1,Scr.den,chgsB hs ht hy hcc hcl,obind,z8,zd,amdE]
 skip
 by_cases p1:(l.A.getD i dF).K<0\/(l.A.getD i dF).K>35990\/(l.A.getD i dF).L<1\/(l.A.getD i dF).L>1000000
 ·simp only[y6 p1]
  rw[y6 (by simp only[yg,y7]; omega)]
  rfl
 simp only[y5 p1]
 rw[y5 (by simp only[yg,y7]; omega)]
 have he:(l.A.getD i dF).D=[]↔((((l.A.getD i dF).D).length:Int)==0)=true:=by
  rw[yx,<- y23]; omega
 have hfin:(if ((((l.A.getD i dF).D).length:Int)==0)=true then some (Step.ret 1) else if (fstE (l.A.getD i dF).D.length (chgE l.H l.E l.G (l.A.getD i dF).D) != 0)=true then
   some (Step.ret (fstE (l.A.getD i dF).D.length (chgE l.H l.E l.G (l.A.getD i dF).D))) else some (Step.cont ()):Option (Step Unit Int)) =
   some (if (if (l.A.getD i dF).D=[] then 1 else fstE (l.A.getD i dF).D.length (chgE l.H l.E l.G (l.A.getD i dF).D))=0 then Step.cont () else
    Step.ret (if (l.A.getD i dF).D=[] then 1 else fstE (l.A.getD i dF).D.length (chgE l.H l.E l.G (l.A.getD i dF).D))):=by
  by_cases h:(l.A.getD i dF).D=[]
  ·rw[y6 (he.1 h)]; simp only[y6 h]; rfl
  ·rw[y5 (fun h'=>h (he.2 h'))]; simp only[y5 h]
   by_cases h0:fstE (l.A.getD i dF).D.length (chgE l.H l.E l.G (l.A.getD i dF).D)=0
   ·simp[h0]
   ·simp[h0]
 by_cases h0:0<i
 ·simp only[wp h0 (show i<=1000000 from om),yd,ltA]
  rcases y4a (l.A.getD (i-1) dF).K (l.A.getD i dF).K with hh | hh | hh
  ·have a1:¬ (l.A.getD (i-1) dF).K>(l.A.getD i dF).K:=om
   have a2:¬ (l.A.getD (i-1) dF).K=(l.A.getD i dF).K:=om
   rw[z3 (by simp[h0,hi',a1,a2,AllP])]
   rw[y5 (by simp[a1,a2])]
   simp only[hh,y3s,Bool.true_or,y30,y56,y1y]
   exact hfin
  ·have a1:¬ (l.A.getD (i-1) dF).K>(l.A.getD i dF).K:=om
   have a3:¬ (l.A.getD (i-1) dF).K<(l.A.getD i dF).K:=om
   rw[z3 (by simp[h0,hi',hh,AllP])]
   by_cases hn:(l.A.getD (i-1) dF).L<(l.A.getD i dF).L
   ·rw[y5 (by simp only[y9,yg,y7,yx]; omega)]
    simp only[hh,hn,y3s,y4f,Bool.or_true,y30,y56,y1y]
    exact hfin
   ·rw[y6 (by simp only[y9,yg,y7,yx]; omega)]
    have:(decide ((l.A.getD (i-1) dF).K<(l.A.getD i dF).K)||decide ((l.A.getD (i-1) dF).K=(l.A.getD i dF).K)&&decide ((l.A.getD (i-1) dF).L<(l.A.getD i dF).L))=false:=by
     rw[yo]; simp only[ne_eq,y9,yg,y7]; omega
    simp only[this,h0,and_self,y2p]
    rfl
  ·have a1:¬ (l.A.getD (i-1) dF).K<(l.A.getD i dF).K:=om
   have a2:¬ (l.A.getD (i-1) dF).K=(l.A.getD i dF).K:=om
   rw[z3 (by simp[h0,hi',hh,a2,AllP])]
   rw[y6 (by simp only[y9,yg,y7,yx]; omega)]
   have:(decide ((l.A.getD (i-1) dF).K<(l.A.getD i dF).K)||decide ((l.A.getD (i-1) dF).K=(l.A.getD i dF).K)&&decide ((l.A.getD (i-1) dF).L<(l.A.getD i dF).L))=false:=by
    rw[yo]; simp only[ne_eq,y9,yg,y7]; omega
   simp only[this,h0,and_self,y2p]
   rfl
 ·have h0':i=0:=om
  subst h0'
  rw[z3 (by simp[AllP])]
  rw[y5 sj]
  simp only[Nat.lt_irrefl,false_and,y1y]
  exact hfin
theorem limsB (hl:l.A.length<=1000000):F_q1p l=some (if limB l then 3 else 0):=by
 simp only[F_q1p,S_q1p,Scr.den,zd]
 by_cases h:l.P.length>120\/l.R.length>60\/l.S.length>60\/l.F.length>20\/l.I.length>20\/l.O.length>20\/l.A.length>20
 ·rw[y6 (by simp only[yg,y7]; omega),y6 (by rcases h with h | h | h | h | h | h | h <;> simp[limB,h])]
 ·rw[y5 (by simp only[yg,y7]; omega)]
  skip
  rw[z1m l.A (fun a=>decide (a.D.length>20)) (fun _=>3) fun i hi=>by
   simp only[S_q1p_b1,Scr.den]
   skip
   by_cases hx:(l.A.getD i dF).D.length>20
   ·rw[y6 (by simp only[y7]; omega),y6 (y17 hx)]
   ·rw[y5 (by simp only[y7]; omega),y5 (by simpa using hx)]]
  by_cases ha:(l.A.any fun a=>decide (a.D.length>20))=true
  ·rw[y6 ha,y6 (show limB l from .inr (.inr (.inr (.inr (.inr (.inr (.inr ha)))))))]; rfl
  ·rw[y5 ha,y5 (show ¬ limB l from fun hb=>by
    rcases hb with hb | hb | hb | hb | hb | hb | hb | hb
    ·exact h (.inl hb)
    ·exact h (.inr (.inl hb))
    ·exact h (.inr (.inr (.inl hb)))
    ·exact h (.inr (.inr (.inr (.inl hb))))
    ·exact h (.inr (.inr (.inr (.inr (.inl hb)))))
    ·exact h (.inr (.inr (.inr (.inr (.inr (.inl hb))))))
    ·exact h (.inr (.inr (.inr (.inr (.inr (.inr hb))))))
    ·exact ha hb)]; rfl
theorem zea (hs:SmL l):F_q29 l=some (errL l):=by
 simp only[F_q29,S_q29,Scr.den,zd,z6u (t:=l.H) hs.t,obind]
 unfold errL
 by_cases p1:yrB l
 ·rw[y6 p1,y6]
  unfold yrB at p1
  simp only[yg,y7] at p1 |-
  by_cases hr:0<=l.E/\l.E<=99/\1<=l.G/\l.G<=4
  ·rw[wrapId (n:=l.E+l.G) om om,wrapId om om]; omega
  ·omega
 have q1:¬ (l.E<0\/l.E>99\/l.G<1\/l.G>4\/l.E+l.G>100):=p1
 rw[y5 p1,y5 (by simp only[yg,y7]; rw[wrapId (n:=l.E+l.G) om om,wrapId om om]; omega)]
 by_cases p2:treeE l.H=0
 ·have hy:1<=l.G:=om
  rw[y5 (by simp[p2]),y6 p2]
  simp only[limsB hs.al,linesB hs.t hy hs.li hs.ll,boundsB p2 hy hs.cl,boundsB p2 hy hs.fll,earsB hs.t p2 hs.tl hs.ea hs.el,condsB hs.t hy hs.co hs.col,rulesB hs.rl,amdsB hs.t p2 hy hs.am hs.al,obind]
  refine (z7d [if limB l then 3 else 0,fstE l.P.length (lineE l.H l.E l.G l.P),fstE l.R.length (boundE l.H l.E l.G l.R),fstE l.S.length (boundE l.H l.E l.G l.S),
   orE [fstE l.F.length (earE l.H l.F),shareE l.H l.F],fstE l.I.length (fun i=>z1j l.H l.E l.G (l.I.getD i dF)),fstE l.O.length (ruleE l.H l.O),fstE l.A.length (amdE l.H l.E l.G l.A)] fun i hi=>?_).trans ?_
  ·simp only[S_q29_b1,Scr.den]
   exact z7e _ i
  congr 1
  rw[z17]
  by_cases p3:limB l
  ·simp only[y6 p3]; rfl
  ·simp only[y5 p3,y2p]
   simp only[z17,z2g]
   (repeat' split) <;> simp_all
 ·rw[y6 (by simp[p2]),y5 p2]
end Go.Proofs.YtgfgnhpecnmlpaaGreatDoor
/- The program's Valid: the same. No condition. -/
namespace Go.Proofs.YtgfgnhpecnmlpaaGreatDoor
open Go Go.TA
open Go.IntKind (i64)
attribute [-simp] List.getD_eq_getElem?_getD
theorem z35 (n a b:Int):F_qz n a b=some (decide (n>=a)&&decide (n<=b)):=by simp only[F_qz,S_qz,Scr.den,z8]
theorem z61 (n:Int):F_q2h n=some (amt n):=by simp only[F_q2h,S_q2h,Scr.den,z8,amt,ge_iff_le]
theorem zft (n:Int):F_q2v n=some (decide (n>=0)&&decide (n<=35990)):=by simp only[F_q2v,S_q2v,Scr.den,z35,obind]
theorem zae (n:Int):F_q2w n=some (decide (n>=1)&&decide (n<=1000000)):=by simp only[F_q2w,S_q2w,Scr.den,z35,obind]
variable {l:TLa}
theorem z8w (hy:1<=l.G) (x:Int):F_q2k l x=some (inY l.E l.G x):=by
 simp only[F_q2k,S_q2k,Scr.den,z8,inY]
 rw[y5 om]
theorem z5f (l:TLa) (c:Y8):F_q20 l c=some (has l.H c):=by simp only[F_q20,S_q20,Scr.den,zfp,obind]
def ck (l:TLa):TChe:=⟨l,leavesU l.H []⟩
theorem z7f (l:TLa) (c:Y8):F_q2j (ck l) c=some (leafT l.H c):=by
 simp only[F_q2j,S_q2j,Scr.den,zcp,obind,ck]
 congr 1
 rw[y1f,<- z4d]
 simp
theorem z5g (l:List Int):F_qj l=some (orE l):=by
 simp only[F_qj,S_qj,Scr.den]
 refine z7d l fun i hi=>?_
 simp only[S_qj_b1,Scr.den]
 exact z7e l i
theorem zj7 (l:List Int):F_q23 l=some (orE l):=by
 simp only[F_q23,S_q23,Scr.den]
 refine z7d l fun i hi=>?_
 simp only[S_q23_b1,Scr.den]
 exact z7e l i
variable {u:Int}
theorem or2 {m n:Int}:(decide (orE [u,cmpI m n]>=0))=!(decide (u<0)||(decide (u=0)&&decide (m<n))):=by
 simp only[z17,z2g,cmpI]
 rw[y1f]
 simp only[y25,y7,y26,y2s,y1h]
 (repeat' split) <;> omega
theorem zjs {v:Int}:(decide (orE [u,v]>=0))=!(decide (u<0)||(decide (u=0)&&decide (v<0))):=by
 simp only[z17,z2g]
 rw[y1f]
 simp only[y25,y7,y26,y2s,y1h]
 (repeat' split) <;> omega
theorem lenC {c:Y8} (h:good c=true):c.length<=1000000:=by have:=z34 h; omega
theorem z6w {a b:Y8} (ha:good a=true) (hb:good b=true):F_q10 a b=some (lexC (parts a) (parts b)):=by rw[z5z (lenC ha) (lenC hb),z3a (.inl ha)]
theorem z44 {n:Nat} {one:Nat->Int} {ord:Nat->Bool} {body:Nat->Unit->Option (Step Unit Int)}
  (hs:∀ i,i<n->one i≠0->body i ()=some (.ret (one i)))
  (hz:∀ i,i<n->one i=0->(0<i->one (i-1)=0)->body i ()=some (if 0<i/\ord i=false then .ret 8 else .cont ())) :
  outM (rangeM body n 0 ()) (fun _=>some 0) (fun x=>some (id x))=some (fstE n (chE one ord)) :=
 zm (chE one ord) fun i hi h=>z1x (hs i hi) fun h0=>hz i hi h0 fun h1=>z1u (h (i-1) om)
theorem zdc (hy:1<=l.G) (x:TLi):F_q3a (ck l) x=some (z26 l.H l.E l.G x):=by
 simp only[F_q3a,S_q3a,Scr.den,z7f,z61,obind,show (ck l).law=l from rfl,z8w hy,z26]
 by_cases h1:leafT l.H x.B=true <;> by_cases h2:inY l.E l.G x.J=true <;> by_cases h3:amt x.M=true <;> simp[h1,h2,h3]
theorem zbz (hy:1<=l.G) (x:TBo):F_q3c (ck l) x=some (z15 l.H l.E l.G x):=by
 simp only[F_q3c,S_q3c,Scr.den,show (ck l).law=l from rfl,z5f,z61,obind,z8w hy,z15,z8]
 by_cases h1:has l.H x.B=true <;> by_cases h4:x.J=-1 <;> by_cases h2:inY l.E l.G x.J=true <;> by_cases h3:amt x.M=true <;> (try simp only[h4] at h2 |-) <;> simp[h1,h2,h3,h4,oT,oF,oN]
theorem z8x (x:TEa):F_q3e (ck l) x=some (z3x l.H x):=by
 simp only[F_q3e,S_q3e,Scr.den,show (ck l).law=l from rfl,z5f,z7f,z35,obind,z3x,zd]
 by_cases h1:has l.H x.N=true <;> by_cases h2:leafT l.H x.B=true <;> simp[h1,h2,oT,oF,oN]
 by_cases h3:x.Q<0\/x.Q>100
 ·rw[y6 om,y6 h3]
 ·rw[y5 om,y5 h3]
theorem zia (hy:1<=l.G) (x:TCo):F_q3g (ck l) x=some (z1j l.H l.E l.G x):=by
 simp only[F_q3g,S_q3g,Scr.den,show (ck l).law=l from rfl,z5f,z7f,z35,z61,zft,z8w hy,obind,z1j,zd,z8]
 have hb:∀ (K:Bool->Option Int),outM (if (!(decide (x.C>=1)&&decide (x.C<=2)))=true then some (Out.next (!(decide (x.C>=1)&&decide (x.C<=2)))) else
   if (x.C==2&&x.K != 0)=true then some (Out.next (x.C==2&&x.K != 0)) else some (Out.next (!(x.C==2)&&(!(x.N==[])||x.T != 0)))) K some=K (decide (condBad x)):=fun K=>by
  unfold condBad
  by_cases k1:x.C=1
  ·simp only[k1]; simp[outM]
   congr 1
   rw[y1f]
   simp
  ·by_cases k2:x.C=2
   ·simp only[k2]
    by_cases d:x.K=0
    ·simp[outM,d]
    ·have e:(x.K != 0)=true:=by simpa using d
     simp[outM,d,e]
   ·have:(decide (x.C>=1)&&decide (x.C<=2))=false:=by rw[yo]; simp only[ne_eq,y9,y7]; omega
    simp[this,outM,k1,k2]
 rw[hb]
 by_cases h1:condBad x
 ·simp[h1]
 ·by_cases h2:leafT l.H x.B=true <;> by_cases h3:has l.H x.N=true <;> by_cases h4:x.C=2 <;> by_cases h5:inY l.E l.G x.J=true <;> by_cases h6:amt x.M=true <;> by_cases h7:amt x.T=true <;>
   simp[h1,h2,h3,h4,h5,h6,h7,oT,oF,oN] <;> (split <;> simp_all <;> omega)
theorem zdd (x:TRu):F_q3h (ck l) x=some (z6v l.H x):=by
 simp only[F_q3h,S_q3h,Scr.den,show (ck l).law=l from rfl,z5f,zae,z35,obind,z6v,zd]
 by_cases h4:x.L<1\/x.L>1000000\/x.Q<0\/x.Q>100
 ·rw[y6 h4]
  by_cases h5:1<=x.L/\x.L<=1000000
  ·simp[h5,oT,oN]; omega
  ·have:(decide (x.L>=1)&&decide (x.L<=1000000))=false:=by rw[yo]; simp only[ne_eq,y9,y7]; omega
   simp[this,oF]
 ·rw[y5 h4]
  have e1:(decide (x.L>=1)&&decide (x.L<=1000000))=true:=by simp only[y9,y7]; omega
  have e2:(decide (x.Q>=0)&&decide (x.Q<=100))=true:=by simp only[y9,y7]; omega
  simp only[e1,e2]
  by_cases h1:has l.H x.U=true <;> by_cases h2:has l.H x.V=true <;> simp[h1,h2,oT,oF,oN]
theorem zaf (hy:1<=l.G) (x:TCh):F_q3k (ck l) x=some (zx l.H l.E l.G x):=by
 simp only[F_q3k,S_q3k,Scr.den,show (ck l).law=l from rfl,z5f,z7f,z35,z61,z8w hy,obind,zx,zd,z8]
 by_cases p1:x.C<1\/x.C>3
 ·rw[y6 p1,y6 (by simp only[y25,y2s,y1h]; omega)]
 ·rw[y5 p1,y5 (by simp only[y25,y2s,y1h]; omega)]
  by_cases h1:has l.H x.B=true <;> by_cases h2:leafT l.H x.B=true <;> by_cases h4:x.C=1 <;> simp[h1,h2,h4,oT,oF,oN] <;> ((repeat' split) <;> simp_all)
end Go.Proofs.YtgfgnhpecnmlpaaGreatDoor
/- The program's Valid. No condition. -/
namespace Go.Proofs.YtgfgnhpecnmlpaaGreatDoor
open Go Go.TA
open Go.IntKind (i64)
attribute [-simp] List.getD_eq_getElem?_getD
theorem zj8 {a b:Y8} (_ha:good a=true) (_hb:good b=true) (m n:Int):(decide (orE [lexC (parts a) (parts b),cmpI m n]>=0))=!ltC a m b n:=by rw[or2]; rfl
variable {t:List THe} {f y:Int}
theorem lineG {x:TLi} (h:z26 t f y x=0):good x.B=true:=by
 unfold z26 at h
 split at h
 ·cases h
 ·rename_i hg; exact leafGood (by simpa using hg)
theorem boundG (ht:treeE t=0) {x:TBo} (h:z15 t f y x=0):good x.B=true:=by
 unfold z15 at h
 split at h
 ·cases h
 ·rename_i hg; exact hasGood ht (by simpa using hg)
theorem earG (ht:treeE t=0) {x:TEa} (h:z3x t x=0):good x.N=true/\good x.B=true:=by
 unfold z3x at h
 split at h
 ·cases h
 ·rename_i hg; simp only[not_or,y38] at hg; exact⟨hasGood ht hg.1,leafGood hg.2⟩
theorem chgG (ht:treeE t=0) {x:TCh} (h:zx t f y x=0):good x.B=true:=by
 unfold zx at h
 split at h
 ·cases h
 ·split at h
  ·cases h
  ·rename_i hg; simp only[not_or,y38] at hg; exact hasGood ht hg.1
theorem cmpLine {a b:TLi} (ha:good a.B=true) (hb:good b.B=true):F_q3b a b=some (orE [lexC (parts a.B) (parts b.B),cmpI a.J b.J]):=by
 simp only[F_q3b,S_q3b,Scr.den,z6w ha hb,z3s,z5g,obind]
theorem cmpBound {a b:TBo} (ha:good a.B=true) (hb:good b.B=true):F_q3d a b=some (orE [lexC (parts a.B) (parts b.B),cmpI a.J b.J]):=by
 simp only[F_q3d,S_q3d,Scr.den,z6w ha hb,z3s,z5g,obind]
theorem cmpEar {a b:TEa} (ha:good a.N=true/\good a.B=true) (hb:good b.N=true/\good b.B=true):F_q3f a b=some (orE [lexC (parts a.N) (parts b.N),lexC (parts a.B) (parts b.B)]):=by
 simp only[F_q3f,S_q3f,Scr.den,z6w ha.1 hb.1,z6w ha.2 hb.2,z5g,obind]
theorem cmpRule (a b:TRu):F_q3i a b=some (cmpI a.L b.L):=by simp only[F_q3i,S_q3i,Scr.den,z3s,obind]
theorem cmpChg {a b:TCh} (ha:good a.B=true) (hb:good b.B=true):F_q3l a b=some (orE [cmpI a.C b.C,lexC (parts a.B) (parts b.B),cmpI a.J b.J]):=by
 simp only[F_q3l,S_q3l,Scr.den,z6w ha hb,z3s,z5g,obind]
theorem cmpAmd (a b:TAm):F_q3j a b=some (orE [cmpI a.K b.K,cmpI a.L b.L]):=by simp only[F_q3j,S_q3j,Scr.den,z3s,z5g,obind]
theorem geRule (m n:Int):(decide (cmpI m n>=0))=!decide (m<n):=by
 unfold cmpI; rw[y1f]; simp only[y25,y7,y1h]; (repeat' split) <;> omega
theorem geAmd (a b:TAm):(decide (orE [cmpI a.K b.K,cmpI a.L b.L]>=0))=!ltA a b:=by
 unfold ltA
 simp only[z17,z2g,cmpI]
 rw[y1f]
 simp only[y25,y7,y26,y2s,y1h]
 (repeat' split) <;> omega
theorem geChg (a b:TCh):(decide (orE [cmpI a.C b.C,lexC (parts a.B) (parts b.B),cmpI a.J b.J]>=0))=!ltX a b:=by
 unfold ltX ltC
 generalize lexC (parts a.B) (parts b.B)=u
 simp only[z17,z2g,cmpI]
 rw[y1f]
 simp only[y25,y7,y26,y2s,y1h]
 (repeat' split) <;> omega
variable {l:TLa}
theorem eachL (hy:1<=l.G) {b:List TLi} (hl:b.length<=1000000):F_q1i b (ck l)=some (fstE b.length (lineE l.H l.E l.G b)):=by
 simp only[F_q1i,S_q1i,Scr.den]
 refine z44 (fun i hi h=>?_) fun i hi h hp=>?_
 ·simp only[S_q1i_b1,Scr.den,zdc hy,obind]
  rw[y6 (by simpa using h)]
 ·have hi':i-1<b.length:=om
  simp only[S_q1i_b1,Scr.den,zdc hy,obind,z8]
  rw[y5 (by simpa using h)]
  by_cases h0:0<i
  ·have h':=hp h0
   skip
   simp only[wp h0 (show i<=1000000 from om),yd]
   rw[ze (by simp only[AllP,y34,y7]; omega),cmpLine (lineG h') (lineG h),obind,z3 (by simp[h0,hi',AllP])]
   simp only[h0,y17 (show (i:Int)>0 from om),y1x,true_and,zj8 (lineG h') (lineG h)]
   by_cases hq:ltC (b.getD (i-1) dF).B (b.getD (i-1) dF).J (b.getD i dF).B (b.getD i dF).J=true <;> simp[hq]
  ·have h0':i=0:=om
   subst h0'
   rw[Gh,obind,z3 (by simp[AllP]),y5 sj,y5 sj]
theorem eachB (ht:treeE l.H=0) (hy:1<=l.G) {b:List TBo} (hl:b.length<=1000000):F_q11 b (ck l)=some (fstE b.length (boundE l.H l.E l.G b)):=by
 simp only[F_q11,S_q11,Scr.den]
 refine z44 (fun i hi h=>?_) fun i hi h hp=>?_
 ·simp only[S_q11_b1,Scr.den,zbz hy,obind]
  rw[y6 (by simpa using h)]
 ·have hi':i-1<b.length:=om
  simp only[S_q11_b1,Scr.den,zbz hy,obind,z8]
  rw[y5 (by simpa using h)]
  by_cases h0:0<i
  ·have h':=hp h0
   skip
   simp only[wp h0 (show i<=1000000 from om),yd]
   rw[ze (by simp only[AllP,y34,y7]; omega),cmpBound (boundG ht h') (boundG ht h),obind,z3 (by simp[h0,hi',AllP])]
   simp only[h0,y17 (show (i:Int)>0 from om),y1x,true_and,zj8 (boundG ht h') (boundG ht h)]
   by_cases hq:ltC (b.getD (i-1) dF).B (b.getD (i-1) dF).J (b.getD i dF).B (b.getD i dF).J=true <;> simp[hq]
  ·have h0':i=0:=om
   subst h0'
   rw[Gh,obind,z3 (by simp[AllP]),y5 sj,y5 sj]
theorem eachE (ht:treeE l.H=0) {b:List TEa} (hl:b.length<=1000000):F_q1j b (ck l)=some (fstE b.length (earE l.H b)):=by
 simp only[F_q1j,S_q1j,Scr.den]
 refine z44 (fun i hi h=>?_) fun i hi h hp=>?_
 ·simp only[S_q1j_b1,Scr.den,z8x,obind]
  rw[y6 (by simpa using h)]
 ·have hi':i-1<b.length:=om
  simp only[S_q1j_b1,Scr.den,z8x,obind,z8]
  rw[y5 (by simpa using h)]
  by_cases h0:0<i
  ·have h':=hp h0
   skip
   simp only[wp h0 (show i<=1000000 from om),yd]
   rw[ze (by simp only[AllP,y34,y7]; omega),cmpEar (earG ht h') (earG ht h),obind,z3 (by simp[h0,hi',AllP])]
   simp only[h0,y17 (show (i:Int)>0 from om),y1x,true_and,zjs]
   by_cases hq:(decide (lexC (parts (b.getD (i-1) dF).N) (parts (b.getD i dF).N)<0)||decide (lexC (parts (b.getD (i-1) dF).N) (parts (b.getD i dF).N)=0)&&decide (lexC (parts (b.getD (i-1) dF).B) (parts (b.getD i dF).B)<0))=true <;> (try rw[y4k] at hq) <;> simp only[ltC,hq] <;> simp
  ·have h0':i=0:=om
   subst h0'
   rw[Gh,obind,z3 (by simp[AllP]),y5 sj,y5 sj]
theorem eachR {b:List TRu} (hl:b.length<=1000000):F_q1k b (ck l)=some (fstE b.length (ruleE l.H b)):=by
 simp only[F_q1k,S_q1k,Scr.den]
 refine z44 (fun i hi h=>?_) fun i hi h hp=>?_
 ·simp only[S_q1k_b1,Scr.den,zdd,obind]
  rw[y6 (by simpa using h)]
 ·have hi':i-1<b.length:=om
  simp only[S_q1k_b1,Scr.den,zdd,obind,z8]
  rw[y5 (by simpa using h)]
  by_cases h0:0<i
  ·have h':=hp h0
   skip
   simp only[wp h0 (show i<=1000000 from om),yd]
   rw[ze (by simp only[AllP,y34,y7]; omega),cmpRule,obind,z3 (by simp[h0,hi',AllP])]
   simp only[h0,y17 (show (i:Int)>0 from om),y1x,true_and,geRule]
   by_cases hq:(decide ((b.getD (i-1) dF).L<(b.getD i dF).L))=true <;> simp[hq]
  ·have h0':i=0:=om
   subst h0'
   rw[Gh,obind,z3 (by simp[AllP]),y5 sj,y5 sj]
theorem eachX (ht:treeE l.H=0) (hy:1<=l.G) {b:List TCh} (hl:b.length<=1000000):F_q1l b (ck l)=some (fstE b.length (chgE l.H l.E l.G b)):=by
 simp only[F_q1l,S_q1l,Scr.den]
 refine z44 (fun i hi h=>?_) fun i hi h hp=>?_
 ·simp only[S_q1l_b1,Scr.den,zaf hy,obind]
  rw[y6 (by simpa using h)]
 ·have hi':i-1<b.length:=om
  simp only[S_q1l_b1,Scr.den,zaf hy,obind,z8]
  rw[y5 (by simpa using h)]
  by_cases h0:0<i
  ·have h':=hp h0
   skip
   simp only[wp h0 (show i<=1000000 from om),yd]
   rw[ze (by simp only[AllP,y34,y7]; omega),cmpChg (chgG ht h') (chgG ht h),obind,z3 (by simp[h0,hi',AllP])]
   simp only[h0,y17 (show (i:Int)>0 from om),y1x,true_and,geChg]
   by_cases hq:ltX (b.getD (i-1) dF) (b.getD i dF)=true <;> simp[hq]
  ·have h0':i=0:=om
   subst h0'
   rw[Gh,obind,z3 (by simp[AllP]),y5 sj,y5 sj]
theorem eachC (hy:1<=l.G) {b:List TCo} (hl:b.length<=1000000):F_q21 b (ck l)=some (fstE b.length fun i=>z1j l.H l.E l.G (b.getD i dF)):=by
 simp only[F_q21,S_q21,Scr.den]
 refine zm (fun i=>z1j l.H l.E l.G (b.getD i dF)) fun i hi hz=>?_
 have hi':i-1<b.length:=om
 simp only[S_q21_b1,Scr.den,zia hy,F_q3x,S_q3x,obind,z8]
 by_cases h:z1j l.H l.E l.G (b.getD i dF)=0
 ·rw[y5 (by simpa using h),y6 h]
  by_cases h0:0<i
  ·simp only[wp h0 (show i<=1000000 from om),yd]
   rw[ze (by simp only[AllP,y34,y7]; omega),obind,z3 (by simp[h0,hi',AllP]),y5 sj]
  ·have h0':i=0:=om
   subst h0'
   rw[Gh,obind,z3 (by simp[AllP]),y5 sj]
 ·rw[y6 (by simpa using h),y5 h]
theorem zfu (hc:∀ x∈l.F,x.N.length<=1000000/\x.B.length<=1000000):F_qk (ck l)=some (shareE l.H l.F):=by
 simp only[F_qk,S_qk,Scr.den,show (ck l).leaves=leavesU l.H [] from rfl]
 rw[z1m (leavesU l.H []) (fun c=>decide (shSum l.F c>100)) (fun _=>13) fun i hi=>by
  have hlen:((leavesU l.H []).getD i dF).length<=1000000:=by
   have:=z4d.1 (z4 hi)
   exact lenC (leafGood this)
  simp only[S_qk_b2,Scr.den,show (ck l).law=l from rfl]
  rw[z1q l.F (fun s x=>if und ((leavesU l.H []).getD i dF) x.N=true then i64.wrap (s+x.Q) else s) fun j s hj=>by
   obtain⟨hcs,_⟩:=hc _ (z4 hj)
   simp only[S_qk_b1,Scr.den,show (ck l).leaves=leavesU l.H [] from rfl,show (ck l).law=l from rfl,zgy hlen hcs,obind]
   split <;> rfl]
  simp only[outM,<- z87]
  by_cases h:shSum l.F ((leavesU l.H []).getD i dF)>100 <;> simp[h]]
 unfold shareE
 split <;> rfl
theorem zau (ht:treeE l.H=0) (hy:1<=l.G) (hc:∀ x∈l.A,x.D.length<=1000000) (hl:l.A.length<=1000000):F_q22 (ck l)=some (fstE l.A.length (amdE l.H l.E l.G l.A)):=by
 simp only[F_q22,S_q22,Scr.den,show (ck l).law=l from rfl]
 refine zm (amdE l.H l.E l.G l.A) fun i hi hz=>?_
 have hcl:=hc _ (z4 hi)
 have hi':i-1<l.A.length:=om
 simp only[S_q22_b1,Scr.den,show (ck l).law=l from rfl,zft,zae,eachX ht hy hcl,cmpAmd,obind,z8,zd,amdE]
 by_cases p1:(l.A.getD i dF).K<0\/(l.A.getD i dF).K>35990\/(l.A.getD i dF).L<1\/(l.A.getD i dF).L>1000000
 ·simp only[y6 p1]
  by_cases hd:0<=(l.A.getD i dF).K/\(l.A.getD i dF).K<=35990
  ·have e1:(decide ((l.A.getD i dF).K>=0)&&decide ((l.A.getD i dF).K<=35990))=true:=by simp only[y9,y7]; omega
   have e2:(decide ((l.A.getD i dF).L>=1)&&decide ((l.A.getD i dF).L<=1000000))=false:=by rw[yo]; simp only[ne_eq,y9,y7]; omega
   simp[e1,e2,oT,oN]
  ·have e1:(decide ((l.A.getD i dF).K>=0)&&decide ((l.A.getD i dF).K<=35990))=false:=by rw[yo]; simp only[ne_eq,y9,y7]; omega
   simp[e1,oF]
 simp only[y5 p1]
 have e1:(decide ((l.A.getD i dF).K>=0)&&decide ((l.A.getD i dF).K<=35990))=true:=by simp only[y9,y7]; omega
 have e2:(decide ((l.A.getD i dF).L>=1)&&decide ((l.A.getD i dF).L<=1000000))=true:=by simp only[y9,y7]; omega
 simp only[e1,e2]
 rw[Gg,obind,y5 sj]
 have he:(l.A.getD i dF).D=[]↔((((l.A.getD i dF).D).length:Int)==0)=true:=by
  rw[yx,<- y23]; omega
 have hfin:(if ((((l.A.getD i dF).D).length:Int)==0)=true then some (Step.ret 1) else if (fstE (l.A.getD i dF).D.length (chgE l.H l.E l.G (l.A.getD i dF).D) != 0)=true then
   some (Step.ret (fstE (l.A.getD i dF).D.length (chgE l.H l.E l.G (l.A.getD i dF).D))) else some (Step.cont ()):Option (Step Unit Int)) =
   some (if (if (l.A.getD i dF).D=[] then 1 else fstE (l.A.getD i dF).D.length (chgE l.H l.E l.G (l.A.getD i dF).D))=0 then Step.cont () else
    Step.ret (if (l.A.getD i dF).D=[] then 1 else fstE (l.A.getD i dF).D.length (chgE l.H l.E l.G (l.A.getD i dF).D))):=by
  by_cases h:(l.A.getD i dF).D=[]
  ·rw[y6 (he.1 h)]; simp only[y6 h]; rfl
  ·rw[y5 (fun h'=>h (he.2 h'))]; simp only[y5 h]
   by_cases h0:fstE (l.A.getD i dF).D.length (chgE l.H l.E l.G (l.A.getD i dF).D)=0
   ·simp[h0]
   ·simp[h0]
 by_cases h0:0<i
 ·simp only[wp h0 (show i<=1000000 from om),yd]
  rw[ze (by simp only[AllP,y34,y7]; omega),obind,z3 (by simp[h0,hi',AllP])]
  simp only[geAmd,y17 (show (i:Int)>0 from om),y1x]
  by_cases hq:ltA (l.A.getD (i-1) dF) (l.A.getD i dF)=true
  ·rw[y5 (by simp[hq])]
   simp only[hq,y30,y56,y1y]
   exact hfin
  ·rw[y6 (by simp[hq])]
   simp only[show ltA (l.A.getD (i-1) dF) (l.A.getD i dF)=false by simpa using hq,h0,and_self,y2p]
   rfl
 ·have h0':i=0:=om
  subst h0'
  rw[Gh,obind,z3 (by simp[AllP]),y5 sj]
  simp only[Nat.lt_irrefl,false_and,y1y]
  exact hfin
theorem zh3 (hs:SmL l):F_q38 ⟨l,[]⟩=some (if yrB l then 2 else if treeE l.H=0 then (if limB l then 3 else 0) else treeE l.H):=by
 simp only[F_q38,S_q38,Scr.den,z35,obind,zd,zh0 hs.t]
 by_cases p1:yrB l
 ·rw[y6 p1]
  unfold yrB at p1
  by_cases hd:0<=l.E/\l.E<=99
  ·have e1:(decide (l.E>=0)&&decide (l.E<=99))=true:=by simp only[y9,y7]; omega
   simp only[e1]
   rw[Gg,obind,y6]
   by_cases hy:1<=l.G/\l.G<=4
   ·rw[wrapId om om]
    simp only[yg,y7]; omega
   ·have e2:(decide (l.G>=1)&&decide (l.G<=4))=false:=by rw[yo]; simp only[ne_eq,y9,y7]; omega
    simp[e2]
  ·have e1:(decide (l.E>=0)&&decide (l.E<=99))=false:=by rw[yo]; simp only[ne_eq,y9,y7]; omega
   simp only[e1]
   rw[Gh,obind,y6 sj]
 ·rw[y5 p1]
  have q1:¬ (l.E<0\/l.E>99\/l.G<1\/l.G>4\/l.E+l.G>100):=p1
  have e1:(decide (l.E>=0)&&decide (l.E<=99))=true:=by simp only[y9,y7]; omega
  have e2:(decide (l.G>=1)&&decide (l.G<=4))=true:=by simp only[y9,y7]; omega
  simp only[e1,e2]
  rw[Gg,obind,wrapId om om,y5 (by simp only[yg,y7,y3x,y1g,false_or]; omega)]
  by_cases p2:treeE l.H=0
  ·rw[y5 (by simp[p2]),y6 p2]
   have hcf:F_q37 l.A=some (l.A.any fun a=>decide (a.D.length>20)):=by
    simp only[F_q37,S_q37,F_q2f,S_q2f,Scr.den]
    rw[z1m l.A (fun a=>decide (a.D.length>20)) (fun i=>(i:Int)) fun i hi=>by
     simp only[S_q2f_b1,F_q3w,S_q3w,Scr.den,obind]
     by_cases hx:(l.A.getD i dF).D.length>20
     ·rw[y6 (by simp only[y7]; omega),y6 (y17 hx)]
     ·rw[y5 (by simp only[y7]; omega),y5 (by simpa using hx)]]
    split
    ·rename_i h; rw[h]; simp[outM]
    ·rename_i h; rw[yo.2 h]; simp only[outM,obind]; rfl
   by_cases h:l.P.length>120\/l.R.length>60\/l.S.length>60\/l.F.length>20\/l.I.length>20\/l.O.length>20\/l.A.length>20
   ·rw[zr (by simp only[AllP,y34,y26,y1h]; omega),obind,y6 (by simp only[yg,y7]; omega),y6 (by rcases h with h | h | h | h | h | h | h <;> simp[limB,h])]
   ·rw[ze (by simp only[AllP,y34,y26,y1h]; omega),hcf,obind]
    by_cases ha:(l.A.any fun a=>decide (a.D.length>20))=true
    ·rw[y6 (by rw[ha,Bool.or_true]),y6 (show limB l from .inr (.inr (.inr (.inr (.inr (.inr (.inr ha)))))))]
    ·rw[y5 (by rw[yo.2 ha]; simp only[yg,y7,Bool.or_false]; omega),y5 (show ¬ limB l from fun hb=>by
      rcases hb with hb | hb | hb | hb | hb | hb | hb | hb
      ·exact h (.inl hb)
      ·exact h (.inr (.inl hb))
      ·exact h (.inr (.inr (.inl hb)))
      ·exact h (.inr (.inr (.inr (.inl hb))))
      ·exact h (.inr (.inr (.inr (.inr (.inl hb)))))
      ·exact h (.inr (.inr (.inr (.inr (.inr (.inl hb))))))
      ·exact h (.inr (.inr (.inr (.inr (.inr (.inr hb))))))
      ·exact ha hb)]
  ·rw[y6 (by simp[p2]),y5 p2]
theorem zag (hs:SmL l):F_q2x l=some (errL l):=by
 simp only[F_q2x,S_q2x,Scr.den,zh3 hs,obind]
 unfold errL
 by_cases p1:yrB l
 ·simp only[y6 p1]; rfl
 ·simp only[y5 p1]
  have q1:¬ (l.E<0\/l.E>99\/l.G<1\/l.G>4\/l.E+l.G>100):=p1
  have hy:1<=l.G:=om
  by_cases p2:treeE l.H=0
  ·simp only[y6 p2]
   by_cases p3:limB l
   ·simp only[y6 p3]; rfl
   ·simp only[y5 p3]
    rw[y5 sj]
    simp only[zfs hs.t hs.tl,obind]
    rw[show (⟨(⟨l,[]⟩:TChe).law,leavesU l.H []⟩:TChe)=ck l from rfl]
    simp only[eachL hy hs.ll,eachB p2 hy hs.cl,eachB p2 hy hs.fll,eachE p2 hs.el,zfu hs.ea,eachC hy hs.col,eachR hs.rl,zau p2 hy (fun x hx=>(hs.am x hx).1) hs.al,zj7,obind]
  ·simp only[y5 p2]
   rw[y6 (by simpa using p2)]
end Go.Proofs.YtgfgnhpecnmlpaaGreatDoor
/- Places in order. (Turned out of the plain law of chapter 13.) No condition. -/
namespace Go.Proofs.YtgfgnhpecnmlpaaGreatDoor
open Go Go.TA
open Go.IntKind (i64)
def cmpP (a b:TPl):Int:=if cmpC a.code b.code≠0 then cmpC a.code b.code else cmpI a.year b.year
variable {a b:TPl}
theorem zeb (ha:a.code.length<=1000000) (hb:b.code.length<=1000000):F_q2p a b=some (cmpP a b):=by
 simp only[F_q2p,S_q2p,Scr.den,z5z ha hb,z3s,z5g,obind,z17,z2g,cmpP]
 by_cases h:cmpC a.code b.code=0 <;> by_cases h2:cmpI a.year b.year=0 <;> simp[h,h2]
def isP (c:Y8) (y:Int) (p:TPl):Bool:=p.code==c&&p.year==y
variable {c:Y8} {y:Int}
theorem z9i {p:TPl}:isP c y p=true↔p.code=c/\p.year=y:=by simp[isP]
def hasP (l:List TPl) (c:Y8) (y:Int):Bool:=l.any (isP c y)
def pix (l:List TPl) (c:Y8) (y:Int):Nat:=l.findIdx (isP c y)
variable {l:List TPl}
theorem zc0 (h:hasP l c y=true):pix l c y<l.length/\(l.getD (pix l c y) dF).code=c/\(l.getD (pix l c y) dF).year=y:=by
 have h1:pix l c y<l.length:=List.findIdx_lt_length.2 (by simpa [hasP,List.any_eq_true] using h)
 have h2:=List.findIdx_getElem (xs:=l) (p:=isP c y) (w:=h1)
 refine⟨h1,?_⟩
 rw[show l.getD (pix l c y) dF=l[pix l c y] by simp[List.getD_eq_getElem?_getD,List.getElem?_eq_getElem h1]]
 exact z9i.1 h2
def PGood (p:TPl):Prop:=good p.code=true/\True
theorem zde:hasP l c y=true↔∃ x∈l,x.code=c/\x.year=y:=by
 unfold hasP
 rw[y1i]
 exact⟨fun⟨x,h1,h2⟩=>⟨x,h1,z9i.1 h2⟩,fun⟨x,h1,h2⟩=>⟨x,h1,z9i.2 h2⟩⟩
def Srt (l:List TPl):Prop:=∀ i,i<l.length->i=0\/cmpP (l.getD (i-1) dF) (l.getD i dF)<0
theorem z7g (h:good a.code=true\/good b.code=true):cmpP a b<0↔lexC (parts a.code) (parts b.code)<0\/(lexC (parts a.code) (parts b.code)=0/\a.year<b.year):=by
 unfold cmpP
 rw[z3a h]
 generalize lexC (parts a.code) (parts b.code)=c
 by_cases hc:c=0
 ·rw[y5 (by simpa using hc)]
  unfold cmpI
  by_cases h1:a.year<b.year
  ·rw[y6 h1]; simp[hc,h1]
  ·rw[y5 h1]
   split <;> simp[hc,h1]
 ·rw[y6 hc]; simp[hc]
theorem z7h (ha:good a.code=true) (hb:good b.code=true):cmpP a b=0↔a.code=b.code/\a.year=b.year:=by
 unfold cmpP
 rw[z3a (.inl ha)]
 by_cases hc:lexC (parts a.code) (parts b.code)=0
 ·rw[y5 (by simpa using hc)]
  have e:=z6t ha hb (z3r hc)
  unfold cmpI
  by_cases h1:a.year<b.year
  ·rw[y6 h1]; simp; omega
  ·rw[y5 h1]
   by_cases h2:a.year>b.year
   ·rw[y6 h2]; simp; omega
   ·rw[y5 h2]; simp[e]; omega
 ·rw[y6 hc]
  constructor
  ·intro h; exact absurd h hc
  ·rintro⟨h1,_⟩
   exact absurd (by rw[h1]; exact z6r _) hc
theorem z8y {c:TPl} (ha:good a.code=true) (hb:good b.code=true) (h:cmpP a b<0) (h':cmpP b c<0):cmpP a c<0:=by
 rw[z7g (.inl ha)] at h |-
 rw[z7g (.inl hb)] at h'
 rcases h with h | ⟨h,h2⟩
 ·rcases h' with h' | ⟨h',_⟩
  ·exact .inl (z5y h h')
  ·rw[<- z3r h']; exact .inl h
 ·rcases h' with h' | ⟨h',h3⟩
  ·rw[z3r h]; exact .inl h'
  ·rw[z3r h]; exact .inr ⟨h',om⟩
theorem zfv (ha:good a.code=true):cmpP b a=-cmpP a b:=by
 unfold cmpP
 rw[z3a (.inl ha),z3a (.inr ha),z6s (parts a.code) (parts b.code)]
 by_cases h:lexC (parts a.code) (parts b.code)=0
 ·rw[y5 om,y5 om]
  unfold cmpI
  by_cases h1:a.year<b.year
  ·rw[y5 om,y6 om,y6 h1]; rfl
  ·by_cases h2:b.year<a.year
   ·rw[y6 h2,y5 h1,y6 om]
   ·rw[y5 h2,y5 om,y5 h1,y5 om]; rfl
 ·rw[y6 om,y6 h]
theorem Srt.lt (h:Srt l) (hg:∀ r∈l,PGood r):∀ {i j:Nat},i<j->j<l.length->cmpP (l.getD i dF) (l.getD j dF)<0:=by
 intro i j hij
 induction j with
 | zero=>omega
 | succ j ih =>
  intro hj
  have h1:=(h (j+1) hj).resolve_left om
  rw[show j+1-1=j from om] at h1
  by_cases e:i=j
  ·subst e; exact h1
  ·exact z8y (hg _ (z4 om)).1 (hg _ (z4 om)).1 (ih om om) h1
def posP (l:List TPl) (r:TPl):Nat:=l.findIdx (fun x=>decide (0<=cmpP x r))
variable {i:Nat}
theorem zo {α:Type} [Inhabited α] {l:List α} (hi:i<l.length):l.getD i dF=l[i]:=by simp[List.getD_eq_getElem?_getD,List.getElem?_eq_getElem hi]
theorem z5h (l:List TPl) (r:TPl):posP l r<=l.length:=List.findIdx_le_length
variable {r:TPl}
theorem z9j (hi:i<posP l r):cmpP (l.getD i dF) r<0:=by
 have hl:i<l.length:=y11 hi (z5h l r)
 have:=List.not_of_lt_findIdx hi
 rw[zo hl]
 simpa using this
theorem zdf (hi:posP l r<l.length):0<=cmpP (l.getD (posP l r) dF) r:=by
 have:=List.findIdx_getElem (xs:=l) (p:=fun x=>decide (0<=cmpP x r)) (w:=hi)
 rw[zo hi]
 exact y2i this
theorem zdg (hS:Srt l) (hg:∀ x∈l,PGood x) (hi:i<l.length) (hp:posP l r<=i):0<=cmpP (l.getD i dF) r:=by
 have h0:=zdf (l:=l) (r:=r) om
 by_cases e:posP l r=i
 ·rwa [e] at h0
 ·have h1:=hS.lt hg (show posP l r<i from om) hi
  by_cases h:cmpP (l.getD i dF) r<0
  ·have:=z8y (hg _ (z4 om)).1 (hg _ (z4 hi)).1 h1 h
   omega
  ·omega
theorem zib {j:Nat} (h:i+j<4611686018427387904):i64.wrap ((IntKind.u64.wrap (i64.wrap ((i:Int)+(j:Int)))).fdiv (2 ^ (min (1:Int).toNat IntKind.u64.bits)))=(((i+j) / 2:Nat):Int):=by
 rw[wrapId (n:=(i:Int)+(j:Int)) om om]
 have e:IntKind.u64.wrap ((i:Int)+(j:Int))=(i:Int)+(j:Int):=by
  simp only[IntKind.wrap,IntKind.bits,IntKind.signed]
  simp
  omega
 rw[e]
 have e2:(2:Int) ^ (min (1:Int).toNat IntKind.u64.bits)=2:=dk
 rw[e2,Int.fdiv_eq_ediv_of_nonneg _ om,wrapId om om]
 omega
theorem PGood.len (h:PGood r):r.code.length<=1000000:=by have:=z34 h.1; omega
theorem zh4 (hg:∀ x∈l,PGood x) (k:Nat):(l.getD k dF).code.length<=1000000:=by
 by_cases h:k<l.length
 ·exact (hg _ (z4 h)).len
 ·rw[List.getD_eq_getElem?_getD,yb om]; exact y3r _
theorem z8z (hl:l.length<=1000000) (hS:Srt l) (hg:∀ x∈l,PGood x) (hr:PGood r) :
  F_q12 r l=some ((posP l r:Int),decide (posP l r<l.length)&&(cmpP (l.getD (posP l r) dF) r==0)):=by
 have hc:∀ k,F_q2p (l.getD k dF) r=some (cmpP (l.getD k dF) r):=fun k=>zeb (zh4 hg k) hr.len
 have hp:=z5h l r
 simp only[F_q12,S_q12,Scr.den]
 obtain⟨s,e,hJ⟩:=z1c (step:=fun s=>(S_q12_b1 r l s).den) (fun s=>(s.2-s.1).toNat) (fun s=>∃ i j:Nat,s=((i:Int),(j:Int))/\i<=posP l r/\posP l r<=j/\j<=l.length) (fun s=>s.1=(posP l r:Int)) (fun s hI=>by
  obtain⟨i,j,rfl,h1,h2,h3⟩:=hI
  simp only[S_q12_b1,Scr.den,zib (show i+j<4611686018427387904 from om),hc,obind,yd]
  by_cases hij:i<j
  ·left
   rw[y6 (by simpa using hij),Gc,y13]
   by_cases hlt:cmpP (l.getD ((i+j) / 2) dF) r<0
   ·rw[y6 (by simpa using hlt),wrapId om om]
    have:(i+j) / 2<posP l r:=by
     by_cases h:(i+j) / 2<posP l r
     ·exact h
     ·have:=zdg (r:=r) hS hg (show (i+j) / 2<l.length from om) om
      omega
    exact⟨_,rfl,⟨(i+j) / 2+1,j,sj,om,h2,h3⟩,by simp only; omega⟩
   ·rw[y5 (by simpa using hlt)]
    have:posP l r<=(i+j) / 2:=by
     by_cases h:posP l r<=(i+j) / 2
     ·exact h
     ·have:=z9j (show (i+j) / 2<posP l r from om)
      omega
    exact⟨_,rfl,⟨i,(i+j) / 2,rfl,h1,this,om⟩,by simp only; omega⟩
  ·right
   rw[y5 (by simpa using hij)]
   exact⟨_,rfl,by simp only; omega⟩) _ (0,(l.length:Int)) (y31 _) ⟨0,l.length,rfl,om,hp,om⟩
 rw[e]
 simp only[outM,hJ,yd,hc,z8,y13]
 by_cases h:posP l r<l.length
 ·rw[ze (by exact⟨sk,trivial⟩),obind,z3 ⟨fun _=>om,fun _=>h,fun _=>h,trivial⟩]
  simp[h]
 ·rw[zr (by simp[AllP]; omega),obind,z3 ⟨fun _=>om,fun h'=>absurd h (by simp[AllP] at h'; omega),fun h'=>absurd h (by simp[AllP] at h'; omega),trivial⟩]
  simp[h]
theorem z9k (hS:Srt l) (hg:∀ x∈l,PGood x) (hr:PGood r) :
  (decide (posP l r<l.length)&&(cmpP (l.getD (posP l r) dF) r==0))=hasP l r.code r.year/\(hasP l r.code r.year=true->pix l r.code r.year=posP l r):=by
 have key:hasP l r.code r.year=true->pix l r.code r.year=posP l r:=fun h=>by
  obtain⟨h1,h2,h3⟩:=zc0 h
  have h4:=hg _ (z4 h1)
  have h5:cmpP (l.getD (pix l r.code r.year) dF) r=0:=(z7h h4.1 hr.1).2 ⟨h2,h3⟩
  rcases Nat.lt_trichotomy (pix l r.code r.year) (posP l r) with h | h | h
  ·have:=z9j h; omega
  ·exact h
  ·have h6:=hS.lt hg h h1
   have h7:=zdf (l:=l) (r:=r) om
   have h8:=hg _ (z4 (show posP l r<l.length from om))
   have:cmpP (l.getD (posP l r) dF) r<0:=by
    rw[z7g (.inl h8.1)] at h6 |-
    rw[h2,h3] at h6
    exact h6
   omega
 refine⟨?_,key⟩
 rw[y1f]
 simp only[y9,y7,yx]
 constructor
 ·rintro⟨h1,h2⟩
  obtain⟨h3,h4⟩:=(z7h (hg _ (z4 h1)).1 hr.1).1 h2
  exact zde.2 ⟨_,z4 h1,h3,h4⟩
 ·intro h
  obtain⟨h1,h2,h3⟩:=zc0 h
  rw[key h] at h1 h2 h3
  exact⟨h1,(z7h (hg _ (z4 h1)).1 hr.1).2 ⟨h2,h3⟩⟩
end Go.Proofs.YtgfgnhpecnmlpaaGreatDoor
/- Rows in order: an element set,put in or taken out. No condition. -/
namespace Go.Proofs.YtgfgnhpecnmlpaaGreatDoor
open Go Go.TA
open Go.IntKind (i64)
attribute [-simp] List.getD_eq_getElem?_getD
def PW (l:List TPl):Prop:=l.Pairwise fun a b=>cmpP a b<0
theorem zfw {l:List TPl} (h:PW l):Srt l:=fun i hi=>by
 by_cases h0:i=0
 ·exact .inl h0
 ·right
  have:=y45.1 h (i-1) i om hi om
  rw[zo hi,zo (show i-1<l.length from om)]
  exact this
theorem zfx {l:List TPl} (hg:∀ x∈l,PGood x) (h:Srt l):PW l:=y45.2 fun i j hi hj hij=>by
 have:=h.lt hg hij hj
 rwa [zo hi,zo hj] at this
theorem zdh {α:Type} [Inhabited α] (l:List α) (k:Nat) (hk:k<l.length) (z:α) :
  (clearL (copyL l (k-0) (l.length-(k+1)) (fun i=>l.getD ((0+(k+1))+i) dF)) (0+((k-0)+(l.length-(k+1)))) (l.length-((k-0)+(l.length-(k+1)))) z).take ((k-0)+(l.length-(k+1)))=l.eraseIdx k:=by
 refine List.ext_getElem ?_ fun i h1 h2=>?_
 ·rw[y1l,z1b,zl,List.length_eraseIdx_of_lt hk]; omega
 ·have hi:i<l.length-1:=by rw[List.length_eraseIdx_of_lt hk] at h2; exact h2
  rw[List.getElem_take,List.getElem_eraseIdx]
  simp only[clearL,List.getElem_mapIdx]
  rw[y5 om]
  simp only[copyL,List.getElem_map,List.getElem_range]
  by_cases h:i<k
  ·rw[y5 om,y3n h,zo om]
  ·rw[y6 om,dif_neg h,zo om]
   congr 1; omega
section
variable {α:Type} (pl:α->TPl)
def putG (l:List α) (x:α) (rm:Bool):List α :=
 if hasP (l.map pl) (pl x).code (pl x).year=true then (if rm=true then l.eraseIdx (posP (l.map pl) (pl x)) else l.set (posP (l.map pl) (pl x)) x)
 else (if rm=true then l else insL l (posP (l.map pl) (pl x)) x)
structure OrdG (l:List α):Prop where
 pw:PW (l.map pl)
 good:∀ x∈l,good (pl x).code=true
variable {pl}
theorem OrdG.gd {l:List α} (h:OrdG pl l):∀ x∈l.map pl,PGood x:=fun x hx=>by
 obtain⟨y,hy,rfl⟩:=y19.1 hx
 exact⟨h.good y hy,trivial⟩
theorem OrdG.srt {l:List α} (h:OrdG pl l):Srt (l.map pl):=zfw h.pw
theorem zc1 [Inhabited α] {l:List α} (h:OrdG pl l) {x:α} (hx:good (pl x).code=true) (hh:hasP (l.map pl) (pl x).code (pl x).year=true) :
  posP (l.map pl) (pl x)<l.length/\(l.map pl).getD (posP (l.map pl) (pl x)) dF=pl x:=by
 obtain⟨h1,h2⟩:=z9k h.srt h.gd (r:=pl x) ⟨hx,trivial⟩
 obtain⟨k1,k2,k3⟩:=zc0 hh
 rw[h2 hh] at k1 k2 k3
 refine⟨by simpa using k1,?_⟩
 generalize (l.map pl).getD (posP (l.map pl) (pl x)) dF=p at k2 k3
 cases p
 cases hq:pl x
 rw[hq] at k2 k3
 simp only at k2 k3
 rw[k2,k3]
theorem z88 (l:List α) (x:α) (rm:Bool):(putG pl l x rm).length<=l.length+1:=by
 unfold putG
 split <;> split
 ·exact y2c (List.length_eraseIdx_le _ _)
 ·simp
 ·omega
 ·rw[z1p]; exact ya _
theorem zc2 {l:List α} {x y:α} {rm:Bool} (h:y∈putG pl l x rm):y=x\/y∈l:=by
 unfold putG at h
 split at h <;> split at h
 ·exact .inr (List.mem_of_mem_eraseIdx h)
 ·rcases List.mem_or_eq_of_mem_set h with h | h
  ·exact .inr h
  ·exact .inl h
 ·exact .inr h
 ·unfold insL at h
  rcases y15.1 h with h | h
  ·exact .inr (y1p h)
  ·rcases yl.1 h with h | h
   ·exact .inl h
   ·exact .inr (y32 h)
theorem zc3 [Inhabited α] {l:List α} (h:OrdG pl l) {x:α} (hx:good (pl x).code=true) (rm:Bool):OrdG pl (putG pl l x rm):=by
 refine⟨?_,fun y hy=>?_⟩
 ·unfold putG
  split
  ·rename_i hh
   obtain⟨h1,h2⟩:=zc1 h hx hh
   split
   ·rw[z4k]
    exact y4l (List.eraseIdx_sublist _ _) h.pw
   ·rw[List.map_set]
    have:(l.map pl).set (posP (l.map pl) (pl x)) (pl x)=l.map pl:=by
     refine List.ext_getElem sj fun i a b=>?_
     rw[List.getElem_set]
     split
     ·rename_i e
      rw[<- h2,zo (by simpa using h1)]
      simp only[e]
     ·rfl
    rw[this]; exact h.pw
  ·rename_i hh
   split
   ·exact h.pw
   ·have hm:(insL l (posP (l.map pl) (pl x)) x).map pl=(l.map pl).take (posP (l.map pl) (pl x))++pl x :: (l.map pl).drop (posP (l.map pl) (pl x)):=by
     unfold insL; rw[y3p,y2o,List.map_take,List.map_drop]
    rw[hm]
    have hle:=z5h (l.map pl) (pl x)
    have hno:∀ q∈l.map pl,cmpP q (pl x)≠0:=fun q hq e=>by
     obtain⟨e1,e2⟩:=(z7h (h.gd q hq).1 hx).1 e
     exact hh (zde.2 ⟨q,hq,e1,e2⟩)
    refine y4v.2 ⟨y4l (List.take_sublist _ _) h.pw,y47.2 ⟨fun q hq=>?_,y4l (List.drop_sublist _ _) h.pw⟩,fun a ha b hb=>?_⟩
    ·obtain⟨i,hi,e⟩:=y4w.1 hq
     rw[List.getElem_drop] at e
     have hi':posP (l.map pl) (pl x)+i<(l.map pl).length:=by simp only[y2x] at hi; omega
     have h1:=zdg (r:=pl x) h.srt h.gd hi' om
     have h2:=hno q (y32 hq)
     have h3:=zfv (a:=pl x) (b:=q) hx
     rw[zo hi',e] at h1
     omega
    ·obtain⟨i,hi,e⟩:=y4w.1 ha
     rw[List.getElem_take] at e
     have hi':i<posP (l.map pl) (pl x):=by simp only[y1l] at hi; omega
     have h1:=z9j (r:=pl x) hi'
     rw[zo om,e] at h1
     rcases yl.1 hb with rfl | hb
     ·exact h1
     ·have:PW (l.map pl):=h.pw
      unfold PW at this
      rw[<- y2r (posP (l.map pl) (pl x)) (l.map pl)] at this
      exact (y4v.1 this).2.2 a ha b hb
 ·rcases zc2 hy with rfl | hy
  ·exact hx
  ·exact h.good y hy
end
def plL (x:TLi):TPl:=⟨x.B,x.J⟩
def plB (x:TBo):TPl:=⟨x.B,x.J⟩
theorem cloneLine {l:List TLi} (hl:l.length<=1000000):F_q3n l=some l:=by
 simp only[F_q3n,S_q3n,Scr.den]
 rw[Ga]
theorem deleteLine {l:List TLi} (hl:l.length<=1000000) {k:Nat} (hk:k<l.length):F_q3o (k:Int) ((k+1:Nat):Int) l=some (l.eraseIdx k):=by
 simp only[F_q3o,S_q3o,Scr.den,yd]
 rw[z3 ⟨om,om,om,om,trivial⟩,y5 (by simp only[yx]; omega),Gb,
  z3 ⟨om,by rw[zl]; exact ya _,trivial⟩,z3 ⟨by rw[z1b,zl]; omega,trivial⟩,z3 ⟨by rw[z1b,zl]; omega,trivial⟩]
 rw[zdh l k hk]
theorem putLine {l:List TLi} (hl:l.length<=100000) (h:OrdG plL l) {x:TLi} (hx:good x.B=true) (rm:Bool):F_q25 l x rm=some (putG plL l x rm):=by
 simp only[F_q25,S_q25,Scr.den]
 rw[z1z l (fun _=>true) plL 1000000 om fun i s hi hs=>by
  simp only[S_q25_b1,Scr.den,F_q2o,S_q2o,obind]
  rw[Ga,y6 trivial]; rfl]
 rw[y41.2 (fun _ _=>rfl)]
 simp only[outM,F_q2o,S_q2o,Scr.den,obind]
 rw[show (⟨x.B,x.J⟩:TPl)=plL x from rfl]
 have hgx:PGood (plL x):=⟨hx,trivial⟩
 have hml:(l.map plL).length<=1000000:=sk
 rw[z8z hml h.srt h.gd hgx,(z9k h.srt h.gd hgx).1,obind,cloneLine om,obind]
 have hp:=z5h (l.map plL) (plL x)
 simp only[y2f] at hp
 simp only[z8,yd,y13]
 unfold putG
 by_cases hh:hasP (l.map plL) (plL x).code (plL x).year=true
 ·obtain⟨k1,k2⟩:=zc1 h hx hh
  cases rm with
  | true =>
   rw[y6 (by simp[hh]),y6 hh,y6 rfl,wrapId om om,show ((posP (l.map plL) (plL x):Int)+1)=((posP (l.map plL) (plL x)+1:Nat):Int) from om,deleteLine om k1,obind]
  | false =>
   rw[y5 sj,y5 sj,y6 hh,y6 hh,y5 sj,z3 ⟨om,k1,k1,trivial⟩,z3 ⟨by rw[List.length_set]; omega,trivial⟩]
 ·cases rm with
  | true =>
   rw[y5 (by simp[hh]),y6 rfl,y5 hh,y6 rfl,Ga]
  | false =>
   rw[y5 sj,y5 sj,y5 hh,y5 hh,y5 sj]
   simp only[F_q46,yd]
   rw[z3 ⟨om,hp,om⟩,obind,z3 ⟨by rw[z1p]; omega,trivial⟩]
theorem cloneBound {l:List TBo} (hl:l.length<=1000000):F_q3p l=some l:=by
 simp only[F_q3p,S_q3p,Scr.den]
 rw[Ga]
theorem deleteBound {l:List TBo} (hl:l.length<=1000000) {k:Nat} (hk:k<l.length):F_q3q (k:Int) ((k+1:Nat):Int) l=some (l.eraseIdx k):=by
 simp only[F_q3q,S_q3q,Scr.den,yd]
 rw[z3 ⟨om,om,om,om,trivial⟩,y5 (by simp only[yx]; omega),Gb,
  z3 ⟨om,by rw[zl]; exact ya _,trivial⟩,z3 ⟨by rw[z1b,zl]; omega,trivial⟩,z3 ⟨by rw[z1b,zl]; omega,trivial⟩]
 rw[zdh l k hk]
theorem putBound {l:List TBo} (hl:l.length<=100000) (h:OrdG plB l) {x:TBo} (hx:good x.B=true) (rm:Bool):F_q1n l x rm=some (putG plB l x rm):=by
 simp only[F_q1n,S_q1n,Scr.den]
 rw[z1z l (fun _=>true) plB 1000000 om fun i s hi hs=>by
  simp only[S_q1n_b1,Scr.den,F_q2q,S_q2q,obind]
  rw[Ga,y6 trivial]; rfl]
 rw[y41.2 (fun _ _=>rfl)]
 simp only[outM,F_q2q,S_q2q,Scr.den,obind]
 rw[show (⟨x.B,x.J⟩:TPl)=plB x from rfl]
 have hgx:PGood (plB x):=⟨hx,trivial⟩
 have hml:(l.map plB).length<=1000000:=sk
 rw[z8z hml h.srt h.gd hgx,(z9k h.srt h.gd hgx).1,obind,cloneBound om,obind]
 have hp:=z5h (l.map plB) (plB x)
 simp only[y2f] at hp
 simp only[z8,yd,y13]
 unfold putG
 by_cases hh:hasP (l.map plB) (plB x).code (plB x).year=true
 ·obtain⟨k1,k2⟩:=zc1 h hx hh
  cases rm with
  | true =>
   rw[y6 (by simp[hh]),y6 hh,y6 rfl,wrapId om om,show ((posP (l.map plB) (plB x):Int)+1)=((posP (l.map plB) (plB x)+1:Nat):Int) from om,deleteBound om k1,obind]
  | false =>
   rw[y5 sj,y5 sj,y6 hh,y6 hh,y5 sj,z3 ⟨om,k1,k1,trivial⟩,z3 ⟨by rw[List.length_set]; omega,trivial⟩]
 ·cases rm with
  | true =>
   rw[y5 (by simp[hh]),y6 rfl,y5 hh,y6 rfl,Ga]
  | false =>
   rw[y5 sj,y5 sj,y5 hh,y5 hh,y5 sj]
   simp only[F_q47,yd]
   rw[z3 ⟨om,hp,om⟩,obind,z3 ⟨by rw[z1p]; omega,trivial⟩]
end Go.Proofs.YtgfgnhpecnmlpaaGreatDoor
/- A law that is valid; changes carried out; the law in force. No condition. -/
namespace Go.Proofs.YtgfgnhpecnmlpaaGreatDoor
open Go Go.TA
open Go.IntKind (i64)
attribute [-simp] List.getD_eq_getElem?_getD
theorem z6x {α:Type} [Inhabited α] {pl:α->TPl} {l:List α} {x y:α} {rm:Bool} (h:y∈putG pl l x rm):(y=x/\rm=false)\/y∈l:=by
 cases rm with
 | false=>exact (zc2 h).imp (fun e=>⟨e,rfl⟩) id
 | true =>
  right
  unfold putG at h
  split at h
  ·rw[y6 rfl] at h; exact List.mem_of_mem_eraseIdx h
  ·rw[y6 rfl] at h; exact h
theorem zc4 {a b:TPl} (h:good a.code=true\/good b.code=true):cmpP a b<0↔ltC a.code a.year b.code b.year=true:=by
 rw[z7g h]; unfold ltC; simp
section
variable {α:Type} [Inhabited α] {pl:α->TPl}
theorem z62 {l:List α} {i:Nat} (hi:i<l.length):(l.map pl).getD i dF=pl (l.getD i dF):=by
 rw[zo (by simpa using hi),zo hi,List.getElem_map]
theorem zdi {one:α->Int} (hg:∀ x,one x=0->good (pl x).code=true) {l:List α} :
  fstE l.length (chE (fun i=>one (l.getD i dF)) fun i=>ltC (pl (l.getD (i-1) dF)).code (pl (l.getD (i-1) dF)).year (pl (l.getD i dF)).code (pl (l.getD i dF)).year)=0 ↔
   OrdG pl l/\∀ x∈l,one x=0:=by
 rw[z23]
 constructor
 ·intro h
  have h1:∀ x∈l,one x=0:=fun x hx=>by
   obtain⟨i,hi,rfl⟩:=z2k hx
   exact z1u (h i hi)
  refine⟨⟨zfx (fun q hq=>?_) fun i hi=>?_,fun x hx=>hg x (h1 x hx)⟩,h1⟩
  ·obtain⟨x,hx,rfl⟩:=y19.1 hq
   exact⟨hg x (h1 x hx),trivial⟩
  ·have hi':i<l.length:=by simpa using hi
   by_cases h0:i=0
   ·exact .inl h0
   ·right
    rw[z62 hi',z62 (show i-1<l.length from om),zc4 (.inr (hg _ (h1 _ (z4 hi'))))]
    exact (zby.1 (h i hi')).2 om
 ·rintro⟨ho,h1⟩ i hi
  refine zby.2 ⟨h1 _ (z4 hi),fun h0=>?_⟩
  have:=(ho.srt i (by simpa using hi)).resolve_left om
  rwa [z62 hi,z62 (show i-1<l.length from om),zc4 (.inr (hg _ (h1 _ (z4 hi))))] at this
end
variable {t:List THe} {f y:Int}
theorem ordL {l:List TLi}:fstE l.length (lineE t f y l)=0↔OrdG plL l/\∀ x∈l,z26 t f y x=0 :=
 zdi (pl:=plL) (one:=z26 t f y) fun _ h=>lineG h
theorem ordBd (ht:treeE t=0) {l:List TBo}:fstE l.length (boundE t f y l)=0↔OrdG plB l/\∀ x∈l,z15 t f y x=0 :=
 zdi (pl:=plB) (one:=z15 t f y) fun _ h=>boundG ht h
structure RestOk (l:TLa):Prop where
 yr:¬ yrB l
 tr:treeE l.H=0
 li:¬ (l.F.length>20\/l.I.length>20\/l.O.length>20\/l.A.length>20\/l.A.any (fun a=>decide (a.D.length>20))=true)
 ea:fstE l.F.length (earE l.H l.F)=0
 sh:shareE l.H l.F=0
 co:fstE l.I.length (fun i=>z1j l.H l.E l.G (l.I.getD i dF))=0
 ru:fstE l.O.length (ruleE l.H l.O)=0
 am:fstE l.A.length (amdE l.H l.E l.G l.A)=0
structure RowsOk (l:TLa):Prop where
 lo:OrdG plL l.P
 l1:∀ x∈l.P,z26 l.H l.E l.G x=0
 co:OrdG plB l.R
 c1:∀ x∈l.R,z15 l.H l.E l.G x=0
 fo:OrdG plB l.S
 f1:∀ x∈l.S,z15 l.H l.E l.G x=0
def bigL (l:TLa):Prop:=l.P.length>120\/l.R.length>60\/l.S.length>60
instance (l:TLa):Decidable (bigL l):=inferInstanceAs (Decidable (_\/_))
variable {l:TLa}
theorem z3t:errL l=0↔RestOk l/\RowsOk l/\¬ bigL l:=by
 unfold errL
 by_cases p1:yrB l
 ·rw[y6 p1]; exact⟨fun h=>absurd h dk,fun h=>absurd p1 h.1.yr⟩
 rw[y5 p1]
 by_cases p2:treeE l.H=0
 ·rw[y6 p2]
  by_cases p3:limB l
  ·rw[y6 p3]
   refine⟨fun h=>absurd h dk,fun⟨h1,_,h3⟩=>?_⟩
   have h4:=h1.li
   unfold bigL at h3
   rcases p3 with p | p | p | p | p | p | p | p
   ·exact absurd (.inl p) h3
   ·exact absurd (.inr (.inl p)) h3
   ·exact absurd (.inr (.inr p)) h3
   ·exact absurd (.inl p) h4
   ·exact absurd (.inr (.inl p)) h4
   ·exact absurd (.inr (.inr (.inl p))) h4
   ·exact absurd (.inr (.inr (.inr (.inl p)))) h4
   ·exact absurd (.inr (.inr (.inr (.inr p)))) h4
  ·rw[y5 p3]
   have hz:∀ (a b c d e f g h:Int),orE [a,b,c,d,e,f,g,h]=0↔a=0/\b=0/\c=0/\d=0/\e=0/\f=0/\g=0/\h=0:=fun a b c d e f g h=>by
    simp only[z17,z2g]
    constructor
    ·intro hh
     by_cases ha:a=0 <;> by_cases hb:b=0 <;> by_cases hc:c=0 <;> by_cases hd:d=0 <;> by_cases he:e=0 <;> by_cases hf:f=0 <;> by_cases hg:g=0 <;> by_cases hi:h=0 <;> simp_all
    ·rintro⟨rfl,rfl,rfl,rfl,rfl,rfl,rfl,rfl⟩; rfl
   rw[hz,ordL,ordBd p2,ordBd p2]
   constructor
   ·rintro⟨⟨a1,a2⟩,⟨b1,b2⟩,⟨c1,c2⟩,d,e,f,g,h⟩
    refine⟨⟨p1,p2,fun hb=>p3 ?_,d,e,f,g,h⟩,⟨a1,a2,b1,b2,c1,c2⟩,fun hb=>p3 ?_⟩
    ·exact .inr (.inr (.inr hb))
    ·rcases hb with hb | hb | hb
     ·exact .inl hb
     ·exact .inr (.inl hb)
     ·exact .inr (.inr (.inl hb))
   ·rintro⟨h1,h2,_⟩
    exact⟨⟨h2.lo,h2.l1⟩,⟨h2.co,h2.c1⟩,⟨h2.fo,h2.f1⟩,h1.ea,h1.sh,h1.co,h1.ru,h1.am⟩
 ·rw[y5 p2]; exact⟨fun h=>absurd h p2,fun h=>absurd h.1.tr p2⟩
def setS (x:TCh) (l:TLa):TLa :=
 if x.C=1 then { l with P:=putG plL l.P ⟨x.B,x.J,x.M⟩ (x.M==0) }
 else if x.C=2 then { l with R:=putG plB l.R ⟨x.B,x.J,x.M⟩ (x.M==-1) }
 else if x.C=3 then { l with S:=putG plB l.S ⟨x.B,x.J,x.M⟩ (x.M==0) }
 else l
structure WL (n:Nat) (l:TLa):Prop where
 lo:OrdG plL l.P
 ll:l.P.length<=n
 co:OrdG plB l.R
 cl:l.R.length<=n
 fo:OrdG plB l.S
 fl:l.S.length<=n
theorem putLo {l:List TLi} (h:OrdG plL l) {x:TLi} (hx:good x.B=true) (rm:Bool):OrdG plL (putG plL l x rm):=zc3 h hx rm
theorem putBo {l:List TBo} (h:OrdG plB l) {x:TBo} (hx:good x.B=true) (rm:Bool):OrdG plB (putG plB l x rm):=zc3 h hx rm
variable {x:TCh} {n:Nat}
theorem zic (h:WL n l) (hx:good x.B=true):WL (n+1) (setS x l):=by
 unfold setS
 have g1:=h.ll; have g2:=h.cl; have g3:=h.fl
 split
 ·exact⟨putLo h.lo hx _,y1t (z88 _ _ _) (Nat.succ_le_succ g1),h.co,y2c g2,h.fo,y2c g3⟩
 ·split
  ·exact⟨h.lo,y2c g1,putBo h.co hx _,y1t (z88 _ _ _) (Nat.succ_le_succ g2),h.fo,y2c g3⟩
  ·split
   ·exact⟨h.lo,y2c g1,h.co,y2c g2,putBo h.fo hx _,y1t (z88 _ _ _) (Nat.succ_le_succ g3)⟩
   ·exact⟨h.lo,y2c g1,h.co,y2c g2,h.fo,y2c g3⟩
theorem zj9 (hn:n<=100000) (h:WL n l) (hx:good x.B=true):F_q3r x l=some (setS x l):=by
 have g1:=h.ll; have g2:=h.cl; have g3:=h.fl
 simp only[F_q3r,S_q3r,Scr.den]
 unfold setS
 by_cases k1:x.C=1
 ·rw[y6 (by simpa using k1),y6 k1,putLine om h.lo hx,obind]
 ·rw[y5 (by simpa using k1),y5 k1]
  by_cases k2:x.C=2
  ·rw[y6 (by simpa using k2),y6 k2,putBound om h.co hx,obind]
  ·rw[y5 (by simpa using k2),y5 k2]
   by_cases k3:x.C=3
   ·rw[y6 (by simpa using k3),y6 k3,putBound om h.fo hx,obind]
   ·rw[y5 (by simpa using k3),y5 k3]
theorem zah (x:TCh) (l:TLa):(setS x l).E=l.E/\(setS x l).G=l.G/\(setS x l).H=l.H/\(setS x l).F=l.F/\(setS x l).I=l.I /\
  (setS x l).O=l.O/\(setS x l).A=l.A:=by
 unfold setS
 split
 ·exact⟨rfl,rfl,rfl,rfl,rfl,rfl,rfl⟩
 ·split
  ·exact⟨rfl,rfl,rfl,rfl,rfl,rfl,rfl⟩
  ·split <;> exact⟨rfl,rfl,rfl,rfl,rfl,rfl,rfl⟩
theorem zfy (h:RowsOk l) (ht:treeE l.H=0) (hx:zx l.H l.E l.G x=0):RowsOk (setS x l):=by
 have hg:=chgG ht hx
 have hx':¬ (has l.H x.B=false\/(x.C=1/\leafT l.H x.B=false))/\¬ (inY l.E l.G x.J=false/\(x.C=1\/x.J≠-1))/\¬ (amt x.M=false/\(x.C≠2\/x.M≠-1)):=by
  unfold zx at hx
  split at hx
  ·cases hx
  ·split at hx
   ·cases hx
   ·split at hx
    ·cases hx
    ·split at hx
     ·cases hx
     ·rename_i a b c d; exact⟨b,c,d⟩
 obtain⟨q1,q2,q3⟩:=hx'
 have hb:∀ rm:Bool,(rm=true\/amt x.M=true)->rm=false->z15 l.H l.E l.G ⟨x.B,x.J,x.M⟩=0:=fun rm h1 h2=>by
  unfold z15
  rw[y5 (fun h=>q1 (.inl h)),y5 (fun h=>q2 ⟨h.2,.inr h.1⟩),y5 (by rcases h1 with h1 | h1; rw[h1] at h2; cases h2; simp[h1])]
 unfold setS
 split
 ·rename_i k1
  refine⟨putLo h.lo hg _,fun y hy=>?_,h.co,h.c1,h.fo,h.f1⟩
  rcases z6x hy with ⟨rfl,_⟩ | hy
  ·unfold z26
   have e1:leafT l.H x.B=true:=by
    cases e:leafT l.H x.B
    ·exact absurd (.inr ⟨k1,e⟩) q1
    ·rfl
   have e2:inY l.E l.G x.J=true:=by
    cases e:inY l.E l.G x.J
    ·exact absurd ⟨e,.inl k1⟩ q2
    ·rfl
   have e3:amt x.M=true:=by
    cases e:amt x.M
    ·exact absurd ⟨e,.inl om⟩ q3
    ·rfl
   show (if leafT l.H x.B=false then (5:Int) else if inY l.E l.G x.J=false then 16 else if amt x.M=false then 2 else 0)=0
   simp[e1,e2,e3]
  ·exact h.l1 y hy
 ·split
  ·rename_i k2
   refine⟨h.lo,h.l1,putBo h.co hg _,fun y hy=>?_,h.fo,h.f1⟩
   rcases z6x hy with ⟨rfl,hr⟩ | hy
   ·refine hb _ ?_ hr
    by_cases e:amt x.M=true
    ·exact .inr e
    ·left
     have:¬ (x.C≠2\/x.M≠-1):=fun h=>q3 ⟨by simpa using e,h⟩
     simp only[not_or,ne_eq,y49] at this
     simpa using this.2
   ·exact h.c1 y hy
  ·rename_i k1 k2
   split
   ·refine⟨h.lo,h.l1,h.co,h.c1,putBo h.fo hg _,fun y hy=>?_⟩
    rcases z6x hy with ⟨rfl,hr⟩ | hy
    ·refine hb _ ?_ hr
     right
     cases e:amt x.M
     ·exact absurd ⟨e,.inl k2⟩ q3
     ·rfl
    ·exact h.f1 y hy
   ·exact h
end Go.Proofs.YtgfgnhpecnmlpaaGreatDoor
/- The law in force. No condition. -/
namespace Go.Proofs.YtgfgnhpecnmlpaaGreatDoor
open Go Go.TA
open Go.IntKind (i64)
attribute [-simp] List.getD_eq_getElem?_getD
def applyS (cs:List TCh) (l:TLa):TLa:=cs.foldl (fun l x=>setS x l) l
def zL:TLa:=⟨0,0,[],[],[],[],[],[],[],[]⟩
theorem z90 (a b:List TCh) (l:TLa):applyS (a++b) l=applyS b (applyS a l):=List.foldl_append
theorem zid (x:TCh) (l:TLa) (A:List TAm):setS x { l with A:=A }={ setS x l with A:=A }:=by
 unfold setS
 split
 ·rfl
 ·split
  ·rfl
  ·split <;> rfl
theorem zai (cs:List TCh) (A:List TAm):∀ l:TLa,applyS cs { l with A:=A }={ applyS cs l with A:=A }:=by
 induction cs with
 | nil=>intro l; rfl
 | cons x cs ih=>intro l; show applyS cs (setS x { l with A:=A })=_; rw[zid,ih]; rfl
theorem zcq (cs:List TCh):∀ l:TLa,(applyS cs l).E=l.E/\(applyS cs l).G=l.G/\(applyS cs l).H=l.H/\(applyS cs l).F=l.F /\
  (applyS cs l).I=l.I/\(applyS cs l).O=l.O/\(applyS cs l).A=l.A:=by
 induction cs with
 | nil=>intro l; exact⟨rfl,rfl,rfl,rfl,rfl,rfl,rfl⟩
 | cons x cs ih =>
  intro l
  obtain⟨a1,a2,a3,a4,a5,a6,a7⟩:=ih (setS x l)
  obtain⟨b1,b2,b3,b4,b5,b6,b7⟩:=zah x l
  exact⟨a1.trans b1,a2.trans b2,a3.trans b3,a4.trans b4,a5.trans b5,a6.trans b6,a7.trans b7⟩
variable {cs:List TCh}
theorem zaj (hc:∀ x∈cs,good x.B=true):∀ {n:Nat} {l:TLa},WL n l->WL (n+cs.length) (applyS cs l):=by
 induction cs with
 | nil=>intro n l h; exact h
 | cons x cs ih =>
  intro n l h
  have:=ih (fun y hy=>hc y (yw _ hy)) (zic h (hc x y1j))
  rwa [yy,show n+(cs.length+1)=n+1+cs.length from om]
theorem zcr:∀ {l:TLa},RowsOk l->treeE l.H=0->(∀ x∈cs,zx l.H l.E l.G x=0)->RowsOk (applyS cs l):=by
 induction cs with
 | nil=>intro l h _ _; exact h
 | cons x cs ih =>
  intro l h ht hc
  obtain⟨b1,b2,b3,_⟩:=zah x l
  exact ih (zfy h ht (hc x y1j)) (by rw[b3]; exact ht) (fun y hy=>by rw[b1,b2,b3]; exact hc y (yw _ hy))
structure FewL (l:TLa):Prop where
 t:l.H.length<=1000000
 li:l.P.length<=1000000
 c:l.R.length<=1000000
 f:l.S.length<=1000000
 e:l.F.length<=1000000
 o:l.I.length<=1000000
 r:l.O.length<=1000000
 a:l.A.length<=1000000
 x:∀ x∈l.A,x.D.length<=1000000
variable {l:TLa}
theorem zec (h:FewL l):F_q1m l=some l:=by
 have g1:=h.t; have g2:=h.li; have g3:=h.c; have g4:=h.f; have g5:=h.e; have g6:=h.o; have g7:=h.r; have g8:=h.a
 simp only[F_q1m,S_q1m,Scr.den,F_q3z,S_q3z,F_q40,S_q40,F_q3m,S_q3m,
  F_q41,S_q41,F_q42,S_q42,F_q43,S_q43]
 rw[Ga,obind,Ga,obind,Ga,obind,Ga,obind,Ga,obind,Ga,obind,Ga,obind]
 obtain⟨s,e,hs⟩:=z13 (body:=fun i s=>(S_q1m_b1 l i s).den) (n:=l.A.length) (fun i s=>s=(l.E,l.G,l.H,l.P,l.R,l.S,l.F,l.I,l.O,l.A.take i))
  (s0:=(l.E,l.G,l.H,l.P,l.R,l.S,l.F,l.I,l.O,[])) rfl (fun i s hi h1=>by
   subst h1
   have hx:=h.x _ (z4 hi)
   refine⟨_,?_,rfl⟩
   simp only[S_q1m_b1,Scr.den,F_q44,S_q44]
   rw[Ga,obind,z3 ⟨by rw[y1l]; omega,trivial⟩]
   rw[y1w hi,zo hi])
 rw[e,hs]
 simp only[outM,y3k]
 rw[Ga]
theorem zh5 {n:Nat} (hf:FewL l) (h:WL n l) (hc:∀ x∈cs,good x.B=true) (hn:n+cs.length<=100000) :
  F_q13 l cs=some (if bigL (applyS cs l) then (zL,3) else (applyS cs l,0)):=by
 simp only[F_q13,S_q13,Scr.den,zec hf,obind]
 rw[Ga]
 obtain⟨s,e,hs⟩:=z13 (body:=fun i s=>(S_q13_b1 cs i s).den) (n:=cs.length) (fun i s=>s=applyS (cs.take i) l) (s0:=l) rfl (fun i s hi h1=>by
  refine⟨_,?_,rfl⟩
  have hw:WL (n+i) s:=by
   rw[h1]
   have:=zaj (cs:=cs.take i) (fun x hx=>hc x (y1p hx)) h
   rwa [y1l,Nat.min_eq_left om] at this
  simp only[S_q13_b1,Scr.den,y13]
  rw[z3 ⟨hi,trivial⟩,zj9 om hw (hc _ (z4 hi)),obind,h1,y1w hi,z90,zo hi]
  rfl)
 rw[e,hs]
 simp only[outM,y3k,zd]
 by_cases hb:bigL (applyS cs l)
 ·rw[y6 hb,y6 (by unfold bigL at hb; simp only[yg,y7]; omega)]
  rfl
 ·rw[y5 hb,y5 (by unfold bigL at hb; simp only[yg,y7]; omega)]
def laterI (l:TLa) (d:Int):Nat:=l.A.findIdx fun a=>decide (a.K>d)
def nowC (l:TLa) (d:Int):List TCh:=(l.A.take (laterI l d)).flatMap (·.D)
def forceL (l:TLa) (d:Int):TLa:=applyS (nowC l d) { l with A:=l.A.drop (laterI l d) }
def inS (l:TLa) (d:Int):TLa×Int:=if errL l=0 then (if d<0\/d>36000 then (zL,2) else if bigL (forceL l d) then (zL,3) else (forceL l d,0)) else (zL,errL l)
theorem zak (l:TLa) (d:Int):laterI l d<=l.A.length:=List.findIdx_le_length
theorem z9l {L:List TAm} {k:Nat} (h:∀ a∈L,a.D.length<=k):(L.flatMap (·.D)).length<=L.length * k:=by
 induction L with
 | nil=>simp
 | cons a L ih =>
  have h1:=ih fun x hx=>h x (yw _ hx)
  have h2:=h a y1j
  rw[y57,ym,yy,y1a]; omega
theorem z89 (h:RestOk l):l.A.length<=20/\∀ a∈l.A,a.D.length<=20:=by
 have h1:=h.li
 simp only[not_or] at h1
 refine⟨om,fun a ha=>?_⟩
 have:=h1.2.2.2.2
 rcases yj 20 a.D.length with h2 | h2
 ·exact absurd (y1i.2 ⟨a,ha,y17 h2⟩) this
 ·exact h2
theorem zc5 (h:RestOk l):∀ a∈l.A,∀ c∈a.D,zx l.H l.E l.G c=0:=fun a ha c hc=>by
 obtain⟨i,hi,rfl⟩:=z2k ha
 have h1:=z23.1 h.am i hi
 unfold amdE at h1
 split at h1
 ·cases h1
 ·split at h1
  ·cases h1
  ·split at h1
   ·cases h1
   ·obtain⟨j,hj,rfl⟩:=z2k hc
    exact z1u (z23.1 h1 j hj)
theorem z9m (h:RestOk l) (d:Int):∀ c∈nowC l d,zx l.H l.E l.G c=0:=fun c hc=>by
 obtain⟨a,ha,hca⟩:=y3h.1 hc
 exact zc5 h a (y1p ha) c hca
theorem zie (h:RestOk l) (d:Int):(nowC l d).length<=400:=by
 obtain⟨h1,h2⟩:=z89 h
 have:=z9l (L:=l.A.take (laterI l d)) (k:=20) fun a ha=>h2 a (y1p ha)
 have h3:=zak l d
 unfold nowC
 rw[y1l] at this
 have:min (laterI l d) l.A.length * 20<=20 * 20:=yf 20 om
 omega
theorem zjm (h:RowsOk l) (hb:¬ bigL l):WL 120 l:=by
 unfold bigL at hb
 exact⟨h.lo,om,h.co,om,h.fo,om⟩
theorem z2u (hs:SmL l) (d:Int):F_qf l d=some (inS l d):=by
 simp only[F_qf,S_qf,Scr.den,zag hs,obind,zd]
 unfold inS
 by_cases hne:¬ errL l=0
 ·rw[y6 (by simpa using hne),y5 hne]; rfl
 have he:errL l=0:=y49.1 hne
 rw[y5 (by simpa using he),y6 he]
 by_cases hd:d<0\/d>36000
 ·rw[y6 (by simpa using hd),y6 hd]; rfl
 rw[y5 (by simpa using hd),y5 hd]
 obtain⟨hr,hw,hb⟩:=z3t.1 he
 obtain⟨f1,f2⟩:=z89 hr
 have hle:=zak l d
 have hidx:∃ v,F_q24 l.A d=some v/\(if v<0 then (l.A.length:Int) else v)=(laterI l d:Int):=by
  simp only[F_q24,S_q24,Scr.den]
  rw[z1m l.A (fun a=>decide (a.K>d)) (fun i=>(i:Int)) fun i hi=>by
   simp only[S_q24_b1,F_q3y,S_q3y,Scr.den,obind]
   split <;> rfl]
  by_cases ha:(l.A.any fun a=>decide (a.K>d))=true
  ·rw[y6 ha]
   refine⟨_,rfl,?_⟩
   have h0:¬ ((l.A.findIdx fun a=>decide (a.K>d):Nat):Int)<0:=om
   exact y5 h0
  ·rw[y5 ha]
   refine⟨_,rfl,?_⟩
   rw[y6 dk]
   have:laterI l d=l.A.length:=List.findIdx_eq_length.2 fun a ha'=>by
    cases h:decide (a.K>d)
    ·rfl
    ·exact absurd (y1i.2 ⟨a,ha',h⟩) ha
   rw[this]
 obtain⟨v,hv,hv2⟩:=hidx
 rw[hv,obind]
 have hcut:(if decide (v<0)=true then some (Out.next (l.A.length:Int)) else some (Out.next v):Option (Out Int R_qf))=some (.next (laterI l d:Int)):=by
  rw[<- hv2]
  by_cases h:v<0
  ·rw[y6 (y17 h),y6 h]
  ·rw[y5 (by simpa using h),y5 h]
 rw[hcut]
 simp only[outM,yd]
 rw[z3 ⟨om,hle,trivial⟩]
 obtain⟨s,e,h1⟩:=z13 (body:=fun i s=>(S_qf_b1 l (laterI l d:Int) i s).den) (n:=(l.A.take (laterI l d)).length) (fun i s=>s=((l.A.take (laterI l d)).take i).flatMap (·.D)) (s0:=[]) rfl (fun i s hi h1=>by
  refine⟨_,?_,rfl⟩
  have hsl:s.length<=400:=by
   rw[h1]
   have:=z9l (L:=(l.A.take (laterI l d)).take i) (k:=20) fun a ha=>f2 a (y1p (y1p ha))
   have h3:((l.A.take (laterI l d)).take i).length * 20<=20 * 20:=yf 20 (by rw[y1l,y1l]; omega)
   omega
  have hcl:=f2 _ (y1p (z4 hi))
  simp only[S_qf_b1,Scr.den,yd]
  rw[Ga,h1,y1w hi,y3y,zo hi]
  simp)
 rw[e,h1]
 simp only[y3k]
 have hcc:∀ x∈nowC l d,good x.B=true:=fun x hx=>chgG hr.tr (z9m hr d x hx)
 have hlim:=hr.li
 have htl:l.H.length<=60:=by
  have:=hr.tr
  unfold treeE at this
  split at this
  ·cases this
  ·omega
 have hbb:=hb
 unfold bigL at hbb
 have hfew:FewL { l with A:=l.A.drop (laterI l d) }:=⟨by simp only; omega,by simp only; omega,by simp only; omega,by simp only; omega,by simp only; omega,by simp only; omega,by simp only; omega,
  by simp only[y2x]; omega,fun x hx=>by have:=f2 x (y32 hx); omega⟩
 have hwl:WL 120 { l with A:=l.A.drop (laterI l d) }:=zjm (l:={ l with A:=l.A.drop (laterI l d) }) ⟨hw.lo,hw.l1,hw.co,hw.c1,hw.fo,hw.f1⟩ hb
 have hnl:=zie hr d
 rw[show (l.A.take (laterI l d)).flatMap (·.D)=nowC l d from rfl]
 show ((F_q13 { l with A:=l.A.drop (laterI l d) } (nowC l d)).bind fun r=>some (r.1,r.2))=_
 rw[zh5 hfew hwl hcc om,obind]
 rfl
end Go.Proofs.YtgfgnhpecnmlpaaGreatDoor
/- A law is the same as itself; the days; the law in force on a later day. No condition. -/
namespace Go.Proofs.YtgfgnhpecnmlpaaGreatDoor
open Go Go.TA
open Go.IntKind (i64)
attribute [-simp] List.getD_eq_getElem?_getD
theorem z1i {ρ:Type} {body:Nat->Unit->Option (Step Unit ρ)} {n:Nat} (hs:∀ i,i<n->body i ()=some (.cont ())):rangeM body n 0 ()=some (.next ()):=by
 obtain⟨s,e,_⟩:=z13 (body:=body) (n:=n) (fun _ _=>True) (s0:=()) trivial (fun i s hi _=>⟨(),hs i hi,trivial⟩)
 exact e
theorem zed (t:List THe):F_q26 t t=some true:=by
 simp only[F_q26,S_q26,Scr.den]
 rw[y5 sj,z1i fun i hi=>by
  simp only[S_q26_b1,Scr.den]
  rw[z3 ⟨hi,trivial⟩,y5 sj]]
 rfl
theorem zcs (t:List TLi):F_q27 t t=some true:=by
 simp only[F_q27,S_q27,Scr.den]
 rw[y5 sj,z1i fun i hi=>by
  simp only[S_q27_b1,Scr.den]
  rw[z3 ⟨hi,trivial⟩,y5 sj]]
 rfl
theorem zct (t:List TBo):F_q1o t t=some true:=by
 simp only[F_q1o,S_q1o,Scr.den]
 rw[y5 sj,z1i fun i hi=>by
  simp only[S_q1o_b1,Scr.den]
  rw[z3 ⟨hi,trivial⟩,y5 sj]]
 rfl
theorem zcu {t:List TAm} (h:∀ x∈t,x.D.length<=1000000):F_ql t t=some true:=by
 simp only[F_ql,S_ql,Scr.den]
 rw[y5 sj,z1i fun i hi=>by
  have:=h _ (z4 hi)
  simp only[S_ql_b2,Scr.den]
  rw[z3 ⟨hi,fun _=>hi,fun _=>hi,trivial⟩,y5 sj,Ga,z1i fun j hj=>by
   simp only[S_ql_b1,Scr.den]
   rw[z3 ⟨hj,trivial⟩,y5 sj]]
  rfl]
 rfl
variable {l:TLa}
theorem zal (h:FewL l):F_q7 l l=some true:=by
 have g5:=h.e; have g6:=h.o; have g7:=h.r
 simp only[F_q7,S_q7,Scr.den,zed,zcs,zct,zcu h.x]
 rw[Gg,obind,Gg,obind,Gg,obind,Gg,obind,Gg,obind]
 rw[y5 sj,y5 sj,Ga,z1i fun i hi=>by
  simp only[S_q7_b1,Scr.den]
  rw[z3 ⟨hi,trivial⟩,y5 sj]]
 simp only[outM]
 rw[Ga,z1i fun i hi=>by
  simp only[S_q7_b2,Scr.den]
  rw[z3 ⟨hi,trivial⟩,y5 sj]]
 simp only
 rw[Ga,z1i fun i hi=>by
  simp only[S_q7_b3,Scr.den]
  rw[z3 ⟨hi,trivial⟩,y5 sj]]
def daysL (l:TLa):List Int:=Lib.compact (l.A.map (·.K))
theorem zcv {zs:List Int} {x:Int} (h:x∈zs):x∈Lib.compact zs:=by
 obtain⟨j,hj,rfl⟩:=y4w.1 h
 have key:∀ j (hj:j<zs.length),zs[j]∈Lib.compact zs:=by
  intro j
  induction j with
  | zero =>
   intro hj
   unfold Lib.compact Lib.compactUpTo
   refine y19.2 ⟨0,y1v.2 ⟨y1z.2 hj,by simp[Lib.keeps]⟩,?_⟩
   simp[hj]
  | succ j ih =>
   intro hj
   by_cases hk:Lib.keeps zs.toArray (j+1)=true
   ·unfold Lib.compact Lib.compactUpTo
    refine y19.2 ⟨j+1,y1v.2 ⟨y1z.2 hj,hk⟩,?_⟩
    simp[hj]
   ·have:zs[j+1]=zs[j]:=by
     have h1:j<zs.length:=om
     simp[Lib.keeps,hj,h1] at hk
     exact hk
    rw[this]
    exact ih om
 exact key j hj
theorem zdj (hs:SmL l):F_q14 l=some (if errL l=0 then daysL l else []):=by
 have hal:=hs.al
 simp only[F_q14,S_q14,Scr.den,zag hs,obind]
 by_cases he:errL l=0
 ·rw[y5 (by simpa using he),y6 he]
  rw[z1z l.A (fun _=>true) (·.K) 1000000 hal fun i s hi hsl=>by
   simp only[S_q14_b1,Scr.den]
   rw[Ga,y6 trivial]]
  rw[y41.2 (fun _ _=>rfl)]
  simp only[outM,F_q48]
  rw[z3 sk,obind]
  rfl
 ·rw[y6 (by simpa using he),y5 he]
theorem z91 (l:TLa) (d:Int):(forceL l d).E=l.E/\(forceL l d).G=l.G/\(forceL l d).H=l.H/\(forceL l d).F=l.F /\
  (forceL l d).I=l.I/\(forceL l d).O=l.O/\(forceL l d).A=l.A.drop (laterI l d):=zcq (nowC l d) _
theorem zh6 {α:Type} {l:List α} {k:Nat} {p:α->Bool} (h:(l.drop k).any p=true):l.any p=true:=by
 obtain⟨x,hx,e⟩:=y1i.1 h
 exact y1i.2 ⟨x,y32 hx,e⟩
theorem zh7 {t:List THe} {f y:Int} {L:List TAm} (h:fstE L.length (amdE t f y L)=0) (k:Nat):fstE (L.drop k).length (amdE t f y (L.drop k))=0:=by
 rw[z23] at h |-
 intro i hi
 rw[y2x] at hi
 have hk:k+i<L.length:=om
 have h1:=h (k+i) hk
 have e:∀ j,k+j<L.length->(L.drop k).getD j dF=L.getD (k+j) dF:=fun j hj=>by
  rw[zo (by rw[y2x]; omega),zo hj,List.getElem_drop]
 unfold amdE at h1 |-
 rw[e i hk]
 by_cases h0:0<i
 ·rw[e (i-1) om]
  rw[show k+i-1=k+(i-1) from om] at h1
  have:0<k+i↔0<i:=om
  simp only[this] at h1
  exact h1
 ·have hz:¬ (0<i/\ltA ((L.drop k).getD (i-1) dF) (L.getD (k+i) dF)=false):=fun h=>h0 h.1
  rw[y5 hz]
  split at h1
  ·cases h1
  ·rename_i p1
   rw[y5 p1]
   split at h1
   ·cases h1
   ·exact h1
theorem zc6 (he:errL l=0) (d:Int) (hb:¬ bigL (forceL l d)):errL (forceL l d)=0:=by
 obtain⟨hr,hw,_⟩:=z3t.1 he
 obtain⟨a1,a2,a3,a4,a5,a6,a7⟩:=z91 l d
 refine z3t.2 ⟨⟨?_,?_,?_,?_,?_,?_,?_,?_⟩,?_,hb⟩
 ·have:=hr.yr; unfold yrB at this |-; rw[a1,a2]; exact this
 ·rw[a3]; exact hr.tr
 ·have:=hr.li
  rw[a4,a5,a6,a7]
  intro h
  refine this ?_
  rcases h with h | h | h | h | h
  ·exact .inl h
  ·exact .inr (.inl h)
  ·exact .inr (.inr (.inl h))
  ·exact .inr (.inr (.inr (.inl (by rw[y2x] at h; omega))))
  ·exact .inr (.inr (.inr (.inr (zh6 h))))
 ·rw[a3,a4]; exact hr.ea
 ·rw[a3,a4]; exact hr.sh
 ·rw[a1,a2,a3,a5]; exact hr.co
 ·rw[a3,a6]; exact hr.ru
 ·rw[a1,a2,a3,a7]; exact zh7 hr.am _
 ·exact zcr (l:={ l with A:=l.A.drop (laterI l d) }) ⟨hw.lo,hw.l1,hw.co,hw.c1,hw.fo,hw.f1⟩ hr.tr (z9m hr d)
variable {a b:Int}
theorem zcw (L:List TAm) (hab:a<=b):L.findIdx (fun x=>decide (x.K>b))=L.findIdx (fun x=>decide (x.K>a))+(L.drop (L.findIdx fun x=>decide (x.K>a))).findIdx (fun x=>decide (x.K>b)):=by
 induction L with
 | nil=>rfl
 | cons x L ih =>
  rw[y1q,y1q]
  by_cases h:x.K>a
  ·rw[y17 h]
   simp only[cond_true,y13,List.drop_zero]
   rw[y1q]
  ·have h2:¬ x.K>b:=om
   rw[y28 h,y28 h2]
   simp only[y5b]
   rw[ih,List.drop_succ_cons]
   omega
theorem zcx (hab:a<=b):forceL (forceL l a) b=forceL l b:=by
 have e7:=(z91 l a).2.2.2.2.2.2
 have hk:laterI l b=laterI l a+laterI (forceL l a) b:=by
  unfold laterI
  rw[e7]
  exact zcw l.A hab
 have hn:nowC l b=nowC l a++nowC (forceL l a) b:=by
  unfold nowC
  rw[e7,hk,List.take_add,y3y]
 have hd:(forceL l a).A.drop (laterI (forceL l a) b)=l.A.drop (laterI l b):=by rw[e7,List.drop_drop,hk]
 have e1:forceL (forceL l a) b={ applyS (nowC (forceL l a) b) (forceL l a) with A:=l.A.drop (laterI l b) }:=by
  rw[<- zai,<- hd]; try rfl
 have e2:forceL l b={ applyS (nowC l b) { l with A:=l.A.drop (laterI l a) } with A:=l.A.drop (laterI l b) }:=by
  rw[<- zai]; try rfl
 rw[e1,e2,hn,z90]
 try rfl
theorem z6y {α:Type} {p q:α->Bool}:∀ {l:List α},(∀ x∈l,p x=q x)->l.findIdx p=l.findIdx q
 | [],_=>rfl
 | x :: l,h=>by rw[y1q,y1q,h x y1j,z6y fun y hy=>h y (yw _ hy)]
theorem zee (hab:a<=b) (h:∀ x∈l.A,¬ (x.K>a/\x.K<=b)):forceL l a=forceL l b:=by
 have:laterI l a=laterI l b:=by
  unfold laterI
  refine z6y fun x hx=>?_
  have:=h x hx
  rw[y1f,y2z,y2z]
  omega
 unfold forceL nowC
 rw[this]
end Go.Proofs.YtgfgnhpecnmlpaaGreatDoor
/- Trees that are made. No condition. -/
namespace Go.Proofs.YtgfgnhpecnmlpaaGreatDoor
open Go Go.TA
open Go.IntKind (i64)
attribute [-simp] List.getD_eq_getElem?_getD
variable {w:Y8} {n:Int}
theorem zif (h:pv w=some n):w=Lib.decDigits n.toNat/\1<=n/\n<=99:=by
 obtain⟨k,h1,h2,rfl,rfl⟩:=zbr h
 exact⟨by rw[yd,z5e om],om,om⟩
theorem z8a:∀ {ws:List Y8} {ns:List Int},nums ws=some ns->ws=ns.map (fun n=>Lib.decDigits n.toNat)/\∀ n∈ns,1<=n/\n<=99
 | [],ns,h=>by cases h; exact⟨rfl,fun n hn=>by simp at hn⟩
 | w :: ws,ns,h=>by
  simp only[nums] at h
  cases hv:pv w with
  | none=>simp[hv] at h
  | some v =>
   cases hn:nums ws with
   | none=>simp[hv,hn] at h
   | some m =>
    simp only[hv,hn,y1k,yk] at h
    subst h
    obtain⟨h1,h2⟩:=z8a hn
    obtain⟨k1,k2⟩:=zif hv
    exact⟨by rw[y2o,<- h1,<- k1],fun n hn'=>by
     rcases yl.1 hn' with rfl | hn'
     ·exact k2
     ·exact h2 n hn'⟩
variable {c:Y8}
theorem zfz (h:good c=true):c=joinD ((parts c).map fun n=>Lib.decDigits n.toNat):=by
 rw[<- (z8a (zy h).1).1,z3w]
theorem zcy {ns:List Int} (hl:ns.length<=4) (hn:∀ n∈ns,1<=n/\n<=99):F_qu ns=some (joinD (ns.map fun n=>Lib.decDigits n.toNat)):=by
 simp only[F_qu,S_qu,Scr.den]
 rw[y5 (by simp only[y7]; omega),Ga]
 have hd:∀ n:Int,(Lib.decDigits n.toNat).length<=20\/¬ (1<=n/\n<=99):=fun n=>by
  by_cases h:1<=n/\n<=99
  ·left
   rw[z5e om]
   unfold z6n
   split <;> simp
  ·exact .inr h
 obtain⟨s,e,h1,_⟩:=z13 (body:=fun i s=>(S_qu_b1 ns i s).den) (n:=ns.length) (fun i s=>s=joinD ((ns.take i).map fun n=>Lib.decDigits n.toNat)/\s.length<=30 * i) (s0:=[]) ⟨rfl,sj⟩ (fun i s hi ⟨h1,h2⟩=>by
  have hr:=hn _ (z4 hi)
  have hdl:(Lib.decDigits (ns.getD i dF).toNat).length<=20:=(hd _).resolve_right (by simpa using hr)
  have hI:F_q45 (ns.getD i dF)=some (Lib.decDigits (ns.getD i dF).toNat):=z3 ⟨om,om⟩
  simp only[S_qu_b1,Scr.den,y13,hI,obind,zd]
  rw[z3 ⟨hi,trivial⟩,y5 (by simp only[yg,y7]; omega)]
  have ht:(ns.take (i+1)).map (fun n=>Lib.decDigits n.toNat)=(ns.take i).map (fun n=>Lib.decDigits n.toNat)++[Lib.decDigits (ns.getD i dF).toNat]:=by
   rw[y1w hi,y3p,zo hi]; rfl
  by_cases h0:0<i
  ·rw[y6 (by simp only[y7]; omega),z3 ⟨by simp only[yy,y1e]; omega,trivial⟩]
   simp only[outM]
   rw[z3 ⟨by rw[ym,yy,y1e]; omega,trivial⟩]
   refine⟨_,rfl,?_,by rw[ym,ym,yy,y1e]; omega⟩
   rw[ht,z43 (by
    intro h
    have:=congrArg List.length h
    rw[y2f,y1l] at this
    simp only[y1e] at this
    omega) sj,<- h1]
   simp[joinD]
  ·have h0':i=0:=om
   subst h0'
   rw[y5 sj]
   simp only[outM]
   have hs:s=[]:=by rw[h1]; rfl
   subst hs
   rw[z3 ⟨by simp only[y1e]; omega,trivial⟩]
   refine⟨_,rfl,?_,by simp only[y21]; omega⟩
   rw[ht]; rfl)
 rw[e,h1]
 simp only[outM,y3k]
theorem zh8 {a:Y8} (hw:∀ c∈w,c.toNat≠46):ldot (a++46 :: w) (a++46 :: w).length=a.length:=by
 have key:∀ k,k<=w.length->ldot (a++46 :: w) (a.length+1+k)=a.length:=by
  intro k
  induction k with
  | zero =>
   intro _
   show (if ((a++46 :: w).getD a.length 0).toNat=46 then a.length else _)=_
   rw[y6]
   rw[List.getD_eq_getElem?_getD,y14 (ya _)]; simp
  | succ k ih =>
   intro hk
   show (if ((a++46 :: w).getD (a.length+1+k) 0).toNat=46 then a.length+1+k else ldot _ (a.length+1+k))=_
   rw[y5,ih om]
   rw[List.getD_eq_getElem?_getD,y14 om,show a.length+1+k-a.length=k+1 from om,List.getElem?_cons_succ,yc om]
   exact hw _ (y4i _)
 have:=key w.length (ya _)
 rwa [show a.length+1+w.length=(a++46 :: w).length from sk] at this
theorem zh9 (hc:good c=true) (hl:(parts c).length<4) (hw:pv w=some n):good (c++46 :: w)=true/\parts (c++46 :: w)=parts c++[n]/\par (c++46 :: w)=c:=by
 obtain⟨_,_,_,_,hdig⟩:=z8u hw
 have hnd:∀ x∈w,x.toNat≠46:=fun x hx=>by have:=hdig x hx; omega
 have hpw:pieces w=[w]:=by
  have:∀ w:Y8,(∀ x∈w,x.toNat≠46)->pieces w=[w]:=by
   intro w
   induction w with
   | nil=>intro _; rfl
   | cons x w ih =>
    intro h
    rw[zu,ih fun y hy=>h y (yw _ hy),y5]
    have:=h x y1j
    intro e
    have e:x=46:=by simpa using e
    exact this (by rw[e]; rfl)
  exact this w hnd
 obtain⟨h1,h2,h3⟩:=zy hc
 have hn:∀ xs ns,nums xs=some ns->nums (xs++[w])=some (ns++[n]):=by
  intro xs
  induction xs with
  | nil=>intro ns h; cases h; simp[nums,hw]
  | cons x xs ih =>
   intro ns h
   simp only[y22,nums] at h |-
   cases hv:pv x with
   | none=>simp[hv] at h
   | some v =>
    cases hm:nums xs with
    | none=>simp[hv,hm] at h
    | some m =>
     simp only[hv,hm,y1k,yk] at h
     subst h
     simp[ih m hm]
 have hp:parts (c++46 :: w)=parts c++[n]:=by
  unfold parts
  rw[z4c,hpw,hn _ _ h1]
  simp only[ym,y10]
  rw[y5 om]
  rw[h1]
  simp only
  rw[y5 om]
 have hg:good (c++46 :: w)=true:=by rw[<- z3g,hp]; simp
 refine⟨hg,hp,?_⟩
 unfold par
 rw[y6 hg,zh8 hnd,List.take_left']
 rfl
end Go.Proofs.YtgfgnhpecnmlpaaGreatDoor
/- Trees that are made. No condition. -/
namespace Go.Proofs.YtgfgnhpecnmlpaaGreatDoor
open Go Go.TA
open Go.IntKind (i64)
attribute [-simp] List.getD_eq_getElem?_getD
def ltK (a b:Y8):Bool:=decide (lexC (parts a) (parts b)<0)
def insK (c:Y8):List Y8->List Y8
 | []=>[c]
 | x :: l=>if ltK c x=true then c :: x :: l else x :: insK c l
theorem zc7 {c x:Y8}:∀ {l:List Y8},l.any (ltK c)=true->insK c (l++[x])=insK c l++[x]
 | [],h=>by cases h
 | y :: l,h=>by
  rw[y22]
  unfold insK
  by_cases hy:ltK c y=true
  ·rw[y6 hy,y6 hy]; rfl
  ·rw[y5 hy,y5 hy,zc7 (by rw[y3d] at h; simpa [hy] using h)]; rfl
theorem z6z {c:Y8} {m:List Y8}:∀ {l:List Y8},l.any (ltK c)=false->insK c (l++m)=l++insK c m
 | [],_=>rfl
 | y :: l,h=>by
  rw[y3d,y26] at h
  rw[y22]
  conv=>lhs; unfold insK
  rw[y5 (by rw[h.1]; simp),z6z h.2]; rfl
theorem z8b (c:Y8):∀ l,(insK c l).length=l.length+1
 | []=>rfl
 | y :: l=>by
  unfold insK
  split
  ·rfl
  ·rw[yy,z8b c l]; rfl
theorem z36 {c x:Y8}:∀ {l:List Y8},x∈insK c l↔x=c\/x∈l
 | []=>by simp[insK]
 | y :: l=>by
  unfold insK
  split
  ·simp
  ·rw[yl,z36,yl]
   constructor
   ·rintro (h | h | h)
    ·exact .inr (.inl h)
    ·exact .inl h
    ·exact .inr (.inr h)
   ·rintro (h | h | h)
    ·exact .inr (.inl h)
    ·exact .inl h
    ·exact .inr (.inr h)
structure CL (l:List Y8):Prop where
 pw:l.Pairwise fun a b=>ltK a b=true
 gd:∀ c∈l,good c=true
 pa:∀ c∈l,par c=[]\/par c∈l
variable {l:List Y8} {c:Y8}
theorem zja (h:CL l) (hc:good c=true) (hn:c ∉ l) (hp:par c=[]\/par c∈l):CL (insK c l):=by
 refine⟨?_,fun x hx=>?_,fun x hx=>?_⟩
 ·have key:∀ m:List Y8,m.Pairwise (fun a b=>ltK a b=true)->(∀ x∈m,good x=true)->c ∉ m->(insK c m).Pairwise (fun a b=>ltK a b=true):=by
   intro m
   induction m with
   | nil=>intro _ _ _; exact List.pairwise_singleton _ _
   | cons y m ih =>
    intro h1 h2 h3
    obtain⟨h4,h5⟩:=y47.1 h1
    unfold insK
    by_cases hy:ltK c y=true
    ·rw[y6 hy]
     refine y47.2 ⟨fun z hz=>?_,h1⟩
     rcases yl.1 hz with rfl | hz
     ·exact hy
     ·exact y17 (z5y (y2i hy) (y2i (h4 z hz)))
    ·rw[y5 hy]
     refine y47.2 ⟨fun z hz=>?_,ih h5 (fun x hx=>h2 x (yw _ hx)) fun h=>h3 (yw _ h)⟩
     rcases z36.1 hz with rfl | hz
     ·have h6:¬ lexC (parts z) (parts y)<0:=by simpa [ltK] using hy
      have h7:lexC (parts z) (parts y)≠0:=fun e=>h3 (by rw[z6t hc (h2 y y1j) (z3r e)]; exact y1j)
      have h8:=z6s (parts z) (parts y)
      exact y17 om
     ·exact h4 z hz
  exact key l h.pw h.gd hn
 ·rcases z36.1 hx with rfl | hx
  ·exact hc
  ·exact h.gd x hx
 ·rcases z36.1 hx with rfl | hx
  ·exact hp.imp id fun h=>z36.2 (.inr h)
  ·exact (h.pa x hx).imp id fun h=>z36.2 (.inr h)
def withS (l:List Y8) (c:Y8):List Y8:=if c∈l then l else insK c l
theorem z9n (h:CL l) (hl:l.length<=1000000) (hc:good c=true):F_qh l c=some (withS l c):=by
 simp only[F_qh,S_qh,Scr.den]
 unfold withS
 have hst:∀ (i:Nat) (s:List Y8×Bool),i<l.length->s.1.length<=2000000->(S_qh_b1 l c i s).den=some (if c=l.getD i dF then .ret l else .cont (if ltK c (l.getD i dF)=true/\s.2=false then (s.1++[c]++[l.getD i dF],true) else (s.1++[l.getD i dF],s.2))):=fun i s hi hsl=>by
  have hg:=h.gd _ (z4 hi)
  simp only[S_qh_b1,Scr.den,z1e hc hg,obind,z8]
  by_cases he:c=l.getD i dF
  ·rw[y6 (by rw[<- he,z6r]; rfl),y6 he]
  ·have hne:lexC (parts c) (parts (l.getD i dF))≠0:=fun e=>he (z6t hc hg (z3r e))
   rw[y5 (by simpa using hne),y5 he]
   by_cases hlt:ltK c (l.getD i dF)=true/\s.2=false
   ·rw[y6 (by rw[show decide (lexC (parts c) (parts (l.getD i dF))<0)=true from hlt.1,hlt.2]; rfl),Ga]
    simp only[outM]
    rw[z3 ⟨by rw[ym,y10]; omega,trivial⟩,y6 hlt]
   ·rw[y5 (by
     intro hh
     simp only[y9,y25] at hh
     exact hlt ⟨hh.1,hh.2⟩)]
    simp only[outM]
    rw[Ga,y5 hlt]
 by_cases hm:c∈l
 ·rw[y6 hm]
  obtain⟨k,hk,e⟩:=z2k hm
  have hloop:∀ (j i:Nat) (s:List Y8×Bool),i+j=l.length->i<=k->s.1.length<=2 * i->rangeM (fun i s=>(S_qh_b1 l c i s).den) j i s=some (.ret l):=by
   intro j
   induction j with
   | zero=>intro i s hij hik _; omega
   | succ j ih =>
    intro i s hij hik hsl
    simp only[rangeM,hst i s om om]
    by_cases he:c=l.getD i dF
    ·rw[y6 he]
    ·rw[y5 he]
     refine ih (i+1) _ om ?_ ?_
     ·rcases yj i k with h | h
      ·omega
      ·have:i=k:=om
       rw[this] at he
       exact absurd e.symm he
     ·split <;> simp only[ym,y10] <;> omega
  rw[hloop l.length 0 _ om om sj]
  rfl
 ·rw[y5 hm]
  obtain⟨s,e,h1,_⟩:=z13 (body:=fun i s=>(S_qh_b1 l c i s).den) (n:=l.length) (fun i s=>s=(if (l.take i).any (ltK c)=true then (insK c (l.take i),true) else (l.take i,false))/\s.1.length<=i+1) (s0:=([],false)) ⟨rfl,sj⟩ (fun i s hi ⟨h1,h2⟩=>by
   have hne:¬ c=l.getD i dF:=fun e=>hm (by rw[e]; exact z4 hi)
   have ht:l.take (i+1)=l.take i++[l.getD i dF]:=by rw[y1w hi,zo hi]
   refine⟨_,by rw[hst i s hi om,y5 hne],?_⟩
   rw[ht,List.any_append]
   by_cases ha:(l.take i).any (ltK c)=true
   ·rw[y6 ha] at h1
    rw[h1,ha]
    simp only[y30,y56,y1y,Bool.true_or,y2p]
    rw[zc7 ha]
    refine⟨rfl,?_⟩
    rw[h1] at h2
    simp only[ym,y10] at h2 |-
    omega
   ·rw[y5 ha] at h1
    have ha':=yo.2 ha
    rw[h1,ha']
    simp only[y34,y4e,y3d,List.any_nil,Bool.or_false]
    by_cases hlt:ltK c (l.getD i dF)=true
    ·rw[y6 hlt,y6 hlt,z6z ha']
     refine⟨?_,by simp only[ym,y10,y1l]; omega⟩
     unfold insK
     rw[y6 hlt]
     simp
    ·rw[y5 hlt,y5 hlt]
     exact⟨rfl,by simp only[ym,y10,y1l]; omega⟩)
  rw[e,h1,y3k]
  simp only[outM]
  by_cases ha:l.any (ltK c)=true
  ·rw[y6 ha]
   simp only
   rw[y5 sj,z3 ⟨by rw[z8b]; omega,trivial⟩]
  ·rw[y5 ha]
   simp only
   have hi:insK c l=l++[c]:=by
    have:=z6z (m:=[]) (yo.2 ha)
    rw[y35] at this
    exact this
   rw[y6 sj,Ga,z3 ⟨by simp only[ym,y10]; omega,trivial⟩,hi]
theorem z8c (h:CL l) (hc:good c=true) (hp:par c=[]\/par c∈l):CL (withS l c):=by
 unfold withS
 split
 ·exact h
 ·exact zja h hc aj hp
theorem z70 (l:List Y8) (c:Y8):(withS l c).length<=l.length+1/\l.length<=(withS l c).length:=by
 unfold withS
 split
 ·omega
 ·rw[z8b]; omega
theorem zam {x:Y8}:x∈withS l c↔x=c\/x∈l:=by
 unfold withS
 split
 ·rename_i h
  exact⟨.inr,fun h'=>h'.elim (fun e=>e▸h) id⟩
 ·exact z36
end Go.Proofs.YtgfgnhpecnmlpaaGreatDoor
/- Trees that are made. No condition. -/
namespace Go.Proofs.YtgfgnhpecnmlpaaGreatDoor
open Go Go.TA
open Go.IntKind (i64)
attribute [-simp] List.getD_eq_getElem?_getD
structure MT (t:List THe):Prop where
 ok:treeE t=0
 ge:1<=t.length
 le:t.length<=11
theorem zha {c:Y8} (hc:good c=true) (hl:(parts c).length<3) {n:Int} (hn:n∈([1,2,3,10]:List Int)) :
  F_qu (parts c++[n])=some (c++46 :: Lib.decDigits n.toNat)/\good (c++46 :: Lib.decDigits n.toNat)=true/\par (c++46 :: Lib.decDigits n.toNat)=c:=by
 have hr:1<=n/\n<=99:=by simp at hn; rcases hn with rfl | rfl | rfl | rfl <;> omega
 have hw:pv (Lib.decDigits n.toNat)=some n:=by
  have h1:=(z4b ⟨n.toNat,om⟩ (by simp only; omega)).1
  simp only at h1
  rw[z5e om,h1]
  congr 1; omega
 obtain⟨k1,k2,k3⟩:=zh9 hc om hw
 obtain⟨h1,h2,h3⟩:=zy hc
 refine⟨?_,k1,k3⟩
 rw[zcy (by rw[ym,y10]; omega) (fun m hm=>by
  rcases y15.1 hm with hm | hm
  ·exact (z8a h1).2 m hm
  ·have:m=n:=by simpa using hm
   rw[this]; exact hr)]
 congr 1
 rw[y3p,z43 (by
  intro e
  have:=congrArg List.length e
  rw[y2f,y1e] at this
  omega) sj,<- zfz hc]
 rfl
theorem CL0:CL [[49],[50]]:=⟨dk,dk,dk⟩
theorem zg0 {s:TTape} (hs:TapeOk s):∃ t s',F_q4 6 s=some (t,s')/\TapeOk s'/\MT t:=by
 have w7:i64.wrap (6+1)=7:=by rw[wrapId om om]; rfl
 obtain⟨v0,s1,e1,o1,l1,u1⟩:=zg (n:=7) hs om om
 simp only[F_q4,S_q4,Scr.den,w7,e1,obind]
 -- the first loop
 obtain⟨st,e2,⟨o2,c2,g2,h2⟩⟩:=z1c (step:=fun s=>(S_q4_b1 s).den) (fun s=>s.2.2.toNat)
  (fun s=>TapeOk s.1/\CL s.2.1/\1<=s.2.1.length/\(s.2.1.length:Int)+max s.2.2 0<=8/\s.2.2<=6) (fun s=>TapeOk s.1/\CL s.2.1/\1<=s.2.1.length/\s.2.1.length<=8) (fun s ⟨o,c,g,h,h6⟩=>by
   simp only[S_q4_b1,Scr.den]
   by_cases hp:s.2.2>0
   ·left
    obtain⟨v,s',e,o',a1,a2⟩:=zg (n:=(s.2.1.length:Int)) o om om
    have hv:v.toNat<s.2.1.length:=om
    have hg:=c.gd _ (z4 hv)
    have hm:=z4 hv
    have w1:i64.wrap (s.2.2-1)=s.2.2-1:=wrapId om om
    rw[y6 (by simpa using hp)]
    simp only[e,obind,z4s hg,w1]
    rw[z3 ⟨a1,hv,trivial⟩]
    by_cases h3:(parts (s.2.1.getD v.toNat dF)).length>=3
    ·rw[y6 (by simp only[y7]; omega)]
     exact⟨_,rfl,⟨o',c,g,by simp only; omega,by simp only; omega⟩,by simp only; omega⟩
    ·rw[y5 (by simp only[y7]; omega)]
     obtain⟨n,s'',e',o'',hn⟩:=z22 (l:=[1,2,3,10]) o' sj sj
     obtain⟨k1,k2,k3⟩:=zha hg om hn
     simp only[e',obind,k1]
     rw[Gb,z9n c om k2,obind]
     have hl:=z70 s.2.1 (s.2.1.getD v.toNat dF++46 :: Lib.decDigits n.toNat)
     exact⟨_,rfl,⟨o'',z8c c k2 (by rw[k3]; exact .inr hm),by simp only; omega,by simp only; omega,by simp only; omega⟩,by simp only; omega⟩
   ·right
    rw[y5 (by simpa using hp)]
    exact⟨_,rfl,o,c,g,by simp only; omega⟩) _ (s1,[[49],[50]],v0) (y31 _)
  ⟨o1,CL0,sj,by simp only[yy,y1e]; omega,by simp only; omega⟩
 rw[e2]
 simp only[outM]
 obtain⟨v3,s3,e3,o3,l3,u3⟩:=zg (n:=3) o2 om om
 have hg9:good [57]=true:=dk
 rw[z9n c2 om hg9,obind,e3,obind]
 have c3:CL (withS st.2.1 [57]):=z8c c2 hg9 (by left; decide)
 have hl9:=z70 st.2.1 [57]
 have m9:([57]:Y8)∈withS st.2.1 [57]:=zam.2 (.inl rfl)
 obtain⟨sv,e4,⟨o4,c4,g4,h4⟩⟩:=z1c (step:=fun s=>(S_q4_b2 s).den) (fun s=>s.2.2.toNat)
  (fun s=>TapeOk s.1/\CL s.2.1/\1<=s.2.1.length/\(s.2.1.length:Int)+max s.2.2 0<=11/\s.2.2<=3/\([57]:Y8)∈s.2.1) (fun s=>TapeOk s.1/\CL s.2.1/\1<=s.2.1.length/\s.2.1.length<=11) (fun s ⟨o,c,g,h,h6,h9⟩=>by
   simp only[S_q4_b2,Scr.den]
   by_cases hp:s.2.2>0
   ·left
    obtain⟨v,s',e,o',a1,a2⟩:=zg (n:=2) o om om
    have w1:i64.wrap (s.2.2-1)=s.2.2-1:=wrapId om om
    rw[y6 (by simpa using hp)]
    simp only[e,obind,w1]
    have hv:v.toNat<([[57,46,49],[57,46,50]]:List Y8).length:=by simp only[yy,y1e]; omega
    have hx:∀ x∈([[57,46,49],[57,46,50]]:List Y8),good x=true/\par x=[57]:=dk
    obtain⟨k1,k2⟩:=hx _ (z4 hv)
    rw[z9n c om k1,obind,z3 ⟨a1,om,trivial⟩]
    have hl:=z70 s.2.1 (([[57,46,49],[57,46,50]]:List Y8).getD v.toNat dF)
    exact⟨_,rfl,⟨o',z8c c k1 (by rw[k2]; exact .inr h9),by simp only; omega,by simp only; omega,by simp only; omega,zam.2 (.inr h9)⟩,by simp only; omega⟩
   ·right
    rw[y5 (by simpa using hp)]
    exact⟨_,rfl,o,c,g,by simp only; omega⟩) _ (s3,withS st.2.1 [57],v3) (y31 _)
  ⟨o3,c3,by simp only; omega,by simp only; omega,by simp only; omega,m9⟩
 rw[e4]
 simp only
 obtain⟨sw,e5,⟨o5,h5,h6⟩⟩:=z13 (body:=fun i s=>(S_q4_b3 sv i s).den) (n:=sv.2.1.length) (fun i s=>TapeOk s.1/\s.2.map (·.B)=sv.2.1.take i/\∀ h∈s.2,nameOk h.W=true) (s0:=(sv.1,[])) ⟨o4,rfl,sj⟩ (fun i s hi ⟨o,h,hn⟩=>by
  obtain⟨v,s',e,o',a1,a2⟩:=zg (n:=5) o om om
  have hlen:s.2.length<=11:=by
   have:=congrArg List.length h
   rw[y2f,y1l] at this
   omega
  simp only[S_q4_b3,Scr.den,e,obind]
  rw[z3 ⟨a1,om,om,trivial⟩]
  refine⟨_,rfl,o',?_,fun x hx=>?_⟩
  ·rw[y3p,h,y1w hi,zo hi]; rfl
  ·rcases y15.1 hx with hx | hx
   ·exact hn x hx
   ·have hx':x=⟨sv.2.1.getD i dF,([[115,99,104,111,111,108,115],[114,111,97,100,115],[99,111,117,114,116,32,111,102,32,97,117,100,105,116],[97],[116,97,120]]:List Y8).getD v.toNat dF⟩:=by simpa using hx
    rw[hx']
    have hall:∀ x∈([[115,99,104,111,111,108,115],[114,111,97,100,115],[99,111,117,114,116,32,111,102,32,97,117,100,105,116],[97],[116,97,120]]:List Y8),nameOk x=true:=dk
    exact hall _ (z4 (by simp only[yy,y1e]; omega)))
 rw[e5]
 simp only
 have h5':sw.2.map (·.B)=sv.2.1:=by rw[h5,y3k]
 have hlen:sw.2.length=sv.2.1.length:=by have:=congrArg List.length h5'; rwa [y2f] at this
 rw[Ga]
 refine⟨_,_,rfl,o5,⟨?_,om,om⟩⟩
 unfold treeE
 rw[y5 om,z23]
 intro i hi
 have hcode:∀ j,j<sw.2.length->(sw.2.getD j dF).B=sv.2.1.getD j dF:=fun j hj=>by
  rw[<- h5',zo hj,zo (by rw[y2f]; exact hj),List.getElem_map]
 have hg:good (sw.2.getD i dF).B=true:=by rw[hcode i hi]; exact c4.gd _ (z4 om)
 unfold headE
 rw[y5 (by simp[hg]),y5 (by simp[h6 _ (z4 hi)]),y5,y5]
 ·rintro⟨q1,q2⟩
  rw[hcode i hi] at q1 q2
  rcases c4.pa _ (z4 (show i<sv.2.1.length from om)) with h | h
  ·exact q1 h
  ·rw[<- h5'] at h
   obtain⟨y,hy,e⟩:=y19.1 h
   have:has sw.2 (par (sv.2.1.getD i dF))=true:=by
    unfold has
    rw[<- h5']
    exact y1i.2 ⟨y,hy,by simpa using e⟩
   rw[this] at q2; cases q2
 ·rintro⟨q1,q2⟩
  rw[hcode i hi,hcode (i-1) om] at q2
  have:=y45.1 c4.pw (i-1) i om om om
  rw[zo (show i<sv.2.1.length from om),zo (show i-1<sv.2.1.length from om)] at q2
  exact q2 (y2i this)
end Go.Proofs.YtgfgnhpecnmlpaaGreatDoor
