/- A part of the proof: plain laws of what the functions compute. No condition. -/
import Derived.Test.YtbmpcbbimefmoaaGreatDoorG5
import Derived.Test.YtbmpcbbimefmoaaGreatDoorT7
import Derived.Test.YtbmpcbbimefmoaaGreatDoorT4
namespace Go.Proofs.YtbmpcbbimefmoaaGreatDoor
open Go Go.TA
open Go.IntKind (i64)
def dayP (d:Int):Prop:=0<=d/\d<=35990
def amtP (n:Int):Prop:=1<=n/\n<=1000000000000
instance (d:Int):Decidable (dayP d):=inferInstanceAs (Decidable (_/\_))
instance (d:Int):Decidable (amtP d):=inferInstanceAs (Decidable (_/\_))
def yr (d:Int):Int:=if 0<=d/\d<=36000 then d / 360 else -1
variable {α ρ:Type} {body:Nat->Unit->Option (Step Unit ρ)}
theorem z7l [Inhabited α] (l:List α) (p:α->Bool) (v:α->ρ) (hs:∀ i,i<l.length->body i ()=some (if p (l.getD i dF)=true then .ret (v (l.getD i dF)) else .cont ())) :
  rangeM body l.length 0 ()=some (match l.find? p with | some x=>.ret (v x) | none=>.next ()):=by
 have key:∀ (k i:Nat),i+k=l.length->rangeM body k i ()=some (match (l.drop i).find? p with | some x=>.ret (v x) | none=>.next ()):=by
  intro k
  induction k with
  | zero=>intro i hk; rw[y1u om]; rfl
  | succ k ih =>
   intro i hk
   have hi:i<l.length:=om
   have e:l.getD i dF=l[i]:=by simp[List.getD_eq_getElem?_getD,List.getElem?_eq_getElem hi]
   rw[y1p hi]
   simp only[rangeM,hs i hi,y4p,e]
   cases hp:p l[i] with
   | true=>simp
   | false=>simp only[yl,y2g]; exact ih (i+1) om
 have:=key l.length 0 om
 simpa using this
def goodR:Y8->Nat->Nat->Bool
 | [],d,p=>decide (0<d)&&decide (p<=4)
 | c :: l,d,p=>if c.toNat=46 then (if d=0 then false else goodR l 0 (p+1)) else
  if c.toNat<48\/57<c.toNat\/(d=0/\c.toNat=48)\/d=2 then false else goodR l (d+1) p
def dig (c:UInt8):Prop:=48<=c.toNat/\c.toNat<=57
def preOk:Y8->Prop
 | []=>True
 | [a]=>dig a/\a.toNat≠48
 | [a,b]=>dig a/\a.toNat≠48/\dig b
 | _=>False
def cntOk (ws:List Y8) (p:Nat):Bool:=match nums ws with
 | none=>false
 | some ns=>decide (ns.length+p<=5)
theorem z61 (w:Y8) (ws:List Y8) (p:Nat):cntOk (w :: ws) p=match pv w with
  | none=>false
  | some _=>cntOk ws (p+1):=by
 unfold cntOk
 simp only[nums]
 cases pv w with
 | none=>rfl
 | some n =>
  cases nums ws with
  | none=>rfl
  | some ns =>
   simp only[y1z,y10]
   congr 1
   rw[eq_iff_iff]; omega
theorem z9l:∀ {w:Y8},preOk w->w≠[]->∃ n,pv w=some n
 | [a],h,_=>⟨_,by simp only[pv]; rw[y7 ⟨by have:=h.1.1; have:=h.2; omega,h.1.2⟩]⟩
 | [a,b],h,_=>⟨_,by simp only[pv]; rw[y7 ⟨⟨by have:=h.1.1; have:=h.2.1; omega,h.1.2⟩,h.2.2⟩]⟩
 | [],_,h=>absurd rfl h
 | _ :: _ :: _ :: _,h,_=>h.elim
variable {w:Y8} {c:UInt8}
theorem zhn {pre:Y8} (hc:¬ dig c):pv (pre++c :: w)=none:=by
 match pre,w with
 | [],[]=>simp only[y2e,pv]; rw[y6]; intro h; exact hc ⟨om,h.2⟩
 | [],[b]=>simp only[y2e,pv]; rw[y6]; intro h; exact hc ⟨om,h.1.2⟩
 | [],b :: d :: w=>rfl
 | [a],[]=>simp only[y2f,y2e,pv]; rw[y6]; intro h; exact hc h.2
 | [a],b :: w=>rfl
 | [a,b],w=>rfl
 | a :: b :: d :: pre,w=>rfl
theorem zev (hc:c.toNat=48):pv (c :: w)=none:=by
 match w with
 | []=>simp only[pv]; rw[y6]; omega
 | [b]=>simp only[pv]; rw[y6]; omega
 | b :: d :: w=>rfl
theorem z8c:∀ (l pre p0:Y8) (ps:List Y8) (p:Nat),preOk pre->pieces l=p0 :: ps->goodR l pre.length p=cntOk ((pre++p0) :: ps) p
 | [],pre,p0,ps,p,hp,he=>by
  cases he
  rw[y2v,z61]
  simp only[goodR]
  match pre,hp with
  | [],_=>rfl
  | a :: pre,hp =>
   obtain⟨n,hn⟩:=z9l hp sj
   rw[hn]
   simp[cntOk,nums]
 | c :: l,pre,p0,ps,p,hp,he=>by
  rw[z17] at he
  simp only[goodR]
  by_cases hc:c.toNat=46
  ·rw[y7 (by rw[show c=46 from UInt8.toNat_inj.mp hc]; rfl)] at he
   cases he
   rw[y7 hc,y2v,z61]
   match pre,hp with
   | [],_=>rfl
   | a :: pre,hp =>
    obtain⟨n,hn⟩:=z9l hp sj
    rw[hn,y6 sj]
    simp only
    cases hl:pieces l with
    | nil=>exact absurd hl (z12 l)
    | cons q qs =>
     have:=z8c l [] q qs (p+1) trivial hl
     simpa using this
  ·rw[y6 (by intro h; rw[eq_of_beq h] at hc; exact hc rfl)] at he
   rw[y6 hc]
   cases hl:pieces l with
   | nil=>exact absurd hl (z12 l)
   | cons q qs =>
    rw[hl] at he
    injection he with e1 e2
    subst e1
    subst e2
    have ih:=z8c l (pre++[c]) q qs p
    by_cases hd:dig c
    ·match pre,hp with
     | [],_ =>
      by_cases h0:c.toNat=48
      ·rw[y7 (by right; right; left; exact⟨rfl,h0⟩),z61,y2e,zev h0]
      ·rw[y6 (by have:=hd.1; have:=hd.2; simp; omega)]
       exact ih ⟨hd,h0⟩ hl
     | [a],hp =>
      rw[y6 (by have:=hd.1; have:=hd.2; simp; omega)]
      have:=ih ⟨hp.1,hp.2,hd⟩ hl
      simpa using this
     | [a,b],hp =>
      rw[y7 (by right; right; right; rfl),z61]
      rfl
     | _ :: _ :: _ :: _,hp=>exact hp.elim
    ·rw[y7 (by unfold dig at hd; omega),z61,zhn hd]
theorem z2v:∀ {ws:List Y8} {ns:List Int},nums ws=some ns->ns.length=ws.length
 | [],ns,h=>by cases h; rfl
 | w :: ws,ns,h=>by
  simp only[nums] at h
  split at h
  ·cases h
  ·cases hn:nums ws with
   | none=>rw[hn] at h; cases h
   | some ms =>
    rw[hn] at h
    cases h
    simp[z2v hn]
def good (l:Y8):Bool:=goodR l 0 1
theorem z4e (l:Y8):decide ((parts l).length>0)=good l:=by
 unfold good
 cases hl:pieces l with
 | nil=>exact absurd hl (z12 l)
 | cons q qs =>
  have:=z8c l [] q qs 1 trivial hl
  simp only[y1n,y2e] at this
  rw[this]
  unfold parts cntOk
  rw[hl]
  cases hn:nums (q :: qs) with
  | none=>rfl
  | some ns =>
   have h1:=z2v hn
   simp only[y10] at h1
   simp only
   by_cases h4:ns.length>4
   ·simp only[y7 h4]; simp; omega
   ·simp only[y6 h4]; rw[y1k]; simp; omega
variable {l:Y8}
theorem z2m (hl:l.length<4611686018427387904):F_qf l=some (good l):=by
 simp only[F_qf,S_qf,Scr.den,za]
 generalize hF:(fun s=>(S_qf_b1 l s).den)=F
 have key:∀ (k i d p:Nat),i+k=l.length->d<=i->p<=i+1->outM (iterM F ((d:Int),(p:Int),(i:Int))) (fun s=>some (decide (s.1>0)&&decide (s.2.1<=4))) (fun x=>some (id x))=some (goodR (l.drop i) d p):=by
  intro k
  induction k with
  | zero =>
   intro i d p hk hd hp
   rw[zu,y1u om,<- hF]
   simp only[S_qf_b1,Scr.den]
   rw[y6 sk]
   simp only[outM,goodR]
   congr 1
   rw[y1k]; simp; omega
  | succ k ih =>
   intro i d p hk hd hp
   have hi:i<l.length:=om
   have ei:l.getD i 0=l[i]:=by simp[List.getD_eq_getElem?_getD,List.getElem?_eq_getElem hi]
   rw[zu,y1p hi,<- y3c hF]
   simp only[S_qf_b1,Scr.den,yi,ei,za,zg]
   generalize hcc:l[i]=c
   rw[y7 sk,z6 ⟨om,hi,trivial⟩]
   have w1:i64.wrap ((p:Int)+1)=((p+1:Nat):Int):=by rw[wrapId om om]; omega
   have w2:i64.wrap ((i:Int)+1)=((i+1:Nat):Int):=by rw[wrapId om om]; omega
   have w3:i64.wrap ((d:Int)+1)=((d+1:Nat):Int):=by rw[wrapId om om]; omega
   simp only[w1,w2,w3,goodR]
   by_cases hc:c.toNat=46
   ·rw[y7 (by simp[hc]),y7 hc]
    by_cases h0:d=0
    ·rw[y7 (by simp[h0]),y7 h0]; rfl
    ·rw[y6 (by simpa using h0),y6 h0]
     have h:=ih (i+1) 0 (p+1) om om om
     rw[show ((0:Nat):Int)=0 from rfl] at h
     exact h
   ·rw[y6 sk,y6 hc,z6 ⟨fun _=>om,fun _=>hi,fun _=>om,fun _=>hi,trivial⟩]
    by_cases hb:c.toNat<48\/57<c.toNat\/(d=0/\c.toNat=48)\/d=2
    ·rw[y7 sk,y7 hb]; rfl
    ·rw[y6 sk,y6 hb]
     exact ih (i+1) (d+1) p om om om
 exact key l.length 0 0 1 om om om
theorem z62 (hl:l.length<=1099511627776):F_q5g l=some (parts l):=by
 unfold F_q5g
 exact zcy hl rfl
def lexC:List Int->List Int->Int
 | [],[]=>0
 | [],_ :: _=>-1
 | _ :: _,[]=>1
 | a :: x,b :: y=>if a<b then -1 else if a>b then 1 else lexC x y
theorem z35:∀ x,lexC x x=0
 | []=>rfl
 | a :: x=>by simp[lexC,z35 x]
theorem z42:∀ {x y:List Int},lexC x y=0->x=y
 | [],[],_=>rfl
 | [],_ :: _,h=>by simp[lexC] at h
 | _ :: _,[],h=>by simp[lexC] at h
 | a :: x,b :: y,h=>by
  simp only[lexC] at h
  split at h
  ·omega
  ·split at h
   ·omega
   ·rw[z42 h,show a=b from om]
theorem z8d:∀ x y:List Int,lexC y x=-lexC x y
 | [],[]=>rfl
 | [],_ :: _=>rfl
 | _ :: _,[]=>rfl
 | a :: x,b :: y=>by
  simp only[lexC]
  by_cases h1:a<b
  ·rw[y7 h1,y6 om,y7 om]; rfl
  ·by_cases h2:a>b
   ·rw[y7 om,y6 h1,y7 h2]
   ·rw[y6 h1,y6 h2,y6 om,y6 om,z8d x y]
theorem z5j:∀ {x y z:List Int},lexC x y<0->lexC y z<0->lexC x z<0
 | [],_,[],h,h'=>by
  rename_i y
  cases y with
  | nil=>simp[lexC] at h
  | cons b y=>simp[lexC] at h'
 | [],_,c :: z,_,_=>by simp[lexC]
 | a :: x,[],_,h,_=>by simp[lexC] at h
 | a :: x,b :: y,[],_,h'=>by simp[lexC] at h'
 | a :: x,b :: y,c :: z,h,h'=>by
  simp only[lexC] at h h' |-
  by_cases h1:a<b
  ·by_cases h2:b<c
   ·rw[y7 om]; omega
   ·rw[y6 h2] at h'
    by_cases h3:b>c
    ·rw[y7 h3] at h'; omega
    ·rw[y7 om]; omega
  ·rw[y6 h1] at h
   by_cases h2:a>b
   ·rw[y7 h2] at h; omega
   ·rw[y6 h2] at h
    by_cases h3:b<c
    ·rw[y7 om]; omega
    ·rw[y6 h3] at h'
     by_cases h4:b>c
     ·rw[y7 h4] at h'; omega
     ·rw[y6 h4] at h'
      rw[y6 om,y6 om]
      exact z5j h h'
theorem zof:∀ {w w':Y8} {n:Int},pv w=some n->pv w'=some n->w=w'
 | [],_,_,h,_=>by simp[pv] at h
 | [a],[],_,_,h=>by simp[pv] at h
 | [a,b],[],_,_,h=>by simp[pv] at h
 | [a],[c],n,h,h'=>by
  simp only[pv] at h h'
  split at h <;> split at h' <;> simp at h h'
  have:a.toNat=c.toNat:=om
  rw[y4e.1 this]
 | [a],[c,d],n,h,h'=>by
  simp only[pv] at h h'
  split at h <;> split at h' <;> simp at h h'
  omega
 | [a,b],[c],n,h,h'=>by
  simp only[pv] at h h'
  split at h <;> split at h' <;> simp at h h'
  omega
 | [a,b],[c,d],n,h,h'=>by
  simp only[pv] at h h'
  split at h <;> split at h' <;> simp at h h'
  have h1:a.toNat=c.toNat:=om
  have h2:b.toNat=d.toNat:=om
  rw[y4e.1 h1,y4e.1 h2]
 | _ :: _ :: _ :: _,_,_,h,_=>by simp[pv] at h
 | _,_ :: _ :: _ :: _,_,_,h=>by simp[pv] at h
theorem za4:∀ {ws ws':List Y8} {ns:List Int},nums ws=some ns->nums ws'=some ns->ws=ws'
 | [],[],_,_,_=>rfl
 | [],w :: ws,ns,h,h'=>by
  have h1:=z2v h; have h2:=z2v h'; simp only[y1n,y10] at h1 h2; omega
 | w :: ws,[],ns,h,h'=>by
  have h1:=z2v h; have h2:=z2v h'; simp only[y1n,y10] at h1 h2; omega
 | w :: ws,w' :: ws',ns,h,h'=>by
  simp only[nums] at h h'
  split at h
  ·cases h
  ·rename_i n hn
   split at h'
   ·cases h'
   ·rename_i n' hn'
    cases hm:nums ws with
    | none=>rw[hm] at h; cases h
    | some ms =>
     cases hm':nums ws' with
     | none=>rw[hm'] at h'; cases h'
     | some ms' =>
      rw[hm] at h; rw[hm'] at h'
      simp only[y1z,yw] at h h'
      rw[<- h] at h'
      simp only[y3w] at h'
      obtain⟨rfl,rfl⟩:=h'
      rw[zof hn hn',za4 hm hm']
theorem z3f:∀ {l l':Y8},pieces l=pieces l'->l=l'
 | [],[],_=>rfl
 | [],b :: m,h=>by
  rw[z17] at h
  split at h
  ·simp[pieces] at h; first | exact absurd h (z12 m) | exact absurd h.symm (z12 m)
  ·split at h <;> simp[pieces] at h
 | b :: m,[],h=>by
  rw[z17] at h
  split at h
  ·simp[pieces] at h; first | exact absurd h (z12 m) | exact absurd h.symm (z12 m)
  ·split at h <;> simp[pieces] at h
 | b :: l,c :: m,h=>by
  rw[z17,z17] at h
  cases hl:pieces l with
  | nil=>exact absurd hl (z12 l)
  | cons p ps =>
   cases hm:pieces m with
   | nil=>exact absurd hm (z12 m)
   | cons q qs =>
    rw[hl,hm] at h
    by_cases hb:(b==46)=true
    ·by_cases hc:(c==46)=true
     ·rw[y7 hb,y7 hc] at h
      have e:pieces l=pieces m:=by rw[hl,hm]; simpa using h
      rw[z3f e,show b=c by rw[eq_of_beq hb,eq_of_beq hc]]
     ·rw[y7 hb,y6 hc] at h; simp at h
    ·by_cases hc:(c==46)=true
     ·rw[y6 hb,y7 hc] at h; simp at h
     ·rw[y6 hb,y6 hc] at h
      simp only[y3w] at h
      obtain⟨⟨rfl,rfl⟩,rfl⟩:=h
      rw[z3f (hl.trans hm.symm)]
theorem z1c (h:good l=true):nums (pieces l)=some (parts l)/\0<(parts l).length/\(parts l).length<=4:=by
 rw[<- z4e] at h
 have h0:0<(parts l).length:=by simpa using h
 unfold parts at h0 |-
 split at h0
 ·simp at h0
 ·rename_i ns hn
  split at h0
  ·simp at h0
  ·rename_i h4
   rw[hn]
   simp only[y6 h4]
   exact⟨trivial,h0,om⟩
theorem z6h {l':Y8} (h:good l=true) (h':good l'=true) (e:parts l=parts l'):l=l' :=
 z3f (za4 (z1c h).1 (e▸(z1c h').1))
def valW (w:Y8):Int:=w.foldl (fun n c=>10 * n+((c.toNat:Int)-48)) 0
theorem zb0:∀ {w:Y8} {n:Int},pv w=some n->valW w=n/\1<=w.length/\w.length<=2/\(w.getD 0 0).toNat≠48/\∀ c∈w,48<=c.toNat/\c.toNat<=57
 | [],_,h=>by simp[pv] at h
 | [a],n,h=>by
  simp only[pv] at h
  split at h <;> simp at h
  rename_i h1
  refine⟨by simp[valW]; omega,sj,sj,sk,fun c hc=>by simp at hc; subst hc; omega⟩
 | [a,b],n,h=>by
  simp only[pv] at h
  split at h <;> simp at h
  rename_i h1
  refine⟨by simp[valW]; omega,sj,sj,sk,fun c hc=>?_⟩
  simp at hc
  rcases hc with rfl | rfl <;> omega
 | _ :: _ :: _ :: _,_,h=>by simp[pv] at h
theorem z4q (h:good l=true):l.length<=11:=by
 have key:∀ (l:Y8) (ns:List Int),nums (pieces l)=some ns->l.length+1<=3 * ns.length:=by
  intro l
  suffices H:∀ (l p0:Y8) (ps:List Y8),pieces l=p0 :: ps->l.length=p0.length+(ps.map fun q=>q.length+1).sum by
   intro ns hn
   cases hp:pieces l with
   | nil=>exact absurd hp (z12 l)
   | cons p0 ps =>
    rw[hp] at hn
    rw[H l p0 ps hp]
    have hall:∀ (ws:List Y8) (ms:List Int),nums ws=some ms->(ws.map fun q=>q.length+1).sum<=3 * ms.length:=by
     intro ws
     induction ws with
     | nil=>intro ms hm; simp
     | cons w ws ih =>
      intro ms hm
      simp only[nums] at hm
      split at hm
      ·cases hm
      ·rename_i n hpv
       cases hw:nums ws with
       | none=>rw[hw] at hm; cases hm
       | some ks =>
        rw[hw] at hm; cases hm
        have:=ih ks hw
        have:=(zb0 hpv).2.2.1
        simp only[y2n,List.sum_cons,y10]
        omega
    have:=hall _ _ hn
    simp only[y2n,List.sum_cons] at this
    omega
  intro l
  induction l with
  | nil=>intro p0 ps hp; simp[pieces] at hp; obtain⟨rfl,rfl⟩:=hp; simp
  | cons b l ih =>
   intro p0 ps hp
   rw[z17] at hp
   cases hl:pieces l with
   | nil=>exact absurd hl (z12 l)
   | cons q qs =>
    have:=ih q qs hl
    rw[hl] at hp
    split at hp
    ·simp only[y3w] at hp
     obtain⟨rfl,rfl⟩:=hp
     simp only[y10,y1n,y2n,List.sum_cons]; omega
    ·simp only[y3w] at hp
     obtain⟨rfl,rfl⟩:=hp
     simp only[y10]; omega
 obtain⟨h1,h2,h3⟩:=z1c h
 have:=key l _ h1
 omega
def cmpI (a b:Int):Int:=if a<b then -1 else if a>b then 1 else 0
theorem z43 (a b:Int):F_qs a b=some (cmpI a b):=by
 simp only[F_qs,S_qs,F_q3z,S_q3z,Scr.den,obind,cmpI,bne_self_eq_false,yl,y2g,y8]
 by_cases h1:a<b
 ·rw[y7 h1,y7 h1]
 ·rw[y6 h1,y6 h1]
  by_cases h2:a>b
  ·rw[y7 h2,y7 h2]
  ·rw[y6 h2,y6 h2]
theorem z5q {l:List Int} {i:Nat} (hi:i<l.length):l.getD i dF=l[i]:=by simp[List.getD_eq_getElem?_getD,List.getElem?_eq_getElem hi]
theorem za5 (x y:List Int):F_q1o x y=some (lexC x y):=by
 simp only[F_q1o,S_q1o,Scr.den]
 generalize hB:(fun i s=>(S_q1o_b1 x y i s).den)=B
 have key:∀ (k i:Nat),i+k=x.length->i<=y.length->outM (rangeM B k i ()) (fun _=>if decide ((x.length:Int)<(y.length:Int))=true then some (-1) else some 0) (fun r=>some (id r))=some (lexC (x.drop i) (y.drop i)):=by
  intro k
  induction k with
  | zero =>
   intro i hk hy
   rw[y1u om]
   by_cases h:y.length<=i
   ·rw[y1u h]
    simp only[rangeM,outM]
    rw[y6 sk]
    rfl
   ·rw[y1p (by omega:i<y.length)]
    simp only[rangeM,outM]
    rw[y7 sk]
    rfl
  | succ k ih =>
   intro i hk hy
   have hi:i<x.length:=om
   rw[y1p hi]
   simp only[rangeM]
   rw[<- y3c (y3c hB i) ()]
   simp only[S_q1o_b1,Scr.den]
   by_cases h:y.length<=i
   ·rw[y7 sk,y1u h]
    rfl
   ·have hj:i<y.length:=om
    rw[y6 sk,z6 ⟨hj,trivial⟩,y1p hj]
    simp only[z43,obind,z5q hi,z5q hj,lexC,cmpI]
    by_cases h1:x[i]<y[i]
    ·simp only[y7 h1]; rfl
    ·simp only[y6 h1]
     by_cases h2:x[i]>y[i]
     ·simp only[y7 h2]; rfl
     ·simp only[y6 h2]
      exact ih (i+1) om om
 have:=key x.length 0 om om
 simpa using this
def strC (a b:Y8):Int:=if Op.bytesLess a b=true then -1 else if (!(Op.bytesLess a b||a==b))=true then 1 else 0
def cmpC (a b:Y8):Int:=if (parts a).length=0/\(parts b).length=0 then strC a b else lexC (parts a) (parts b)
variable {a b:Y8}
theorem z7m (ha:a.length<=1000000) (hb:b.length<=1000000):F_q1c a b=some (cmpC a b):=by
 simp only[F_q1c,S_q1c,Scr.den,z62 (show a.length<=1099511627776 from om),z62 (show b.length<=1099511627776 from om),obind,za,cmpC,za5]
 by_cases h:(parts a).length=0/\(parts b).length=0
 ·rw[y7 (by simp[h]),y7 h]
  simp only[F_q4z,S_q4z,F_q3y,S_q3y,Scr.den,obind,y3s,y55,yl,y2g,strC]
  by_cases h1:Op.bytesLess a b=true
  ·rw[y7 h1,y7 h1]; rfl
  ·rw[y6 h1,y6 h1]
   by_cases h2:(!(Op.bytesLess a b||a==b))=true
   ·rw[y7 h2,y7 h2]; rfl
   ·rw[y6 h2,y6 h2]; rfl
 ·rw[y6 (by simpa using h),y6 h]
theorem z44 (h:good a=true\/good b=true):cmpC a b=lexC (parts a) (parts b):=by
 unfold cmpC
 rw[y6]
 rintro⟨h1,h2⟩
 rcases h with h | h
 ·have:=(z1c h).2.1; omega
 ·have:=(z1c h).2.1; omega
theorem z63 (hg:good l=true):F_qh l=some (parts l):=by
 obtain⟨hn,h0,h4⟩:=z1c hg
 have hlen:=z4q hg
 simp only[F_qh,S_qh,Scr.den]
 rw[y6 sk]
 generalize hF:(fun s=>(S_qh_b1 l s).den)=F
 have w1:∀ i:Nat,i<=11->i64.wrap ((i:Int)+1)=((i+1:Nat):Int):=fun i hi=>by rw[wrapId om om]; omega
 have flush:∀ (i:Nat) (w:Y8) (out:List Int) (n:Int),i<=l.length->w.length<=i->(∀ j,j<w.length->l.getD (i-w.length+j) 0=w.getD j 0)->pv w=some n->(i=l.length\/(l.getD i 0).toNat=46)->out.length<=4 ->
   F (out,valW w,(w.length:Int),(i:Int))=some (.cont (out++[n],0,0,((i+1:Nat):Int))):=by
  intro i w out n hi hw hg hpv hor ho
  obtain⟨e1,e2,e3,e4,e5⟩:=zb0 hpv
  have hk:i64.wrap ((i:Int)-(w.length:Int))=((i-w.length:Nat):Int):=by rw[wrapId om om]; omega
  have h0:=hg 0 om
  rw[y43] at h0
  rw[<- y3c hF]
  simp only[S_qh_b1,Scr.den,yi,zg,hk,h0]
  rw[y7 sk,z6 ⟨fun _=>om,fun h=>by have h:=h.1; simp at h; omega,trivial⟩,y7 (by
   rcases hor with rfl | h
   ·simp
   ·simp only[yj,yn]; right; omega),z6 ⟨fun _=>om,fun _=>om,trivial⟩,y6 (by
    simp only[yj,yn,y8]; omega),Ga,w1 i om,e1]
 have digit:∀ (i:Nat) (w:Y8) (out:List Int),i<l.length->(l.getD i 0).toNat≠46->48<=(l.getD i 0).toNat/\(l.getD i 0).toNat<=57->w.length<=1->(∀ c∈w,48<=c.toNat/\c.toNat<=57) ->
   F (out,valW w,(w.length:Int),(i:Int))=some (.cont (out,valW (w++[l.getD i 0]),((w++[l.getD i 0]).length:Int),((i+1:Nat):Int))):=by
  intro i w out hi h46 hd hw hall
  have hv:0<=valW w/\valW w<=9:=by
   match w,hw with
   | [],_=>simp[valW]
   | [a],_=>have:=hall a sj; simp[valW]; omega
  have e1:valW (w++[l.getD i 0])=10 * valW w+(((l.getD i 0).toNat:Int)-48):=by simp[valW]
  have e2:IntKind.u8.wrap (((l.getD i 0).toNat:Int)-48)=((l.getD i 0).toNat:Int)-48:=by
   generalize (l.getD i 0).toNat=m at hd
   simp only[IntKind.wrap,IntKind.bits,IntKind.signed]
   simp
   omega
  rw[<- y3c hF]
  simp only[S_qh_b1,Scr.den,yi,zg,e1,e2]
  rw[y7 sk,z6 ⟨fun _=>om,fun _=>om,trivial⟩,y6 (by simp only[yj,yn]; omega),z6 ⟨om,hi,fun _=>om,fun _=>hi,trivial⟩,y6 (by simp only[yj,y8]; omega),w1 i om,w1 w.length om,
   wrapId (n:=10 * valW w) om om,wrapId (n:=((l.getD i 0).toNat:Int)-48) om om,wrapId om om]
  simp
 have key:∀ (k i:Nat) (w p0:Y8) (ps:List Y8) (out ns:List Int),i+k=l.length->w.length<=i->(∀ j,j<w.length->l.getD (i-w.length+j) 0=w.getD j 0)->pieces (l.drop i)=p0 :: ps->nums ((w++p0) :: ps)=some ns->out.length+ns.length<=4 ->
   iterM F (out,valW w,(w.length:Int),(i:Int))=some (.next (out++ns,0,0,((l.length+1:Nat):Int))):=by
  intro k
  induction k with
  | zero =>
   intro i w p0 ps out ns hk hw hgd hpc hnm ho
   obtain rfl:i=l.length:=om
   rw[y1u (yc _)] at hpc
   simp only[pieces,y3w] at hpc
   obtain⟨rfl,rfl⟩:=hpc
   simp only[y2v,nums] at hnm
   split at hnm
   ·cases hnm
   ·rename_i n hpv
    simp only[y1z,yw] at hnm
    subst hnm
    rw[zu,flush l.length w out n (yc _) hw hgd hpv (.inl rfl) (by simp at ho; omega)]
    simp only
    rw[zu,<- y3c hF]
    simp only[S_qh_b1,Scr.den]
    rw[y6 sk]
  | succ k ih =>
   intro i w p0 ps out ns hk hw hgd hpc hnm ho
   have hi:i<l.length:=om
   have ei:l.getD i 0=l[i]:=by simp[List.getD_eq_getElem?_getD,List.getElem?_eq_getElem hi]
   rw[y1p hi,z17] at hpc
   cases hq:pieces (l.drop (i+1)) with
   | nil=>exact absurd hq (z12 _)
   | cons q qs =>
    rw[hq] at hpc
    by_cases hc:(l[i]==46)=true
    ·rw[y7 hc] at hpc
     simp only[y3w] at hpc
     obtain⟨rfl,rfl⟩:=hpc
     simp only[y2v,nums] at hnm
     split at hnm
     ·cases hnm
     ·rename_i n hpv
      cases hm:nums (q :: qs) with
      | none=>simp only[nums] at hm; rw[hm] at hnm; cases hnm
      | some ms =>
       have hm':=hm
       simp only[nums] at hm'
       rw[hm'] at hnm
       simp only[y1z,yw] at hnm
       subst hnm
       simp only[y10] at ho
       have h46:(l.getD i 0).toNat=46:=by rw[ei,eq_of_beq hc]; rfl
       rw[zu,flush i w out n om hw hgd hpv (.inr h46) om]
       simp only
       have:=ih (i+1) [] q qs (out++[n]) ms om sj sj hq (by simpa using hm) sk
       simpa [valW] using this
    ·rw[y6 hc] at hpc
     simp only[y3w] at hpc
     obtain⟨rfl,rfl⟩:=hpc
     have hpv:∃ n,pv (w++l[i] :: q)=some n:=by
      simp only[nums] at hnm
      split at hnm
      ·cases hnm
      ·rename_i n h; exact⟨n,h⟩
     obtain⟨n,hpv⟩:=hpv
     obtain⟨_,_,g3,_,g5⟩:=zb0 hpv
     simp only[yb,y10] at g3
     have hne:(l.getD i 0).toNat≠46:=by
      rw[ei]; intro h; exact hc (by rw[y4e.1 (show l[i].toNat=(46:UInt8).toNat from h)]; rfl)
     rw[zu,digit i w out hi hne (by rw[ei]; exact g5 l[i] sj) om (fun c hc=>g5 c (by simp[hc]))]
     simp only
     refine ih (i+1) (w++[l.getD i 0]) q qs out ns om sk (fun j hj=>?_) hq (by rw[ei]; simpa using hnm) ho
     simp only[yb,y10,y1n] at hj |-
     by_cases hjw:j<w.length
     ·have:=hgd j hjw
      rw[show i+1-(w.length+(0+1))+j=i-w.length+j from om,this]
      simp[List.getD_eq_getElem?_getD,List.getElem?_append_left hjw]
     ·obtain rfl:j=w.length:=om
      rw[show i+1-(w.length+(0+1))+w.length=i from om]
      simp[List.getD_eq_getElem?_getD]
 cases hp:pieces l with
 | nil=>exact absurd hp (z12 l)
 | cons p0 ps =>
  rw[hp] at hn
  have h:=key l.length 0 [] p0 ps [] (parts l) om sj sj (by simpa using hp) (by simpa using hn) sk
  have h':iterM F (([]:List Int),(0:Int),(0:Int),(0:Int))=some (.next (parts l,0,0,((l.length+1:Nat):Int))):=by simpa [valW] using h
  rw[h']
  simp only[outM]
  rw[y6 sk,Ga]
def TapeOk (s:TTape):Prop:=0<=s.at_/\s.l.length<=500/\s.at_<=s.l.length
theorem zlc (t:List Int):∃ s,F_q4s t=some s/\TapeOk s:=by
 simp only[F_q4s,S_q4s,Scr.den]
 refine⟨_,zcy ⟨?_,?_,trivial⟩ rfl,sj,?_,sj⟩
 ·split <;> omega
 ·split <;> omega
 ·simp only[yx]
  split <;> omega
variable {s:TTape}
theorem zm {n:Int} (hs:TapeOk s) (h1:1<=n) (hn:n<=4611686018427387904):∃ v s',F_q0 n s=some (v,s')/\TapeOk s'/\0<=v/\v<n:=by
 obtain⟨a1,a2,a3⟩:=hs
 simp only[F_q0,S_q0,Scr.den]
 by_cases hc:s.at_>=(s.l.length:Int)
 ·rw[y7 (by simp[hc])]
  exact⟨0,s,rfl,⟨a1,a2,a3⟩,om,om⟩
 ·rw[y6 sk]
  have e1:i64.wrap (s.at_+1)=s.at_+1:=wrapId om om
  rw[e1,Gc]
  generalize s.l.getD s.at_.toNat dF=x
  have t1:x.tmod n<n:=Int.tmod_lt_of_pos x om
  have t2:-n<x.tmod n:=Int.lt_tmod_of_pos x om
  have e3:i64.wrap (x.tmod n+n)=x.tmod n+n:=wrapId om om
  rw[e3]
  have ht:TapeOk ⟨s.l,s.at_+1⟩:=⟨by simp only; omega,a2,by simp only; omega⟩
  split
  ·rename_i h
   simp only[y8] at h
   exact⟨_,_,rfl,ht,om,om⟩
  ·rename_i h
   simp only[y8] at h
   exact⟨_,_,rfl,ht,om,om⟩
theorem z2j {lo hi:Int} (hs:TapeOk s) (h0:-1000000000000000<=lo) (h1:lo<=hi) (h2:hi<=1000000000000000):∃ v s',F_qv lo hi s=some (v,s')/\TapeOk s'/\lo<=v/\v<=hi:=by
 simp only[F_qv,S_qv,Scr.den]
 rw[wrapId (n:=hi-lo) om om,wrapId (n:=hi-lo+1) om om]
 obtain⟨v,s',h3,h4,h5,h6⟩:=zm (n:=hi-lo+1) hs om om
 refine⟨lo+v,s',?_,h4,om,om⟩
 rw[h3,obind]
 simp only
 rw[wrapId (n:=lo+v) om om]
theorem zo {l:List Int} (hs:TapeOk s) (h0:1<=l.length) (h1:l.length<=100):∃ v s',F_q3 l s=some (v,s')/\TapeOk s'/\v∈l:=by
 simp only[F_q3,S_q3,Scr.den]
 obtain⟨v,s',h3,h4,h5,h6⟩:=zm (n:=(l.length:Int)) hs om om
 refine⟨_,s',?_,h4,z8 (show v.toNat<l.length from om)⟩
 rw[h3,obind,z6 ⟨by simpa using h5,by simp only; omega,trivial⟩]
theorem z2a (ha:good a=true) (hb:good b=true):F_qi a b=some (lexC (parts a) (parts b)):=by
 have h1:=(z1c ha).2
 have h2:=(z1c hb).2
 simp only[F_qi,S_qi,Scr.den,z63 ha,z63 hb,obind,zg]
 rw[y6 (by simp only[yj,yn]; omega)]
 generalize parts a=x at h1
 generalize parts b=y at h2
 generalize hF:(fun s=>(S_qi_b1 x y s).den)=F
 have key:∀ (k i:Nat),i+k=x.length->i<=y.length->outM (iterM F (i:Int)) (fun _=>if decide ((x.length:Int)<(y.length:Int))=true then some (-1) else if decide ((x.length:Int)>(y.length:Int))=true then some 1 else some 0) (fun r=>some (id r))=some (lexC (x.drop i) (y.drop i)):=by
  intro k
  induction k with
  | zero =>
   intro i hk hy
   rw[zu,<- y3c hF]
   simp only[S_qi_b1,Scr.den,za]
   rw[y6 (by simp only[ya,y8]; omega),y1u om]
   simp only[outM]
   by_cases h:y.length<=i
   ·rw[y1u h,y6 sk,y6 sk]; rfl
   ·rw[y1p (by omega:i<y.length),y7 sk]; rfl
  | succ k ih =>
   intro i hk hy
   have hi:i<x.length:=om
   rw[zu,<- y3c hF,y1p hi]
   simp only[S_qi_b1,Scr.den,za]
   by_cases h:y.length<=i
   ·rw[y6 (by simp only[ya,y8]; omega),y1u h]
    simp only[outM]
    rw[y6 sk,y7 sk]; rfl
   ·have hj:i<y.length:=om
    have w1:i64.wrap ((i:Int)+1)=((i+1:Nat):Int):=by rw[wrapId om om]; omega
    rw[y7 (by simp only[ya,y8]; omega),Gc,y1p hj]
    simp only[yi,z5q hi,z5q hj,lexC]
    by_cases h1:x[i]<y[i]
    ·rw[y7 (y11 h1),y7 h1]; rfl
    ·rw[y6 (by simpa using h1),y6 h1]
     by_cases h2:x[i]>y[i]
     ·rw[y7 (y11 h2),y7 h2]; rfl
     ·rw[y6 (by simpa using h2),y6 h2,w1]
      exact ih (i+1) om om
 have:=key x.length 0 om om
 simpa using this
theorem zy [Inhabited α] (l:List α) (p:α->Bool) (v:Nat->ρ) (hs:∀ i,i<l.length->body i ()=some (if p (l.getD i dF)=true then .ret (v i) else .cont ())) :
  rangeM body l.length 0 ()=some (if l.any p=true then .ret (v (l.findIdx p)) else .next ()):=by
 have key:∀ (k i:Nat),i+k=l.length->rangeM body k i ()=some (if (l.drop i).any p=true then .ret (v (i+(l.drop i).findIdx p)) else .next ()):=by
  intro k
  induction k with
  | zero=>intro i hk; rw[y1u om]; rfl
  | succ k ih =>
   intro i hk
   have hi:i<l.length:=om
   have e:l.getD i dF=l[i]:=by simp[List.getD_eq_getElem?_getD,List.getElem?_eq_getElem hi]
   rw[y1p hi]
   simp only[rangeM,hs i hi,e,y4b,y2z]
   cases hp:p l[i] with
   | true=>simp
   | false =>
    simp only[yl,y2g,y3o,y69]
    rw[ih (i+1) om,show i+1+(l.drop (i+1)).findIdx p=i+((l.drop (i+1)).findIdx p+1) from om]
 have:=key l.length 0 om
 simpa using this
end Go.Proofs.YtbmpcbbimefmoaaGreatDoor
/- Codes,names,trees: what both programs say of them. No condition. -/
namespace Go.Proofs.YtbmpcbbimefmoaaGreatDoor
open Go Go.TA
open Go.IntKind (i64)
def fstE (n:Nat) (e:Nat->Int):Int:=match (List.range n).find? (fun i=>e i != 0) with
 | some i=>e i
 | none=>0
variable {n:Nat}
theorem z5k {ρ:Type} {body:Nat->Unit->Option (Step Unit ρ)} (e:Nat->Int) (g:Nat->ρ) (hs:∀ i,i<n->(∀ j,j<i->e j=0)->body i ()=some (if e i=0 then .cont () else .ret (g i))) :
  rangeM body n 0 ()=some (match (List.range n).find? (fun i=>e i != 0) with | some j=>.ret (g j) | none=>.next ()):=by
 have key:∀ (k i:Nat),i+k=n->(∀ j,j<i->e j=0)->rangeM body k i ()=some (match (List.range' i k).find? (fun i=>e i != 0) with | some j=>.ret (g j) | none=>.next ()):=by
  intro k
  induction k with
  | zero=>intro i hk hz; rfl
  | succ k ih =>
   intro i hk hz
   simp only[rangeM,hs i om hz,List.range'_succ,y4p]
   by_cases h:e i=0
   ·rw[y7 h]
    simp only[h,bne_self_eq_false]
    exact ih (i+1) om (fun j hj=>by
     by_cases e':j=i
     ·rw[e']; exact h
     ·exact hz j om)
   ·rw[y6 h]
    have:(e i != 0)=true:=by simpa using h
    simp only[this]
 have:=key n 0 om (fun j hj=>om)
 rwa [<- List.range_eq_range'] at this
theorem z21 {body:Nat->Unit->Option (Step Unit Int)} (e:Nat->Int) (hs:∀ i,i<n->(∀ j,j<i->e j=0)->body i ()=some (if e i=0 then .cont () else .ret (e i))) :
  outM (rangeM body n 0 ()) (fun _=>some 0) (fun x=>some (id x))=some (fstE n e):=by
 rw[z5k e e hs]
 unfold fstE
 split <;> rfl
theorem z18 {e:Nat->Int}:fstE n e=0↔∀ i,i<n->e i=0:=by
 unfold fstE
 split
 ·rename_i i h
  have h1:=List.find?_some h
  have h2:=List.mem_of_find?_eq_some h
  exact⟨fun h0=>by simp[h0] at h1,fun h0=>h0 i (y1l.1 h2)⟩
 ·rename_i h
  rw[List.find?_eq_none] at h
  exact⟨fun _ i hi=>by simpa using h i (y1l.2 hi),fun _=>rfl⟩
def ldot (c:Y8):Nat->Nat
 | 0=>0
 | k+1=>if (c.getD k 0).toNat=46 then k else ldot c k
def par (c:Y8):Y8:=if good c=true then c.take (ldot c c.length) else []
theorem zga (c:Y8):∀ k,ldot c k<=k
 | 0=>yc _
 | k+1=>by unfold ldot; split; omega; exact y2r (zga c k)
variable {c:Y8}
theorem zho (hl:c.length<=1000000):F_q3a c=some (good c):=by
 simp only[F_q3a,S_q3a,Scr.den,z62 (l:=c) om,obind]
 rw[show (decide (((parts c).length:Int)>0))=decide ((parts c).length>0) from sj,z4e]
theorem z3n (hl:c.length<=1000000):F_qq c=some (par c):=by
 simp only[F_qq,S_qq,Scr.den,z2m (l:=c) om,obind]
 unfold par
 by_cases hg:good c=true
 ·rw[y6 (by simp[hg]),y7 hg]
  generalize hF:(fun s=>(S_qq_b1 c s).den)=F
  have key:∀ k:Nat,k<=c.length->outM (iterM F ((k:Int)-1)) (fun _=>some []) (fun x=>some (id x))=some (c.take (ldot c k)):=by
   intro k
   induction k with
   | zero =>
    intro _
    rw[zu,<- y3c hF]
    simp only[S_qq_b1,Scr.den]
    rw[y6 sj]
    rfl
   | succ k ih =>
    intro hk
    have ek:(((k+1:Nat):Int)-1)=(k:Int):=om
    rw[ek,zu,<- y3c hF]
    simp only[S_qq_b1,Scr.den,yi,ldot]
    rw[y7 sj,Gb]
    by_cases h:(c.getD k 0).toNat=46
    ·rw[y7 (by simp only[yn]; omega),y7 h,Ga]
     rfl
    ·rw[y6 (by simp only[yn]; omega),y6 h]
     have w1:i64.wrap ((k:Int)-1)=(k:Int)-1:=wrapId om om
     simp only[w1]
     exact ih om
  have w1:i64.wrap ((c.length:Int)-1)=(c.length:Int)-1:=wrapId om om
  rw[w1]
  exact key c.length (yc _)
 ·rw[y7 (by simp[hg]),y6 hg]
theorem zog (hl:c.length<=1000000):∃ v,F_q3w c 46=some v/\(if 0>v then 0 else v)=(ldot c c.length:Int):=by
 simp only[F_q3w,S_q3w,F_q1l,S_q1l,Scr.den]
 generalize hF:(fun s=>(S_q1l_b1 c 46 s).den)=F
 have key:∀ k:Nat,k<=c.length->∃ v,outM (iterM F ((k:Int)-1)) (fun _=>some (-1)) (fun x=>some (id x))=some v/\(if 0>v then 0 else v)=(ldot c k:Int):=by
  intro k
  induction k with
  | zero =>
   intro _
   rw[zu,<- y3c hF]
   simp only[S_q1l_b1,Scr.den]
   rw[y6 sj]
   exact⟨-1,rfl,rfl⟩
  | succ k ih =>
   intro hk
   have ek:(((k+1:Nat):Int)-1)=(k:Int):=om
   rw[ek,zu,<- y3c hF]
   simp only[S_q1l_b1,Scr.den,yi,ldot]
   rw[y7 sj,Gb]
   by_cases h:(c.getD k 0).toNat=46
   ·rw[y7 (by simp only[yn]; omega),y7 h]
    have hk0:¬ (0:Int)>(k:Int):=om
    exact⟨k,rfl,y6 hk0⟩
   ·rw[y6 (by simp only[yn]; omega),y6 h]
    have w1:i64.wrap ((k:Int)-1)=(k:Int)-1:=wrapId om om
    simp only[w1]
    exact ih om
 have w1:i64.wrap ((c.length:Int)-1)=(c.length:Int)-1:=wrapId om om
 rw[w1]
 obtain⟨v,h1,h2⟩:=key c.length (yc _)
 exact⟨v,by rw[h1]; rfl,h2⟩
theorem zcz (hl:c.length<=1000000):F_q3i c=some (par c):=by
 obtain⟨v,h1,h2⟩:=zog hl
 simp only[F_q3i,S_q3i,Scr.den,zho hl,h1,obind]
 unfold par
 by_cases hg:good c=true
 ·have:=zga c c.length
  rw[y6 (by simp[hg]),y7 hg]
  simp only[h2,yi]
  rw[Gb]
 ·rw[y7 (by simp[hg]),y6 hg]
def und (a b:Y8):Bool:=good a&&good b&&decide (b.length<=a.length)&&(a.take b.length==b)&&(a.length==b.length||(a.getD b.length 0).toNat==46)
theorem z15 {a b:Y8} (ha:a.length<=1000000) (hb:b.length<=1000000):F_qj a b=some (und a b):=by
 simp only[F_qj,S_qj,Scr.den,z2m (l:=a) om,obind]
 unfold und
 by_cases h1:good a=true
 ·rw[zq (by simp[AllP,h1])]
  simp only[z2m (l:=b) om,obind]
  by_cases h2:good b=true
  ·by_cases h3:b.length<=a.length
   ·rw[z6 ⟨fun _=>om,trivial⟩]
    by_cases h4:a.take b.length=b
    ·rw[y6 (by simp[h1,h2,h4]; omega),z6 ⟨fun h=>by
      have:¬ a.length=b.length:=by have h:=h.1; simp only[y1v,ne_eq] at h; omega
      omega,trivial⟩]
     simp only[h1,h2,h3,h4,zg]
     congr 1
     rw[y1k]; simp; omega
    ·rw[y7 (by simp[h1,h2,h4])]
     simp[h4]
   ·rw[z6 ⟨fun h=>by have h:=h.1; simp[h1,h2] at h; omega,trivial⟩,y7 (by simp[h1,h2]; exact .inl om)]
    simp[h3]
  ·rw[z6 ⟨fun h=>by have h:=h.1; simp[h2] at h,trivial⟩,y7 (by simp[h2])]
   simp[h2]
 ·rw[z13 (by simp[AllP,h1]),obind,z6 ⟨fun h=>by have h:=h.1; simp[h1] at h,trivial⟩,y7 (by simp[h1])]
  simp[h1]
def joinD:List Y8->Y8
 | []=>[]
 | [w]=>w
 | w :: ws=>w++46 :: joinD ws
theorem z3g {w:Y8} {ws:List Y8} (h:ws≠[]):joinD (w :: ws)=w++46 :: joinD ws:=by
 cases ws with
 | nil=>exact absurd rfl h
 | cons x xs=>rfl
theorem z51:∀ l:Y8,joinD (pieces l)=l
 | []=>rfl
 | b :: l=>by
  have ih:=z51 l
  have hne:=z12 l
  rw[z17]
  split
  ·rename_i h
   rw[z3g hne,ih]
   have:b=46:=by simpa using h
   rw[this]; rfl
  ·cases hp:pieces l with
   | nil=>exact absurd hp hne
   | cons w ws =>
    rw[hp] at ih
    cases ws with
    | nil=>simp only[joinD] at ih |-; rw[ih]
    | cons x xs =>
     rw[z3g sj] at ih
     show joinD ((b :: w) :: x :: xs)=_
     rw[z3g sj,y2f,ih]
theorem z5l:∀ a b:Y8,pieces (a++46 :: b)=pieces a++pieces b
 | [],b=>by rw[y2e,z17]; rfl
 | x :: a,b=>by
  have ih:=z5l a b
  have hne:=z12 a
  rw[y2f,z17,z17,ih]
  split
  ·rfl
  ·cases hp:pieces a with
   | nil=>exact absurd hp hne
   | cons w ws=>rfl
theorem z57 {xs ys:List Y8} (hx:xs≠[]) (hy:ys≠[]):joinD (xs++ys)=joinD xs++46 :: joinD ys:=by
 induction xs with
 | nil=>exact absurd rfl hx
 | cons x xs ih =>
  cases xs with
  | nil=>rw[List.singleton_append,z3g hy]; rfl
  | cons x' xs' =>
   have h1:=ih sj
   rw[y2f,z3g sj,h1,z3g (List.cons_ne_nil x' xs'),y25]
   rfl
theorem z7n:∀ {xs ys:List Y8} {ns:List Int},nums (xs++ys)=some ns->∃ a b,nums xs=some a/\nums ys=some b/\ns=a++b
 | [],ys,ns,h=>⟨[],ns,rfl,h,rfl⟩
 | x :: xs,ys,ns,h=>by
  simp only[y2f,nums] at h |-
  cases hv:pv x with
  | none=>simp[hv] at h
  | some v =>
   cases hn:nums (xs++ys) with
   | none=>simp[hv,hn] at h
   | some m =>
    obtain⟨a,b,h1,h2,h3⟩:=z7n hn
    simp only[hv,hn,y1z,yw] at h
    exact⟨v :: a,b,by simp[h1],h2,by rw[<- h,h3]; rfl⟩
end Go.Proofs.YtbmpcbbimefmoaaGreatDoor
/- One code under another,in the program; names. No condition. -/
namespace Go.Proofs.YtbmpcbbimefmoaaGreatDoor
open Go Go.TA
open Go.IntKind (i64)
theorem zft (x y:List Int):F_q11 x y=some (x==y):=by
 simp only[F_q11,S_q11,Scr.den]
 by_cases h:x.length=y.length
 ·rw[y6 (by simp only[y5h,ne_eq]; omega)]
  have h1:∀ i,i<x.length->(x.getD i dF=y.getD i dF)->(S_q11_b1 x y i ()).den=some (.cont ()):=fun i hi e=>by
   simp only[S_q11_b1,Scr.den]
   rw[Ga,y6 (by simp only[y5h,ne_eq,y4i]; exact e)]
  have h2:∀ i,i<x.length->¬ (x.getD i dF=y.getD i dF)->(S_q11_b1 x y i ()).den=some (.ret false):=fun i hi e=>by
   simp only[S_q11_b1,Scr.den]
   rw[Ga,y7 (by simp only[y5h,ne_eq]; exact e)]
  obtain⟨k1,k2⟩:=zhm (body:=fun i s=>(S_q11_b1 x y i s).den) (n:=x.length) (c:=false) (fun i=>x.getD i dF=y.getD i dF) h1 h2
  by_cases e:x=y
  ·subst e
   rw[k1 fun j _=>rfl]; simp[outM]
  ·rw[k2 fun hh=>e (List.ext_getElem h fun i hi hj=>by
    have:=hh i hi
    rw[z5q hi,z5q hj] at this
    exact this)]
   simp[outM,e]
 ·rw[y7 (by simp only[y5h,ne_eq]; omega)]
  have:(x==y)=false:=by simp only[y1v,ne_eq]; intro e; exact h (by rw[e])
  rw[this]
variable {a b:Y8}
theorem zjo:und a b=(decide (0<(parts b).length)&&decide ((parts b).length<=(parts a).length)&&((parts a).take (parts b).length==parts b)):=by
 rw[y1k]
 unfold und
 simp only[ya,y8,yn,yj]
 constructor
 ·rintro⟨⟨⟨⟨ha,hb⟩,h1⟩,h2⟩,h3⟩
  obtain⟨na,ga⟩:=z1c ha
  obtain⟨nb,gb⟩:=z1c hb
  refine⟨⟨gb.1,?_⟩,?_⟩ <;> rcases h3 with h3 | h3
  ·have e:a=b:=by rw[<- h2,y2w om]
   rw[e]; exact yc _
  ·have hlt:b.length<a.length:=by
    rcases yu b.length a.length with h | h
    ·exact h
    ·rw[List.getD_eq_getElem?_getD,yf h] at h3; simp at h3
   have e:a=b++46 :: a.drop (b.length+1):=by
    have h3':a[b.length]=46:=by
     rw[List.getD_eq_getElem?_getD,yh hlt] at h3
     simp only[y44] at h3
     exact y4e.1 h3
    conv=>lhs; rw[<- y2b b.length a,h2,y1p hlt,h3']
   rw[e,z5l] at na
   obtain⟨x,y,k1,k2,k3⟩:=z7n na
   rw[nb] at k1; cases k1
   rw[<- e] at k3
   rw[k3]; simp
  ·have e:a=b:=by rw[<- h2,y2w om]
   rw[e]; simp
  ·have hlt:b.length<a.length:=by
    rcases yu b.length a.length with h | h
    ·exact h
    ·rw[List.getD_eq_getElem?_getD,yf h] at h3; simp at h3
   have e:a=b++46 :: a.drop (b.length+1):=by
    have h3':a[b.length]=46:=by
     rw[List.getD_eq_getElem?_getD,yh hlt] at h3
     simp only[y44] at h3
     exact y4e.1 h3
    conv=>lhs; rw[<- y2b b.length a,h2,y1p hlt,h3']
   rw[e,z5l] at na
   obtain⟨x,y,k1,k2,k3⟩:=z7n na
   rw[nb] at k1; cases k1
   rw[<- e] at k3
   rw[k3]; simp
 ·rintro⟨⟨h1,h2⟩,h3⟩
  have hb:good b=true:=by rw[<- z4e]; simpa using h1
  have ha:good a=true:=by rw[<- z4e]; simp; omega
  obtain⟨na,ga⟩:=z1c ha
  obtain⟨nb,gb⟩:=z1c hb
  have hla:=z2v na
  have hlb:=z2v nb
  have hsplit:pieces a=(pieces a).take (pieces b).length++(pieces a).drop (pieces b).length:=(y2b _ _).symm
  rw[hsplit] at na
  obtain⟨x,y,k1,k2,k3⟩:=z7n na
  have hx:x=parts b:=by
   have:=z2v k1
   rw[yx] at this
   rw[<- h3,k3,List.take_append_of_le_length om,y2w om]
  have e1:(pieces a).take (pieces b).length=pieces b:=za4 (by rw[k1,hx]) nb
  rw[e1] at hsplit
  have ja:=z51 a
  have jb:=z51 b
  refine⟨⟨⟨⟨ha,hb⟩,?_⟩,?_⟩,?_⟩ <;> by_cases hr:(pieces a).drop (pieces b).length=[]
  ·rw[hr,y2v] at hsplit
   rw[z3f hsplit]; exact yc _
  ·rw[hsplit,z57 (z12 b) hr,jb] at ja
   rw[<- ja]; simp
  ·rw[hr,y2v] at hsplit
   rw[z3f hsplit]; simp
  ·rw[hsplit,z57 (z12 b) hr,jb] at ja
   rw[<- ja]; simp
  ·rw[hr,y2v] at hsplit
   exact .inl (by rw[z3f hsplit])
  ·rw[hsplit,z57 (z12 b) hr,jb] at ja
   right
   rw[<- ja]; simp
theorem z36 (ha:a.length<=1000000) (hb:b.length<=1000000):F_q15 a b=some (und a b):=by
 simp only[F_q15,S_q15,Scr.den,z62 (l:=a) om,z62 (l:=b) om,obind,za,zjo]
 by_cases h:0<(parts b).length/\(parts b).length<=(parts a).length
 ·rw[zq (by simp[AllP]; omega),zft,obind,z6 ⟨fun _=>h.2,trivial⟩]
  simp[h.1,h.2]
 ·rw[z13 (by simp only[AllP,y3t,ya,y8]; omega),obind,z6 ⟨fun hh=>by have hh:=hh.1; simp only[ya,y8] at hh; omega,trivial⟩]
  have:(decide (0<(parts b).length)&&decide ((parts b).length<=(parts a).length))=false:=by
   rw[yk]; intro hh; simp only[ya,y8] at hh; omega
  rw[this]
  congr 1
  have:(decide (((parts b).length:Int)>0)&&decide (((parts a).length:Int)>=((parts b).length:Int)))=false:=by
   rw[yk]; intro hh; simp only[ya,y8] at hh; omega
  simp
def nameOk (s:Y8):Bool:=decide (1<=s.length)&&decide (s.length<=40)&&!((s.getD 0 0).toNat==32)&&!((s.getD (s.length-1) 0).toNat==32)&&s.all fun c=>decide (32<=c.toNat)&&decide (c.toNat<=126)
variable {s:Y8}
theorem zew {i:Nat} {p:UInt8->Bool} (hi:i<s.length):(s.drop i).all p=(p (s.getD i 0)&&(s.drop (i+1)).all p):=by
 rw[y1p hi,y3z]
 simp[List.getD_eq_getElem?_getD,List.getElem?_eq_getElem hi]
theorem zfu (hl:s.length<=1000000):F_q17 s=some (nameOk s):=by
 simp only[F_q17,S_q17,Scr.den,zg]
 have w1:i64.wrap ((s.length:Int)-1)=(s.length:Int)-1:=wrapId om om
 have w2:((s.length:Int)-1).toNat=s.length-1:=om
 simp only[w1,w2]
 rw[z6 ⟨fun h=>by simp[AllP] at h; omega,fun h=>by simp[AllP] at h; omega,fun h=>by simp[AllP] at h; omega,trivial⟩]
 have hlp:∀ k i:Nat,i+k=s.length->outM (iterM (fun s_1=>(S_q17_b1 s s_1).den) (i:Int)) (fun _=>some true) (fun x=>some (id x))=some ((s.drop i).all fun c=>decide (32<=c.toNat)&&decide (c.toNat<=126)):=by
  generalize hF:(fun s_1=>(S_q17_b1 s s_1).den)=F
  intro k
  induction k with
  | zero =>
   intro i hk
   rw[zu,<- y3c hF,y1u om]
   simp only[S_q17_b1,Scr.den]
   rw[y6 sk]
   rfl
  | succ k ih =>
   intro i hk
   rw[zu,<- y3c hF,zew om]
   simp only[S_q17_b1,Scr.den,yi,zg]
   rw[y7 sk,z6 ⟨om,om,fun _=>om,fun _=>om,trivial⟩]
   by_cases h:32<=(s.getD i 0).toNat/\(s.getD i 0).toNat<=126
   ·have w3:i64.wrap ((i:Int)+1)=((i+1:Nat):Int):=by rw[wrapId om om]; omega
    rw[y6 (by simp only[yj,y8]; omega)]
    simp only[w3,h,y54,y4c,y1m]
    exact ih (i+1) om
   ·rw[y7 (by simp only[yj,y8]; omega)]
    have:(decide (32<=(s.getD i 0).toNat)&&decide ((s.getD i 0).toNat<=126))=false:=by rw[yk]; simp only[ne_eq,ya,y8]; omega
    rw[this]
    rfl
 unfold nameOk
 by_cases h:1<=s.length/\s.length<=40/\¬ (s.getD 0 0).toNat=32/\¬ (s.getD (s.length-1) 0).toNat=32
 ·obtain⟨h1,h2,h3,h4⟩:=h
  rw[y6 (by simp only[yj,y8,yn]; omega)]
  have:=hlp s.length 0 om
  rw[show ((0:Nat):Int)=0 from rfl] at this
  rw[this]
  simp only[y4x,h1,h2,y54,y1m]
  have e3:((s.getD 0 0).toNat==32)=false:=by simpa using h3
  have e4:((s.getD (s.length-1) 0).toNat==32)=false:=by simpa using h4
  simp only[e3,e4,Bool.not_false,y1m]
 ·rw[y7 (by simp only[yj,y8,yn]; omega)]
  congr 1
  symm
  rw[yk]
  intro hh
  simp only[ya,y8,y1i,y1v,ne_eq] at hh
  exact h ⟨hh.1.1.1.1,hh.1.1.1.2,hh.1.1.2,hh.1.2⟩
end Go.Proofs.YtbmpcbbimefmoaaGreatDoor
/- Names in the program. No condition. -/
namespace Go.Proofs.YtbmpcbbimefmoaaGreatDoor
open Go Go.TA
open Go.IntKind (i64)
variable {s:Y8} {p:Nat}
theorem zhp (_hp:p<s.length) (h:(s.getD p 0).toNat<128):runeAt s p=((s.getD p 0).toNat:Int)/\widAt s p=1:=by
 have hg:(ByteArray.mk s.toArray).get! (p+0)=s.getD p 0:=by
  show (s.toArray)[p+0]! = _
  simp[List.getD_eq_getElem?_getD,getElem!_def]
  cases s[p]? <;> rfl
 unfold runeAt widAt Utf8.decode
 simp only[hg]
 rw[y7 h]
 exact⟨rfl,rfl⟩
theorem zld (_hp:p<s.length) (h:128<=(s.getD p 0).toNat):128<=runeAt s p:=by
 have hg:(ByteArray.mk s.toArray).get! (p+0)=s.getD p 0:=by
  show (s.toArray)[p+0]! = _
  simp[List.getD_eq_getElem?_getD,getElem!_def]
  cases s[p]? <;> rfl
 unfold runeAt Utf8.decode
 simp only[hg]
 rw[y6 om]
 have e:Utf8.runeError=65533:=rfl
 split
 ·split
  ·simp only; omega
  ·simp only[e]; omega
 ·split
  ·split
   ·rename_i h1
    simp only[ya,y8] at h1
    simp only; omega
   ·simp only[e]; omega
  ·split
   ·split
    ·rename_i h1
     simp only[ya,y8] at h1
     simp only; omega
    ·simp only[e]; omega
   ·simp only[e]; omega
theorem trimR (hl:s.length<=1000000) (h0:1<=s.length):∃ r,F_q1m s 32=some r/\r.length<=s.length/\((s.getD (s.length-1) 0).toNat≠32->r=s)/\((s.getD (s.length-1) 0).toNat=32->r.length<s.length):=by
 simp only[F_q1m,S_q1m,Scr.den]
 generalize hF:(fun sv1=>(S_q1m_b1 32 sv1).den)=F
 have step:∀ t:Y8,t.length<=s.length->(0<t.length/\(t.getD (t.length-1) 0).toNat=32/\F t=some (.cont (t.take (t.length-1))))\/(¬ (0<t.length/\(t.getD (t.length-1) 0).toNat=32)/\F t=some (.brk t)):=fun t ht=>by
  rw[<- y3c hF]
  simp only[S_q1m_b1,Scr.den,za]
  by_cases hp:0<t.length
  ·have w1:i64.wrap ((t.length:Int)-1)=(t.length:Int)-1:=wrapId om om
   have w2:((t.length:Int)-1).toNat=t.length-1:=om
   simp only[w1,w2]
   rw[z6 ⟨fun _=>om,fun _=>om,trivial⟩]
   by_cases h:(t.getD (t.length-1) 0).toNat=32
   ·rw[y7 (by simp only[ya,y8,yn]; omega),Gb]
    exact .inl ⟨hp,h,rfl⟩
   ·rw[y6 (by simp only[ya,y8,yn]; omega)]
    exact .inr ⟨fun hh=>h hh.2,rfl⟩
  ·have hd:decide ((t.length:Int)>0)=false:=by simp only[y12]; omega
   rw[z6 ⟨fun h=>by rw[hd] at h; exact absurd h.1 sj,fun h=>by rw[hd] at h; exact absurd h.1 sj,trivial⟩,y6 (by simp only[hd,y2i]; simp)]
   exact .inr ⟨fun hh=>hp hh.1,rfl⟩
 have tot:∀ t:Y8,t.length<=s.length->∃ r,iterM F t=some (.next r)/\r.length<=t.length:=fun t ht=>by
  refine z1b (fun x:Y8=>x.length) (fun x=>x.length<=t.length) (fun x=>x.length<=t.length) (fun x hx=>?_) (t.length+1) t om (yc _)
  rcases step x om with ⟨h1,_,h3⟩ | ⟨_,h3⟩
  ·exact .inl ⟨_,h3,by simp <;> omega,by simp <;> omega⟩
  ·exact .inr ⟨_,h3,hx⟩
 rcases step s (yc _) with ⟨h1,h2,h3⟩ | ⟨h2,h3⟩
 ·obtain⟨r,k1,k2⟩:=tot (s.take (s.length-1)) (by simp <;> omega)
  refine⟨r,by rw[zu,h3]; simp only[k1]; rfl,?_,fun h=>absurd h2 h,fun _=>?_⟩ <;> (simp at k2; omega)
 ·exact⟨s,by rw[zu,h3]; rfl,yc _,fun _=>rfl,fun h=>absurd ⟨om,h⟩ h2⟩
theorem trimL:∃ r,F_q1n s 32=some r/\r.length<=s.length/\((s.getD 0 0).toNat≠32->r=s)/\(0<s.length->(s.getD 0 0).toNat=32->r.length<s.length):=by
 simp only[F_q1n,S_q1n,Scr.den]
 generalize hF:(fun sv1=>(S_q1n_b1 32 sv1).den)=F
 have step:∀ t:Y8,(0<t.length/\(t.getD 0 0).toNat=32/\F t=some (.cont ((t.drop 1).take (t.length-1))))\/(¬ (0<t.length/\(t.getD 0 0).toNat=32)/\F t=some (.brk t)):=fun t=>by
  rw[<- y3c hF]
  simp only[S_q1n_b1,Scr.den,za]
  by_cases hp:0<t.length
  ·rw[z6 ⟨fun _=>hp,trivial⟩]
   by_cases h:(t.getD 0 0).toNat=32
   ·rw[y7 (by simp only[ya,y8,yn]; omega),Ga]
    exact .inl ⟨hp,h,rfl⟩
   ·rw[y6 (by simp only[ya,y8,yn]; omega)]
    exact .inr ⟨fun hh=>h hh.2,rfl⟩
  ·have hd:decide ((t.length:Int)>0)=false:=by simp only[y12]; omega
   rw[z6 ⟨fun h=>by rw[hd] at h; exact absurd h.1 sj,trivial⟩,y6 (by simp only[hd,y2i]; simp)]
   exact .inr ⟨fun hh=>hp hh.1,rfl⟩
 have tot:∀ t:Y8,∃ r,iterM F t=some (.next r)/\r.length<=t.length:=fun t=>by
  refine z1b (fun x:Y8=>x.length) (fun x=>x.length<=t.length) (fun x=>x.length<=t.length) (fun x hx=>?_) (t.length+1) t om (yc _)
  rcases step x with ⟨h1,_,h3⟩ | ⟨_,h3⟩
  ·exact .inl ⟨_,h3,by simp <;> omega,by simp <;> omega⟩
  ·exact .inr ⟨_,h3,hx⟩
 rcases step s with ⟨h1,h2,h3⟩ | ⟨h2,h3⟩
 ·obtain⟨r,k1,k2⟩:=tot ((s.drop 1).take (s.length-1))
  refine⟨r,by rw[zu,h3]; simp only[k1]; rfl,?_,fun h=>absurd h2 h,fun _ _=>?_⟩ <;> (simp at k2; omega)
 ·exact⟨s,by rw[zu,h3]; rfl,yc _,fun _=>rfl,fun hp h=>absurd ⟨hp,h⟩ h2⟩
theorem zn6 (hl:s.length<=1000000) (h0:1<=s.length):∃ r,F_q3x s [32]=some r/\(r==s)=(!((s.getD 0 0).toNat==32)&&!((s.getD (s.length-1) 0).toNat==32)):=by
 obtain⟨r,a1,a2,a3,a4⟩:=trimR hl h0
 obtain⟨q,b1,b2,b3,b4⟩:=trimL (s:=r)
 refine⟨q,?_,?_⟩
 ·simp only[F_q3x,S_q3x,Scr.den,zg]
  have hs:(s==[])=false:=by rw[y1v]; intro e; rw[e] at h0; simp at h0
  rw[y6 (by simp[hs]),z6 ⟨fun _=>sj,trivial⟩,Gd]
  have e32:((([32]:Y8).getD 0 0).toNat:Int)=32:=rfl
  simp only[e32,a1,b1,obind]
  rw[z6 ⟨sj,trivial⟩]
 ·by_cases h1:(s.getD (s.length-1) 0).toNat=32
  ·have:=a4 h1
   have hne:(q==s)=false:=by rw[y1v]; intro e; rw[e] at b2; omega
   have e1:((s.getD (s.length-1) 0).toNat==32)=true:=by simpa using h1
   rw[hne,e1,y55,y4k]
  ·have e:=a3 h1
   subst e
   by_cases h2:(r.getD 0 0).toNat=32
   ·have:=b4 om h2
    have hne:(q==r)=false:=by rw[y1v]; intro e; rw[e] at this; omega
    have e2:((r.getD 0 0).toNat==32)=true:=by simpa using h2
    rw[hne,e2]; rfl
   ·have e:=b3 h2
    have e1:((r.getD (r.length-1) 0).toNat==32)=false:=by rw[y1v]; exact h1
    have e2:((r.getD 0 0).toNat==32)=false:=by rw[y1v]; exact h2
    rw[e,e1,e2]; simp
theorem zn7 (hl:s.length<=1000000):F_q14 s=some (nameOk s):=by
 simp only[F_q14,S_q14,Scr.den,za]
 have hlp:∀ K:Nat->Option Bool,(∀ a b,K a=K b)->∀ k i:Nat,i+k=s.length->outM (iterM (fun s_1=>(S_q14_b1 s s_1).den) i) K (fun x:Bool=>some (id x))=(if ((s.drop i).all fun c=>decide (32<=c.toNat)&&decide (c.toNat<=126))=true then K 0 else some false):=by
  generalize hF:(fun s_1=>(S_q14_b1 s s_1).den)=F
  intro K hK k
  induction k with
  | zero =>
   intro i hk
   rw[zu,<- y3c hF,y1u om]
   simp only[S_q14_b1,Scr.den]
   rw[y6 sk]
   simp only[outM,List.all_nil,y3h]
   exact hK _ _
  | succ k ih =>
   intro i hk
   have hi:i<s.length:=om
   rw[zu,<- y3c hF,zew hi]
   simp only[S_q14_b1,Scr.den,zg]
   rw[y7 sk]
   by_cases hb:(s.getD i 0).toNat<128
   ·obtain⟨r1,r2⟩:=zhp hi hb
    simp only[r1,r2]
    by_cases h:32<=(s.getD i 0).toNat/\(s.getD i 0).toNat<=126
    ·rw[y6 (by simp only[yj,y8]; omega)]
     simp only[h,y54,y4c,y1m]
     exact ih (i+1) om
    ·rw[y7 (by simp only[yj,y8]; omega)]
     have:(decide (32<=(s.getD i 0).toNat)&&decide ((s.getD i 0).toNat<=126))=false:=by rw[yk]; simp only[ne_eq,ya,y8]; omega
     rw[this,y2i,y6 sj]
     rfl
   ·have:=zld hi om
    rw[y7 (by simp only[yj,y8]; omega)]
    have:(decide (32<=(s.getD i 0).toNat)&&decide ((s.getD i 0).toNat<=126))=false:=by rw[yk]; simp only[ne_eq,ya,y8]; omega
    rw[this,y2i,y6 sj]
    rfl
 rw[hlp _ (fun _ _=>rfl) s.length 0 om,y4x]
 unfold nameOk
 by_cases ha:(s.all fun c=>decide (32<=c.toNat)&&decide (c.toNat<=126))=true
 ·rw[y7 ha,ha,y62]
  by_cases h:1<=s.length/\s.length<=40
  ·obtain⟨r,k1,k2⟩:=zn6 hl h.1
   rw[zq (by simp only[AllP,y3t,ya,y8]; omega),k1,obind,k2]
   have e1:decide ((s.length:Int)>=1)=true:=by simp only[y8]; omega
   have e2:decide ((s.length:Int)<=40)=true:=by simp only[y8]; omega
   simp only[e1,e2,h,y54,y1m,y4c]
  ·rw[z13 (by simp only[AllP,y3t,ya,y8]; omega),obind]
   have e1:(decide ((s.length:Int)>=1)&&decide ((s.length:Int)<=40))=false:=by rw[yk]; simp only[ne_eq,ya,y8]; omega
   have e2:(decide (1<=s.length)&&decide (s.length<=40))=false:=by rw[yk]; simp only[ne_eq,ya,y8]; omega
   rw[e1,e2]; rfl
 ·rw[y6 ha]
  have:(s.all fun c=>decide (32<=c.toNat)&&decide (c.toNat<=126))=false:=by rw[yk]; exact ha
  rw[this,y4k]
end Go.Proofs.YtbmpcbbimefmoaaGreatDoor
/- Trees of codes: their checks,their leaves,in both programs. No condition. -/
namespace Go.Proofs.YtbmpcbbimefmoaaGreatDoor
open Go Go.TA
open Go.IntKind (i64)
attribute [-simp] List.getD_eq_getElem?_getD
def has (t:List THe) (c:Y8):Bool:=t.any fun h=>h.B==c
theorem zb1 (t:List THe) (c:Y8):F_q1y t c=some (has t c):=by
 simp only[F_q1y,S_q1y,Scr.den]
 rw[zy t (fun h=>h.B==c) (fun _=>true) fun i hi=>by
  simp only[S_q1y_b1,Scr.den]
  split <;> rfl]
 unfold has
 split
 ·rename_i h; rw[h]; rfl
 ·rename_i h; rw[yk.2 h]; rfl
theorem zjp (t:List THe) (c:Y8):F_q3j t c=some (has t c):=by
 simp only[F_q3j,S_q3j,F_q51,S_q51,F_q2v,S_q2v,Scr.den]
 rw[zy t (fun h=>h.B==c) (fun i=>(i:Int)) fun i hi=>by
  simp only[S_q2v_b1,F_q50,S_q50,Scr.den,obind]
  split <;> rfl]
 unfold has
 split
 ·rename_i h; rw[h]; simp[outM]
 ·rename_i h; rw[yk.2 h]; simp only[outM,obind]; rfl
def headE (t:List THe) (i:Nat):Int :=
 if good (t.getD i dF).B=false then 5
 else if nameOk (t.getD i dF).W=false then 4
 else if 0<i/\¬ lexC (parts (t.getD (i-1) dF).B) (parts (t.getD i dF).B)<0 then 8
 else if par (t.getD i dF).B≠[]/\has t (par (t.getD i dF).B)=false then 6 else 0
def treeE (t:List THe):Int:=if t.length>60 then 3 else fstE t.length (headE t)
def SmT (t:List THe):Prop:=∀ h∈t,h.B.length<=1000000/\h.W.length<=1000000
variable {t:List THe} {i:Nat}
theorem zb2 (h:headE t i=0):good (t.getD i dF).B=true:=by
 unfold headE at h
 split at h
 ·cases h
 ·rename_i hg; simpa using hg
variable {α:Type} {k:Option α} {d:α} {gs:List Prop}
theorem oT:optD (True :: gs) k d=optD gs k d:=by
 by_cases h:AllP gs
 ·rw[zq (gs:=True :: gs) ⟨trivial,h⟩,zq h]
 ·rw[z13 (gs:=True :: gs) fun hh=>h hh.2,z13 h]
theorem oF:optD (False :: gs) k d=some d:=by unfold optD; simp[AllP]
theorem oN:optD [] k d=k:=by unfold optD; simp[AllP]
theorem gT:guardP True k=k:=z6 trivial
theorem zby (hs:SmT t) (hl:t.length<=60) (hi:i<t.length) (hz:∀ j,j<i->headE t j=0) :
  (S_q2l_b1 t i ()).den=some (if headE t i=0 then .cont () else .ret (i64.wrap ((i:Int)+1),headE t i)):=by
 obtain⟨hc,hn⟩:=hs _ (z8 hi)
 have hw:0<i->i64.wrap ((i:Int)-1)=((i-1:Nat):Int):=fun h0=>by rw[wrapId om om]; omega
 have hi':i-1<t.length:=om
 simp only[S_q2l_b1,Scr.den,z2m (l:=(t.getD i dF).B) om,zfu hn,z3n hc,zb1,obind,za,headE]
 by_cases hg:good (t.getD i dF).B=true
 ·by_cases h0:0<i
  ·have hg':good (t.getD (i-1) dF).B=true:=zb2 (hz (i-1) om)
   simp only[hw h0,yi,z2a hg' hg,hg]
   by_cases hp:par (t.getD i dF).B=[] <;> by_cases hh:has t (par (t.getD i dF).B)=true <;> simp[h0,hi',hp,hh,AllP,oT,oF,oN,gT] <;> (repeat' split) <;> simp_all
  ·have h0':i=0:=om
   subst h0'
   by_cases hp:par (t.getD 0 dF).B=[] <;> by_cases hh:has t (par (t.getD 0 dF).B)=true <;> simp[hg,hp,hh,AllP,oT,oF,oN,gT] <;> (repeat' split) <;> simp_all
 ·simp[hg]
theorem zex (hs:SmT t):F_q4t t=some (treeE t):=by
 simp only[F_q4t,S_q4t,F_q2l,S_q2l,Scr.den,treeE]
 by_cases hl:t.length>60
 ·rw[y7 (by simp only[y8]; omega),y7 hl]; rfl
 ·rw[y6 (by simp only[y8]; omega),y6 hl]
  rw[z5k (headE t) (fun i=>(i64.wrap ((i:Int)+1),headE t i)) fun i hi hz=>zby hs om hi hz]
  unfold fstE
  split <;> rfl
end Go.Proofs.YtbmpcbbimefmoaaGreatDoor
/- Trees in the program; leaves in both. No condition. -/
namespace Go.Proofs.YtbmpcbbimefmoaaGreatDoor
open Go Go.TA
open Go.IntKind (i64)
attribute [-simp] List.getD_eq_getElem?_getD
variable {t:List THe}
theorem zhq (hs:SmT t) (hl:t.length<=60) {i:Nat} (hi:i<t.length) (hz:∀ j,j<i->headE t j=0):F_q40 t (i:Int)=some (headE t i):=by
 obtain⟨hc,hn⟩:=hs _ (z8 hi)
 have hw:0<i->i64.wrap ((i:Int)-1)=((i-1:Nat):Int):=fun h0=>by rw[wrapId om om]; omega
 have hi':i-1<t.length:=om
 obtain⟨hc',_⟩:=hs _ (z8 hi')
 simp only[F_q40,S_q40,Scr.den,yi,zcz hc,zho hc,zn7 hn,zjp,obind,za,headE]
 by_cases hg:good (t.getD i dF).B=true
 ·by_cases h0:0<i
  ·simp only[hw h0,yi,z7m hc' hc,z44 (.inr hg),hg]
   by_cases hp:par (t.getD i dF).B=[] <;> by_cases hh:has t (par (t.getD i dF).B)=true <;> simp[h0,hi,hi',hp,hh,AllP,oT,oF,oN,gT] <;> (repeat' split) <;> simp_all
  ·have h0':i=0:=om
   subst h0'
   by_cases hp:par (t.getD 0 dF).B=[] <;> by_cases hh:has t (par (t.getD 0 dF).B)=true <;> simp[hg,hi,hp,hh,AllP,oT,oF,oN,gT] <;> (repeat' split) <;> simp_all
 ·simp[hg,hi,AllP,gT]
theorem zle (hs:SmT t):F_q41 t=some (treeE t):=by
 simp only[F_q41,S_q41,F_q2w,S_q2w,Scr.den,treeE]
 by_cases hl:t.length>60
 ·rw[y7 (by simp only[y8]; omega),y7 hl]; rfl
 ·rw[y6 (by simp only[y8]; omega),y6 hl]
  rw[z5k (headE t) (fun i=>(i64.wrap ((i:Int)+1),headE t i)) fun i hi hz=>by
   simp only[S_q2w_b1,Scr.den,zhq hs om hi hz,obind]
   by_cases h:headE t i=0 <;> simp[h]]
  unfold fstE
  split <;> rfl
def leafT (t:List THe) (c:Y8):Bool:=good c&&has t c&&t.all fun x=>!(par x.B==c)
def leavesU (t:List THe) (top:Y8):List Y8:=(t.filter fun h=>good h.B&&(top==[]||und h.B top)&&t.all fun x=>!(par x.B==h.B)).map (·.B)
theorem z1l {c:Y8}:c∈leavesU t []↔leafT t c=true:=by
 unfold leavesU leafT has
 simp only[yz,y1x,ya,y3s,y4s,y3t,y1o,yn]
 constructor
 ·rintro⟨h,⟨h1,h2,h3⟩,rfl⟩; exact⟨⟨h2,h,h1,rfl⟩,h3⟩
 ·rintro⟨⟨h1,h,h2,rfl⟩,h3⟩; exact⟨h,⟨h2,h1,h3⟩,rfl⟩
theorem z1f (t:List THe) (top:Y8):(leavesU t top).length<=t.length:=by unfold leavesU; simp; exact y3x _ _
variable {α:Type}
theorem zd0 (l:List α) (p:α->Bool):∀ b:Bool,l.foldl (fun s x=>s&&p x) b=(b&&l.all p):=by
 induction l with
 | nil=>intro b; simp
 | cons x l ih=>intro b; rw[y3k,ih,y3z,Bool.and_assoc]
theorem z1u {β ρ:Type} [Inhabited α] {body:Nat->List β->Option (Step (List β) ρ)} (l:List α) (p:α->Bool) (f:α->β) (N:Nat) (hN:l.length<=N) (hs:∀ i s,i<l.length->s.length<=N->body i s=some (.cont (if p (l.getD i dF)=true then s++[f (l.getD i dF)] else s))) :
  rangeM body l.length 0 []=some (.next ((l.filter p).map f)):=by
 obtain⟨s,h1,h2,_⟩:=zp (body:=body) (n:=l.length) (fun i s=>s=((l.take i).filter p).map f/\s.length<=i) (s0:=[]) ⟨rfl,y36 _⟩ (fun i s hi ⟨h1,h2⟩=>by
  refine⟨_,hs i s hi om,?_,?_⟩
  ·rw[y13 hi,y4t,y37,<- h1]
   have e:l.getD i dF=l[i]:=by simp[List.getD_eq_getElem?_getD,List.getElem?_eq_getElem hi]
   rw[e]
   by_cases h:p l[i]=true
   ·simp[h]
   ·simp[h]
  ·split
   ·simp; omega
   ·omega)
 rw[h1,h2,y2w (yc _)]
theorem z1g {top:Y8} (hs:SmT t) (hl:t.length<=1000000) (ht:top.length<=1000000):F_q4 t top=some (leavesU t top):=by
 simp only[F_q4,S_q4,Scr.den]
 rw[z1u t (fun h=>good h.B&&(top==[]||und h.B top)&&t.all fun x=>!(par x.B==h.B)) (·.B) 1000000 hl fun i s hi hsl=>by
  obtain⟨hc,_⟩:=hs _ (z8 hi)
  have hin:rangeM (fun i1 s1=>(S_q4_b1 t i i1 s1).den) t.length 0 true=some (.next (t.all fun x=>!(par x.B==(t.getD i dF).B))):=by
   rw[z30 t (fun s x=>s&&!(par x.B==(t.getD i dF).B)) fun j b hj=>by
    obtain⟨hcj,_⟩:=hs _ (z8 hj)
    simp only[S_q4_b1,Scr.den,z3n hcj,za]
    cases b <;> simp[oT,oF,oN]]
   rw[zd0,y1m]
  simp only[S_q4_b2,Scr.den,z2m (l:=(t.getD i dF).B) om,z15 hc ht,obind,hin,outM,za,zg]
  by_cases hg:good (t.getD i dF).B=true <;> by_cases h0:top=[] <;> by_cases hu:und (t.getD i dF).B top=true <;> simp[hg,h0,hu,oT,oF,oN] <;> (split <;> first | rfl | (rw[Ga]))]
 simp only[outM]
 have:=z1f t top
 unfold leavesU at this |-
 rw[Ga]
end Go.Proofs.YtbmpcbbimefmoaaGreatDoor
/- Leaves in the program: a map of which entries are deleted. No condition. -/
namespace Go.Proofs.YtbmpcbbimefmoaaGreatDoor
open Go Go.TA
open Go.IntKind (i64)
attribute [-simp] List.getD_eq_getElem?_getD
section
variable {α β:Type} [BEq α]
theorem z37 (a:α) (b:β) (l:List (α×β)) (c:α) (z:β):mget ((a,b) :: l) c z=if c==a then b else mget l c z:=by
 unfold mget
 rw[y4p]
 cases h:c==a <;> simp
theorem zd1 (a:α) (b:β) (l:List (α×β)) (k:α) (v:β):mupd ((a,b) :: l) k v=if k==a then (a,v) :: l else (a,b) :: mupd l k v:=by
 unfold mupd msto ment midx
 rw[y4b,y2z]
 cases h:k==a
 ·simp only[y3o,y69,yl,y2g]
  split <;> rfl
 ·simp
theorem zjq (a:α) (b:β) (l:List (α×β)) (k:α):mdel ((a,b) :: l) k=if k==a then l else (a,b) :: mdel l k:=by
 unfold mdel midx
 rw[y2z]
 cases h:k==a <;> simp
theorem zd2 [LawfulBEq α] (c k:α) (v z:β):∀ l:List (α×β),mget (mupd l k v) c z=if c==k then v else mget l c z
 | []=>by show mget [(k,v)] c z=_; rw[z37]
 | (a,b) :: l=>by
  rw[zd1,z37]
  by_cases h:(k==a)=true
  ·have e:=eq_of_beq h
   subst e
   rw[y7 h,z37]
   by_cases h2:(c==k)=true <;> simp[h2]
  ·rw[y6 h,z37,zd2 c k v z l]
   by_cases h2:(c==a)=true
   ·have e:=eq_of_beq h2
    subst e
    have:¬ (c==k)=true:=fun h3=>h (by rw[eq_of_beq h3]; exact y3s k)
    rw[y7 h2,y6 this,y7 h2]
   ·rw[y6 h2,y6 h2]
theorem zd3 [LawfulBEq α] (k:α) (v:β):∀ l:List (α×β),(l.map (·.1)).Nodup->((mupd l k v).map (·.1)).Nodup/\∀ x,x∈(mupd l k v).map (·.1)->x=k\/x∈l.map (·.1)
 | [],_=>⟨by show ([k]:List α).Nodup; simp,fun x hx=>.inl (by have:x∈([k]:List α):=hx; simpa using this)⟩
 | (a,b) :: l,h=>by
  rw[zd1]
  obtain⟨h1,h2⟩:=y4d.1 h
  by_cases hk:(k==a)=true
  ·rw[y7 hk]
   exact⟨h,fun x hx=>.inr hx⟩
  ·rw[y6 hk]
   obtain⟨k1,k2⟩:=zd3 k v l h2
   refine⟨y4d.2 ⟨fun ha=>?_,k1⟩,fun x hx=>?_⟩
   ·rcases k2 a ha with e | e
    ·exact hk (by rw[e]; exact y3s k)
    ·exact h1 e
   ·rcases yv.1 hx with e | e
    ·exact .inr (yv.2 (.inl e))
    ·rcases k2 x e with e | e
     ·exact .inl e
     ·exact .inr (yv.2 (.inr e))
theorem zgb [LawfulBEq α] (c:α) (z:β):∀ l:List (α×β),c ∉ l.map (·.1)->mget l c z=z
 | [],_=>rfl
 | (a,b) :: l,h=>by
  rw[z37,y6 (fun e=>h (by rw[eq_of_beq e]; simp))]
  exact zgb c z l fun h'=>h (ym _ h')
theorem zd4 [LawfulBEq α] (c k:α) (z:β):∀ l:List (α×β),(l.map (·.1)).Nodup->mget (mdel l k) c z=(if c==k then z else mget l c z)
 | [],_=>by show z=_; split <;> rfl
 | (a,b) :: l,h=>by
  obtain⟨h1,h2⟩:=y4d.1 h
  rw[zjq,z37]
  by_cases hk:(k==a)=true
  ·have e:=eq_of_beq hk
   subst e
   rw[y7 hk]
   by_cases hc:(c==k)=true
   ·have e:=eq_of_beq hc
    subst e
    rw[y7 hc,zgb c z l h1]
   ·rw[y6 hc,y6 hc]
  ·rw[y6 hk,z37,zd4 c k z l h2]
   by_cases hc:(c==a)=true
   ·have e:=eq_of_beq hc
    subst e
    have:¬ (c==k)=true:=fun h3=>hk (by rw[eq_of_beq h3]; exact y3s k)
    rw[y7 hc,y6 this,y7 hc]
   ·rw[y6 hc,y6 hc]
theorem zjr (k:α) (l:List (α×β)) (h:(l.map (·.1)).Nodup):((mdel l k).map (·.1)).Nodup:=by
 refine List.Nodup.sublist ?_ h
 exact (List.eraseIdx_sublist _ _).map _
end
theorem zlf (t:List THe):∀ l:List (Y8×Bool),(l.map (·.1)).Nodup->((t.foldl (fun s h=>mupd s h.B (good h.B)) l).map (·.1)).Nodup /\
  ∀ c,mget (t.foldl (fun s h=>mupd s h.B (good h.B)) l) c false=if has t c=true then good c else mget l c false:=by
 induction t with
 | nil=>intro l h; exact⟨h,fun c=>by simp[has]⟩
 | cons x t ih =>
  intro l h
  obtain⟨k1,k2⟩:=ih _ (zd3 x.B (good x.B) l h).1
  refine⟨k1,fun c=>?_⟩
  rw[y3k,k2,zd2]
  unfold has
  rw[y4b]
  by_cases h1:(t.any fun h=>h.B==c)=true
  ·simp[h1]
  ·rw[y6 h1]
   by_cases h2:c=x.B
   ·subst h2; simp
   ·have:(x.B==c)=false:=by simpa using fun e:x.B=c=>h2 e.symm
    simp[h1,h2,this]
theorem zlg (t:List THe):∀ l:List (Y8×Bool),(l.map (·.1)).Nodup ->
  ∀ c,mget (t.foldl (fun s h=>mdel s (par h.B)) l) c false=((t.all fun h=>!(par h.B==c))&&mget l c false):=by
 induction t with
 | nil=>intro l h c; simp
 | cons x t ih =>
  intro l h c
  rw[y3k,ih _ (zjr (par x.B) l h),zd4 _ _ _ _ h,y3z]
  by_cases h2:c=par x.B
  ·subst h2; simp
  ·have:(par x.B==c)=false:=by simpa using fun e:par x.B=c=>h2 e.symm
   simp[h2,this]
theorem z8e {t:List THe} (hs:SmT t) (hl:t.length<=1000000):F_q7 t []=some (leavesU t []):=by
 simp only[F_q7,S_q7,Scr.den]
 rw[z30 t (fun s h=>mupd s h.B (good h.B)) fun i s hi=>by
  obtain⟨hc,_⟩:=hs _ (z8 hi)
  simp only[S_q7_b1,Scr.den,zho hc,obind]]
 simp only[outM]
 rw[z30 t (fun s h=>mdel s (par h.B)) fun i s hi=>by
  obtain⟨hc,_⟩:=hs _ (z8 hi)
  simp only[S_q7_b2,Scr.den,zcz hc,obind]]
 simp only
 obtain⟨k1,k2⟩:=zlf t [] sj
 have k3:=zlg t _ k1
 generalize t.foldl (fun s h=>mdel s (par h.B)) (t.foldl (fun s h=>mupd s h.B (good h.B)) [])=M at k3
 rw[z1u t (fun h=>good h.B&&(([]:Y8)==[]||und h.B [])&&t.all fun x=>!(par x.B==h.B)) (·.B) 1000000 hl fun i s hi hsl=>by
  have hh:has t (t.getD i dF).B=true:=by
   unfold has; rw[y1o]; exact⟨_,z8 hi,sj⟩
  have hm:mget M (t.getD i dF).B false=((t.all fun h=>!(par h.B==(t.getD i dF).B))&&good (t.getD i dF).B):=by rw[k3,k2,y7 hh]
  simp only[S_q7_b3,Scr.den,hm,za,zg]
  by_cases hg:good (t.getD i dF).B=true <;> by_cases ha:(t.all fun h=>!(par h.B==(t.getD i dF).B))=true <;> simp[hg,ha,oF] <;> (rw[Ga])]
 simp only
 have:=z1f t []
 unfold leavesU at this |-
 rw[Ga]
theorem z9m (l:List Y8) (c:Y8):F_q3k l c=some (l.contains c):=by
 simp only[F_q3k,S_q3k,F_q2y,S_q2y,Scr.den]
 rw[zy l (fun x=>c==x) (fun i=>(i:Int)) fun i hi=>by
  simp only[S_q2y_b1,Scr.den]
  split <;> rfl]
 rw[List.contains_eq_any_beq]
 split
 ·rename_i h; rw[h]; simp[outM]
 ·rename_i h; rw[yk.2 h]; simp only[outM,obind]; rfl
end Go.Proofs.YtbmpcbbimefmoaaGreatDoor
/- What a law's parts must be. No condition. -/
namespace Go.Proofs.YtbmpcbbimefmoaaGreatDoor
open Go Go.TA
open Go.IntKind (i64)
attribute [-simp] List.getD_eq_getElem?_getD
def inY (f y x:Int):Bool:=decide (x>=f)&&decide (IntKind.u64.wrap (IntKind.u64.wrap x-IntKind.u64.wrap f)<IntKind.u64.wrap y)
def amt (n:Int):Bool:=decide (0<=n)&&decide (n<=1000000000000)
def ltC (a:Y8) (m:Int) (b:Y8) (n:Int):Bool:=decide (lexC (parts a) (parts b)<0)||(decide (lexC (parts a) (parts b)=0)&&decide (m<n))
def chE (one:Nat->Int) (ord:Nat->Bool) (i:Nat):Int:=if one i=0 then (if 0<i/\ord i=false then 8 else 0) else one i
variable {one:Nat->Int} {ord:Nat->Bool} {i:Nat}
theorem z45 (h:chE one ord i=0):one i=0:=by
 unfold chE at h
 split at h
 ·assumption
 ·exact h
theorem z4r:chE one ord i=0↔one i=0/\(0<i->ord i=true):=by
 unfold chE
 by_cases h:one i=0
 ·rw[y7 h]
  by_cases h0:0<i <;> cases ho:ord i <;> simp[h0,h]
 ·rw[y6 h]; simp[h]
def z1o (t:List THe) (f y:Int) (x:TLi):Int:=if leafT t x.B=false then 5 else if inY f y x.C=false then 16 else if amt x.D=false then 2 else 0
def lineE (t:List THe) (f y:Int) (l:List TLi):Nat->Int:=chE (fun i=>z1o t f y (l.getD i dF)) fun i=>ltC (l.getD (i-1) dF).B (l.getD (i-1) dF).C (l.getD i dF).B (l.getD i dF).C
def z16 (t:List THe) (f y:Int) (x:TBo):Int:=if has t x.B=false then 5 else if x.C≠-1/\inY f y x.C=false then 16 else if amt x.D=false then 2 else 0
def boundE (t:List THe) (f y:Int) (l:List TBo):Nat->Int:=chE (fun i=>z16 t f y (l.getD i dF)) fun i=>ltC (l.getD (i-1) dF).B (l.getD (i-1) dF).C (l.getD i dF).B (l.getD i dF).C
def z5m (t:List THe) (x:TEa):Int:=if has t x.S=false\/leafT t x.B=false then 5 else if x.T<0\/x.T>100 then 2 else 0
def earE (t:List THe) (l:List TEa):Nat->Int:=chE (fun i=>z5m t (l.getD i dF)) fun i=>ltC (l.getD (i-1) dF).S (lexC (parts (l.getD (i-1) dF).B) (parts (l.getD i dF).B)) (l.getD i dF).S 0
def shSum (l:List TEa) (c:Y8):Int:=l.foldl (fun s x=>if und c x.S=true then i64.wrap (s+x.T) else s) 0
def shareE (t:List THe) (l:List TEa):Int:=if (leavesU t []).any (fun c=>decide (shSum l c>100))=true then 13 else 0
def condBad (x:TCo):Prop:=(x.R≠1/\x.R≠2)\/(x.R=1/\(x.S≠[]\/x.X≠0))\/(x.R=2/\x.G≠0)
instance (x:TCo):Decidable (condBad x):=inferInstanceAs (Decidable (_\/_))
def z1w (t:List THe) (f y:Int) (x:TCo):Int:=if condBad x then 1 else if leafT t x.B=false\/(x.R=2/\has t x.S=false) then 5 else if inY f y x.C=false then 16 else
 if amt x.D=false\/amt x.X=false\/x.G<0\/x.G>35990 then 2 else 0
def z70 (t:List THe) (x:TRu):Int:=if x.H<1\/x.H>1000000\/x.T<0\/x.T>100 then 2 else if has t x.L=false\/has t x.V=false then 5 else 0
def ruleE (t:List THe) (l:List TRu):Nat->Int:=chE (fun i=>z70 t (l.getD i dF)) fun i=>decide ((l.getD (i-1) dF).H<(l.getD i dF).H)
def z1p (t:List THe) (f y:Int) (x:TCh):Int:=if x.R<1\/x.R>3 then 1 else if has t x.B=false\/(x.R=1/\leafT t x.B=false) then 5 else
 if inY f y x.C=false/\(x.R=1\/x.C≠-1) then 16 else if amt x.D=false/\(x.R≠2\/x.D≠-1) then 2 else 0
def ltX (a b:TCh):Bool:=decide (a.R<b.R)||(decide (a.R=b.R)&&ltC a.B a.C b.B b.C)
def chgE (t:List THe) (f y:Int) (l:List TCh):Nat->Int:=chE (fun i=>z1p t f y (l.getD i dF)) fun i=>ltX (l.getD (i-1) dF) (l.getD i dF)
def ltA (a b:TAm):Bool:=decide (a.G<b.G)||(decide (a.G=b.G)&&decide (a.H<b.H))
def amdE (t:List THe) (f y:Int) (l:List TAm) (i:Nat):Int :=
 if (l.getD i dF).G<0\/(l.getD i dF).G>35990\/(l.getD i dF).H<1\/(l.getD i dF).H>1000000 then 2
 else if 0<i/\ltA (l.getD (i-1) dF) (l.getD i dF)=false then 8 else if (l.getD i dF).Q=[] then 1 else fstE (l.getD i dF).Q.length (chgE t f y (l.getD i dF).Q)
def orE (l:List Int):Int:=match l.find? (· != 0) with
 | some x=>x
 | none=>0
theorem z2c (x:Int) (l:List Int):orE (x :: l)=if x=0 then orE l else x:=by
 unfold orE
 rw[y4p]
 by_cases h:x=0
 ·subst h; simp
 ·have:(x != 0)=true:=by simpa using h
  rw[this,y6 h]
theorem z3h:orE []=0:=rfl
theorem zbz (l:List Int) {body:Nat->Unit->Option (Step Unit Int)} (hs:∀ i,i<l.length->body i ()=some (if (l.getD i dF)=0 then .cont () else .ret (l.getD i dF))) :
  outM (rangeM body l.length 0 ()) (fun _=>some 0) (fun x=>some (id x))=some (orE l):=by
 rw[z7l l (fun x=>x != 0) id fun i hi=>by
  rw[hs i hi]
  by_cases h:l.getD i dF=0 <;> simp]
 unfold orE
 cases l.find? (fun x=>x != 0) <;> rfl
def limB (l:TLa):Prop:=l.P.length>120\/l.J.length>60\/l.O.length>60\/l.K.length>20\/l.M.length>20\/l.N.length>20\/l.A.length>20\/l.A.any (fun a=>decide (a.Q.length>20))=true
instance (l:TLa):Decidable (limB l):=inferInstanceAs (Decidable (_\/_))
def yrB (l:TLa):Prop:=l.E<0\/l.E>99\/l.I<1\/l.I>4\/l.E+l.I>100
instance (l:TLa):Decidable (yrB l):=inferInstanceAs (Decidable (_\/_))
def errL (l:TLa):Int:=if yrB l then 2 else if treeE l.F=0 then (if limB l then 3 else
 orE [fstE l.P.length (lineE l.F l.E l.I l.P),fstE l.J.length (boundE l.F l.E l.I l.J),fstE l.O.length (boundE l.F l.E l.I l.O),
  fstE l.K.length (earE l.F l.K),shareE l.F l.K,fstE l.M.length (fun i=>z1w l.F l.E l.I (l.M.getD i dF)),
  fstE l.N.length (ruleE l.F l.N),fstE l.A.length (amdE l.F l.E l.I l.A)]) else treeE l.F
structure SmL (l:TLa):Prop where
 t:SmT l.F
 tl:l.F.length<=1000000
 li:∀ x∈l.P,x.B.length<=1000000
 ll:l.P.length<=1000000
 ce:∀ x∈l.J,x.B.length<=1000000
 cl:l.J.length<=1000000
 fl:∀ x∈l.O,x.B.length<=1000000
 fll:l.O.length<=1000000
 ea:∀ x∈l.K,x.S.length<=1000000/\x.B.length<=1000000
 el:l.K.length<=1000000
 co:∀ x∈l.M,x.S.length<=1000000/\x.B.length<=1000000
 col:l.M.length<=1000000
 rl:l.N.length<=1000000
 am:∀ x∈l.A,x.Q.length<=1000000/\∀ c∈x.Q,c.B.length<=1000000
 al:l.A.length<=1000000
end Go.Proofs.YtbmpcbbimefmoaaGreatDoor
/- The reference's checks of a law. No condition. -/
namespace Go.Proofs.YtbmpcbbimefmoaaGreatDoor
open Go Go.TA
open Go.IntKind (i64)
attribute [-simp] List.getD_eq_getElem?_getD
theorem z38 (n:Int):F_q2n n=some (amt n):=by
 simp only[F_q2n,S_q2n,Scr.den,za,amt,ge_iff_le]
theorem z8f {a b:Y8} (ha:good a=true) (hb:good b=true) (m n:Int):F_q3g a m b n=some (ltC a m b n):=by
 simp only[F_q3g,S_q3g,Scr.den,z2a ha hb,obind,za,zg,ltC]
 congr 2
variable {c:Y8} {t:List THe}
theorem hasGood (ht:treeE t=0) (h:has t c=true):good c=true:=by
 unfold has at h
 obtain⟨x,hx,e⟩:=y1o.1 h
 obtain⟨i,hi,rfl⟩:=z34 hx
 have e:(t.getD i dF).B=c:=by simpa using e
 unfold treeE at ht
 split at ht
 ·cases ht
 ·rw[<- e]; exact zb2 (z18.1 ht i hi)
theorem leafGood (h:leafT t c=true):good c=true:=by
 unfold leafT at h
 simp only[ya] at h
 exact h.1.1
theorem wp {i:Nat} (h0:0<i) (h:i<=1000000):i64.wrap ((i:Int)-1)=((i-1:Nat):Int):=by rw[wrapId om om]; omega
variable {l:TLa}
theorem HasB (c:Y8):F_q20 l c=some (has l.F c):=by simp only[F_q20,S_q20,Scr.den,zb1,obind]
theorem LeafB (hs:SmT l.F) (hc:c.length<=1000000):F_ql l c=some (leafT l.F c):=by
 simp only[F_ql,S_ql,Scr.den,z2m (l:=c) om,HasB,obind,zg,leafT]
 by_cases hg:good c=true
 ·by_cases hh:has l.F c=true
  ·simp[hg,hh,oT,oN]
   rw[zy l.F (fun x=>par x.B==c) (fun _=>false) fun i hi=>by
    obtain⟨hc,_⟩:=hs _ (z8 hi)
    simp only[S_ql_b1,Scr.den,z3n hc,obind]
    split <;> rfl]
   by_cases ha:(l.F.any fun x=>par x.B==c)=true
   ·rw[y7 ha]; simp only[outM]; congr 1; symm; rw[yk]; intro h
    obtain⟨x,hx,e⟩:=y1o.1 ha
    have:=y18.1 h x hx
    simp[e] at this
   ·rw[y6 ha]; simp only[outM]; congr 1; symm; rw[y18]; intro x hx
    have:=fun e=>ha (y1o.2 ⟨x,hx,e⟩)
    simpa using this
  ·simp[hg,hh,oT,oN]
 ·simp[hg,oF]
theorem InB (hy:1<=l.I) (x:Int):F_q2m l x=some (inY l.E l.I x):=by
 simp only[F_q2m,S_q2m,Scr.den,za,inY]
 rw[y11 (show l.I>0 from om),y1m]
theorem linesB (hs:SmT l.F) (hy:1<=l.I) (hc:∀ x∈l.P,x.B.length<=1000000) (hl:l.P.length<=1000000):F_q21 l=some (fstE l.P.length (lineE l.F l.E l.I l.P)):=by
 simp only[F_q21,S_q21,Scr.den]
 skip
 refine z21 (lineE l.F l.E l.I l.P) fun i hi hz=>?_
 have hci:=hc _ (z8 hi)
 have hi':i-1<l.P.length:=om
 simp only[S_q21_b1,Scr.den,LeafB hs hci,InB hy,z38,obind,za,lineE,chE,z1o]
 by_cases hf:leafT l.F (l.P.getD i dF).B=true
 ·have hg:=leafGood hf
  by_cases h0:0<i
  ·have hz':=z45 (hz (i-1) om)
   have hf':leafT l.F (l.P.getD (i-1) dF).B=true:=by
    simp only[z1o] at hz'
    split at hz'
    ·cases hz'
    ·rename_i h; simpa using h
   simp only[wp h0 (show i<=1000000 from om),yi,z8f (leafGood hf') hg,hf]
   by_cases h1:inY l.E l.I (l.P.getD i dF).C=true <;> by_cases h2:amt (l.P.getD i dF).D=true <;>
    by_cases h3:ltC (l.P.getD (i-1) dF).B (l.P.getD (i-1) dF).C (l.P.getD i dF).B (l.P.getD i dF).C=true <;> simp[h0,hi',h1,h2,h3,AllP,oT,oN,gT]
  ·have h0':i=0:=om
   subst h0'
   by_cases h1:inY l.E l.I (l.P.getD 0 dF).C=true <;> by_cases h2:amt (l.P.getD 0 dF).D=true <;> simp[hf,hi,h1,h2,AllP,oF,gT]
 ·simp[hf]
theorem boundsB {b:List TBo} (ht:treeE l.F=0) (hy:1<=l.I) (hl:b.length<=1000000):F_q18 l b=some (fstE b.length (boundE l.F l.E l.I b)):=by
 simp only[F_q18,S_q18,Scr.den]
 skip
 refine z21 (boundE l.F l.E l.I b) fun i hi hz=>?_
 have hi':i-1<b.length:=om
 simp only[S_q18_b1,Scr.den,HasB,InB hy,z38,obind,za,boundE,chE,z16]
 by_cases hf:has l.F (b.getD i dF).B=true
 ·have hg:=hasGood ht hf
  by_cases h0:0<i
  ·have hz':=z45 (hz (i-1) om)
   have hf':has l.F (b.getD (i-1) dF).B=true:=by
    simp only[z16] at hz'
    split at hz'
    ·cases hz'
    ·rename_i h; simpa using h
   simp only[wp h0 (show i<=1000000 from om),yi,z8f (hasGood ht hf') hg,hf]
   by_cases h1:inY l.E l.I (b.getD i dF).C=true <;> by_cases h2:amt (b.getD i dF).D=true <;> by_cases h4:(b.getD i dF).C=-1 <;>
    by_cases h3:ltC (b.getD (i-1) dF).B (b.getD (i-1) dF).C (b.getD i dF).B (b.getD i dF).C=true <;> (try simp only[h4] at h1 h3 |-) <;> simp[h0,hi',h1,h2,h3,h4,AllP,oT,oF,oN,gT]
  ·have h0':i=0:=om
   subst h0'
   by_cases h1:inY l.E l.I (b.getD 0 dF).C=true <;> by_cases h2:amt (b.getD 0 dF).D=true <;> by_cases h4:(b.getD 0 dF).C=-1 <;> (try simp only[h4] at h1 |-) <;> simp[hf,hi,h1,h2,h4,AllP,oT,oF,oN,gT]
 ·simp[hf]
end Go.Proofs.YtbmpcbbimefmoaaGreatDoor
/- The reference's Valid. No condition. -/
namespace Go.Proofs.YtbmpcbbimefmoaaGreatDoor
open Go Go.TA
open Go.IntKind (i64)
attribute [-simp] List.getD_eq_getElem?_getD
theorem zey (l:List TEa) (c:Y8):shSum l c=l.foldl (fun s x=>if und c x.S=true then i64.wrap (s+x.T) else s) 0:=rfl
theorem ordB (u v:Int):(decide (u>0)||u==0&&decide (v>=0))=!(decide (u<0)||decide (u=0)&&decide (v<0)):=by
 rw[y1k]
 simp only[yj,ya,y8,yn,y1i,y1w,y27,y12]
 omega
variable {l:TLa}
theorem earsB (hs:SmT l.F) (ht:treeE l.F=0) (htl:l.F.length<=1000000) (hc:∀ x∈l.K,x.S.length<=1000000/\x.B.length<=1000000) (hl:l.K.length<=1000000) :
  F_q9 l=some (orE [fstE l.K.length (earE l.F l.K),shareE l.F l.K]):=by
 simp only[F_q9,S_q9,Scr.den]
 rw[z5k (earE l.F l.K) (earE l.F l.K) fun i hi hz=>by
  have hi':i-1<l.K.length:=om
  obtain⟨hcs,hci⟩:=hc _ (z8 hi)
  simp only[S_q9_b1,Scr.den,HasB,LeafB hs hci,obind,za,zg,earE,chE,z5m]
  by_cases hf:has l.F (l.K.getD i dF).S=true <;> by_cases hf2:leafT l.F (l.K.getD i dF).B=true
  ·have hg:=hasGood ht hf
   have hg2:=leafGood hf2
   by_cases h0:0<i
   ·have hz':=z45 (hz (i-1) om)
    have hf':has l.F (l.K.getD (i-1) dF).S=true/\leafT l.F (l.K.getD (i-1) dF).B=true:=by
     simp only[z5m] at hz'
     split at hz'
     ·cases hz'
     ·rename_i h; simp only[y4l,y3g] at h; exact h
    simp only[wp h0 (show i<=1000000 from om),yi,z2a (hasGood ht hf'.1) hg,z2a (leafGood hf'.2) hg2,hf,hf2,obind,ltC,ordB]
    by_cases h1:(l.K.getD i dF).T<0 <;> by_cases h2:(l.K.getD i dF).T>100 <;>
     by_cases h3:(decide (lexC (parts (l.K.getD (i-1) dF).S) (parts (l.K.getD i dF).S)<0)||decide (lexC (parts (l.K.getD (i-1) dF).S) (parts (l.K.getD i dF).S)=0)&&decide (lexC (parts (l.K.getD (i-1) dF).B) (parts (l.K.getD i dF).B)<0))=true <;> (try rw[y45] at h3) <;> simp only[h3] <;> simp[h0,hi',h1,h2,AllP,oT,oN,gT]
   ·have h0':i=0:=om
    subst h0'
    by_cases h1:(l.K.getD 0 dF).T<0 <;> by_cases h2:(l.K.getD 0 dF).T>100 <;> simp[hf,hf2,h1,h2,oT,oN]
  all_goals simp[hf,hf2,AllP,oT,oF,oN]]
 have hsh:(outM (F_q4 l.F [] >>= fun rv6=>rangeM (fun i s=>(S_q9_b3 l rv6 i s).den) rv6.length 0 ()) (fun _=>some 0) (fun x=>some (id x)))=some (shareE l.F l.K):=by
  rw[z1g hs htl sj]
  show outM (rangeM (fun i s=>(S_q9_b3 l (leavesU l.F []) i s).den) (leavesU l.F []).length 0 ()) _ _=_
  rw[zy (leavesU l.F []) (fun c=>decide (shSum l.K c>100)) (fun _=>13) fun i hi=>by
   have hlen:((leavesU l.F []).getD i dF).length<=1000000:=by
    have:=z1l.1 (z8 hi)
    have:=z4q (leafGood this)
    omega
   simp only[S_q9_b3,Scr.den]
   rw[z30 l.K (fun s x=>if und ((leavesU l.F []).getD i dF) x.S=true then i64.wrap (s+x.T) else s) fun j s hj=>by
    obtain⟨hcs,_⟩:=hc _ (z8 hj)
    simp only[S_q9_b2,Scr.den,z15 hlen hcs,obind]
    split <;> rfl]
   simp only[outM,<- zey]
   by_cases h:shSum l.K ((leavesU l.F []).getD i dF)>100 <;> simp[h]]
  unfold shareE
  split <;> rfl
 rw[z2c,z2c,z3h]
 unfold fstE
 split
 ·rename_i j hj
  have:=List.find?_some hj
  have hne:earE l.F l.K j≠0:=by simpa using this
  rw[y6 hne]
  rfl
 ·simp only[outM,y3h]
  simp only[z1g (top:=[]) hs htl sj,obind] at hsh |-
  have e:(if shareE l.F l.K=0 then (0:Int) else shareE l.F l.K)=shareE l.F l.K:=by split <;> simp_all
  rw[e]
  exact hsh
theorem condsB (hs:SmT l.F) (hy:1<=l.I) (hc:∀ x∈l.M,x.S.length<=1000000/\x.B.length<=1000000) (_hl:l.M.length<=1000000) :
  F_q22 l=some (fstE l.M.length fun i=>z1w l.F l.E l.I (l.M.getD i dF)):=by
 simp only[F_q22,S_q22,Scr.den]
 refine z21 (fun i=>z1w l.F l.E l.I (l.M.getD i dF)) fun i hi hz=>?_
 obtain⟨hcs,hci⟩:=hc _ (z8 hi)
 simp only[S_q22_b1,Scr.den,HasB,LeafB hs hci,InB hy,z38,obind,za,zg,z1w]
 generalize l.M.getD i dF=x
 have hb:(!(x.R==1)&&!(x.R==2)||x.R==1&&(!(x.S==[])||x.X != 0)||x.R==2&&x.G != 0)=decide (condBad x):=by
  rw[y1k,y5y]
  unfold condBad
  simp[or_assoc]
 rw[hb]
 by_cases h1:condBad x
 ·simp[h1]
 ·by_cases h2:leafT l.F x.B=true <;> by_cases h3:has l.F x.S=true <;> by_cases h4:x.R=2 <;> by_cases h5:inY l.E l.I x.C=true <;> by_cases h6:amt x.D=true <;> by_cases h7:amt x.X=true <;>
   simp[h1,h2,h3,h4,h5,h6,h7,oT,oF,oN] <;> (split <;> simp_all <;> omega)
theorem rulesB (hl:l.N.length<=1000000):F_q23 l=some (fstE l.N.length (ruleE l.F l.N)):=by
 simp only[F_q23,S_q23,Scr.den]
 refine z21 (ruleE l.F l.N) fun i hi hz=>?_
 have hi':i-1<l.N.length:=om
 simp only[S_q23_b1,Scr.den,HasB,obind,za,zg,ruleE,chE,z70]
 by_cases h0:0<i
 ·simp only[wp h0 (show i<=1000000 from om),yi]
  by_cases h1:has l.F (l.N.getD i dF).L=true <;> by_cases h2:has l.F (l.N.getD i dF).V=true <;> by_cases h3:(l.N.getD (i-1) dF).H>=(l.N.getD i dF).H <;>
   by_cases h4:(l.N.getD i dF).H<1\/(l.N.getD i dF).H>1000000\/(l.N.getD i dF).T<0\/(l.N.getD i dF).T>100 <;>
   simp[h0,hi',h1,h2,h3,h4,or_assoc,AllP,oT,oF,oN,gT] <;> omega
 ·have h0':i=0:=om
  subst h0'
  by_cases h1:has l.F (l.N.getD 0 dF).L=true <;> by_cases h2:has l.F (l.N.getD 0 dF).V=true <;>
   by_cases h4:(l.N.getD 0 dF).H<1\/(l.N.getD 0 dF).H>1000000\/(l.N.getD 0 dF).T<0\/(l.N.getD 0 dF).T>100 <;>
   simp[h1,h2,h4,or_assoc,AllP,oT,oF,oN,gT]
end Go.Proofs.YtbmpcbbimefmoaaGreatDoor
/- The reference's Valid. No condition. -/
namespace Go.Proofs.YtbmpcbbimefmoaaGreatDoor
open Go Go.TA
open Go.IntKind (i64)
attribute [-simp] List.getD_eq_getElem?_getD
theorem z4s {one:Nat->Int} {ord:Nat->Bool} {i:Nat} {X:Option (Step Unit Int)} (h1:one i≠0->X=some (.ret (one i))) (h2:one i=0->X=some (if 0<i/\ord i=false then .ret 8 else .cont ())) :
  X=some (if chE one ord i=0 then .cont () else .ret (chE one ord i)):=by
 unfold chE
 by_cases h:one i=0
 ·rw[h2 h,y7 h]
  by_cases h':0<i/\ord i=false
  ·rw[y7 h',y7 h',y6 dk]
  ·rw[y6 h',y6 h',y7 rfl]
 ·rw[h1 h,y6 h,y6 h]
theorem chgsB {l:TLa} (hs:SmT l.F) (ht:treeE l.F=0) (hy:1<=l.I) {b:List TCh} (hc:∀ x∈b,x.B.length<=1000000) (hl:b.length<=1000000) :
  F_q2o l b=some (fstE b.length (chgE l.F l.E l.I b)):=by
 simp only[F_q2o,S_q2o,Scr.den]
 refine z21 (chgE l.F l.E l.I b) fun i hi hz=>?_
 have hci:=hc _ (z8 hi)
 have hi':i-1<b.length:=om
 simp only[S_q2o_b1,Scr.den,HasB,LeafB hs hci,InB hy,z38,obind,za,zg]
 unfold chgE
 by_cases p1:(b.getD i dF).R<1\/(b.getD i dF).R>3
 ·refine z4s (fun _=>by simp[z1p,p1]) (fun h=>by simp[z1p,p1] at h)
 have k1:¬ (b.getD i dF).R<1:=fun h=>p1 (.inl h)
 have k2:¬ (b.getD i dF).R>3:=fun h=>p1 (.inr h)
 by_cases p2:has l.F (b.getD i dF).B=false\/((b.getD i dF).R=1/\leafT l.F (b.getD i dF).B=false)
 ·refine z4s (fun _=>?_) (fun h=>by simp[z1p,p1,p2] at h)
  simp only[z1p,y6 p1,y7 p2]
  rcases p2 with h | ⟨h,h'⟩
  ·simp[k1,k2,h]
   by_cases h4:(b.getD i dF).R=1 <;> simp[h4,oT,oF]
  ·by_cases hh:has l.F (b.getD i dF).B=true <;> simp[h,h',hh,oT,oF,oN]
 have hf:has l.F (b.getD i dF).B=true:=by
  cases h:has l.F (b.getD i dF).B
  ·exact absurd (.inl h) p2
  ·rfl
 have hlf:(b.getD i dF).R=1->leafT l.F (b.getD i dF).B=true:=fun e=>by
  cases h:leafT l.F (b.getD i dF).B
  ·exact absurd (.inr ⟨e,h⟩) p2
  ·rfl
 have e2:(optD [((b.getD i dF).R==1)=true,(!true)=false] (some (leafT l.F (b.getD i dF).B)) dF)=some (if (b.getD i dF).R=1 then true else dF):=by
  by_cases h4:(b.getD i dF).R=1 <;> simp[h4,oT,oF,oN,hlf]
 have e3:(!inY l.E l.I (b.getD i dF).C&&((b.getD i dF).R==1||(b.getD i dF).C != -1))=decide (inY l.E l.I (b.getD i dF).C=false/\((b.getD i dF).R=1\/(b.getD i dF).C≠-1)):=by
  rw[y1k,y5y]; simp
 have e4:(!amt (b.getD i dF).D&&((b.getD i dF).R != 2||(b.getD i dF).D != -1))=decide (amt (b.getD i dF).D=false/\((b.getD i dF).R≠2\/(b.getD i dF).D≠-1)):=by
  rw[y1k,y5y]; simp
 have e1:(decide ((b.getD i dF).R<1)||decide ((b.getD i dF).R>3))=false:=by simp[k1]; omega
 simp only[hf,e1,e2,e3,e4,obind,yl,y2g]
 have e5:(!true||(b.getD i dF).R==1&&!(if (b.getD i dF).R=1 then true else dF))=false:=by
  by_cases h4:(b.getD i dF).R=1 <;> simp[h4]
 simp only[e5,yl,y2g]
 by_cases p3:inY l.E l.I (b.getD i dF).C=false/\((b.getD i dF).R=1\/(b.getD i dF).C≠-1)
 ·refine z4s (fun _=>?_) (fun h=>by simp only[z1p,y6 p1,y6 p2,y7 p3] at h; cases h)
  simp only[z1p,y6 p1,y6 p2,y7 p3,y11 p3,y3h]
 by_cases p4:amt (b.getD i dF).D=false/\((b.getD i dF).R≠2\/(b.getD i dF).D≠-1)
 ·refine z4s (fun _=>?_) (fun h=>by simp only[z1p,y6 p1,y6 p2,y6 p3,y7 p4] at h; cases h)
  simp only[z1p,y6 p1,y6 p2,y6 p3,y7 p4,y11 p4,y19 p3,y3h,yl,y2g]
 refine z4s (fun h=>by simp only[z1p,y6 p1,y6 p2,y6 p3,y6 p4] at h; exact absurd rfl h) (fun _=>?_)
 simp only[y19 p4,y19 p3,yl,y2g]
 have hg:=hasGood ht hf
 by_cases h0:0<i
 ·have hz':=z45 (hz (i-1) om)
  have hf':has l.F (b.getD (i-1) dF).B=true:=by
   simp only[z1p] at hz'
   split at hz'
   ·cases hz'
   ·split at hz'
    ·cases hz'
    ·rename_i h; simp only[y4l,y3g] at h; exact h.1
  simp only[wp h0 (show i<=1000000 from om),yi,z8f (hasGood ht hf') hg,ltX]
  rcases y65 (b.getD (i-1) dF).R (b.getD i dF).R with hh | hh | hh
  ·have a1:¬ (b.getD (i-1) dF).R>(b.getD i dF).R:=om
   have a2:¬ (b.getD (i-1) dF).R=(b.getD i dF).R:=om
   simp[h0,hi',hh,a1,a2,AllP,oF,gT]
  ·by_cases hq:ltC (b.getD (i-1) dF).B (b.getD (i-1) dF).C (b.getD i dF).B (b.getD i dF).C=true <;> simp[h0,hi',hh,hq,AllP,oT,oN,gT]
  ·have a1:¬ (b.getD (i-1) dF).R<(b.getD i dF).R:=om
   have a2:¬ (b.getD (i-1) dF).R=(b.getD i dF).R:=om
   simp[h0,hi',hh,a1,a2,AllP,oF,gT]
 ·have h0':i=0:=om
  subst h0'
  simp[AllP,gT]
  by_cases hh:(b.getD (i64.wrap (-1)).toNat dF).R=(b.getD 0 dF).R <;> simp[hh,oT,oF]
end Go.Proofs.YtbmpcbbimefmoaaGreatDoor
/- The reference's Valid. No condition. -/
namespace Go.Proofs.YtbmpcbbimefmoaaGreatDoor
open Go Go.TA
open Go.IntKind (i64)
attribute [-simp] List.getD_eq_getElem?_getD
theorem zc0 (l:List Int) (i:Nat):(if (l.getD i dF != 0)=true then some (.ret (l.getD i dF)) else some (.cont ()):Option (Step Unit Int))=some (if l.getD i dF=0 then .cont () else .ret (l.getD i dF)):=by
 generalize l.getD i dF=v
 by_cases h:v=0 <;> simp[h]
variable {l:TLa}
theorem amdsB (hs:SmT l.F) (ht:treeE l.F=0) (hy:1<=l.I) (hc:∀ x∈l.A,x.Q.length<=1000000/\∀ c∈x.Q,c.B.length<=1000000) (hl:l.A.length<=1000000) :
  F_q24 l=some (fstE l.A.length (amdE l.F l.E l.I l.A)):=by
 simp only[F_q24,S_q24,Scr.den]
 skip
 refine z21 (amdE l.F l.E l.I l.A) fun i hi hz=>?_
 obtain⟨hcl,hcc⟩:=hc _ (z8 hi)
 have hi':i-1<l.A.length:=om
 simp only[S_q24_b1,Scr.den,chgsB hs ht hy hcc hcl,obind,za,zg,amdE]
 skip
 by_cases p1:(l.A.getD i dF).G<0\/(l.A.getD i dF).G>35990\/(l.A.getD i dF).H<1\/(l.A.getD i dF).H>1000000
 ·simp only[y7 p1]
  rw[y7 (by simp only[yj,y8]; omega)]
  rfl
 simp only[y6 p1]
 rw[y6 (by simp only[yj,y8]; omega)]
 have he:(l.A.getD i dF).Q=[]↔((((l.A.getD i dF).Q).length:Int)==0)=true:=by
  rw[yn,<- y26]; omega
 have hfin:(if ((((l.A.getD i dF).Q).length:Int)==0)=true then some (Step.ret 1) else if (fstE (l.A.getD i dF).Q.length (chgE l.F l.E l.I (l.A.getD i dF).Q) != 0)=true then
   some (Step.ret (fstE (l.A.getD i dF).Q.length (chgE l.F l.E l.I (l.A.getD i dF).Q))) else some (Step.cont ()):Option (Step Unit Int)) =
   some (if (if (l.A.getD i dF).Q=[] then 1 else fstE (l.A.getD i dF).Q.length (chgE l.F l.E l.I (l.A.getD i dF).Q))=0 then Step.cont () else
    Step.ret (if (l.A.getD i dF).Q=[] then 1 else fstE (l.A.getD i dF).Q.length (chgE l.F l.E l.I (l.A.getD i dF).Q))):=by
  by_cases h:(l.A.getD i dF).Q=[]
  ·rw[y7 (he.1 h)]; simp only[y7 h]; rfl
  ·rw[y6 (fun h'=>h (he.2 h'))]; simp only[y6 h]
   by_cases h0:fstE (l.A.getD i dF).Q.length (chgE l.F l.E l.I (l.A.getD i dF).Q)=0
   ·simp[h0]
   ·simp[h0]
 by_cases h0:0<i
 ·simp only[wp h0 (show i<=1000000 from om),yi,ltA]
  rcases y65 (l.A.getD (i-1) dF).G (l.A.getD i dF).G with hh | hh | hh
  ·have a1:¬ (l.A.getD (i-1) dF).G>(l.A.getD i dF).G:=om
   have a2:¬ (l.A.getD (i-1) dF).G=(l.A.getD i dF).G:=om
   rw[z6 (by simp[h0,hi',a1,a2,AllP])]
   rw[y6 (by simp[a1,a2])]
   simp only[hh,y54,y4s,y4u,and_false,y2g]
   exact hfin
  ·have a1:¬ (l.A.getD (i-1) dF).G>(l.A.getD i dF).G:=om
   have a3:¬ (l.A.getD (i-1) dF).G<(l.A.getD i dF).G:=om
   rw[z6 (by simp[h0,hi',hh,AllP])]
   by_cases hn:(l.A.getD (i-1) dF).H<(l.A.getD i dF).H
   ·rw[y6 (by simp only[ya,yj,y8,yn]; omega)]
    simp only[hh,hn,y54,y4c,Bool.or_true,y4u,and_false,y2g]
    exact hfin
   ·rw[y7 (by simp only[ya,yj,y8,yn]; omega)]
    have:(decide ((l.A.getD (i-1) dF).G<(l.A.getD i dF).G)||decide ((l.A.getD (i-1) dF).G=(l.A.getD i dF).G)&&decide ((l.A.getD (i-1) dF).H<(l.A.getD i dF).H))=false:=by
     rw[yk]; simp only[ne_eq,ya,yj,y8]; omega
    simp only[this,h0,and_self,y3h]
    rfl
  ·have a1:¬ (l.A.getD (i-1) dF).G<(l.A.getD i dF).G:=om
   have a2:¬ (l.A.getD (i-1) dF).G=(l.A.getD i dF).G:=om
   rw[z6 (by simp[h0,hi',hh,a2,AllP])]
   rw[y7 (by simp only[ya,yj,y8,yn]; omega)]
   have:(decide ((l.A.getD (i-1) dF).G<(l.A.getD i dF).G)||decide ((l.A.getD (i-1) dF).G=(l.A.getD i dF).G)&&decide ((l.A.getD (i-1) dF).H<(l.A.getD i dF).H))=false:=by
    rw[yk]; simp only[ne_eq,ya,yj,y8]; omega
   simp only[this,h0,and_self,y3h]
   rfl
 ·have h0':i=0:=om
  subst h0'
  rw[z6 (by simp[AllP])]
  rw[y6 sj]
  simp only[Nat.lt_irrefl,false_and,y2g]
  exact hfin
theorem limsB (hl:l.A.length<=1000000):F_q1z l=some (if limB l then 3 else 0):=by
 simp only[F_q1z,S_q1z,Scr.den,zg]
 by_cases h:l.P.length>120\/l.J.length>60\/l.O.length>60\/l.K.length>20\/l.M.length>20\/l.N.length>20\/l.A.length>20
 ·rw[y7 (by simp only[yj,y8]; omega),y7 (by rcases h with h | h | h | h | h | h | h <;> simp[limB,h])]
 ·rw[y6 (by simp only[yj,y8]; omega)]
  skip
  rw[zy l.A (fun a=>decide (a.Q.length>20)) (fun _=>3) fun i hi=>by
   simp only[S_q1z_b1,Scr.den]
   skip
   by_cases hx:(l.A.getD i dF).Q.length>20
   ·rw[y7 (by simp only[y8]; omega),y7 (y11 hx)]
   ·rw[y6 (by simp only[y8]; omega),y6 (by simpa using hx)]]
  by_cases ha:(l.A.any fun a=>decide (a.Q.length>20))=true
  ·rw[y7 ha,y7 (show limB l from .inr (.inr (.inr (.inr (.inr (.inr (.inr ha)))))))]; rfl
  ·rw[y6 ha,y6 (show ¬ limB l from fun hb=>by
    rcases hb with hb | hb | hb | hb | hb | hb | hb | hb
    ·exact h (.inl hb)
    ·exact h (.inr (.inl hb))
    ·exact h (.inr (.inr (.inl hb)))
    ·exact h (.inr (.inr (.inr (.inl hb))))
    ·exact h (.inr (.inr (.inr (.inr (.inl hb)))))
    ·exact h (.inr (.inr (.inr (.inr (.inr (.inl hb))))))
    ·exact h (.inr (.inr (.inr (.inr (.inr (.inr hb))))))
    ·exact ha hb)]; rfl
theorem zb3 (hs:SmL l):F_q25 l=some (errL l):=by
 simp only[F_q25,S_q25,Scr.den,zg,zex (t:=l.F) hs.t,obind]
 unfold errL
 by_cases p1:yrB l
 ·rw[y7 p1,y7]
  unfold yrB at p1
  simp only[yj,y8] at p1 |-
  by_cases hr:0<=l.E/\l.E<=99/\1<=l.I/\l.I<=4
  ·rw[wrapId (n:=l.E+l.I) om om,wrapId om om]; omega
  ·omega
 have q1:¬ (l.E<0\/l.E>99\/l.I<1\/l.I>4\/l.E+l.I>100):=p1
 rw[y6 p1,y6 (by simp only[yj,y8]; rw[wrapId (n:=l.E+l.I) om om,wrapId om om]; omega)]
 by_cases p2:treeE l.F=0
 ·have hy:1<=l.I:=om
  rw[y6 (by simp[p2]),y7 p2]
  simp only[limsB hs.al,linesB hs.t hy hs.li hs.ll,boundsB p2 hy hs.cl,boundsB p2 hy hs.fll,earsB hs.t p2 hs.tl hs.ea hs.el,condsB hs.t hy hs.co hs.col,rulesB hs.rl,amdsB hs.t p2 hy hs.am hs.al,obind]
  refine (zbz [if limB l then 3 else 0,fstE l.P.length (lineE l.F l.E l.I l.P),fstE l.J.length (boundE l.F l.E l.I l.J),fstE l.O.length (boundE l.F l.E l.I l.O),
   orE [fstE l.K.length (earE l.F l.K),shareE l.F l.K],fstE l.M.length (fun i=>z1w l.F l.E l.I (l.M.getD i dF)),fstE l.N.length (ruleE l.F l.N),fstE l.A.length (amdE l.F l.E l.I l.A)] fun i hi=>?_).trans ?_
  ·simp only[S_q25_b1,Scr.den]
   exact zc0 _ i
  congr 1
  rw[z2c]
  by_cases p3:limB l
  ·simp only[y7 p3]; rfl
  ·simp only[y6 p3,y3h]
   simp only[z2c,z3h]
   (repeat' split) <;> simp_all
 ·rw[y7 (by simp[p2]),y6 p2]
end Go.Proofs.YtbmpcbbimefmoaaGreatDoor
/- The program's Valid: the same. No condition. -/
namespace Go.Proofs.YtbmpcbbimefmoaaGreatDoor
open Go Go.TA
open Go.IntKind (i64)
attribute [-simp] List.getD_eq_getElem?_getD
theorem z3t (n a b:Int):F_q1b n a b=some (decide (n>=a)&&decide (n<=b)):=by simp only[F_q1b,S_q1b,Scr.den,za]
theorem z4t (n:Int):F_q1p n=some (amt n):=by simp only[F_q1p,S_q1p,Scr.den,za,amt,ge_iff_le]
theorem zjs (n:Int):F_q3l n=some (decide (n>=0)&&decide (n<=35990)):=by simp only[F_q3l,S_q3l,Scr.den,z3t,obind]
theorem zd5 (n:Int):F_q3m n=some (decide (n>=1)&&decide (n<=1000000)):=by simp only[F_q3m,S_q3m,Scr.den,z3t,obind]
variable {l:TLa}
theorem z8g (hy:1<=l.I) (x:Int):F_q2z l x=some (inY l.E l.I x):=by
 simp only[F_q2z,S_q2z,Scr.den,za,inY]
 rw[y6 om]
theorem z71 (l:TLa) (c:Y8):F_q2a l c=some (has l.F c):=by simp only[F_q2a,S_q2a,Scr.den,zjp,obind]
def ck (l:TLa):TChe:=⟨l,leavesU l.F []⟩
theorem z96 (l:TLa) (c:Y8):F_q34 (ck l) c=some (leafT l.F c):=by
 simp only[F_q34,S_q34,Scr.den,z9m,obind,ck]
 congr 1
 rw[y1k,<- z1l]
 simp
theorem z64 (l:List Int):F_qo l=some (orE l):=by
 simp only[F_qo,S_qo,Scr.den]
 refine zbz l fun i hi=>?_
 simp only[S_qo_b1,Scr.den]
 exact zc0 l i
theorem zoh (l:List Int):F_q2d l=some (orE l):=by
 simp only[F_q2d,S_q2d,Scr.den]
 refine zbz l fun i hi=>?_
 simp only[S_q2d_b1,Scr.den]
 exact zc0 l i
variable {u:Int}
theorem or2 {m n:Int}:(decide (orE [u,cmpI m n]>=0))=!(decide (u<0)||(decide (u=0)&&decide (m<n))):=by
 simp only[z2c,z3h,cmpI]
 rw[y1k]
 simp only[y1i,y8,y1w,y27,y12]
 (repeat' split) <;> omega
theorem zpc {v:Int}:(decide (orE [u,v]>=0))=!(decide (u<0)||(decide (u=0)&&decide (v<0))):=by
 simp only[z2c,z3h]
 rw[y1k]
 simp only[y1i,y8,y1w,y27,y12]
 (repeat' split) <;> omega
theorem lenC {c:Y8} (h:good c=true):c.length<=1000000:=by have:=z4q h; omega
theorem z8h {a b:Y8} (ha:good a=true) (hb:good b=true):F_q1c a b=some (lexC (parts a) (parts b)):=by rw[z7m (lenC ha) (lenC hb),z44 (.inl ha)]
theorem z58 {n:Nat} {one:Nat->Int} {ord:Nat->Bool} {body:Nat->Unit->Option (Step Unit Int)}
  (hs:∀ i,i<n->one i≠0->body i ()=some (.ret (one i)))
  (hz:∀ i,i<n->one i=0->(0<i->one (i-1)=0)->body i ()=some (if 0<i/\ord i=false then .ret 8 else .cont ())) :
  outM (rangeM body n 0 ()) (fun _=>some 0) (fun x=>some (id x))=some (fstE n (chE one ord)) :=
 z21 (chE one ord) fun i hi h=>z4s (hs i hi) fun h0=>hz i hi h0 fun h1=>z45 (h (i-1) om)
theorem zgc (hy:1<=l.I) (x:TLi):F_q44 (ck l) x=some (z1o l.F l.E l.I x):=by
 simp only[F_q44,S_q44,Scr.den,z96,z4t,obind,show (ck l).law=l from rfl,z8g hy,z1o]
 by_cases h1:leafT l.F x.B=true <;> by_cases h2:inY l.E l.I x.C=true <;> by_cases h3:amt x.D=true <;> simp[h1,h2,h3]
theorem zez (hy:1<=l.I) (x:TBo):F_q46 (ck l) x=some (z16 l.F l.E l.I x):=by
 simp only[F_q46,S_q46,Scr.den,show (ck l).law=l from rfl,z71,z4t,obind,z8g hy,z16,za]
 by_cases h1:has l.F x.B=true <;> by_cases h4:x.C=-1 <;> by_cases h2:inY l.E l.I x.C=true <;> by_cases h3:amt x.D=true <;> (try simp only[h4] at h2 |-) <;> simp[h1,h2,h3,h4,oT,oF,oN]
theorem zb4 (x:TEa):F_q48 (ck l) x=some (z5m l.F x):=by
 simp only[F_q48,S_q48,Scr.den,show (ck l).law=l from rfl,z71,z96,z3t,obind,z5m,zg]
 by_cases h1:has l.F x.S=true <;> by_cases h2:leafT l.F x.B=true <;> simp[h1,h2,oT,oF,oN]
 by_cases h3:x.T<0\/x.T>100
 ·rw[y7 om,y7 h3]
 ·rw[y6 om,y6 h3]
theorem zn8 (hy:1<=l.I) (x:TCo):F_q4a (ck l) x=some (z1w l.F l.E l.I x):=by
 simp only[F_q4a,S_q4a,Scr.den,show (ck l).law=l from rfl,z71,z96,z3t,z4t,zjs,z8g hy,obind,z1w,zg,za]
 have hb:∀ (K:Bool->Option Int),outM (if (!(decide (x.R>=1)&&decide (x.R<=2)))=true then some (Out.next (!(decide (x.R>=1)&&decide (x.R<=2)))) else
   if (x.R==2&&x.G != 0)=true then some (Out.next (x.R==2&&x.G != 0)) else some (Out.next (!(x.R==2)&&(!(x.S==[])||x.X != 0)))) K some=K (decide (condBad x)):=fun K=>by
  unfold condBad
  by_cases k1:x.R=1
  ·simp only[k1]; simp[outM]
   congr 1
   rw[y1k]
   simp
  ·by_cases k2:x.R=2
   ·simp only[k2]
    by_cases d:x.G=0
    ·simp[outM,d]
    ·have e:(x.G != 0)=true:=by simpa using d
     simp[outM,d,e]
   ·have:(decide (x.R>=1)&&decide (x.R<=2))=false:=by rw[yk]; simp only[ne_eq,ya,y8]; omega
    simp[this,outM,k1,k2]
 rw[hb]
 by_cases h1:condBad x
 ·simp[h1]
 ·by_cases h2:leafT l.F x.B=true <;> by_cases h3:has l.F x.S=true <;> by_cases h4:x.R=2 <;> by_cases h5:inY l.E l.I x.C=true <;> by_cases h6:amt x.D=true <;> by_cases h7:amt x.X=true <;>
   simp[h1,h2,h3,h4,h5,h6,h7,oT,oF,oN] <;> (split <;> simp_all <;> omega)
theorem zgd (x:TRu):F_q4b (ck l) x=some (z70 l.F x):=by
 simp only[F_q4b,S_q4b,Scr.den,show (ck l).law=l from rfl,z71,zd5,z3t,obind,z70,zg]
 by_cases h4:x.H<1\/x.H>1000000\/x.T<0\/x.T>100
 ·rw[y7 h4]
  by_cases h5:1<=x.H/\x.H<=1000000
  ·simp[h5,oT,oN]; omega
  ·have:(decide (x.H>=1)&&decide (x.H<=1000000))=false:=by rw[yk]; simp only[ne_eq,ya,y8]; omega
   simp[this,oF]
 ·rw[y6 h4]
  have e1:(decide (x.H>=1)&&decide (x.H<=1000000))=true:=by simp only[ya,y8]; omega
  have e2:(decide (x.T>=0)&&decide (x.T<=100))=true:=by simp only[ya,y8]; omega
  simp only[e1,e2]
  by_cases h1:has l.F x.L=true <;> by_cases h2:has l.F x.V=true <;> simp[h1,h2,oT,oF,oN]
theorem zd6 (hy:1<=l.I) (x:TCh):F_q4e (ck l) x=some (z1p l.F l.E l.I x):=by
 simp only[F_q4e,S_q4e,Scr.den,show (ck l).law=l from rfl,z71,z96,z3t,z4t,z8g hy,obind,z1p,zg,za]
 by_cases p1:x.R<1\/x.R>3
 ·rw[y7 p1,y7 (by simp only[y1i,y27,y12]; omega)]
 ·rw[y6 p1,y6 (by simp only[y1i,y27,y12]; omega)]
  by_cases h1:has l.F x.B=true <;> by_cases h2:leafT l.F x.B=true <;> by_cases h4:x.R=1 <;> simp[h1,h2,h4,oT,oF,oN] <;> ((repeat' split) <;> simp_all)
end Go.Proofs.YtbmpcbbimefmoaaGreatDoor
/- The program's Valid. No condition. -/
namespace Go.Proofs.YtbmpcbbimefmoaaGreatDoor
open Go Go.TA
open Go.IntKind (i64)
attribute [-simp] List.getD_eq_getElem?_getD
theorem zoi {a b:Y8} (_ha:good a=true) (_hb:good b=true) (m n:Int):(decide (orE [lexC (parts a) (parts b),cmpI m n]>=0))=!ltC a m b n:=by rw[or2]; rfl
variable {t:List THe} {f y:Int}
theorem lineG {x:TLi} (h:z1o t f y x=0):good x.B=true:=by
 unfold z1o at h
 split at h
 ·cases h
 ·rename_i hg; exact leafGood (by simpa using hg)
theorem boundG (ht:treeE t=0) {x:TBo} (h:z16 t f y x=0):good x.B=true:=by
 unfold z16 at h
 split at h
 ·cases h
 ·rename_i hg; exact hasGood ht (by simpa using hg)
theorem earG (ht:treeE t=0) {x:TEa} (h:z5m t x=0):good x.S=true/\good x.B=true:=by
 unfold z5m at h
 split at h
 ·cases h
 ·rename_i hg; simp only[y4l,y3g] at hg; exact⟨hasGood ht hg.1,leafGood hg.2⟩
theorem chgG (ht:treeE t=0) {x:TCh} (h:z1p t f y x=0):good x.B=true:=by
 unfold z1p at h
 split at h
 ·cases h
 ·split at h
  ·cases h
  ·rename_i hg; simp only[y4l,y3g] at hg; exact hasGood ht hg.1
theorem cmpLine {a b:TLi} (ha:good a.B=true) (hb:good b.B=true):F_q45 a b=some (orE [lexC (parts a.B) (parts b.B),cmpI a.C b.C]):=by
 simp only[F_q45,S_q45,Scr.den,z8h ha hb,z43,z64,obind]
theorem cmpBound {a b:TBo} (ha:good a.B=true) (hb:good b.B=true):F_q47 a b=some (orE [lexC (parts a.B) (parts b.B),cmpI a.C b.C]):=by
 simp only[F_q47,S_q47,Scr.den,z8h ha hb,z43,z64,obind]
theorem cmpEar {a b:TEa} (ha:good a.S=true/\good a.B=true) (hb:good b.S=true/\good b.B=true):F_q49 a b=some (orE [lexC (parts a.S) (parts b.S),lexC (parts a.B) (parts b.B)]):=by
 simp only[F_q49,S_q49,Scr.den,z8h ha.1 hb.1,z8h ha.2 hb.2,z64,obind]
theorem cmpRule (a b:TRu):F_q4c a b=some (cmpI a.H b.H):=by simp only[F_q4c,S_q4c,Scr.den,z43,obind]
theorem cmpChg {a b:TCh} (ha:good a.B=true) (hb:good b.B=true):F_q4f a b=some (orE [cmpI a.R b.R,lexC (parts a.B) (parts b.B),cmpI a.C b.C]):=by
 simp only[F_q4f,S_q4f,Scr.den,z8h ha hb,z43,z64,obind]
theorem cmpAmd (a b:TAm):F_q4d a b=some (orE [cmpI a.G b.G,cmpI a.H b.H]):=by simp only[F_q4d,S_q4d,Scr.den,z43,z64,obind]
theorem geRule (m n:Int):(decide (cmpI m n>=0))=!decide (m<n):=by
 unfold cmpI; rw[y1k]; simp only[y1i,y8,y12]; (repeat' split) <;> omega
theorem geAmd (a b:TAm):(decide (orE [cmpI a.G b.G,cmpI a.H b.H]>=0))=!ltA a b:=by
 unfold ltA
 simp only[z2c,z3h,cmpI]
 rw[y1k]
 simp only[y1i,y8,y1w,y27,y12]
 (repeat' split) <;> omega
theorem geChg (a b:TCh):(decide (orE [cmpI a.R b.R,lexC (parts a.B) (parts b.B),cmpI a.C b.C]>=0))=!ltX a b:=by
 unfold ltX ltC
 generalize lexC (parts a.B) (parts b.B)=u
 simp only[z2c,z3h,cmpI]
 rw[y1k]
 simp only[y1i,y8,y1w,y27,y12]
 (repeat' split) <;> omega
variable {l:TLa}
theorem eachL (hy:1<=l.I) {b:List TLi} (hl:b.length<=1000000):F_q1q b (ck l)=some (fstE b.length (lineE l.F l.E l.I b)):=by
 simp only[F_q1q,S_q1q,Scr.den]
 refine z58 (fun i hi h=>?_) fun i hi h hp=>?_
 ·simp only[S_q1q_b1,Scr.den,zgc hy,obind]
  rw[y7 (by simpa using h)]
 ·have hi':i-1<b.length:=om
  simp only[S_q1q_b1,Scr.den,zgc hy,obind,za]
  rw[y6 (by simpa using h)]
  by_cases h0:0<i
  ·have h':=hp h0
   skip
   simp only[wp h0 (show i<=1000000 from om),yi]
   rw[zq (by simp only[AllP,y3t,y8]; omega),cmpLine (lineG h') (lineG h),obind,z6 (by simp[h0,hi',AllP])]
   simp only[h0,y11 (show (i:Int)>0 from om),y1m,true_and,zoi (lineG h') (lineG h)]
   by_cases hq:ltC (b.getD (i-1) dF).B (b.getD (i-1) dF).C (b.getD i dF).B (b.getD i dF).C=true <;> simp[hq]
  ·have h0':i=0:=om
   subst h0'
   rw[Gh,obind,z6 (by simp[AllP]),y6 sj,y6 sj]
theorem eachB (ht:treeE l.F=0) (hy:1<=l.I) {b:List TBo} (hl:b.length<=1000000):F_q1d b (ck l)=some (fstE b.length (boundE l.F l.E l.I b)):=by
 simp only[F_q1d,S_q1d,Scr.den]
 refine z58 (fun i hi h=>?_) fun i hi h hp=>?_
 ·simp only[S_q1d_b1,Scr.den,zez hy,obind]
  rw[y7 (by simpa using h)]
 ·have hi':i-1<b.length:=om
  simp only[S_q1d_b1,Scr.den,zez hy,obind,za]
  rw[y6 (by simpa using h)]
  by_cases h0:0<i
  ·have h':=hp h0
   skip
   simp only[wp h0 (show i<=1000000 from om),yi]
   rw[zq (by simp only[AllP,y3t,y8]; omega),cmpBound (boundG ht h') (boundG ht h),obind,z6 (by simp[h0,hi',AllP])]
   simp only[h0,y11 (show (i:Int)>0 from om),y1m,true_and,zoi (boundG ht h') (boundG ht h)]
   by_cases hq:ltC (b.getD (i-1) dF).B (b.getD (i-1) dF).C (b.getD i dF).B (b.getD i dF).C=true <;> simp[hq]
  ·have h0':i=0:=om
   subst h0'
   rw[Gh,obind,z6 (by simp[AllP]),y6 sj,y6 sj]
theorem eachE (ht:treeE l.F=0) {b:List TEa} (hl:b.length<=1000000):F_q1r b (ck l)=some (fstE b.length (earE l.F b)):=by
 simp only[F_q1r,S_q1r,Scr.den]
 refine z58 (fun i hi h=>?_) fun i hi h hp=>?_
 ·simp only[S_q1r_b1,Scr.den,zb4,obind]
  rw[y7 (by simpa using h)]
 ·have hi':i-1<b.length:=om
  simp only[S_q1r_b1,Scr.den,zb4,obind,za]
  rw[y6 (by simpa using h)]
  by_cases h0:0<i
  ·have h':=hp h0
   skip
   simp only[wp h0 (show i<=1000000 from om),yi]
   rw[zq (by simp only[AllP,y3t,y8]; omega),cmpEar (earG ht h') (earG ht h),obind,z6 (by simp[h0,hi',AllP])]
   simp only[h0,y11 (show (i:Int)>0 from om),y1m,true_and,zpc]
   by_cases hq:(decide (lexC (parts (b.getD (i-1) dF).S) (parts (b.getD i dF).S)<0)||decide (lexC (parts (b.getD (i-1) dF).S) (parts (b.getD i dF).S)=0)&&decide (lexC (parts (b.getD (i-1) dF).B) (parts (b.getD i dF).B)<0))=true <;> (try rw[y45] at hq) <;> simp only[ltC,hq] <;> simp
  ·have h0':i=0:=om
   subst h0'
   rw[Gh,obind,z6 (by simp[AllP]),y6 sj,y6 sj]
theorem eachR {b:List TRu} (hl:b.length<=1000000):F_q1s b (ck l)=some (fstE b.length (ruleE l.F b)):=by
 simp only[F_q1s,S_q1s,Scr.den]
 refine z58 (fun i hi h=>?_) fun i hi h hp=>?_
 ·simp only[S_q1s_b1,Scr.den,zgd,obind]
  rw[y7 (by simpa using h)]
 ·have hi':i-1<b.length:=om
  simp only[S_q1s_b1,Scr.den,zgd,obind,za]
  rw[y6 (by simpa using h)]
  by_cases h0:0<i
  ·have h':=hp h0
   skip
   simp only[wp h0 (show i<=1000000 from om),yi]
   rw[zq (by simp only[AllP,y3t,y8]; omega),cmpRule,obind,z6 (by simp[h0,hi',AllP])]
   simp only[h0,y11 (show (i:Int)>0 from om),y1m,true_and,geRule]
   by_cases hq:(decide ((b.getD (i-1) dF).H<(b.getD i dF).H))=true <;> simp[hq]
  ·have h0':i=0:=om
   subst h0'
   rw[Gh,obind,z6 (by simp[AllP]),y6 sj,y6 sj]
theorem eachX (ht:treeE l.F=0) (hy:1<=l.I) {b:List TCh} (hl:b.length<=1000000):F_q1t b (ck l)=some (fstE b.length (chgE l.F l.E l.I b)):=by
 simp only[F_q1t,S_q1t,Scr.den]
 refine z58 (fun i hi h=>?_) fun i hi h hp=>?_
 ·simp only[S_q1t_b1,Scr.den,zd6 hy,obind]
  rw[y7 (by simpa using h)]
 ·have hi':i-1<b.length:=om
  simp only[S_q1t_b1,Scr.den,zd6 hy,obind,za]
  rw[y6 (by simpa using h)]
  by_cases h0:0<i
  ·have h':=hp h0
   skip
   simp only[wp h0 (show i<=1000000 from om),yi]
   rw[zq (by simp only[AllP,y3t,y8]; omega),cmpChg (chgG ht h') (chgG ht h),obind,z6 (by simp[h0,hi',AllP])]
   simp only[h0,y11 (show (i:Int)>0 from om),y1m,true_and,geChg]
   by_cases hq:ltX (b.getD (i-1) dF) (b.getD i dF)=true <;> simp[hq]
  ·have h0':i=0:=om
   subst h0'
   rw[Gh,obind,z6 (by simp[AllP]),y6 sj,y6 sj]
theorem eachC (hy:1<=l.I) {b:List TCo} (hl:b.length<=1000000):F_q2b b (ck l)=some (fstE b.length fun i=>z1w l.F l.E l.I (b.getD i dF)):=by
 simp only[F_q2b,S_q2b,Scr.den]
 refine z21 (fun i=>z1w l.F l.E l.I (b.getD i dF)) fun i hi hz=>?_
 have hi':i-1<b.length:=om
 simp only[S_q2b_b1,Scr.den,zn8 hy,F_q53,S_q53,obind,za]
 by_cases h:z1w l.F l.E l.I (b.getD i dF)=0
 ·rw[y6 (by simpa using h),y7 h]
  by_cases h0:0<i
  ·simp only[wp h0 (show i<=1000000 from om),yi]
   rw[zq (by simp only[AllP,y3t,y8]; omega),obind,z6 (by simp[h0,hi',AllP]),y6 sj]
  ·have h0':i=0:=om
   subst h0'
   rw[Gh,obind,z6 (by simp[AllP]),y6 sj]
 ·rw[y7 (by simpa using h),y6 h]
theorem zjt (hc:∀ x∈l.K,x.S.length<=1000000/\x.B.length<=1000000):F_qt (ck l)=some (shareE l.F l.K):=by
 simp only[F_qt,S_qt,Scr.den,show (ck l).leaves=leavesU l.F [] from rfl]
 rw[zy (leavesU l.F []) (fun c=>decide (shSum l.K c>100)) (fun _=>13) fun i hi=>by
  have hlen:((leavesU l.F []).getD i dF).length<=1000000:=by
   have:=z1l.1 (z8 hi)
   exact lenC (leafGood this)
  simp only[S_qt_b2,Scr.den,show (ck l).law=l from rfl]
  rw[z30 l.K (fun s x=>if und ((leavesU l.F []).getD i dF) x.S=true then i64.wrap (s+x.T) else s) fun j s hj=>by
   obtain⟨hcs,_⟩:=hc _ (z8 hj)
   simp only[S_qt_b1,Scr.den,show (ck l).leaves=leavesU l.F [] from rfl,show (ck l).law=l from rfl,z36 hlen hcs,obind]
   split <;> rfl]
  simp only[outM,<- zey]
  by_cases h:shSum l.K ((leavesU l.F []).getD i dF)>100 <;> simp[h]]
 unfold shareE
 split <;> rfl
theorem zdq (ht:treeE l.F=0) (hy:1<=l.I) (hc:∀ x∈l.A,x.Q.length<=1000000) (hl:l.A.length<=1000000):F_q2c (ck l)=some (fstE l.A.length (amdE l.F l.E l.I l.A)):=by
 simp only[F_q2c,S_q2c,Scr.den,show (ck l).law=l from rfl]
 refine z21 (amdE l.F l.E l.I l.A) fun i hi hz=>?_
 have hcl:=hc _ (z8 hi)
 have hi':i-1<l.A.length:=om
 simp only[S_q2c_b1,Scr.den,show (ck l).law=l from rfl,zjs,zd5,eachX ht hy hcl,cmpAmd,obind,za,zg,amdE]
 by_cases p1:(l.A.getD i dF).G<0\/(l.A.getD i dF).G>35990\/(l.A.getD i dF).H<1\/(l.A.getD i dF).H>1000000
 ·simp only[y7 p1]
  by_cases hd:0<=(l.A.getD i dF).G/\(l.A.getD i dF).G<=35990
  ·have e1:(decide ((l.A.getD i dF).G>=0)&&decide ((l.A.getD i dF).G<=35990))=true:=by simp only[ya,y8]; omega
   have e2:(decide ((l.A.getD i dF).H>=1)&&decide ((l.A.getD i dF).H<=1000000))=false:=by rw[yk]; simp only[ne_eq,ya,y8]; omega
   simp[e1,e2,oT,oN]
  ·have e1:(decide ((l.A.getD i dF).G>=0)&&decide ((l.A.getD i dF).G<=35990))=false:=by rw[yk]; simp only[ne_eq,ya,y8]; omega
   simp[e1,oF]
 simp only[y6 p1]
 have e1:(decide ((l.A.getD i dF).G>=0)&&decide ((l.A.getD i dF).G<=35990))=true:=by simp only[ya,y8]; omega
 have e2:(decide ((l.A.getD i dF).H>=1)&&decide ((l.A.getD i dF).H<=1000000))=true:=by simp only[ya,y8]; omega
 simp only[e1,e2]
 rw[Gg,obind,y6 sj]
 have he:(l.A.getD i dF).Q=[]↔((((l.A.getD i dF).Q).length:Int)==0)=true:=by
  rw[yn,<- y26]; omega
 have hfin:(if ((((l.A.getD i dF).Q).length:Int)==0)=true then some (Step.ret 1) else if (fstE (l.A.getD i dF).Q.length (chgE l.F l.E l.I (l.A.getD i dF).Q) != 0)=true then
   some (Step.ret (fstE (l.A.getD i dF).Q.length (chgE l.F l.E l.I (l.A.getD i dF).Q))) else some (Step.cont ()):Option (Step Unit Int)) =
   some (if (if (l.A.getD i dF).Q=[] then 1 else fstE (l.A.getD i dF).Q.length (chgE l.F l.E l.I (l.A.getD i dF).Q))=0 then Step.cont () else
    Step.ret (if (l.A.getD i dF).Q=[] then 1 else fstE (l.A.getD i dF).Q.length (chgE l.F l.E l.I (l.A.getD i dF).Q))):=by
  by_cases h:(l.A.getD i dF).Q=[]
  ·rw[y7 (he.1 h)]; simp only[y7 h]; rfl
  ·rw[y6 (fun h'=>h (he.2 h'))]; simp only[y6 h]
   by_cases h0:fstE (l.A.getD i dF).Q.length (chgE l.F l.E l.I (l.A.getD i dF).Q)=0
   ·simp[h0]
   ·simp[h0]
 by_cases h0:0<i
 ·simp only[wp h0 (show i<=1000000 from om),yi]
  rw[zq (by simp only[AllP,y3t,y8]; omega),obind,z6 (by simp[h0,hi',AllP])]
  simp only[geAmd,y11 (show (i:Int)>0 from om),y1m]
  by_cases hq:ltA (l.A.getD (i-1) dF) (l.A.getD i dF)=true
  ·rw[y6 (by simp[hq])]
   simp only[hq,y4u,and_false,y2g]
   exact hfin
  ·rw[y7 (by simp[hq])]
   simp only[show ltA (l.A.getD (i-1) dF) (l.A.getD i dF)=false by simpa using hq,h0,and_self,y3h]
   rfl
 ·have h0':i=0:=om
  subst h0'
  rw[Gh,obind,z6 (by simp[AllP]),y6 sj]
  simp only[Nat.lt_irrefl,false_and,y2g]
  exact hfin
theorem zlh (hs:SmL l):F_q43 ⟨l,[]⟩=some (if yrB l then 2 else if treeE l.F=0 then (if limB l then 3 else 0) else treeE l.F):=by
 simp only[F_q43,S_q43,Scr.den,z3t,obind,zg,zle hs.t]
 by_cases p1:yrB l
 ·rw[y7 p1]
  unfold yrB at p1
  by_cases hd:0<=l.E/\l.E<=99
  ·have e1:(decide (l.E>=0)&&decide (l.E<=99))=true:=by simp only[ya,y8]; omega
   simp only[e1]
   rw[Gg,obind,y7]
   by_cases hy:1<=l.I/\l.I<=4
   ·rw[wrapId om om]
    simp only[yj,y8]; omega
   ·have e2:(decide (l.I>=1)&&decide (l.I<=4))=false:=by rw[yk]; simp only[ne_eq,ya,y8]; omega
    simp[e2]
  ·have e1:(decide (l.E>=0)&&decide (l.E<=99))=false:=by rw[yk]; simp only[ne_eq,ya,y8]; omega
   simp only[e1]
   rw[Gh,obind,y7 sj]
 ·rw[y6 p1]
  have q1:¬ (l.E<0\/l.E>99\/l.I<1\/l.I>4\/l.E+l.I>100):=p1
  have e1:(decide (l.E>=0)&&decide (l.E<=99))=true:=by simp only[ya,y8]; omega
  have e2:(decide (l.I>=1)&&decide (l.I<=4))=true:=by simp only[ya,y8]; omega
  simp only[e1,e2]
  rw[Gg,obind,wrapId om om,y6 (by simp only[yj,y8,y55,yl,false_or]; omega)]
  by_cases p2:treeE l.F=0
  ·rw[y6 (by simp[p2]),y7 p2]
   have hcf:F_q42 l.A=some (l.A.any fun a=>decide (a.Q.length>20)):=by
    simp only[F_q42,S_q42,F_q2x,S_q2x,Scr.den]
    rw[zy l.A (fun a=>decide (a.Q.length>20)) (fun i=>(i:Int)) fun i hi=>by
     simp only[S_q2x_b1,F_q52,S_q52,Scr.den,obind]
     by_cases hx:(l.A.getD i dF).Q.length>20
     ·rw[y7 (by simp only[y8]; omega),y7 (y11 hx)]
     ·rw[y6 (by simp only[y8]; omega),y6 (by simpa using hx)]]
    split
    ·rename_i h; rw[h]; simp[outM]
    ·rename_i h; rw[yk.2 h]; simp only[outM,obind]; rfl
   by_cases h:l.P.length>120\/l.J.length>60\/l.O.length>60\/l.K.length>20\/l.M.length>20\/l.N.length>20\/l.A.length>20
   ·rw[z13 (by simp only[AllP,y3t,y1w,y12]; omega),obind,y7 (by simp only[yj,y8]; omega),y7 (by rcases h with h | h | h | h | h | h | h <;> simp[limB,h])]
   ·rw[zq (by simp only[AllP,y3t,y1w,y12]; omega),hcf,obind]
    by_cases ha:(l.A.any fun a=>decide (a.Q.length>20))=true
    ·rw[y7 (by rw[ha,Bool.or_true]),y7 (show limB l from .inr (.inr (.inr (.inr (.inr (.inr (.inr ha)))))))]
    ·rw[y6 (by rw[yk.2 ha]; simp only[yj,y8,y63]; omega),y6 (show ¬ limB l from fun hb=>by
      rcases hb with hb | hb | hb | hb | hb | hb | hb | hb
      ·exact h (.inl hb)
      ·exact h (.inr (.inl hb))
      ·exact h (.inr (.inr (.inl hb)))
      ·exact h (.inr (.inr (.inr (.inl hb))))
      ·exact h (.inr (.inr (.inr (.inr (.inl hb)))))
      ·exact h (.inr (.inr (.inr (.inr (.inr (.inl hb))))))
      ·exact h (.inr (.inr (.inr (.inr (.inr (.inr hb))))))
      ·exact ha hb)]
  ·rw[y7 (by simp[p2]),y6 p2]
theorem z59 (hs:SmL l):F_q35 l=some (errL l):=by
 simp only[F_q35,S_q35,Scr.den,zlh hs,obind]
 unfold errL
 by_cases p1:yrB l
 ·simp only[y7 p1]; rfl
 ·simp only[y6 p1]
  have q1:¬ (l.E<0\/l.E>99\/l.I<1\/l.I>4\/l.E+l.I>100):=p1
  have hy:1<=l.I:=om
  by_cases p2:treeE l.F=0
  ·simp only[y7 p2]
   by_cases p3:limB l
   ·simp only[y7 p3]; rfl
   ·simp only[y6 p3]
    rw[y6 sj]
    simp only[z8e hs.t hs.tl,obind]
    rw[show (⟨(⟨l,[]⟩:TChe).law,leavesU l.F []⟩:TChe)=ck l from rfl]
    simp only[eachL hy hs.ll,eachB p2 hy hs.cl,eachB p2 hy hs.fll,eachE p2 hs.el,zjt hs.ea,eachC hy hs.col,eachR hs.rl,zdq p2 hy (fun x hx=>(hs.am x hx).1) hs.al,zoh,obind]
  ·simp only[y6 p2]
   rw[y7 (by simpa using p2)]
end Go.Proofs.YtbmpcbbimefmoaaGreatDoor
/- Places in order. (Turned out of the plain law of chapter 13.) No condition. -/
namespace Go.Proofs.YtbmpcbbimefmoaaGreatDoor
open Go Go.TA
open Go.IntKind (i64)
def cmpP (a b:TPl):Int:=if cmpC a.code b.code≠0 then cmpC a.code b.code else cmpI a.year b.year
variable {a b:TPl}
theorem zhr (ha:a.code.length<=1000000) (hb:b.code.length<=1000000):F_q3d a b=some (cmpP a b):=by
 simp only[F_q3d,S_q3d,Scr.den,z7m ha hb,z43,z64,obind,z2c,z3h,cmpP]
 by_cases h:cmpC a.code b.code=0 <;> by_cases h2:cmpI a.year b.year=0 <;> simp[h,h2]
def isP (c:Y8) (y:Int) (p:TPl):Bool:=p.code==c&&p.year==y
variable {c:Y8} {y:Int}
theorem zc1 {p:TPl}:isP c y p=true↔p.code=c/\p.year=y:=by simp[isP]
def hasP (l:List TPl) (c:Y8) (y:Int):Bool:=l.any (isP c y)
def pix (l:List TPl) (c:Y8) (y:Int):Nat:=l.findIdx (isP c y)
variable {l:List TPl}
theorem zf0 (h:hasP l c y=true):pix l c y<l.length/\(l.getD (pix l c y) dF).code=c/\(l.getD (pix l c y) dF).year=y:=by
 have h1:pix l c y<l.length:=y4h.2 (by simpa [hasP,List.any_eq_true] using h)
 have h2:=y5m (xs:=l) (p:=isP c y) (w:=h1)
 refine⟨h1,?_⟩
 rw[show l.getD (pix l c y) dF=l[pix l c y] by simp[List.getD_eq_getElem?_getD,List.getElem?_eq_getElem h1]]
 exact zc1.1 h2
def PGood (p:TPl):Prop:=good p.code=true/\True
theorem zge:hasP l c y=true↔∃ x∈l,x.code=c/\x.year=y:=by
 unfold hasP
 rw[y1o]
 exact⟨fun⟨x,h1,h2⟩=>⟨x,h1,zc1.1 h2⟩,fun⟨x,h1,h2⟩=>⟨x,h1,zc1.2 h2⟩⟩
def Srt (l:List TPl):Prop:=∀ i,i<l.length->i=0\/cmpP (l.getD (i-1) dF) (l.getD i dF)<0
theorem z4u (h:good a.code=true\/good b.code=true):cmpP a b<0↔lexC (parts a.code) (parts b.code)<0\/(lexC (parts a.code) (parts b.code)=0/\a.year<b.year):=by
 unfold cmpP
 rw[z44 h]
 generalize lexC (parts a.code) (parts b.code)=c
 by_cases hc:c=0
 ·rw[y6 (by simpa using hc)]
  unfold cmpI
  by_cases h1:a.year<b.year
  ·rw[y7 h1]; simp[hc,h1]
  ·rw[y6 h1]
   split <;> simp[hc,h1]
 ·rw[y7 hc]; simp[hc]
theorem z5r (ha:good a.code=true) (hb:good b.code=true):cmpP a b=0↔a.code=b.code/\a.year=b.year:=by
 unfold cmpP
 rw[z44 (.inl ha)]
 by_cases hc:lexC (parts a.code) (parts b.code)=0
 ·rw[y6 (by simpa using hc)]
  have e:=z6h ha hb (z42 hc)
  unfold cmpI
  by_cases h1:a.year<b.year
  ·rw[y7 h1]; simp; omega
  ·rw[y6 h1]
   by_cases h2:a.year>b.year
   ·rw[y7 h2]; simp; omega
   ·rw[y6 h2]; simp[e]; omega
 ·rw[y7 hc]
  constructor
  ·intro h; exact absurd h hc
  ·rintro⟨h1,_⟩
   exact absurd (by rw[h1]; exact z35 _) hc
theorem zb5 {c:TPl} (ha:good a.code=true) (hb:good b.code=true) (h:cmpP a b<0) (h':cmpP b c<0):cmpP a c<0:=by
 rw[z4u (.inl ha)] at h |-
 rw[z4u (.inl hb)] at h'
 rcases h with h | ⟨h,h2⟩
 ·rcases h' with h' | ⟨h',_⟩
  ·exact .inl (z5j h h')
  ·rw[<- z42 h']; exact .inl h
 ·rcases h' with h' | ⟨h',h3⟩
  ·rw[z42 h]; exact .inl h'
  ·rw[z42 h]; exact .inr ⟨h',om⟩
theorem zju (ha:good a.code=true):cmpP b a=-cmpP a b:=by
 unfold cmpP
 rw[z44 (.inl ha),z44 (.inr ha),z8d (parts a.code) (parts b.code)]
 by_cases h:lexC (parts a.code) (parts b.code)=0
 ·rw[y6 om,y6 om]
  unfold cmpI
  by_cases h1:a.year<b.year
  ·rw[y6 om,y7 om,y7 h1]; rfl
  ·by_cases h2:b.year<a.year
   ·rw[y7 h2,y6 h1,y7 om]
   ·rw[y6 h2,y6 om,y6 h1,y6 om]; rfl
 ·rw[y7 om,y7 h]
theorem Srt.lt (h:Srt l) (hg:∀ r∈l,PGood r):∀ {i j:Nat},i<j->j<l.length->cmpP (l.getD i dF) (l.getD j dF)<0:=by
 intro i j hij
 induction j with
 | zero=>omega
 | succ j ih =>
  intro hj
  have h1:=(h (j+1) hj).resolve_left om
  rw[show j+1-1=j from om] at h1
  by_cases e:i=j
  ·subst e; exact h1
  ·exact zb5 (hg _ (z8 om)).1 (hg _ (z8 om)).1 (ih om om) h1
def posP (l:List TPl) (r:TPl):Nat:=l.findIdx (fun x=>decide (0<=cmpP x r))
variable {i:Nat}
theorem zh {α:Type} [Inhabited α] {l:List α} (hi:i<l.length):l.getD i dF=l[i]:=by simp[List.getD_eq_getElem?_getD,List.getElem?_eq_getElem hi]
theorem z5s (l:List TPl) (r:TPl):posP l r<=l.length:=List.findIdx_le_length
variable {r:TPl}
theorem zc2 (hi:i<posP l r):cmpP (l.getD i dF) r<0:=by
 have hl:i<l.length:=y1f hi (z5s l r)
 have:=List.not_of_lt_findIdx hi
 rw[zh hl]
 simpa using this
theorem zgf (hi:posP l r<l.length):0<=cmpP (l.getD (posP l r) dF) r:=by
 have:=y5m (xs:=l) (p:=fun x=>decide (0<=cmpP x r)) (w:=hi)
 rw[zh hi]
 exact y2m this
theorem zgg (hS:Srt l) (hg:∀ x∈l,PGood x) (hi:i<l.length) (hp:posP l r<=i):0<=cmpP (l.getD i dF) r:=by
 have h0:=zgf (l:=l) (r:=r) om
 by_cases e:posP l r=i
 ·rwa [e] at h0
 ·have h1:=hS.lt hg (show posP l r<i from om) hi
  by_cases h:cmpP (l.getD i dF) r<0
  ·have:=zb5 (hg _ (z8 om)).1 (hg _ (z8 hi)).1 h1 h
   omega
  ·omega
theorem zn9 {j:Nat} (h:i+j<4611686018427387904):i64.wrap ((IntKind.u64.wrap (i64.wrap ((i:Int)+(j:Int)))).fdiv (2 ^ (min (1:Int).toNat IntKind.u64.bits)))=(((i+j) / 2:Nat):Int):=by
 rw[wrapId (n:=(i:Int)+(j:Int)) om om]
 have e:IntKind.u64.wrap ((i:Int)+(j:Int))=(i:Int)+(j:Int):=by
  simp only[IntKind.wrap,IntKind.bits,IntKind.signed]
  simp
  omega
 rw[e]
 have e2:(2:Int) ^ (min (1:Int).toNat IntKind.u64.bits)=2:=dk
 rw[e2,Int.fdiv_eq_ediv_of_nonneg _ om,wrapId om om]
 omega
theorem PGood.len (h:PGood r):r.code.length<=1000000:=by have:=z4q h.1; omega
theorem zli (hg:∀ x∈l,PGood x) (k:Nat):(l.getD k dF).code.length<=1000000:=by
 by_cases h:k<l.length
 ·exact (hg _ (z8 h)).len
 ·rw[List.getD_eq_getElem?_getD,yf om]; exact y36 _
theorem zb6 (hl:l.length<=1000000) (hS:Srt l) (hg:∀ x∈l,PGood x) (hr:PGood r) :
  F_q1e r l=some ((posP l r:Int),decide (posP l r<l.length)&&(cmpP (l.getD (posP l r) dF) r==0)):=by
 have hc:∀ k,F_q3d (l.getD k dF) r=some (cmpP (l.getD k dF) r):=fun k=>zhr (zli hg k) hr.len
 have hp:=z5s l r
 simp only[F_q1e,S_q1e,Scr.den]
 obtain⟨s,e,hJ⟩:=z1b (step:=fun s=>(S_q1e_b1 r l s).den) (fun s=>(s.2-s.1).toNat) (fun s=>∃ i j:Nat,s=((i:Int),(j:Int))/\i<=posP l r/\posP l r<=j/\j<=l.length) (fun s=>s.1=(posP l r:Int)) (fun s hI=>by
  obtain⟨i,j,rfl,h1,h2,h3⟩:=hI
  simp only[S_q1e_b1,Scr.den,zn9 (show i+j<4611686018427387904 from om),hc,obind,yi]
  by_cases hij:i<j
  ·left
   rw[y7 (by simpa using hij),Gc,y1h]
   by_cases hlt:cmpP (l.getD ((i+j) / 2) dF) r<0
   ·rw[y7 (by simpa using hlt),wrapId om om]
    have:(i+j) / 2<posP l r:=by
     by_cases h:(i+j) / 2<posP l r
     ·exact h
     ·have:=zgg (r:=r) hS hg (show (i+j) / 2<l.length from om) om
      omega
    exact⟨_,rfl,⟨(i+j) / 2+1,j,sj,om,h2,h3⟩,by simp only; omega⟩
   ·rw[y6 (by simpa using hlt)]
    have:posP l r<=(i+j) / 2:=by
     by_cases h:posP l r<=(i+j) / 2
     ·exact h
     ·have:=zc2 (show (i+j) / 2<posP l r from om)
      omega
    exact⟨_,rfl,⟨i,(i+j) / 2,rfl,h1,this,om⟩,by simp only; omega⟩
  ·right
   rw[y6 (by simpa using hij)]
   exact⟨_,rfl,by simp only; omega⟩) _ (0,(l.length:Int)) (y2k _) ⟨0,l.length,rfl,om,hp,om⟩
 rw[e]
 simp only[outM,hJ,yi,hc,za,y1h]
 by_cases h:posP l r<l.length
 ·rw[zq (by exact⟨sk,trivial⟩),obind,z6 ⟨fun _=>om,fun _=>h,fun _=>h,trivial⟩]
  simp[h]
 ·rw[z13 (by simp[AllP]; omega),obind,z6 ⟨fun _=>om,fun h'=>absurd h (by simp[AllP] at h'; omega),fun h'=>absurd h (by simp[AllP] at h'; omega),trivial⟩]
  simp[h]
theorem z97 (hS:Srt l) (hg:∀ x∈l,PGood x) (hr:PGood r) :
  (decide (posP l r<l.length)&&(cmpP (l.getD (posP l r) dF) r==0))=hasP l r.code r.year/\(hasP l r.code r.year=true->pix l r.code r.year=posP l r):=by
 have key:hasP l r.code r.year=true->pix l r.code r.year=posP l r:=fun h=>by
  obtain⟨h1,h2,h3⟩:=zf0 h
  have h4:=hg _ (z8 h1)
  have h5:cmpP (l.getD (pix l r.code r.year) dF) r=0:=(z5r h4.1 hr.1).2 ⟨h2,h3⟩
  rcases Nat.lt_trichotomy (pix l r.code r.year) (posP l r) with h | h | h
  ·have:=zc2 h; omega
  ·exact h
  ·have h6:=hS.lt hg h h1
   have h7:=zgf (l:=l) (r:=r) om
   have h8:=hg _ (z8 (show posP l r<l.length from om))
   have:cmpP (l.getD (posP l r) dF) r<0:=by
    rw[z4u (.inl h8.1)] at h6 |-
    rw[h2,h3] at h6
    exact h6
   omega
 refine⟨?_,key⟩
 rw[y1k]
 simp only[ya,y8,yn]
 constructor
 ·rintro⟨h1,h2⟩
  obtain⟨h3,h4⟩:=(z5r (hg _ (z8 h1)).1 hr.1).1 h2
  exact zge.2 ⟨_,z8 h1,h3,h4⟩
 ·intro h
  obtain⟨h1,h2,h3⟩:=zf0 h
  rw[key h] at h1 h2 h3
  exact⟨h1,(z5r (hg _ (z8 h1)).1 hr.1).2 ⟨h2,h3⟩⟩
end Go.Proofs.YtbmpcbbimefmoaaGreatDoor
/- Rows in order: an element set,put in or taken out. No condition. -/
namespace Go.Proofs.YtbmpcbbimefmoaaGreatDoor
open Go Go.TA
open Go.IntKind (i64)
attribute [-simp] List.getD_eq_getElem?_getD
def PW (l:List TPl):Prop:=l.Pairwise fun a b=>cmpP a b<0
theorem zjv {l:List TPl} (h:PW l):Srt l:=fun i hi=>by
 by_cases h0:i=0
 ·exact .inl h0
 ·right
  have:=y20.1 h (i-1) i om hi om
  rw[zh hi,zh (show i-1<l.length from om)]
  exact this
theorem zjw {l:List TPl} (hg:∀ x∈l,PGood x) (h:Srt l):PW l:=y20.2 fun i j hi hj hij=>by
 have:=h.lt hg hij hj
 rwa [zh hi,zh hj] at this
theorem zgh {α:Type} [Inhabited α] (l:List α) (k:Nat) (hk:k<l.length) (z:α) :
  (clearL (copyL l (k-0) (l.length-(k+1)) (fun i=>l.getD ((0+(k+1))+i) dF)) (0+((k-0)+(l.length-(k+1)))) (l.length-((k-0)+(l.length-(k+1)))) z).take ((k-0)+(l.length-(k+1)))=l.eraseIdx k:=by
 refine List.ext_getElem ?_ fun i h1 h2=>?_
 ·rw[yx,z1t,zw,List.length_eraseIdx_of_lt hk]; omega
 ·have hi:i<l.length-1:=by rw[List.length_eraseIdx_of_lt hk] at h2; exact h2
  rw[y66,List.getElem_eraseIdx]
  simp only[clearL,List.getElem_mapIdx]
  rw[y6 om]
  simp only[copyL,y46,y5z]
  by_cases h:i<k
  ·rw[y6 om,y4a h,zh om]
  ·rw[y7 om,dif_neg h,zh om]
   congr 1; omega
section
variable {α:Type} (pl:α->TPl)
def putG (l:List α) (x:α) (rm:Bool):List α :=
 if hasP (l.map pl) (pl x).code (pl x).year=true then (if rm=true then l.eraseIdx (posP (l.map pl) (pl x)) else l.set (posP (l.map pl) (pl x)) x)
 else (if rm=true then l else insL l (posP (l.map pl) (pl x)) x)
structure OrdG (l:List α):Prop where
 pw:PW (l.map pl)
 good:∀ x∈l,good (pl x).code=true
variable {pl}
theorem OrdG.gd {l:List α} (h:OrdG pl l):∀ x∈l.map pl,PGood x:=fun x hx=>by
 obtain⟨y,hy,rfl⟩:=yz.1 hx
 exact⟨h.good y hy,trivial⟩
theorem OrdG.srt {l:List α} (h:OrdG pl l):Srt (l.map pl):=zjv h.pw
theorem zb7 [Inhabited α] {l:List α} (h:OrdG pl l) {x:α} (hx:good (pl x).code=true) (hh:hasP (l.map pl) (pl x).code (pl x).year=true) :
  posP (l.map pl) (pl x)<l.length/\(l.map pl).getD (posP (l.map pl) (pl x)) dF=pl x:=by
 obtain⟨h1,h2⟩:=z97 h.srt h.gd (r:=pl x) ⟨hx,trivial⟩
 obtain⟨k1,k2,k3⟩:=zf0 hh
 rw[h2 hh] at k1 k2 k3
 refine⟨by simpa using k1,?_⟩
 generalize (l.map pl).getD (posP (l.map pl) (pl x)) dF=p at k2 k3
 cases p
 cases hq:pl x
 rw[hq] at k2 k3
 simp only at k2 k3
 rw[k2,k3]
theorem za6 (l:List α) (x:α) (rm:Bool):(putG pl l x rm).length<=l.length+1:=by
 unfold putG
 split <;> split
 ·exact y2r (List.length_eraseIdx_le _ _)
 ·simp
 ·omega
 ·rw[z27]; exact yc _
theorem za7 {l:List α} {x y:α} {rm:Bool} (h:y∈putG pl l x rm):y=x\/y∈l:=by
 unfold putG at h
 split at h <;> split at h
 ·exact .inr (List.mem_of_mem_eraseIdx h)
 ·rcases List.mem_or_eq_of_mem_set h with h | h
  ·exact .inr h
  ·exact .inl h
 ·exact .inr h
 ·unfold insL at h
  rcases y1c.1 h with h | h
  ·exact .inr (y17 h)
  ·rcases yv.1 h with h | h
   ·exact .inl h
   ·exact .inr (y3e h)
theorem zf1 [Inhabited α] {l:List α} (h:OrdG pl l) {x:α} (hx:good (pl x).code=true) (rm:Bool):OrdG pl (putG pl l x rm):=by
 refine⟨?_,fun y hy=>?_⟩
 ·unfold putG
  split
  ·rename_i hh
   obtain⟨h1,h2⟩:=zb7 h hx hh
   split
   ·rw[z5w]
    exact y3y (List.eraseIdx_sublist _ _) h.pw
   ·rw[List.map_set]
    have:(l.map pl).set (posP (l.map pl) (pl x)) (pl x)=l.map pl:=by
     refine List.ext_getElem sj fun i a b=>?_
     rw[List.getElem_set]
     split
     ·rename_i e
      rw[<- h2,zh (by simpa using h1)]
      simp only[e]
     ·rfl
    rw[this]; exact h.pw
  ·rename_i hh
   split
   ·exact h.pw
   ·have hm:(insL l (posP (l.map pl) (pl x)) x).map pl=(l.map pl).take (posP (l.map pl) (pl x))++pl x :: (l.map pl).drop (posP (l.map pl) (pl x)):=by
     unfold insL; rw[y37,y2n,y61,List.map_drop]
    rw[hm]
    have hle:=z5s (l.map pl) (pl x)
    have hno:∀ q∈l.map pl,cmpP q (pl x)≠0:=fun q hq e=>by
     obtain⟨e1,e2⟩:=(z5r (h.gd q hq).1 hx).1 e
     exact hh (zge.2 ⟨q,hq,e1,e2⟩)
    refine y3m.2 ⟨y3y (List.take_sublist _ _) h.pw,y3j.2 ⟨fun q hq=>?_,y3y (List.drop_sublist _ _) h.pw⟩,fun a ha b hb=>?_⟩
    ·obtain⟨i,hi,e⟩:=List.mem_iff_getElem.1 hq
     rw[List.getElem_drop] at e
     have hi':posP (l.map pl) (pl x)+i<(l.map pl).length:=by simp only[y21] at hi; omega
     have h1:=zgg (r:=pl x) h.srt h.gd hi' om
     have h2:=hno q (y3e hq)
     have h3:=zju (a:=pl x) (b:=q) hx
     rw[zh hi',e] at h1
     omega
    ·obtain⟨i,hi,e⟩:=List.mem_iff_getElem.1 ha
     rw[y66] at e
     have hi':i<posP (l.map pl) (pl x):=by simp only[yx] at hi; omega
     have h1:=zc2 (r:=pl x) hi'
     rw[zh om,e] at h1
     rcases yv.1 hb with rfl | hb
     ·exact h1
     ·have:PW (l.map pl):=h.pw
      unfold PW at this
      rw[<- y2b (posP (l.map pl) (pl x)) (l.map pl)] at this
      exact (y3m.1 this).2.2 a ha b hb
 ·rcases za7 hy with rfl | hy
  ·exact hx
  ·exact h.good y hy
end
def plL (x:TLi):TPl:=⟨x.B,x.C⟩
def plB (x:TBo):TPl:=⟨x.B,x.C⟩
theorem cloneLine {l:List TLi} (hl:l.length<=1000000):F_q4j l=some l:=by
 simp only[F_q4j,S_q4j,Scr.den]
 rw[Ga]
theorem deleteLine {l:List TLi} (hl:l.length<=1000000) {k:Nat} (hk:k<l.length):F_q4k (k:Int) ((k+1:Nat):Int) l=some (l.eraseIdx k):=by
 simp only[F_q4k,S_q4k,Scr.den,yi]
 rw[z6 ⟨om,om,om,om,trivial⟩,y6 (by simp only[yn]; omega),Gb,
  z6 ⟨om,by rw[zw]; exact yc _,trivial⟩,z6 ⟨by rw[z1t,zw]; omega,trivial⟩,z6 ⟨by rw[z1t,zw]; omega,trivial⟩]
 rw[zgh l k hk]
theorem putLine {l:List TLi} (hl:l.length<=100000) (h:OrdG plL l) {x:TLi} (hx:good x.B=true) (rm:Bool):F_q2f l x rm=some (putG plL l x rm):=by
 simp only[F_q2f,S_q2f,Scr.den]
 rw[z1u l (fun _=>true) plL 1000000 om fun i s hi hs=>by
  simp only[S_q2f_b1,Scr.den,F_q3c,S_q3c,obind]
  rw[Ga,y7 trivial]; rfl]
 rw[y3q.2 (fun _ _=>rfl)]
 simp only[outM,F_q3c,S_q3c,Scr.den,obind]
 rw[show (⟨x.B,x.C⟩:TPl)=plL x from rfl]
 have hgx:PGood (plL x):=⟨hx,trivial⟩
 have hml:(l.map plL).length<=1000000:=sk
 rw[zb6 hml h.srt h.gd hgx,(z97 h.srt h.gd hgx).1,obind,cloneLine om,obind]
 have hp:=z5s (l.map plL) (plL x)
 simp only[y1q] at hp
 simp only[za,yi,y1h]
 unfold putG
 by_cases hh:hasP (l.map plL) (plL x).code (plL x).year=true
 ·obtain⟨k1,k2⟩:=zb7 h hx hh
  cases rm with
  | true =>
   rw[y7 (by simp[hh]),y7 hh,y7 rfl,wrapId om om,show ((posP (l.map plL) (plL x):Int)+1)=((posP (l.map plL) (plL x)+1:Nat):Int) from om,deleteLine om k1,obind]
  | false =>
   rw[y6 sj,y6 sj,y7 hh,y7 hh,y6 sj,z6 ⟨om,k1,k1,trivial⟩,z6 ⟨by rw[y23]; omega,trivial⟩]
 ·cases rm with
  | true =>
   rw[y6 (by simp[hh]),y7 rfl,y6 hh,y7 rfl,Ga]
  | false =>
   rw[y6 sj,y6 sj,y6 hh,y6 hh,y6 sj]
   simp only[F_q5e,yi]
   rw[z6 ⟨om,hp,om⟩,obind,z6 ⟨by rw[z27]; omega,trivial⟩]
theorem cloneBound {l:List TBo} (hl:l.length<=1000000):F_q4l l=some l:=by
 simp only[F_q4l,S_q4l,Scr.den]
 rw[Ga]
theorem deleteBound {l:List TBo} (hl:l.length<=1000000) {k:Nat} (hk:k<l.length):F_q4m (k:Int) ((k+1:Nat):Int) l=some (l.eraseIdx k):=by
 simp only[F_q4m,S_q4m,Scr.den,yi]
 rw[z6 ⟨om,om,om,om,trivial⟩,y6 (by simp only[yn]; omega),Gb,
  z6 ⟨om,by rw[zw]; exact yc _,trivial⟩,z6 ⟨by rw[z1t,zw]; omega,trivial⟩,z6 ⟨by rw[z1t,zw]; omega,trivial⟩]
 rw[zgh l k hk]
theorem putBound {l:List TBo} (hl:l.length<=100000) (h:OrdG plB l) {x:TBo} (hx:good x.B=true) (rm:Bool):F_q1v l x rm=some (putG plB l x rm):=by
 simp only[F_q1v,S_q1v,Scr.den]
 rw[z1u l (fun _=>true) plB 1000000 om fun i s hi hs=>by
  simp only[S_q1v_b1,Scr.den,F_q3e,S_q3e,obind]
  rw[Ga,y7 trivial]; rfl]
 rw[y3q.2 (fun _ _=>rfl)]
 simp only[outM,F_q3e,S_q3e,Scr.den,obind]
 rw[show (⟨x.B,x.C⟩:TPl)=plB x from rfl]
 have hgx:PGood (plB x):=⟨hx,trivial⟩
 have hml:(l.map plB).length<=1000000:=sk
 rw[zb6 hml h.srt h.gd hgx,(z97 h.srt h.gd hgx).1,obind,cloneBound om,obind]
 have hp:=z5s (l.map plB) (plB x)
 simp only[y1q] at hp
 simp only[za,yi,y1h]
 unfold putG
 by_cases hh:hasP (l.map plB) (plB x).code (plB x).year=true
 ·obtain⟨k1,k2⟩:=zb7 h hx hh
  cases rm with
  | true =>
   rw[y7 (by simp[hh]),y7 hh,y7 rfl,wrapId om om,show ((posP (l.map plB) (plB x):Int)+1)=((posP (l.map plB) (plB x)+1:Nat):Int) from om,deleteBound om k1,obind]
  | false =>
   rw[y6 sj,y6 sj,y7 hh,y7 hh,y6 sj,z6 ⟨om,k1,k1,trivial⟩,z6 ⟨by rw[y23]; omega,trivial⟩]
 ·cases rm with
  | true =>
   rw[y6 (by simp[hh]),y7 rfl,y6 hh,y7 rfl,Ga]
  | false =>
   rw[y6 sj,y6 sj,y6 hh,y6 hh,y6 sj]
   simp only[F_q5f,yi]
   rw[z6 ⟨om,hp,om⟩,obind,z6 ⟨by rw[z27]; omega,trivial⟩]
end Go.Proofs.YtbmpcbbimefmoaaGreatDoor
/- A law that is valid; changes carried out; the law in force. No condition. -/
namespace Go.Proofs.YtbmpcbbimefmoaaGreatDoor
open Go Go.TA
open Go.IntKind (i64)
attribute [-simp] List.getD_eq_getElem?_getD
theorem z8i {α:Type} [Inhabited α] {pl:α->TPl} {l:List α} {x y:α} {rm:Bool} (h:y∈putG pl l x rm):(y=x/\rm=false)\/y∈l:=by
 cases rm with
 | false=>exact (za7 h).imp (fun e=>⟨e,rfl⟩) id
 | true =>
  right
  unfold putG at h
  split at h
  ·rw[y7 rfl] at h; exact List.mem_of_mem_eraseIdx h
  ·rw[y7 rfl] at h; exact h
theorem zf2 {a b:TPl} (h:good a.code=true\/good b.code=true):cmpP a b<0↔ltC a.code a.year b.code b.year=true:=by
 rw[z4u h]; unfold ltC; simp
section
variable {α:Type} [Inhabited α] {pl:α->TPl}
theorem z7o {l:List α} {i:Nat} (hi:i<l.length):(l.map pl).getD i dF=pl (l.getD i dF):=by
 rw[zh (by simpa using hi),zh hi,y46]
theorem zgi {one:α->Int} (hg:∀ x,one x=0->good (pl x).code=true) {l:List α} :
  fstE l.length (chE (fun i=>one (l.getD i dF)) fun i=>ltC (pl (l.getD (i-1) dF)).code (pl (l.getD (i-1) dF)).year (pl (l.getD i dF)).code (pl (l.getD i dF)).year)=0 ↔
   OrdG pl l/\∀ x∈l,one x=0:=by
 rw[z18]
 constructor
 ·intro h
  have h1:∀ x∈l,one x=0:=fun x hx=>by
   obtain⟨i,hi,rfl⟩:=z34 hx
   exact z45 (h i hi)
  refine⟨⟨zjw (fun q hq=>?_) fun i hi=>?_,fun x hx=>hg x (h1 x hx)⟩,h1⟩
  ·obtain⟨x,hx,rfl⟩:=yz.1 hq
   exact⟨hg x (h1 x hx),trivial⟩
  ·have hi':i<l.length:=by simpa using hi
   by_cases h0:i=0
   ·exact .inl h0
   ·right
    rw[z7o hi',z7o (show i-1<l.length from om),zf2 (.inr (hg _ (h1 _ (z8 hi'))))]
    exact (z4r.1 (h i hi')).2 om
 ·rintro⟨ho,h1⟩ i hi
  refine z4r.2 ⟨h1 _ (z8 hi),fun h0=>?_⟩
  have:=(ho.srt i (by simpa using hi)).resolve_left om
  rwa [z7o hi,z7o (show i-1<l.length from om),zf2 (.inr (hg _ (h1 _ (z8 hi))))] at this
end
variable {t:List THe} {f y:Int}
theorem ordL {l:List TLi}:fstE l.length (lineE t f y l)=0↔OrdG plL l/\∀ x∈l,z1o t f y x=0 :=
 zgi (pl:=plL) (one:=z1o t f y) fun _ h=>lineG h
theorem ordBd (ht:treeE t=0) {l:List TBo}:fstE l.length (boundE t f y l)=0↔OrdG plB l/\∀ x∈l,z16 t f y x=0 :=
 zgi (pl:=plB) (one:=z16 t f y) fun _ h=>boundG ht h
structure RestOk (l:TLa):Prop where
 yr:¬ yrB l
 tr:treeE l.F=0
 li:¬ (l.K.length>20\/l.M.length>20\/l.N.length>20\/l.A.length>20\/l.A.any (fun a=>decide (a.Q.length>20))=true)
 ea:fstE l.K.length (earE l.F l.K)=0
 sh:shareE l.F l.K=0
 co:fstE l.M.length (fun i=>z1w l.F l.E l.I (l.M.getD i dF))=0
 ru:fstE l.N.length (ruleE l.F l.N)=0
 am:fstE l.A.length (amdE l.F l.E l.I l.A)=0
structure RowsOk (l:TLa):Prop where
 lo:OrdG plL l.P
 l1:∀ x∈l.P,z1o l.F l.E l.I x=0
 co:OrdG plB l.J
 c1:∀ x∈l.J,z16 l.F l.E l.I x=0
 fo:OrdG plB l.O
 f1:∀ x∈l.O,z16 l.F l.E l.I x=0
def bigL (l:TLa):Prop:=l.P.length>120\/l.J.length>60\/l.O.length>60
instance (l:TLa):Decidable (bigL l):=inferInstanceAs (Decidable (_\/_))
variable {l:TLa}
theorem z10:errL l=0↔RestOk l/\RowsOk l/\¬ bigL l:=by
 unfold errL
 by_cases p1:yrB l
 ·rw[y7 p1]; exact⟨fun h=>absurd h dk,fun h=>absurd p1 h.1.yr⟩
 rw[y6 p1]
 by_cases p2:treeE l.F=0
 ·rw[y7 p2]
  by_cases p3:limB l
  ·rw[y7 p3]
   refine⟨fun h=>absurd h dk,fun⟨h1,_,h3⟩=>?_⟩
   have h4:=h1.li
   unfold bigL at h3
   rcases p3 with p | p | p | p | p | p | p | p
   ·exact absurd (.inl p) h3
   ·exact absurd (.inr (.inl p)) h3
   ·exact absurd (.inr (.inr p)) h3
   ·exact absurd (.inl p) h4
   ·exact absurd (.inr (.inl p)) h4
   ·exact absurd (.inr (.inr (.inl p))) h4
   ·exact absurd (.inr (.inr (.inr (.inl p)))) h4
   ·exact absurd (.inr (.inr (.inr (.inr p)))) h4
  ·rw[y6 p3]
   have hz:∀ (a b c d e f g h:Int),orE [a,b,c,d,e,f,g,h]=0↔a=0/\b=0/\c=0/\d=0/\e=0/\f=0/\g=0/\h=0:=fun a b c d e f g h=>by
    simp only[z2c,z3h]
    constructor
    ·intro hh
     by_cases ha:a=0 <;> by_cases hb:b=0 <;> by_cases hc:c=0 <;> by_cases hd:d=0 <;> by_cases he:e=0 <;> by_cases hf:f=0 <;> by_cases hg:g=0 <;> by_cases hi:h=0 <;> simp_all
    ·rintro⟨rfl,rfl,rfl,rfl,rfl,rfl,rfl,rfl⟩; rfl
   rw[hz,ordL,ordBd p2,ordBd p2]
   constructor
   ·rintro⟨⟨a1,a2⟩,⟨b1,b2⟩,⟨c1,c2⟩,d,e,f,g,h⟩
    refine⟨⟨p1,p2,fun hb=>p3 ?_,d,e,f,g,h⟩,⟨a1,a2,b1,b2,c1,c2⟩,fun hb=>p3 ?_⟩
    ·exact .inr (.inr (.inr hb))
    ·rcases hb with hb | hb | hb
     ·exact .inl hb
     ·exact .inr (.inl hb)
     ·exact .inr (.inr (.inl hb))
   ·rintro⟨h1,h2,_⟩
    exact⟨⟨h2.lo,h2.l1⟩,⟨h2.co,h2.c1⟩,⟨h2.fo,h2.f1⟩,h1.ea,h1.sh,h1.co,h1.ru,h1.am⟩
 ·rw[y6 p2]; exact⟨fun h=>absurd h p2,fun h=>absurd h.1.tr p2⟩
def setS (x:TCh) (l:TLa):TLa :=
 if x.R=1 then { l with P:=putG plL l.P ⟨x.B,x.C,x.D⟩ (x.D==0) }
 else if x.R=2 then { l with J:=putG plB l.J ⟨x.B,x.C,x.D⟩ (x.D==-1) }
 else if x.R=3 then { l with O:=putG plB l.O ⟨x.B,x.C,x.D⟩ (x.D==0) }
 else l
structure WL (n:Nat) (l:TLa):Prop where
 lo:OrdG plL l.P
 ll:l.P.length<=n
 co:OrdG plB l.J
 cl:l.J.length<=n
 fo:OrdG plB l.O
 fl:l.O.length<=n
theorem putLo {l:List TLi} (h:OrdG plL l) {x:TLi} (hx:good x.B=true) (rm:Bool):OrdG plL (putG plL l x rm):=zf1 h hx rm
theorem putBo {l:List TBo} (h:OrdG plB l) {x:TBo} (hx:good x.B=true) (rm:Bool):OrdG plB (putG plB l x rm):=zf1 h hx rm
variable {x:TCh} {n:Nat}
theorem zna (h:WL n l) (hx:good x.B=true):WL (n+1) (setS x l):=by
 unfold setS
 have g1:=h.ll; have g2:=h.cl; have g3:=h.fl
 split
 ·exact⟨putLo h.lo hx _,y2c (za6 _ _ _) (Nat.succ_le_succ g1),h.co,y2r g2,h.fo,y2r g3⟩
 ·split
  ·exact⟨h.lo,y2r g1,putBo h.co hx _,y2c (za6 _ _ _) (Nat.succ_le_succ g2),h.fo,y2r g3⟩
  ·split
   ·exact⟨h.lo,y2r g1,h.co,y2r g2,putBo h.fo hx _,y2c (za6 _ _ _) (Nat.succ_le_succ g3)⟩
   ·exact⟨h.lo,y2r g1,h.co,y2r g2,h.fo,y2r g3⟩
theorem zoj (hn:n<=100000) (h:WL n l) (hx:good x.B=true):F_q4n x l=some (setS x l):=by
 have g1:=h.ll; have g2:=h.cl; have g3:=h.fl
 simp only[F_q4n,S_q4n,Scr.den]
 unfold setS
 by_cases k1:x.R=1
 ·rw[y7 (by simpa using k1),y7 k1,putLine om h.lo hx,obind]
 ·rw[y6 (by simpa using k1),y6 k1]
  by_cases k2:x.R=2
  ·rw[y7 (by simpa using k2),y7 k2,putBound om h.co hx,obind]
  ·rw[y6 (by simpa using k2),y6 k2]
   by_cases k3:x.R=3
   ·rw[y7 (by simpa using k3),y7 k3,putBound om h.fo hx,obind]
   ·rw[y6 (by simpa using k3),y6 k3]
theorem zd7 (x:TCh) (l:TLa):(setS x l).E=l.E/\(setS x l).I=l.I/\(setS x l).F=l.F/\(setS x l).K=l.K/\(setS x l).M=l.M /\
  (setS x l).N=l.N/\(setS x l).A=l.A:=by
 unfold setS
 split
 ·exact⟨rfl,rfl,rfl,rfl,rfl,rfl,rfl⟩
 ·split
  ·exact⟨rfl,rfl,rfl,rfl,rfl,rfl,rfl⟩
  ·split <;> exact⟨rfl,rfl,rfl,rfl,rfl,rfl,rfl⟩
theorem zjx (h:RowsOk l) (ht:treeE l.F=0) (hx:z1p l.F l.E l.I x=0):RowsOk (setS x l):=by
 have hg:=chgG ht hx
 have hx':¬ (has l.F x.B=false\/(x.R=1/\leafT l.F x.B=false))/\¬ (inY l.E l.I x.C=false/\(x.R=1\/x.C≠-1))/\¬ (amt x.D=false/\(x.R≠2\/x.D≠-1)):=by
  unfold z1p at hx
  split at hx
  ·cases hx
  ·split at hx
   ·cases hx
   ·split at hx
    ·cases hx
    ·split at hx
     ·cases hx
     ·rename_i a b c d; exact⟨b,c,d⟩
 obtain⟨q1,q2,q3⟩:=hx'
 have hb:∀ rm:Bool,(rm=true\/amt x.D=true)->rm=false->z16 l.F l.E l.I ⟨x.B,x.C,x.D⟩=0:=fun rm h1 h2=>by
  unfold z16
  rw[y6 (fun h=>q1 (.inl h)),y6 (fun h=>q2 ⟨h.2,.inr h.1⟩),y6 (by rcases h1 with h1 | h1; rw[h1] at h2; cases h2; simp[h1])]
 unfold setS
 split
 ·rename_i k1
  refine⟨putLo h.lo hg _,fun y hy=>?_,h.co,h.c1,h.fo,h.f1⟩
  rcases z8i hy with ⟨rfl,_⟩ | hy
  ·unfold z1o
   have e1:leafT l.F x.B=true:=by
    cases e:leafT l.F x.B
    ·exact absurd (.inr ⟨k1,e⟩) q1
    ·rfl
   have e2:inY l.E l.I x.C=true:=by
    cases e:inY l.E l.I x.C
    ·exact absurd ⟨e,.inl k1⟩ q2
    ·rfl
   have e3:amt x.D=true:=by
    cases e:amt x.D
    ·exact absurd ⟨e,.inl om⟩ q3
    ·rfl
   show (if leafT l.F x.B=false then (5:Int) else if inY l.E l.I x.C=false then 16 else if amt x.D=false then 2 else 0)=0
   simp[e1,e2,e3]
  ·exact h.l1 y hy
 ·split
  ·rename_i k2
   refine⟨h.lo,h.l1,putBo h.co hg _,fun y hy=>?_,h.fo,h.f1⟩
   rcases z8i hy with ⟨rfl,hr⟩ | hy
   ·refine hb _ ?_ hr
    by_cases e:amt x.D=true
    ·exact .inr e
    ·left
     have:¬ (x.R≠2\/x.D≠-1):=fun h=>q3 ⟨by simpa using e,h⟩
     simp only[y4l,ne_eq,y4i] at this
     simpa using this.2
   ·exact h.c1 y hy
  ·rename_i k1 k2
   split
   ·refine⟨h.lo,h.l1,h.co,h.c1,putBo h.fo hg _,fun y hy=>?_⟩
    rcases z8i hy with ⟨rfl,hr⟩ | hy
    ·refine hb _ ?_ hr
     right
     cases e:amt x.D
     ·exact absurd ⟨e,.inl k2⟩ q3
     ·rfl
    ·exact h.f1 y hy
   ·exact h
end Go.Proofs.YtbmpcbbimefmoaaGreatDoor
/- The law in force. No condition. -/
namespace Go.Proofs.YtbmpcbbimefmoaaGreatDoor
open Go Go.TA
open Go.IntKind (i64)
attribute [-simp] List.getD_eq_getElem?_getD
def applyS (cs:List TCh) (l:TLa):TLa:=cs.foldl (fun l x=>setS x l) l
def zL:TLa:=⟨0,0,[],[],[],[],[],[],[],[]⟩
theorem zb8 (a b:List TCh) (l:TLa):applyS (a++b) l=applyS b (applyS a l):=y67
theorem zfv (cs:List TCh):∀ l:TLa,(applyS cs l).E=l.E/\(applyS cs l).I=l.I/\(applyS cs l).F=l.F/\(applyS cs l).K=l.K /\
  (applyS cs l).M=l.M/\(applyS cs l).N=l.N/\(applyS cs l).A=l.A:=by
 induction cs with
 | nil=>intro l; exact⟨rfl,rfl,rfl,rfl,rfl,rfl,rfl⟩
 | cons x cs ih =>
  intro l
  obtain⟨a1,a2,a3,a4,a5,a6,a7⟩:=ih (setS x l)
  obtain⟨b1,b2,b3,b4,b5,b6,b7⟩:=zd7 x l
  exact⟨a1.trans b1,a2.trans b2,a3.trans b3,a4.trans b4,a5.trans b5,a6.trans b6,a7.trans b7⟩
variable {cs:List TCh}
theorem z8j (hc:∀ x∈cs,good x.B=true):∀ {n:Nat} {l:TLa},WL n l->WL (n+cs.length) (applyS cs l):=by
 induction cs with
 | nil=>intro n l h; exact h
 | cons x cs ih =>
  intro n l h
  have:=ih (fun y hy=>hc y (ym _ hy)) (zna h (hc x y1a))
  rwa [y10,show n+(cs.length+1)=n+1+cs.length from om]
theorem zfw:∀ {l:TLa},RowsOk l->treeE l.F=0->(∀ x∈cs,z1p l.F l.E l.I x=0)->RowsOk (applyS cs l):=by
 induction cs with
 | nil=>intro l h _ _; exact h
 | cons x cs ih =>
  intro l h ht hc
  obtain⟨b1,b2,b3,_⟩:=zd7 x l
  exact ih (zjx h ht (hc x y1a)) (by rw[b3]; exact ht) (fun y hy=>by rw[b1,b2,b3]; exact hc y (ym _ hy))
structure FewL (l:TLa):Prop where
 t:l.F.length<=1000000
 li:l.P.length<=1000000
 c:l.J.length<=1000000
 f:l.O.length<=1000000
 e:l.K.length<=1000000
 o:l.M.length<=1000000
 r:l.N.length<=1000000
 a:l.A.length<=1000000
 x:∀ x∈l.A,x.Q.length<=1000000
variable {l:TLa}
theorem zhs (h:FewL l):F_q1u l=some l:=by
 have g1:=h.t; have g2:=h.li; have g3:=h.c; have g4:=h.f; have g5:=h.e; have g6:=h.o; have g7:=h.r; have g8:=h.a
 simp only[F_q1u,S_q1u,Scr.den,F_q56,S_q56,F_q57,S_q57,F_q4i,S_q4i,
  F_q58,S_q58,F_q59,S_q59,F_q5a,S_q5a]
 rw[Ga,obind,Ga,obind,Ga,obind,Ga,obind,Ga,obind,Ga,obind,Ga,obind]
 obtain⟨s,e,hs⟩:=zp (body:=fun i s=>(S_q1u_b1 l i s).den) (n:=l.A.length) (fun i s=>s=(l.E,l.I,l.F,l.P,l.J,l.O,l.K,l.M,l.N,l.A.take i))
  (s0:=(l.E,l.I,l.F,l.P,l.J,l.O,l.K,l.M,l.N,[])) rfl (fun i s hi h1=>by
   subst h1
   have hx:=h.x _ (z8 hi)
   refine⟨_,?_,rfl⟩
   simp only[S_q1u_b1,Scr.den,F_q5b,S_q5b]
   rw[Ga,obind,z6 ⟨by rw[yx]; omega,trivial⟩]
   rw[y13 hi,zh hi])
 rw[e,hs]
 simp only[outM,y1y]
 rw[Ga]
theorem zlj {n:Nat} (hf:FewL l) (h:WL n l) (hc:∀ x∈cs,good x.B=true) (hn:n+cs.length<=100000) :
  F_q1f l cs=some (if bigL (applyS cs l) then (zL,3) else (applyS cs l,0)):=by
 simp only[F_q1f,S_q1f,Scr.den,zhs hf,obind]
 rw[Ga]
 obtain⟨s,e,hs⟩:=zp (body:=fun i s=>(S_q1f_b1 cs i s).den) (n:=cs.length) (fun i s=>s=applyS (cs.take i) l) (s0:=l) rfl (fun i s hi h1=>by
  refine⟨_,?_,rfl⟩
  have hw:WL (n+i) s:=by
   rw[h1]
   have:=z8j (cs:=cs.take i) (fun x hx=>hc x (y17 hx)) h
   rwa [yx,y5n om] at this
  simp only[S_q1f_b1,Scr.den,y1h]
  rw[z6 ⟨hi,trivial⟩,zoj om hw (hc _ (z8 hi)),obind,h1,y13 hi,zb8,zh hi]
  rfl)
 rw[e,hs]
 simp only[outM,y1y,zg]
 by_cases hb:bigL (applyS cs l)
 ·rw[y7 hb,y7 (by unfold bigL at hb; simp only[yj,y8]; omega)]
  rfl
 ·rw[y6 hb,y6 (by unfold bigL at hb; simp only[yj,y8]; omega)]
def laterI (l:TLa) (d:Int):Nat:=l.A.findIdx fun a=>decide (a.G>d)
def nowC (l:TLa) (d:Int):List TCh:=(l.A.take (laterI l d)).flatMap (·.Q)
def forceL (l:TLa) (d:Int):TLa:=applyS (nowC l d) { l with A:=l.A.drop (laterI l d) }
def inS (l:TLa) (d:Int):TLa×Int:=if errL l=0 then (if d<0\/d>36000 then (zL,2) else if bigL (forceL l d) then (zL,3) else (forceL l d,0)) else (zL,errL l)
theorem zd8 (l:TLa) (d:Int):laterI l d<=l.A.length:=List.findIdx_le_length
theorem zc3 {L:List TAm} {k:Nat} (h:∀ a∈L,a.Q.length<=k):(L.flatMap (·.Q)).length<=L.length * k:=by
 induction L with
 | nil=>simp
 | cons a L ih =>
  have h1:=ih fun x hx=>h x (ym _ hx)
  have h2:=h a y1a
  rw[y4z,yb,y10,y1r]; omega
theorem z7p (h:RestOk l):l.A.length<=20/\∀ a∈l.A,a.Q.length<=20:=by
 have h1:=h.li
 simp only[y4l] at h1
 refine⟨om,fun a ha=>?_⟩
 have:=h1.2.2.2.2
 rcases yu 20 a.Q.length with h2 | h2
 ·exact absurd (y1o.2 ⟨a,ha,y11 h2⟩) this
 ·exact h2
theorem zf3 (h:RestOk l):∀ a∈l.A,∀ c∈a.Q,z1p l.F l.E l.I c=0:=fun a ha c hc=>by
 obtain⟨i,hi,rfl⟩:=z34 ha
 have h1:=z18.1 h.am i hi
 unfold amdE at h1
 split at h1
 ·cases h1
 ·split at h1
  ·cases h1
  ·split at h1
   ·cases h1
   ·obtain⟨j,hj,rfl⟩:=z34 hc
    exact z45 (z18.1 h1 j hj)
theorem zc4 (h:RestOk l) (d:Int):∀ c∈nowC l d,z1p l.F l.E l.I c=0:=fun c hc=>by
 obtain⟨a,ha,hca⟩:=y3r.1 hc
 exact zf3 h a (y17 ha) c hca
theorem zgj (h:RestOk l) (d:Int):(nowC l d).length<=400:=by
 obtain⟨h1,h2⟩:=z7p h
 have:=zc3 (L:=l.A.take (laterI l d)) (k:=20) fun a ha=>h2 a (y17 ha)
 have h3:=zd8 l d
 unfold nowC
 rw[yx] at this
 have:min (laterI l d) l.A.length * 20<=20 * 20:=yo 20 om
 omega
theorem zmc (h:RowsOk l) (hb:¬ bigL l):WL 120 l:=by
 unfold bigL at hb
 exact⟨h.lo,om,h.co,om,h.fo,om⟩
theorem zht (hs:SmL l) (d:Int):F_q1g l d=some (inS l d):=by
 simp only[F_q1g,S_q1g,Scr.den,z59 hs,obind,zg]
 unfold inS
 by_cases hne:¬ errL l=0
 ·rw[y7 (by simpa using hne),y6 hne]; rfl
 have he:errL l=0:=y4i.1 hne
 rw[y6 (by simpa using he),y7 he]
 by_cases hd:d<0\/d>36000
 ·rw[y7 (by simpa using hd),y7 hd]; rfl
 rw[y6 (by simpa using hd),y6 hd]
 obtain⟨hr,hw,hb⟩:=z10.1 he
 obtain⟨f1,f2⟩:=z7p hr
 have hle:=zd8 l d
 have hidx:∃ v,F_q2e l.A d=some v/\(if v<0 then (l.A.length:Int) else v)=(laterI l d:Int):=by
  simp only[F_q2e,S_q2e,Scr.den]
  rw[zy l.A (fun a=>decide (a.G>d)) (fun i=>(i:Int)) fun i hi=>by
   simp only[S_q2e_b1,F_q55,S_q55,Scr.den,obind]
   split <;> rfl]
  by_cases ha:(l.A.any fun a=>decide (a.G>d))=true
  ·rw[y7 ha]
   refine⟨_,rfl,?_⟩
   have h0:¬ ((l.A.findIdx fun a=>decide (a.G>d):Nat):Int)<0:=om
   exact y6 h0
  ·rw[y6 ha]
   refine⟨_,rfl,?_⟩
   rw[y7 dk]
   have:laterI l d=l.A.length:=y52.2 fun a ha'=>by
    cases h:decide (a.G>d)
    ·rfl
    ·exact absurd (y1o.2 ⟨a,ha',h⟩) ha
   rw[this]
 obtain⟨v,hv,hv2⟩:=hidx
 rw[hv,obind]
 have hcut:(if decide (v<0)=true then some (Out.next (l.A.length:Int)) else some (Out.next v):Option (Out Int R_q1g))=some (.next (laterI l d:Int)):=by
  rw[<- hv2]
  by_cases h:v<0
  ·rw[y7 (y11 h),y7 h]
  ·rw[y6 (by simpa using h),y6 h]
 rw[hcut]
 simp only[outM,yi]
 rw[z6 ⟨om,hle,trivial⟩]
 obtain⟨s,e,h1⟩:=zp (body:=fun i s=>(S_q1g_b1 l (laterI l d:Int) i s).den) (n:=(l.A.take (laterI l d)).length) (fun i s=>s=((l.A.take (laterI l d)).take i).flatMap (·.Q)) (s0:=[]) rfl (fun i s hi h1=>by
  refine⟨_,?_,rfl⟩
  have hsl:s.length<=400:=by
   rw[h1]
   have:=zc3 (L:=(l.A.take (laterI l d)).take i) (k:=20) fun a ha=>f2 a (y17 (y17 ha))
   have h3:((l.A.take (laterI l d)).take i).length * 20<=20 * 20:=yo 20 (by rw[yx,yx]; omega)
   omega
  have hcl:=f2 _ (y17 (z8 hi))
  simp only[S_q1g_b1,Scr.den,yi]
  rw[Ga,h1,y13 hi,y47,zh hi]
  simp)
 rw[e,h1]
 simp only[y1y]
 have hcc:∀ x∈nowC l d,good x.B=true:=fun x hx=>chgG hr.tr (zc4 hr d x hx)
 have hlim:=hr.li
 have htl:l.F.length<=60:=by
  have:=hr.tr
  unfold treeE at this
  split at this
  ·cases this
  ·omega
 have hbb:=hb
 unfold bigL at hbb
 have hfew:FewL { l with A:=l.A.drop (laterI l d) }:=⟨by simp only; omega,by simp only; omega,by simp only; omega,by simp only; omega,by simp only; omega,by simp only; omega,by simp only; omega,
  by simp only[y21]; omega,fun x hx=>by have:=f2 x (y3e hx); omega⟩
 have hwl:WL 120 { l with A:=l.A.drop (laterI l d) }:=zmc (l:={ l with A:=l.A.drop (laterI l d) }) ⟨hw.lo,hw.l1,hw.co,hw.c1,hw.fo,hw.f1⟩ hb
 have hnl:=zgj hr d
 rw[show (l.A.take (laterI l d)).flatMap (·.Q)=nowC l d from rfl]
 show ((F_q1f { l with A:=l.A.drop (laterI l d) } (nowC l d)).bind fun r=>some (r.1,r.2))=_
 rw[zlj hfew hwl hcc om,obind]
 rfl
end Go.Proofs.YtbmpcbbimefmoaaGreatDoor
/- A law is the same as itself; the days; the law in force on a later day. No condition. -/
namespace Go.Proofs.YtbmpcbbimefmoaaGreatDoor
open Go Go.TA
open Go.IntKind (i64)
attribute [-simp] List.getD_eq_getElem?_getD
theorem z6p {ρ:Type} {body:Nat->Unit->Option (Step Unit ρ)} {n:Nat} (hs:∀ i,i<n->body i ()=some (.cont ())):rangeM body n 0 ()=some (.next ()):=by
 obtain⟨s,e,_⟩:=zp (body:=body) (n:=n) (fun _ _=>True) (s0:=()) trivial (fun i s hi _=>⟨(),hs i hi,trivial⟩)
 exact e
theorem z4f (l:TLa) (d:Int):(forceL l d).E=l.E/\(forceL l d).I=l.I/\(forceL l d).F=l.F/\(forceL l d).K=l.K /\
  (forceL l d).M=l.M/\(forceL l d).N=l.N/\(forceL l d).A=l.A.drop (laterI l d):=zfv (nowC l d) _
theorem zlk {α:Type} {l:List α} {k:Nat} {p:α->Bool} (h:(l.drop k).any p=true):l.any p=true:=by
 obtain⟨x,hx,e⟩:=y1o.1 h
 exact y1o.2 ⟨x,y3e hx,e⟩
theorem zll {t:List THe} {f y:Int} {L:List TAm} (h:fstE L.length (amdE t f y L)=0) (k:Nat):fstE (L.drop k).length (amdE t f y (L.drop k))=0:=by
 rw[z18] at h |-
 intro i hi
 rw[y21] at hi
 have hk:k+i<L.length:=om
 have h1:=h (k+i) hk
 have e:∀ j,k+j<L.length->(L.drop k).getD j dF=L.getD (k+j) dF:=fun j hj=>by
  rw[zh (by rw[y21]; omega),zh hj,List.getElem_drop]
 unfold amdE at h1 |-
 rw[e i hk]
 by_cases h0:0<i
 ·rw[e (i-1) om]
  rw[show k+i-1=k+(i-1) from om] at h1
  have:0<k+i↔0<i:=om
  simp only[this] at h1
  exact h1
 ·have hz:¬ (0<i/\ltA ((L.drop k).getD (i-1) dF) (L.getD (k+i) dF)=false):=fun h=>h0 h.1
  rw[y6 hz]
  split at h1
  ·cases h1
  ·rename_i p1
   rw[y6 p1]
   split at h1
   ·cases h1
   ·exact h1
theorem zlm {l:TLa} (he:errL l=0) (d:Int) (hb:¬ bigL (forceL l d)):errL (forceL l d)=0:=by
 obtain⟨hr,hw,_⟩:=z10.1 he
 obtain⟨a1,a2,a3,a4,a5,a6,a7⟩:=z4f l d
 refine z10.2 ⟨⟨?_,?_,?_,?_,?_,?_,?_,?_⟩,?_,hb⟩
 ·have:=hr.yr; unfold yrB at this |-; rw[a1,a2]; exact this
 ·rw[a3]; exact hr.tr
 ·have:=hr.li
  rw[a4,a5,a6,a7]
  intro h
  refine this ?_
  rcases h with h | h | h | h | h
  ·exact .inl h
  ·exact .inr (.inl h)
  ·exact .inr (.inr (.inl h))
  ·exact .inr (.inr (.inr (.inl (by rw[y21] at h; omega))))
  ·exact .inr (.inr (.inr (.inr (zlk h))))
 ·rw[a3,a4]; exact hr.ea
 ·rw[a3,a4]; exact hr.sh
 ·rw[a1,a2,a3,a5]; exact hr.co
 ·rw[a3,a6]; exact hr.ru
 ·rw[a1,a2,a3,a7]; exact zll hr.am _
 ·exact zfw (l:={ l with A:=l.A.drop (laterI l d) }) ⟨hw.lo,hw.l1,hw.co,hw.c1,hw.fo,hw.f1⟩ hr.tr (zc4 hr d)
end Go.Proofs.YtbmpcbbimefmoaaGreatDoor
/- Trees that are made. No condition. -/
namespace Go.Proofs.YtbmpcbbimefmoaaGreatDoor
open Go Go.TA
open Go.IntKind (i64)
attribute [-simp] List.getD_eq_getElem?_getD
variable {w:Y8} {n:Int}
theorem znb (h:pv w=some n):w=Lib.decDigits n.toNat/\1<=n/\n<=99:=by
 obtain⟨k,h1,h2,rfl,rfl⟩:=zep h
 exact⟨by rw[yi,z6w om],om,om⟩
theorem za8:∀ {ws:List Y8} {ns:List Int},nums ws=some ns->ws=ns.map (fun n=>Lib.decDigits n.toNat)/\∀ n∈ns,1<=n/\n<=99
 | [],ns,h=>by cases h; exact⟨rfl,fun n hn=>by simp at hn⟩
 | w :: ws,ns,h=>by
  simp only[nums] at h
  cases hv:pv w with
  | none=>simp[hv] at h
  | some v =>
   cases hn:nums ws with
   | none=>simp[hv,hn] at h
   | some m =>
    simp only[hv,hn,y1z,yw] at h
    subst h
    obtain⟨h1,h2⟩:=za8 hn
    obtain⟨k1,k2⟩:=znb hv
    exact⟨by rw[y2n,<- h1,<- k1],fun n hn'=>by
     rcases yv.1 hn' with rfl | hn'
     ·exact k2
     ·exact h2 n hn'⟩
variable {c:Y8}
theorem zjy (h:good c=true):c=joinD ((parts c).map fun n=>Lib.decDigits n.toNat):=by
 rw[<- (za8 (z1c h).1).1,z51]
theorem zfx {ns:List Int} (hl:ns.length<=4) (hn:∀ n∈ns,1<=n/\n<=99):F_q1h ns=some (joinD (ns.map fun n=>Lib.decDigits n.toNat)):=by
 simp only[F_q1h,S_q1h,Scr.den]
 rw[y6 (by simp only[y8]; omega),Ga]
 have hd:∀ n:Int,(Lib.decDigits n.toNat).length<=20\/¬ (1<=n/\n<=99):=fun n=>by
  by_cases h:1<=n/\n<=99
  ·left
   rw[z6w om]
   unfold z89
   split <;> simp
  ·exact .inr h
 obtain⟨s,e,h1,_⟩:=zp (body:=fun i s=>(S_q1h_b1 ns i s).den) (n:=ns.length) (fun i s=>s=joinD ((ns.take i).map fun n=>Lib.decDigits n.toNat)/\s.length<=30 * i) (s0:=[]) ⟨rfl,sj⟩ (fun i s hi ⟨h1,h2⟩=>by
  have hr:=hn _ (z8 hi)
  have hdl:(Lib.decDigits (ns.getD i dF).toNat).length<=20:=(hd _).resolve_right (by simpa using hr)
  have hI:F_q5d (ns.getD i dF)=some (Lib.decDigits (ns.getD i dF).toNat):=z6 ⟨om,om⟩
  simp only[S_q1h_b1,Scr.den,y1h,hI,obind,zg]
  rw[z6 ⟨hi,trivial⟩,y6 (by simp only[yj,y8]; omega)]
  have ht:(ns.take (i+1)).map (fun n=>Lib.decDigits n.toNat)=(ns.take i).map (fun n=>Lib.decDigits n.toNat)++[Lib.decDigits (ns.getD i dF).toNat]:=by
   rw[y13 hi,y37,zh hi]; rfl
  by_cases h0:0<i
  ·rw[y7 (by simp only[y8]; omega),z6 ⟨by simp only[y10,y1n]; omega,trivial⟩]
   simp only[outM]
   rw[z6 ⟨by rw[yb,y10,y1n]; omega,trivial⟩]
   refine⟨_,rfl,?_,by rw[yb,yb,y10,y1n]; omega⟩
   rw[ht,z57 (by
    intro h
    have:=congrArg List.length h
    rw[y1q,yx] at this
    simp only[y1n] at this
    omega) sj,<- h1]
   simp[joinD]
  ·have h0':i=0:=om
   subst h0'
   rw[y6 sj]
   simp only[outM]
   have hs:s=[]:=by rw[h1]; rfl
   subst hs
   rw[z6 ⟨by simp only[y1n]; omega,trivial⟩]
   refine⟨_,rfl,?_,by simp only[y2e]; omega⟩
   rw[ht]; rfl)
 rw[e,h1]
 simp only[outM,y1y]
theorem zln {a:Y8} (hw:∀ c∈w,c.toNat≠46):ldot (a++46 :: w) (a++46 :: w).length=a.length:=by
 have key:∀ k,k<=w.length->ldot (a++46 :: w) (a.length+1+k)=a.length:=by
  intro k
  induction k with
  | zero =>
   intro _
   show (if ((a++46 :: w).getD a.length 0).toNat=46 then a.length else _)=_
   rw[y7]
   rw[List.getD_eq_getElem?_getD,y1j (yc _)]; simp
  | succ k ih =>
   intro hk
   show (if ((a++46 :: w).getD (a.length+1+k) 0).toNat=46 then a.length+1+k else ldot _ (a.length+1+k))=_
   rw[y6,ih om]
   rw[List.getD_eq_getElem?_getD,y1j om,show a.length+1+k-a.length=k+1 from om,List.getElem?_cons_succ,yh om]
   exact hw _ (y58 _)
 have:=key w.length (yc _)
 rwa [show a.length+1+w.length=(a++46 :: w).length from sk] at this
theorem zlo (hc:good c=true) (hl:(parts c).length<4) (hw:pv w=some n):good (c++46 :: w)=true/\parts (c++46 :: w)=parts c++[n]/\par (c++46 :: w)=c:=by
 obtain⟨_,_,_,_,hdig⟩:=zb0 hw
 have hnd:∀ x∈w,x.toNat≠46:=fun x hx=>by have:=hdig x hx; omega
 have hpw:pieces w=[w]:=by
  have:∀ w:Y8,(∀ x∈w,x.toNat≠46)->pieces w=[w]:=by
   intro w
   induction w with
   | nil=>intro _; rfl
   | cons x w ih =>
    intro h
    rw[z17,ih fun y hy=>h y (ym _ hy),y6]
    have:=h x y1a
    intro e
    have e:x=46:=by simpa using e
    exact this (by rw[e]; rfl)
  exact this w hnd
 obtain⟨h1,h2,h3⟩:=z1c hc
 have hn:∀ xs ns,nums xs=some ns->nums (xs++[w])=some (ns++[n]):=by
  intro xs
  induction xs with
  | nil=>intro ns h; cases h; simp[nums,hw]
  | cons x xs ih =>
   intro ns h
   simp only[y2f,nums] at h |-
   cases hv:pv x with
   | none=>simp[hv] at h
   | some v =>
    cases hm:nums xs with
    | none=>simp[hv,hm] at h
    | some m =>
     simp only[hv,hm,y1z,yw] at h
     subst h
     simp[ih m hm]
 have hp:parts (c++46 :: w)=parts c++[n]:=by
  unfold parts
  rw[z5l,hpw,hn _ _ h1]
  simp only[yb,yd]
  rw[y6 om]
  rw[h1]
  simp only
  rw[y6 om]
 have hg:good (c++46 :: w)=true:=by rw[<- z4e,hp]; simp
 refine⟨hg,hp,?_⟩
 unfold par
 rw[y7 hg,zln hnd,List.take_left']
 rfl
end Go.Proofs.YtbmpcbbimefmoaaGreatDoor
/- Trees that are made. No condition. -/
namespace Go.Proofs.YtbmpcbbimefmoaaGreatDoor
open Go Go.TA
open Go.IntKind (i64)
attribute [-simp] List.getD_eq_getElem?_getD
def ltK (a b:Y8):Bool:=decide (lexC (parts a) (parts b)<0)
def insK (c:Y8):List Y8->List Y8
 | []=>[c]
 | x :: l=>if ltK c x=true then c :: x :: l else x :: insK c l
theorem zf4 {c x:Y8}:∀ {l:List Y8},l.any (ltK c)=true->insK c (l++[x])=insK c l++[x]
 | [],h=>by cases h
 | y :: l,h=>by
  rw[y2f]
  unfold insK
  by_cases hy:ltK c y=true
  ·rw[y7 hy,y7 hy]; rfl
  ·rw[y6 hy,y6 hy,zf4 (by rw[y4b] at h; simpa [hy] using h)]; rfl
theorem z8k {c:Y8} {m:List Y8}:∀ {l:List Y8},l.any (ltK c)=false->insK c (l++m)=l++insK c m
 | [],_=>rfl
 | y :: l,h=>by
  rw[y4b,y1w] at h
  rw[y2f]
  conv=>lhs; unfold insK
  rw[y6 (by rw[h.1]; simp),z8k h.2]; rfl
theorem za9 (c:Y8):∀ l,(insK c l).length=l.length+1
 | []=>rfl
 | y :: l=>by
  unfold insK
  split
  ·rfl
  ·rw[y10,za9 c l]; rfl
theorem z3u {c x:Y8}:∀ {l:List Y8},x∈insK c l↔x=c\/x∈l
 | []=>by simp[insK]
 | y :: l=>by
  unfold insK
  split
  ·simp
  ·rw[yv,z3u,yv]
   constructor
   ·rintro (h | h | h)
    ·exact .inr (.inl h)
    ·exact .inl h
    ·exact .inr (.inr h)
   ·rintro (h | h | h)
    ·exact .inr (.inl h)
    ·exact .inl h
    ·exact .inr (.inr h)
structure CL (l:List Y8):Prop where
 pw:l.Pairwise fun a b=>ltK a b=true
 gd:∀ c∈l,good c=true
 pa:∀ c∈l,par c=[]\/par c∈l
variable {l:List Y8} {c:Y8}
theorem zok (h:CL l) (hc:good c=true) (hn:c ∉ l) (hp:par c=[]\/par c∈l):CL (insK c l):=by
 refine⟨?_,fun x hx=>?_,fun x hx=>?_⟩
 ·have key:∀ m:List Y8,m.Pairwise (fun a b=>ltK a b=true)->(∀ x∈m,good x=true)->c ∉ m->(insK c m).Pairwise (fun a b=>ltK a b=true):=by
   intro m
   induction m with
   | nil=>intro _ _ _; exact y3p _ _
   | cons y m ih =>
    intro h1 h2 h3
    obtain⟨h4,h5⟩:=y3j.1 h1
    unfold insK
    by_cases hy:ltK c y=true
    ·rw[y7 hy]
     refine y3j.2 ⟨fun z hz=>?_,h1⟩
     rcases yv.1 hz with rfl | hz
     ·exact hy
     ·exact y11 (z5j (y2m hy) (y2m (h4 z hz)))
    ·rw[y6 hy]
     refine y3j.2 ⟨fun z hz=>?_,ih h5 (fun x hx=>h2 x (ym _ hx)) fun h=>h3 (ym _ h)⟩
     rcases z3u.1 hz with rfl | hz
     ·have h6:¬ lexC (parts z) (parts y)<0:=by simpa [ltK] using hy
      have h7:lexC (parts z) (parts y)≠0:=fun e=>h3 (by rw[z6h hc (h2 y y1a) (z42 e)]; exact y1a)
      have h8:=z8d (parts z) (parts y)
      exact y11 om
     ·exact h4 z hz
  exact key l h.pw h.gd hn
 ·rcases z3u.1 hx with rfl | hx
  ·exact hc
  ·exact h.gd x hx
 ·rcases z3u.1 hx with rfl | hx
  ·exact hp.imp id fun h=>z3u.2 (.inr h)
  ·exact (h.pa x hx).imp id fun h=>z3u.2 (.inr h)
def withS (l:List Y8) (c:Y8):List Y8:=if c∈l then l else insK c l
theorem zc5 (h:CL l) (hl:l.length<=1000000) (hc:good c=true):F_qw l c=some (withS l c):=by
 simp only[F_qw,S_qw,Scr.den]
 unfold withS
 have hst:∀ (i:Nat) (s:List Y8×Bool),i<l.length->s.1.length<=2000000->(S_qw_b1 l c i s).den=some (if c=l.getD i dF then .ret l else .cont (if ltK c (l.getD i dF)=true/\s.2=false then (s.1++[c]++[l.getD i dF],true) else (s.1++[l.getD i dF],s.2))):=fun i s hi hsl=>by
  have hg:=h.gd _ (z8 hi)
  simp only[S_qw_b1,Scr.den,z2a hc hg,obind,za]
  by_cases he:c=l.getD i dF
  ·rw[y7 (by rw[<- he,z35]; rfl),y7 he]
  ·have hne:lexC (parts c) (parts (l.getD i dF))≠0:=fun e=>he (z6h hc hg (z42 e))
   rw[y6 (by simpa using hne),y6 he]
   by_cases hlt:ltK c (l.getD i dF)=true/\s.2=false
   ·rw[y7 (by rw[show decide (lexC (parts c) (parts (l.getD i dF))<0)=true from hlt.1,hlt.2]; rfl),Ga]
    simp only[outM]
    rw[z6 ⟨by rw[yb,yd]; omega,trivial⟩,y7 hlt]
   ·rw[y6 (by
     intro hh
     simp only[ya,y1i] at hh
     exact hlt ⟨hh.1,hh.2⟩)]
    simp only[outM]
    rw[Ga,y6 hlt]
 by_cases hm:c∈l
 ·rw[y7 hm]
  obtain⟨k,hk,e⟩:=z34 hm
  have hloop:∀ (j i:Nat) (s:List Y8×Bool),i+j=l.length->i<=k->s.1.length<=2 * i->rangeM (fun i s=>(S_qw_b1 l c i s).den) j i s=some (.ret l):=by
   intro j
   induction j with
   | zero=>intro i s hij hik _; omega
   | succ j ih =>
    intro i s hij hik hsl
    simp only[rangeM,hst i s om om]
    by_cases he:c=l.getD i dF
    ·rw[y7 he]
    ·rw[y6 he]
     refine ih (i+1) _ om ?_ ?_
     ·rcases yu i k with h | h
      ·omega
      ·have:i=k:=om
       rw[this] at he
       exact absurd e.symm he
     ·split <;> simp only[yb,yd] <;> omega
  rw[hloop l.length 0 _ om om sj]
  rfl
 ·rw[y6 hm]
  obtain⟨s,e,h1,_⟩:=zp (body:=fun i s=>(S_qw_b1 l c i s).den) (n:=l.length) (fun i s=>s=(if (l.take i).any (ltK c)=true then (insK c (l.take i),true) else (l.take i,false))/\s.1.length<=i+1) (s0:=([],false)) ⟨rfl,sj⟩ (fun i s hi ⟨h1,h2⟩=>by
   have hne:¬ c=l.getD i dF:=fun e=>hm (by rw[e]; exact z8 hi)
   have ht:l.take (i+1)=l.take i++[l.getD i dF]:=by rw[y13 hi,zh hi]
   refine⟨_,by rw[hst i s hi om,y6 hne],?_⟩
   rw[ht,List.any_append]
   by_cases ha:(l.take i).any (ltK c)=true
   ·rw[y7 ha] at h1
    rw[h1,ha]
    simp only[y4u,and_false,y2g,y4s,y3h]
    rw[zf4 ha]
    refine⟨rfl,?_⟩
    rw[h1] at h2
    simp only[yb,yd] at h2 |-
    omega
   ·rw[y6 ha] at h1
    have ha':=yk.2 ha
    rw[h1,ha']
    simp only[y3t,y3o,y4b,List.any_nil,y63]
    by_cases hlt:ltK c (l.getD i dF)=true
    ·rw[y7 hlt,y7 hlt,z8k ha']
     refine⟨?_,by simp only[yb,yd,yx]; omega⟩
     unfold insK
     rw[y7 hlt]
     simp
    ·rw[y6 hlt,y6 hlt]
     exact⟨rfl,by simp only[yb,yd,yx]; omega⟩)
  rw[e,h1,y1y]
  simp only[outM]
  by_cases ha:l.any (ltK c)=true
  ·rw[y7 ha]
   simp only
   rw[y6 sj,z6 ⟨by rw[za9]; omega,trivial⟩]
  ·rw[y6 ha]
   simp only
   have hi:insK c l=l++[c]:=by
    have:=z8k (m:=[]) (yk.2 ha)
    rw[y2v] at this
    exact this
   rw[y7 sj,Ga,z6 ⟨by simp only[yb,yd]; omega,trivial⟩,hi]
theorem zaa (h:CL l) (hc:good c=true) (hp:par c=[]\/par c∈l):CL (withS l c):=by
 unfold withS
 split
 ·exact h
 ·exact zok h hc aj hp
theorem z8l (l:List Y8) (c:Y8):(withS l c).length<=l.length+1/\l.length<=(withS l c).length:=by
 unfold withS
 split
 ·omega
 ·rw[za9]; omega
theorem z5a {x:Y8}:x∈withS l c↔x=c\/x∈l:=by
 unfold withS
 split
 ·rename_i h
  exact⟨.inr,fun h'=>h'.elim (fun e=>e▸h) id⟩
 ·exact z3u
end Go.Proofs.YtbmpcbbimefmoaaGreatDoor
/- Trees that are made. No condition. -/
namespace Go.Proofs.YtbmpcbbimefmoaaGreatDoor
open Go Go.TA
open Go.IntKind (i64)
attribute [-simp] List.getD_eq_getElem?_getD
structure MT (t:List THe):Prop where
 ok:treeE t=0
 ge:1<=t.length
 le:t.length<=11
theorem zlp {c:Y8} (hc:good c=true) (hl:(parts c).length<3) {n:Int} (hn:n∈([1,2,3,10]:List Int)) :
  F_q1h (parts c++[n])=some (c++46 :: Lib.decDigits n.toNat)/\good (c++46 :: Lib.decDigits n.toNat)=true/\par (c++46 :: Lib.decDigits n.toNat)=c:=by
 have hr:1<=n/\n<=99:=by simp at hn; rcases hn with rfl | rfl | rfl | rfl <;> omega
 have hw:pv (Lib.decDigits n.toNat)=some n:=by
  have h1:=(z5i ⟨n.toNat,om⟩ (by simp only; omega)).1
  simp only at h1
  rw[z6w om,h1]
  congr 1; omega
 obtain⟨k1,k2,k3⟩:=zlo hc om hw
 obtain⟨h1,h2,h3⟩:=z1c hc
 refine⟨?_,k1,k3⟩
 rw[zfx (by rw[yb,yd]; omega) (fun m hm=>by
  rcases y1c.1 hm with hm | hm
  ·exact (za8 h1).2 m hm
  ·have:m=n:=by simpa using hm
   rw[this]; exact hr)]
 congr 1
 rw[y37,z57 (by
  intro e
  have:=congrArg List.length e
  rw[y1q,y1n] at this
  omega) sj,<- zjy hc]
 rfl
theorem CL0:CL [[49],[50]]:=⟨dk,dk,dk⟩
end Go.Proofs.YtbmpcbbimefmoaaGreatDoor
/- What is drawn: amounts,years,leaves,codes,changes. No condition. -/
namespace Go.Proofs.YtbmpcbbimefmoaaGreatDoor
open Go Go.TA
open Go.IntKind (i64)
attribute [-simp] List.getD_eq_getElem?_getD
theorem MT.good {t:List THe} (h:MT t):∀ x∈t,good x.B=true:=fun x hx=>hasGood h.ok (y1o.2 ⟨x,hx,sj⟩)
theorem nameL {s:Y8} (h:nameOk s=true):s.length<=40:=by
 unfold nameOk at h
 simp only[ya,y8] at h
 exact h.1.1.1.2
variable {t:List THe}
theorem treeName (h:treeE t=0):∀ x∈t,nameOk x.W=true:=fun x hx=>by
 obtain⟨i,hi,rfl⟩:=z34 hx
 unfold treeE at h
 split at h
 ·cases h
 ·have:=z18.1 h i hi
  unfold headE at this
  split at this
  ·cases this
  ·split at this
   ·cases this
   ·rename_i h; simpa using h
theorem MT.sm (h:MT t):SmT t:=fun x hx=>⟨lenC (h.good x hx),by have:=nameL (treeName h.ok x hx); omega⟩
variable {top:Y8}
theorem zfy (hs:SmT t) (hl:t.length<=1000000) (ht:top.length<=1000000):F_qr t top=some (leavesU t top):=by
 simp only[F_qr,S_qr,Scr.den]
 rw[z1u t (fun h=>good h.B&&(top==[]||und h.B top)&&t.all fun x=>!(par x.B==h.B)) (·.B) 1000000 hl fun i s hi hsl=>by
  obtain⟨hc,_⟩:=hs _ (z8 hi)
  have hin:rangeM (fun i1 s1=>(S_qr_b1 t i i1 s1).den) t.length 0 true=some (.next (t.all fun x=>!(par x.B==(t.getD i dF).B))):=by
   rw[z30 t (fun s x=>s&&!(par x.B==(t.getD i dF).B)) fun j b hj=>by
    obtain⟨hcj,_⟩:=hs _ (z8 hj)
    simp only[S_qr_b1,Scr.den,z3n hcj,za]
    cases b <;> simp[oT,oF,oN]]
   rw[zd0,y1m]
  simp only[S_qr_b2,Scr.den,z2m (l:=(t.getD i dF).B) om,z15 hc ht,obind,hin,outM,za,zg]
  by_cases hg:good (t.getD i dF).B=true <;> by_cases h0:top=[] <;> by_cases hu:und (t.getD i dF).B top=true <;> simp[hg,h0,hu,oT,oF,oN] <;> (split <;> first | rfl | (rw[z6 ⟨by first | omega | (simp only[y10,y1n]; omega),trivial⟩]))]
 simp only[outM]
 rfl
def leafs (t:List THe):List Y8:=leavesU t [49]++leavesU t [50]
theorem z8m:∀ c∈leavesU t top,good c=true:=fun c hc=>by
 unfold leavesU at hc
 obtain⟨x,hx,rfl⟩:=yz.1 hc
 have:=(y1x.1 hx).2
 simp only[ya] at this
 exact this.1.1
theorem zjz (h:MT t) {s:TTape} (hs:TapeOk s):∃ c s',F_qg t s=some (c,s')/\TapeOk s'/\good c=true/\(leafs t≠[]->c∈leafs t):=by
 have hle:=h.le
 have g1:=z1f t [49]
 have g2:=z1f t [50]
 simp only[F_qg,S_qg,Scr.den,zfy h.sm (show t.length<=1000000 from om) (show ([49]:Y8).length<=1000000 from sj),z1g h.sm (show t.length<=1000000 from om) (show ([50]:Y8).length<=1000000 from sj),obind]
 rw[Ga,z6 ⟨by rw[yb]; omega,trivial⟩]
 rw[show leavesU t [49]++leavesU t [50]=leafs t from rfl]
 have gl:(leafs t).length<=22:=by unfold leafs; rw[yb]; omega
 by_cases h0:(leafs t).length=0
 ·rw[y7 (by simp only[yn]; omega)]
  exact⟨_,_,rfl,hs,dk,fun hne=>absurd (y26.1 h0) hne⟩
 ·rw[y6 (by simp only[yn]; omega)]
  obtain⟨v,s',e,o,l,u⟩:=zm (n:=((leafs t).length:Int)) hs om om
  rw[e,obind,z6 ⟨l,om,trivial⟩]
  have hm:=z8 (l:=leafs t) (i:=v.toNat) om
  refine⟨_,_,rfl,o,?_,fun _=>hm⟩
  unfold leafs at hm |-
  rcases y1c.1 hm with hm | hm
  ·exact z8m _ hm
  ·exact z8m _ hm
end Go.Proofs.YtbmpcbbimefmoaaGreatDoor
/- Changes that are made. No condition. -/
namespace Go.Proofs.YtbmpcbbimefmoaaGreatDoor
open Go Go.TA
open Go.IntKind (i64)
attribute [-simp] List.getD_eq_getElem?_getD
structure ChOk (f y:Int) (t:List THe) (c:TCh):Prop where
 gd:good c.B=true
 k:c.R=1\/c.R=2\/c.R=3
 k1:c.R=1->(leafs t≠[]->c.B∈leafs t)/\(f<=c.C/\c.C<f+y)/\0<=c.D/\c.D<=1000000000000
 k2:c.R≠1->has t c.B=true/\(c.C=-1\/(f<=c.C/\c.C<f+y))/\(0<=c.D/\c.D<=1000000000000\/(c.R=2/\c.D=-1))
structure ChsOk (f y:Int) (t:List THe) (l:List TCh):Prop where
 ok:∀ c∈l,ChOk f y t c
 le:l.length<=3
 ge:1<=l.length
 kd:l.Pairwise fun a b=>a.R<b.R
end Go.Proofs.YtbmpcbbimefmoaaGreatDoor
/- What else is made: earmarks,conditions,rules. No condition. -/
namespace Go.Proofs.YtbmpcbbimefmoaaGreatDoor
open Go Go.TA
open Go.IntKind (i64)
attribute [-simp] List.getD_eq_getElem?_getD
section
variable {f y:Int} (hy:1<=y/\y<=3) {t:List THe} (ht:MT t)
include ht
include hy
end
end Go.Proofs.YtbmpcbbimefmoaaGreatDoor
/- Laws that are made. No condition. -/
namespace Go.Proofs.YtbmpcbbimefmoaaGreatDoor
open Go Go.TA
open Go.IntKind (i64)
attribute [-simp] List.getD_eq_getElem?_getD
end Go.Proofs.YtbmpcbbimefmoaaGreatDoor
/- Laws that are made. No condition. -/
namespace Go.Proofs.YtbmpcbbimefmoaaGreatDoor
open Go Go.TA
open Go.IntKind (i64)
attribute [-simp] List.getD_eq_getElem?_getD
structure ML (l:TLa):Prop where
 fi:0<=l.E/\l.E<=95
 ye:1<=l.I/\l.I<=3
 tr:MT l.F
 ok:errL l=0
 sm:SmL l
 ll:l.P.length<=33
 cl:l.J.length<=44
 fl:l.O.length<=44
 al:l.A.length<=3
 ac:∀ a∈l.A,a.Q.length<=3
section
variable {f y:Int} (hf:0<=f/\f<=95) (hy:1<=y/\y<=3) {t:List THe} (ht:MT t)
include hf hy
include ht
end
end Go.Proofs.YtbmpcbbimefmoaaGreatDoor
/- The law AmendmentLater. No condition. -/
namespace Go.Proofs.YtbmpcbbimefmoaaGreatDoor
open Go Go.TA
open Go.IntKind (i64)
attribute [-simp] List.getD_eq_getElem?_getD
def lineA (l:List TLi) (c:Y8) (y:Int):Int:=match l.find? (fun x=>x.B==c&&x.C==y) with
 | some x=>x.D
 | none=>0
theorem z72 (l:TLa) (c:Y8) (y:Int):F_q13 l c y=some (lineA l.P c y):=by
 simp only[F_q13,S_q13,Scr.den]
 rw[z7l l.P (fun x=>x.B==c&&x.C==y) (·.D) fun i hi=>by
  simp only[S_q13_b1,Scr.den,za]
  split <;> rfl]
 unfold lineA
 cases l.P.find? (fun x=>x.B==c&&x.C==y) <;> rfl
theorem z4g {l:TLa} (he:errL l=0):SmL l:=by
 obtain⟨hr,hw,hb⟩:=z10.1 he
 obtain⟨f1,f2⟩:=z7p hr
 have hlim:=hr.li
 unfold bigL at hb
 have ht:=hr.tr
 have htl:l.F.length<=60:=by
  unfold treeE at ht
  split at ht
  ·cases ht
  ·omega
 have hE:∀ x∈l.K,z5m l.F x=0:=fun x hx=>by
  obtain⟨i,hi,rfl⟩:=z34 hx
  exact z45 (z18.1 hr.ea i hi)
 have hC:∀ x∈l.M,z1w l.F l.E l.I x=0:=fun x hx=>by
  obtain⟨i,hi,rfl⟩:=z34 hx
  exact z18.1 hr.co i hi
 refine⟨fun x hx=>⟨lenC (hasGood ht (y1o.2 ⟨x,hx,sj⟩)),by have:=nameL (treeName ht x hx); omega⟩,om,fun x hx=>lenC (hw.lo.good x hx),om,fun x hx=>lenC (hw.co.good x hx),om,
  fun x hx=>lenC (hw.fo.good x hx),om,fun x hx=>?_,om,fun x hx=>?_,om,om,fun x hx=>⟨by have:=f2 x hx; omega,fun c hc=>lenC (chgG ht (zf3 hr x hx c hc))⟩,om⟩
 ·have:=earG ht (hE x hx)
  exact⟨lenC this.1,lenC this.2⟩
 ·have:=hC x hx
  unfold z1w at this
  split at this
  ·cases this
  ·rename_i hb
   split at this
   ·cases this
   ·rename_i hc
    simp only[y4l,y3g,not_and] at hc
    refine⟨?_,lenC (leafGood hc.1)⟩
    by_cases k2:x.R=2
    ·exact lenC (hasGood ht (hc.2 k2))
    ·unfold condBad at hb
     have:x.S=[]:=by
      by_cases h:x.S=[]
      ·exact h
      ·exact absurd (.inr (.inl ⟨om,.inl h⟩)) hb
     rw[this]; simp
end Go.Proofs.YtbmpcbbimefmoaaGreatDoor
/- Trees that are made of few codes: their leaves. No condition. -/
namespace Go.Proofs.YtbmpcbbimefmoaaGreatDoor
open Go Go.TA
open Go.IntKind (i64)
attribute [-simp] List.getD_eq_getElem?_getD
structure T5 (t:List THe):Prop where
 mt:MT t
 cl:CL (t.map (·.B))
 le:t.length<=10
 h1:([49]:Y8)∈t.map (·.B)
 h9:([57]:Y8)∈t.map (·.B)
variable {s:TTape}
theorem zhu (hs:TapeOk s):∃ t s',F_q8 5 s=some (t,s')/\TapeOk s'/\T5 t:=by
 have w7:i64.wrap (5+1)=6:=by rw[wrapId om om]; rfl
 obtain⟨v0,s1,e1,o1,l1,u1⟩:=zm (n:=6) hs om om
 simp only[F_q8,S_q8,Scr.den,w7,e1,obind]
 -- the first loop
 obtain⟨st,e2,⟨o2,c2,g2,h2,q49⟩⟩:=z1b (step:=fun s=>(S_q8_b1 s).den) (fun s=>s.2.2.toNat)
  (fun s=>TapeOk s.1/\CL s.2.1/\1<=s.2.1.length/\(s.2.1.length:Int)+max s.2.2 0<=7/\s.2.2<=5/\([49]:Y8)∈s.2.1) (fun s=>TapeOk s.1/\CL s.2.1/\1<=s.2.1.length/\s.2.1.length<=7/\([49]:Y8)∈s.2.1) (fun s ⟨o,c,g,h,h6,k49⟩=>by
   simp only[S_q8_b1,Scr.den]
   by_cases hp:s.2.2>0
   ·left
    obtain⟨v,s',e,o',a1,a2⟩:=zm (n:=(s.2.1.length:Int)) o om om
    have hv:v.toNat<s.2.1.length:=om
    have hg:=c.gd _ (z8 hv)
    have hm:=z8 hv
    have w1:i64.wrap (s.2.2-1)=s.2.2-1:=wrapId om om
    rw[y7 (by simpa using hp)]
    simp only[e,obind,z63 hg,w1]
    rw[z6 ⟨a1,hv,trivial⟩]
    by_cases h3:(parts (s.2.1.getD v.toNat dF)).length>=3
    ·rw[y7 (by simp only[y8]; omega)]
     exact⟨_,rfl,⟨o',c,g,by simp only; omega,by simp only; omega,k49⟩,by simp only; omega⟩
    ·rw[y6 (by simp only[y8]; omega)]
     obtain⟨n,s'',e',o'',hn⟩:=zo (l:=[1,2,3,10]) o' sj sj
     obtain⟨k1,k2,k3⟩:=zlp hg om hn
     simp only[e',obind,k1]
     rw[Gb,zc5 c om k2,obind]
     have hl:=z8l s.2.1 (s.2.1.getD v.toNat dF++46 :: Lib.decDigits n.toNat)
     exact⟨_,rfl,⟨o'',zaa c k2 (by rw[k3]; exact .inr hm),by simp only; omega,by simp only; omega,by simp only; omega,z5a.2 (.inr k49)⟩,by simp only; omega⟩
   ·right
    rw[y6 (by simpa using hp)]
    exact⟨_,rfl,o,c,g,by simp only; omega,k49⟩) _ (s1,[[49],[50]],v0) (y2k _)
  ⟨o1,CL0,sj,by simp only[y10,y1n]; omega,by simp only; omega,sj⟩
 rw[e2]
 simp only[outM]
 obtain⟨v3,s3,e3,o3,l3,u3⟩:=zm (n:=3) o2 om om
 have hg9:good [57]=true:=dk
 rw[zc5 c2 om hg9,obind,e3,obind]
 have c3:CL (withS st.2.1 [57]):=zaa c2 hg9 (by left; decide)
 have hl9:=z8l st.2.1 [57]
 have m9:([57]:Y8)∈withS st.2.1 [57]:=z5a.2 (.inl rfl)
 obtain⟨sv,e4,⟨o4,c4,g4,h4,f9,f1⟩⟩:=z1b (step:=fun s=>(S_q8_b2 s).den) (fun s=>s.2.2.toNat)
  (fun s=>TapeOk s.1/\CL s.2.1/\1<=s.2.1.length/\(s.2.1.length:Int)+max s.2.2 0<=10/\s.2.2<=3/\([57]:Y8)∈s.2.1/\([49]:Y8)∈s.2.1) (fun s=>TapeOk s.1/\CL s.2.1/\1<=s.2.1.length/\s.2.1.length<=10/\([57]:Y8)∈s.2.1/\([49]:Y8)∈s.2.1) (fun s ⟨o,c,g,h,h6,h9,k49⟩=>by
   simp only[S_q8_b2,Scr.den]
   by_cases hp:s.2.2>0
   ·left
    obtain⟨v,s',e,o',a1,a2⟩:=zm (n:=2) o om om
    have w1:i64.wrap (s.2.2-1)=s.2.2-1:=wrapId om om
    rw[y7 (by simpa using hp)]
    simp only[e,obind,w1]
    have hv:v.toNat<([[57,46,49],[57,46,50]]:List Y8).length:=by simp only[y10,y1n]; omega
    have hx:∀ x∈([[57,46,49],[57,46,50]]:List Y8),good x=true/\par x=[57]:=dk
    obtain⟨k1,k2⟩:=hx _ (z8 hv)
    rw[zc5 c om k1,obind,z6 ⟨a1,om,trivial⟩]
    have hl:=z8l s.2.1 (([[57,46,49],[57,46,50]]:List Y8).getD v.toNat dF)
    exact⟨_,rfl,⟨o',zaa c k1 (by rw[k2]; exact .inr h9),by simp only; omega,by simp only; omega,by simp only; omega,z5a.2 (.inr h9),z5a.2 (.inr k49)⟩,by simp only; omega⟩
   ·right
    rw[y6 (by simpa using hp)]
    exact⟨_,rfl,o,c,g,by simp only; omega,h9,k49⟩) _ (s3,withS st.2.1 [57],v3) (y2k _)
  ⟨o3,c3,by simp only; omega,by simp only; omega,by simp only; omega,m9,z5a.2 (.inr q49)⟩
 rw[e4]
 simp only
 obtain⟨sw,e5,⟨o5,h5,h6⟩⟩:=zp (body:=fun i s=>(S_q8_b3 sv i s).den) (n:=sv.2.1.length) (fun i s=>TapeOk s.1/\s.2.map (·.B)=sv.2.1.take i/\∀ h∈s.2,nameOk h.W=true) (s0:=(sv.1,[])) ⟨o4,rfl,sj⟩ (fun i s hi ⟨o,h,hn⟩=>by
  obtain⟨v,s',e,o',a1,a2⟩:=zm (n:=5) o om om
  have hlen:s.2.length<=10:=by
   have:=congrArg List.length h
   rw[y1q,yx] at this
   omega
  simp only[S_q8_b3,Scr.den,e,obind]
  rw[z6 ⟨a1,om,om,trivial⟩]
  refine⟨_,rfl,o',?_,fun x hx=>?_⟩
  ·rw[y37,h,y13 hi,zh hi]; rfl
  ·rcases y1c.1 hx with hx | hx
   ·exact hn x hx
   ·have hx':x=⟨sv.2.1.getD i dF,([[115,99,104,111,111,108,115],[114,111,97,100,115],[99,111,117,114,116,32,111,102,32,97,117,100,105,116],[97],[116,97,120]]:List Y8).getD v.toNat dF⟩:=by simpa using hx
    rw[hx']
    have hall:∀ x∈([[115,99,104,111,111,108,115],[114,111,97,100,115],[99,111,117,114,116,32,111,102,32,97,117,100,105,116],[97],[116,97,120]]:List Y8),nameOk x=true:=dk
    exact hall _ (z8 (by simp only[y10,y1n]; omega)))
 rw[e5]
 simp only
 have h5':sw.2.map (·.B)=sv.2.1:=by rw[h5,y1y]
 have hlen:sw.2.length=sv.2.1.length:=by have:=congrArg List.length h5'; rwa [y1q] at this
 rw[Ga]
 refine⟨_,_,rfl,o5,⟨⟨?_,om,om⟩,by rw[h5']; exact c4,om,by rw[h5']; exact f1,by rw[h5']; exact f9⟩⟩
 unfold treeE
 rw[y6 om,z18]
 intro i hi
 have hcode:∀ j,j<sw.2.length->(sw.2.getD j dF).B=sv.2.1.getD j dF:=fun j hj=>by
  rw[<- h5',zh hj,zh (by rw[y1q]; exact hj),y46]
 have hg:good (sw.2.getD i dF).B=true:=by rw[hcode i hi]; exact c4.gd _ (z8 om)
 unfold headE
 rw[y6 (by simp[hg]),y6 (by simp[h6 _ (z8 hi)]),y6,y6]
 ·rintro⟨q1,q2⟩
  rw[hcode i hi] at q1 q2
  rcases c4.pa _ (z8 (show i<sv.2.1.length from om)) with h | h
  ·exact q1 h
  ·rw[<- h5'] at h
   obtain⟨y,hy,e⟩:=yz.1 h
   have:has sw.2 (par (sv.2.1.getD i dF))=true:=by
    unfold has
    rw[<- h5']
    exact y1o.2 ⟨y,hy,by simpa using e⟩
   rw[this] at q2; cases q2
 ·rintro⟨q1,q2⟩
  rw[hcode i hi,hcode (i-1) om] at q2
  have:=y20.1 c4.pw (i-1) i om om om
  rw[zh (show i<sv.2.1.length from om),zh (show i-1<sv.2.1.length from om)] at q2
  exact q2 (y2m this)
variable {t:List THe} {c:Y8}
theorem z3v:has t c=true↔c∈t.map (·.B):=by
 unfold has
 rw[y1o,yz]
 exact⟨fun⟨x,hx,e⟩=>⟨x,hx,by simpa using e⟩,fun⟨x,hx,e⟩=>⟨x,hx,by simpa using e⟩⟩
theorem zc6 (c:Y8):∀ k,0<ldot c k->ldot c k<k/\(c.getD (ldot c k) 0).toNat=46
 | 0,h=>by simp[ldot] at h
 | k+1,h=>by
  unfold ldot at h |-
  split
  ·rename_i e; exact⟨y2k _,e⟩
  ·rename_i e
   rw[y6 e] at h
   obtain⟨a,b⟩:=zc6 c k h
   exact⟨om,b⟩
variable {top:Y8}
theorem zc7 {x:Y8} (hx:good x=true) (hp:par x≠[]) (h:und (par x) top=true):und x top=true/\(par x).length<x.length:=by
 unfold par at hp h |-
 rw[y7 hx] at hp h |-
 obtain⟨k,hk⟩:∃ k,k=ldot x x.length:=⟨_,rfl⟩
 rw[<- hk] at hp h |-
 have hk0:0<k:=by
  rcases y2u k with e | e
  ·rw[e] at hp; simp at hp
  ·exact e
 obtain⟨h1,h2⟩:=zc6 x x.length om
 rw[<- hk] at h1 h2
 have hl:(x.take k).length=k:=by rw[yx]; omega
 refine⟨?_,by rw[hl]; exact h1⟩
 unfold und at h |-
 simp only[ya,yj,y8,yn] at h |-
 obtain⟨⟨⟨⟨g1,g2⟩,g3⟩,g4⟩,g5⟩:=h
 rw[hl] at g3 g5
 rw[List.take_take,y5n om] at g4
 refine⟨⟨⟨⟨hx,g2⟩,om⟩,g4⟩,?_⟩
 rcases g5 with g5 | g5
 ·right; rw[<- g5]; exact h2
 ·by_cases e:top.length=k
  ·right; rw[e]; exact h2
  ·right
   have:(x.take k).getD top.length 0=x.getD top.length 0:=by
    simp only[List.getD_eq_getElem?_getD]
    rw[y1s om]
   rw[this] at g5; exact g5
theorem zgk (ht:∀ x∈t,good x.B=true) (top:Y8):∀ (n:Nat) (c:Y8),c∈t.map (·.B)->und c top=true->60-c.length<=n->leavesU t top≠[]:=by
 intro n
 induction n with
 | zero =>
  intro c hc hu hn
  obtain⟨x,hx,e⟩:=yz.1 hc
  have hg:=ht x hx
  have h60:=z4q hg
  by_cases hl:t.all (fun y=>!(par y.B==c))=true
  ·exact fun h0=>by
    have:c∈leavesU t top:=by
     unfold leavesU
     rw[yz]
     exact⟨x,y1x.2 ⟨hx,by rw[e] at hg |-; simp only[hg,hu,hl,Bool.or_true,y4c]⟩,e⟩
    rw[h0] at this; cases this
  ·rw[y45,y68] at hl
   obtain⟨y,hy,hl⟩:=hl
   have hpy:par y.B=c:=by simpa using hl
   have hgy:=ht y hy
   have hne:par y.B≠[]:=by rw[hpy]; intro h0; rw[h0] at hu; simp[und,good,goodR] at hu
   have:=(zc7 hgy hne (by rw[hpy]; exact hu)).2
   rw[hpy] at this
   have:=z4q hgy
   omega
 | succ n ih =>
  intro c hc hu hn
  obtain⟨x,hx,e⟩:=yz.1 hc
  have hg:=ht x hx
  by_cases hl:t.all (fun y=>!(par y.B==c))=true
  ·exact fun h0=>by
    have:c∈leavesU t top:=by
     unfold leavesU
     rw[yz]
     exact⟨x,y1x.2 ⟨hx,by rw[e] at hg |-; simp only[hg,hu,hl,Bool.or_true,y4c]⟩,e⟩
    rw[h0] at this; cases this
  ·rw[y45,y68] at hl
   obtain⟨y,hy,hl⟩:=hl
   have hpy:par y.B=c:=by simpa using hl
   have hgy:=ht y hy
   have hne:par y.B≠[]:=by rw[hpy]; intro h0; rw[h0] at hu; simp[und,good,goodR] at hu
   obtain⟨k1,k2⟩:=zc7 hgy hne (by rw[hpy]; exact hu)
   rw[hpy] at k2
   exact ih y.B (yz.2 ⟨y,hy,rfl⟩) k1 om
theorem z65 (h:c∈leavesU t top):c∈leavesU t []:=by
 unfold leavesU at h |-
 obtain⟨x,hx,e⟩:=yz.1 h
 obtain⟨hx,hp⟩:=y1x.1 hx
 simp only[ya] at hp
 exact yz.2 ⟨x,y1x.2 ⟨hx,by simp only[hp.1.1,hp.2]; rfl⟩,e⟩
theorem T5.leafs {t:List THe} (h:T5 t):leafs t≠[]:=by
 unfold Go.Proofs.YtbmpcbbimefmoaaGreatDoor.leafs
 have:=zgk h.mt.good [49] 60 [49] h.h1 dk om
 intro h0
 exact this (List.append_eq_nil_iff.1 h0).1
theorem T5.leaf1 (h:c∈Go.Proofs.YtbmpcbbimefmoaaGreatDoor.leafs t):leafT t c=true:=by
 unfold Go.Proofs.YtbmpcbbimefmoaaGreatDoor.leafs at h
 rcases y1c.1 h with h | h <;> exact z1l.1 (z65 h)
theorem T5.Leaf (h:T5 t) (hs:TapeOk s):∃ c s',F_qg t s=some (c,s')/\TapeOk s'/\leafT t c=true:=by
 obtain⟨c,s',e,o,_,h1⟩:=zjz h.mt hs
 exact⟨c,s',e,o,T5.leaf1 (h1 h.leafs)⟩
theorem T5.leaves (h:T5 t):leavesU t []≠[]:=fun h0=>by
 obtain⟨c,hc⟩:=List.exists_mem_of_ne_nil _ (zgk h.mt.good [49] 60 [49] h.h1 dk om)
 have:=z65 hc
 rw[h0] at this; cases this
theorem T5.ord (h:T5 t) (top:Y8):(leavesU t top).Pairwise fun a b=>ltK a b=true:=by
 unfold leavesU
 exact y3y ((List.filter_sublist).map _) h.cl.pw
end Go.Proofs.YtbmpcbbimefmoaaGreatDoor
/- The loops that make a law with rules. No condition. -/
namespace Go.Proofs.YtbmpcbbimefmoaaGreatDoor
open Go Go.TA
open Go.IntKind (i64)
attribute [-simp] List.getD_eq_getElem?_getD
variable {n:Int}
theorem z5n (h:0<=n) (h':n<18446744073709551616):IntKind.u64.wrap n=n:=by
 show (n % 18446744073709551616:Int)=n
 exact Int.emod_eq_of_lt h h'
theorem z98 {f y x:Int} (hf:0<=f/\f<=100) (hy:1<=y/\y<=100) (hx:x<=1000000):inY f y x=true↔f<=x/\x<f+y:=by
 unfold inY
 by_cases h:x>=f
 ·rw[y11 h,y1m,y8,z5n (n:=x) om om,z5n (n:=f) om om,z5n (n:=x-f) om om,z5n (n:=y) om om]
  omega
 ·rw[y19 h,y2i]
  exact⟨fun e=>(by cases e),fun e=>absurd e.1 om⟩
theorem z46:amt n=true↔0<=n/\n<=1000000000000:=by
 unfold amt; simp only[ya,y8]
variable {α:Type}
theorem zd9 {pl:α->TPl} {l:List α} (h:OrdG pl l) {x:α} (hx:good (pl x).code=true) (hl:∀ a∈l,cmpP (pl a) (pl x)<0):OrdG pl (l++[x]):=by
 refine⟨?_,fun z hz=>?_⟩
 ·unfold PW
  rw[y37,y3m]
  refine⟨h.pw,y3p _ _,fun a ha b hb=>?_⟩
  obtain⟨z,hz,rfl⟩:=yz.1 ha
  obtain rfl:=y1b.1 hb
  exact hl z hz
 ·rcases y1c.1 hz with hz | hz
  ·exact h.good z hz
  ·obtain rfl:=y1b.1 hz
   exact hx
theorem zab (pl:α->TPl):OrdG pl []:=⟨y4j,sj⟩
variable {a b:TPl}
theorem zgl (ha:good a.code=true) (h:ltK a.code b.code=true):cmpP a b<0:=(z4u (.inl ha)).2 (.inl (by simpa [ltK] using h))
theorem znc (ha:good a.code=true) (h:a.code=b.code) (hy:a.year<b.year):cmpP a b<0:=(z4u (.inl ha)).2 (.inr ⟨by rw[h]; exact z35 _,hy⟩)
theorem zgm {l:List Y8} (h:l.Pairwise fun a b=>ltK a b=true) {i j:Nat} (hij:i<j) (hj:j<l.length):ltK (l.getD i dF) (l.getD j dF)=true:=by
 rw[zh om,zh hj]
 exact y20.1 h i j om hj hij
section
variable {f y:Int} (hf:0<=f/\f<=12) (hy:1<=y/\y<=2) {t:List THe} (ht:T5 t)
include hf hy
end
variable {s:TTape}
section
variable {f y:Int} (hf:0<=f/\f<=12) (hy:1<=y/\y<=2) {t:List THe} (ht:T5 t)
include hf hy ht
theorem ru2 (am:List TAm) (hs:TapeOk s) :
  ∃ s' ru,iterM (fun s=>(S_q1_b3 s).den) (s,f,y,t,am,[],1)=some (.next (s',f,y,t,am,ru,4))/\TapeOk s'/\ru.length=3/\fstE ru.length (ruleE t ru)=0/\∀ x∈ru,1<=x.H/\x.H<=3/\0<=x.T/\x.T<=100/\x.L∈t.map (·.B)/\x.V∈t.map (·.B):=by
 have hge:=ht.mt.ge
 have hle:=ht.le
 obtain⟨st,e,g1,g2,g3,g4,g5,g6,g7,g8,g9⟩:=z1b (step:=fun s=>(S_q1_b3 s).den) (fun s=>(4-s.2.2.2.2.2.2).toNat)
  (fun s=>TapeOk s.1/\s.2.1=f/\s.2.2.1=y/\s.2.2.2.1=t/\s.2.2.2.2.1=am/\(s.2.2.2.2.2.1.length:Int)=s.2.2.2.2.2.2-1/\s.2.2.2.2.2.2<=4/\(∀ j,j<s.2.2.2.2.2.1.length->(s.2.2.2.2.2.1.getD j dF).H=(j:Int)+1)/\∀ x∈s.2.2.2.2.2.1,0<=x.T/\x.T<=100/\x.L∈t.map (·.B)/\x.V∈t.map (·.B))
  (fun s=>TapeOk s.1/\s.2.1=f/\s.2.2.1=y/\s.2.2.2.1=t/\s.2.2.2.2.1=am/\s.2.2.2.2.2.1.length=3/\s.2.2.2.2.2.2=4/\(∀ j,j<s.2.2.2.2.2.1.length->(s.2.2.2.2.2.1.getD j dF).H=(j:Int)+1)/\∀ x∈s.2.2.2.2.2.1,0<=x.T/\x.T<=100/\x.L∈t.map (·.B)/\x.V∈t.map (·.B)) (fun s ⟨o,q1,q2,q3,q4,q5,q6,q7,q8⟩=>by
   obtain⟨s0,f0,y0,t0,a0,ru,i⟩:=s
   simp only at o q1 q2 q3 q4 q5 q6 q7 q8
   subst q1 q2 q3 q4
   simp only[S_q1_b3,Scr.den]
   by_cases hk:i<4
   ·left
    rw[y7 (by simpa using hk)]
    obtain⟨n1,s1,e1,o1,l1,u1⟩:=zm (n:=(t0.length:Int)) o om om
    obtain⟨n2,s2,e2,o2,l2,u2⟩:=zm (n:=(t0.length:Int)) o1 om om
    obtain⟨n3,s3,e3,o3,m3⟩:=zo (l:=[10,50,100]) o2 sj sj
    rw[e1,obind,e2,obind,e3,obind,z6 ⟨l1,by simp only; omega,l2,by simp only; omega,om,trivial⟩,wrapId (n:=i+1) om om]
    have hn3:0<=n3/\n3<=100:=by simp at m3; omega
    have c1:(t0.getD n1.toNat dF).B∈t0.map (·.B):=yz.2 ⟨_,z8 om,rfl⟩
    have c2:(t0.getD n2.toNat dF).B∈t0.map (·.B):=yz.2 ⟨_,z8 om,rfl⟩
    refine⟨_,rfl,⟨o3,rfl,rfl,rfl,rfl,by simp only[yb,yd]; omega,by simp only; omega,fun j hj=>?_,fun x hx=>?_⟩,by simp only; omega⟩
    ·simp only[yb,yd] at hj
     by_cases hj':j<ru.length
     ·simp only[List.getD_eq_getElem?_getD]
      rw[yq hj']
      have:=q7 j hj'
      simpa only [List.getD_eq_getElem?_getD] using this
     ·have:j=ru.length:=om
      subst this
      simp only[List.getD_eq_getElem?_getD,List.getElem?_concat_length,y44]
      omega
    ·rcases y1c.1 hx with hx | hx
     ·exact q8 x hx
     ·obtain rfl:=y1b.1 hx
      exact⟨hn3.1,hn3.2,c1,c2⟩
   ·right
    rw[y6 (by simpa using hk)]
    exact⟨_,rfl,o,rfl,rfl,rfl,rfl,by simp only; omega,by simp only; omega,q7,q8⟩) _ (s,f,y,t,am,[],1) (y2k _)
  ⟨hs,rfl,rfl,rfl,rfl,sj,sj,sj,sj⟩
 obtain⟨s9,f9,y9,t9,a9,ru,i9⟩:=st
 simp only at g1 g2 g3 g4 g5 g6 g7 g8 g9
 subst g2 g3 g4 g5 g7
 refine⟨s9,ru,e,g1,g6,?_,fun x hx=>?_⟩
 ·rw[z18]
  intro i hi
  unfold ruleE
  rw[z4r]
  have h1:=g8 i hi
  obtain⟨h2,h3,h4,h5⟩:=g9 _ (z8 hi)
  refine⟨?_,fun h0=>?_⟩
  ·unfold z70
   rw[y6 om,y6 (by rw[z3v.2 h4,z3v.2 h5]; simp)]
  ·have h6:=g8 (i-1) om
   rw[y8]; omega
 ·obtain⟨i,hi,rfl⟩:=y2j hx
  have h1:=g8 i hi
  rw[zh hi] at h1
  exact⟨om,om,g9 _ hx⟩
theorem ru3 (am:List TAm) (x6:TTape×Int×Int×(List THe)×(List TAm)×(List TLi)) (s7:TTape) (r7:List TRu) (i7:Int) (hs:TapeOk s) :
  ∃ s' fl ce,rangeM (fun i s=>(S_q1_b4 x6 (s7,f,y,t,am,r7,i7) i s).den) t.length 0 (s,f,y,t,am,[],[])=some (.next (s',f,y,t,am,fl,ce))/\TapeOk s'/\fl.length<=10/\ce.length<=10/\OrdG plB fl/\OrdG plB ce/\(∀ x∈fl,z16 t f y x=0)/\∀ x∈ce,z16 t f y x=0:=by
 have hle:=ht.le
 obtain⟨r,e,h1,h2,h3,h4,h5,h6,h7,h8,h9,h10,h11,_⟩:=zp (body:=fun i s=>(S_q1_b4 x6 (s7,f,y,t,am,r7,i7) i s).den) (n:=t.length)
  (fun i r=>TapeOk r.1/\r.2.1=f/\r.2.2.1=y/\r.2.2.2.1=t/\r.2.2.2.2.1=am/\r.2.2.2.2.2.1.length<=i/\r.2.2.2.2.2.2.length<=i/\OrdG plB r.2.2.2.2.2.1/\OrdG plB r.2.2.2.2.2.2/\(∀ x∈r.2.2.2.2.2.1,z16 t f y x=0)/\(∀ x∈r.2.2.2.2.2.2,z16 t f y x=0)/\∀ x,x∈r.2.2.2.2.2.1\/x∈r.2.2.2.2.2.2->∃ j,j<i/\x.B=(t.getD j dF).B) (s0:=(s,f,y,t,am,[],[])) ⟨hs,rfl,rfl,rfl,rfl,sj,sj,zab _,zab _,sj,sj,sj⟩
  (fun i s hi ⟨o,q1,q2,q3,q4,q5,q6,q7,q8,q9,q10,q11⟩=>by
   obtain⟨s0,f0,y0,t0,a0,fl,ce⟩:=s
   simp only at o q1 q2 q3 q4 q5 q6 q7 q8 q9 q10 q11
   subst q1 q2 q3 q4
   have hc:(t0.getD i dF).B∈t0.map (·.B):=yz.2 ⟨_,z8 hi,rfl⟩
   have hg:good (t0.getD i dF).B=true:=ht.mt.good _ (z8 hi)
   have hlt:∀ x:TBo,(∃ j,j<i/\x.B=(t0.getD j dF).B)->∀ (z:Int) (w:Int),cmpP (plB x) (plB ⟨(t0.getD i dF).B,z,w⟩)<0:=fun x ⟨j,hj,e⟩ z w=>by
    refine zgl (by show good x.B=true; rw[e]; exact ht.mt.good _ (z8 om)) ?_
    show ltK x.B (t0.getD i dF).B=true
    rw[e]
    have h1:=y20.1 ht.cl.pw j i (by rw[y1q]; omega) (by rw[y1q]; omega) hj
    rw[y46,y46] at h1
    rw[zh om,zh hi]
    exact h1
   have hE:∀ z w:Int,z=-1\/z=f0->0<=w/\w<=20000->z16 t0 f0 y0 ⟨(t0.getD i dF).B,z,w⟩=0:=fun z w hz hw=>by
    have hA:amt w=true:=z46.2 ⟨om,om⟩
    unfold z16
    rw[y6 (by rw[z3v.2 hc]; simp),y6,y6 (by rw[hA]; simp)]
    rintro⟨a,b⟩
    simp only at a b
    rw[(z98 om om om).2 ⟨om,om⟩] at b
    cases b
   have fin:∀ (s':TTape) (fl' ce':List TBo),TapeOk s'->(fl'=fl\/∃ z w,(z=-1\/z=f0)/\(0<=w/\w<=20000)/\fl'=fl++[⟨(t0.getD i dF).B,z,w⟩])->(ce'=ce\/∃ z w,(z=-1\/z=f0)/\(0<=w/\w<=20000)/\ce'=ce++[⟨(t0.getD i dF).B,z,w⟩]) ->
     TapeOk s'/\f0=f0/\y0=y0/\t0=t0/\a0=a0/\fl'.length<=i+1/\ce'.length<=i+1/\OrdG plB fl'/\OrdG plB ce'/\(∀ x∈fl',z16 t0 f0 y0 x=0)/\(∀ x∈ce',z16 t0 f0 y0 x=0)/\∀ x,x∈fl'\/x∈ce'->∃ j,j<i+1/\x.B=(t0.getD j dF).B:=fun s' fl' ce' o' hF hC=>by
    have one:∀ (l l':List TBo),l.length<=i->OrdG plB l->(∀ x∈l,z16 t0 f0 y0 x=0)->(∀ x∈l,∃ j,j<i/\x.B=(t0.getD j dF).B)->(l'=l\/∃ z w,(z=-1\/z=f0)/\(0<=w/\w<=20000)/\l'=l++[⟨(t0.getD i dF).B,z,w⟩])->l'.length<=i+1/\OrdG plB l'/\(∀ x∈l',z16 t0 f0 y0 x=0)/\∀ x∈l',∃ j,j<i+1/\x.B=(t0.getD j dF).B:=fun l l' k1 k2 k3 k4 h=>by
     rcases h with rfl | ⟨z,w,hz,hw,rfl⟩
     ·exact⟨om,k2,k3,fun x hx=>by obtain⟨j,hj,e⟩:=k4 x hx; exact⟨j,om,e⟩⟩
     ·refine⟨by rw[yb,yd]; omega,zd9 k2 hg fun a ha=>hlt a (k4 a ha) z w,fun x hx=>?_,fun x hx=>?_⟩
      ·rcases y1c.1 hx with hx | hx
       ·exact k3 x hx
       ·obtain rfl:=y1b.1 hx
        exact hE z w hz hw
      ·rcases y1c.1 hx with hx | hx
       ·obtain⟨j,hj,e⟩:=k4 x hx; exact⟨j,om,e⟩
       ·obtain rfl:=y1b.1 hx
        exact⟨i,om,rfl⟩
    obtain⟨a1,a2,a3,a4⟩:=one fl fl' q5 q7 q9 (fun x hx=>q11 x (.inl hx)) hF
    obtain⟨b1,b2,b3,b4⟩:=one ce ce' q6 q8 q10 (fun x hx=>q11 x (.inr hx)) hC
    exact⟨o',rfl,rfl,rfl,rfl,a1,b1,a2,b2,a3,b3,fun x hx=>hx.elim (a4 x) (b4 x)⟩
   simp only[S_q1_b4,Scr.den]
   obtain⟨n1,s1,e1,o1,l1,u1⟩:=zm (n:=6) o om om
   rw[e1,obind]
   have tail:∀ (s1:TTape) (ce':List TBo),TapeOk s1->(ce'=ce\/∃ z w,(z=-1\/z=f0)/\(0<=w/\w<=20000)/\ce'=ce++[⟨(t0.getD i dF).B,z,w⟩]) ->
     ∃ n2 s2,F_q0 8 s1=some (n2,s2)/\(n2≠7->TapeOk s2)/\(n2=7->∃ z s3 w s4,F_q3 [-1,f0] s2=some (z,s3)/\F_q3 [50,400] s3=some (w,s4)/\TapeOk s4/\(z=-1\/z=f0)/\0<=w/\w<=20000):=fun s1 ce' o1 _=>by
    obtain⟨n2,s2,e2,o2,l2,u2⟩:=zm (n:=8) o1 om om
    obtain⟨z,s3,e3,o3,m3⟩:=zo (l:=[-1,f0]) o2 sj sj
    obtain⟨w,s4,e4,o4,m4⟩:=zo (l:=[50,400]) o3 sj sj
    exact⟨n2,s2,e2,fun _=>o2,fun _=>⟨z,s3,w,s4,e3,e4,o4,by simpa using m3,by simp at m4; omega,by simp at m4; omega⟩⟩
   by_cases h5:n1=5
   ·rw[y7 (by simpa using h5)]
    obtain⟨z,s3,e3,o3,m3⟩:=zo (l:=[-1,f0]) o1 sj sj
    obtain⟨w,s4,e4,o4,m4⟩:=zo (l:=[600,3000,20000]) o3 sj sj
    have hw:0<=w/\w<=20000:=by simp at m4; omega
    have hz:z=-1\/z=f0:=by simpa using m3
    rw[e3,obind,e4,obind,Ga]
    simp only[outM]
    have hC:(ce++[(⟨(t0.getD i dF).B,z,w⟩:TBo)])=ce\/∃ z' w',(z'=-1\/z'=f0)/\(0<=w'/\w'<=20000)/\(ce++[(⟨(t0.getD i dF).B,z,w⟩:TBo)])=ce++[⟨(t0.getD i dF).B,z',w'⟩]:=.inr ⟨z,w,hz,hw,rfl⟩
    obtain⟨n2,s5,e5,o5,k5⟩:=tail s4 _ o4 hC
    rw[e5,obind]
    by_cases h7:n2=7
    ·obtain⟨z',s6,w',s8,e6,e8,o8,hz',hw'⟩:=k5 h7
     rw[y7 (by simpa using h7),e6,obind,e8,obind,Ga]
     exact⟨_,rfl,fin _ _ _ o8 (.inr ⟨z',w',hz',hw',rfl⟩) hC⟩
    ·rw[y6 (by simpa using h7)]
     exact⟨_,rfl,fin _ _ _ (o5 h7) (.inl rfl) hC⟩
   ·rw[y6 (by simpa using h5)]
    simp only[outM]
    obtain⟨n2,s5,e5,o5,k5⟩:=tail s1 ce o1 (.inl rfl)
    rw[e5,obind]
    by_cases h7:n2=7
    ·obtain⟨z',s6,w',s8,e6,e8,o8,hz',hw'⟩:=k5 h7
     rw[y7 (by simpa using h7),e6,obind,e8,obind,Ga]
     exact⟨_,rfl,fin _ _ _ o8 (.inr ⟨z',w',hz',hw',rfl⟩) (.inl rfl)⟩
    ·rw[y6 (by simpa using h7)]
     exact⟨_,rfl,fin _ _ _ (o5 h7) (.inl rfl) (.inl rfl)⟩)
 obtain⟨s9,f9,y9,t9,a9,fl,ce⟩:=r
 simp only at h1 h2 h3 h4 h5 h6 h7 h8 h9 h10 h11
 subst h2 h3 h4 h5
 exact⟨s9,fl,ce,e,h1,om,om,h8,h9,h10,h11⟩
end
end Go.Proofs.YtbmpcbbimefmoaaGreatDoor
/- Leaves lie under nothing but their own; earmarks,conditions,amendments of a law that is made. No condition. -/
namespace Go.Proofs.YtbmpcbbimefmoaaGreatDoor
open Go Go.TA
open Go.IntKind (i64)
attribute [-simp] List.getD_eq_getElem?_getD
theorem zgn (c:Y8) {i:Nat} (hi:(c.getD i 0).toNat=46):∀ k,i<k->i<=ldot c k
 | 0,h=>om
 | k+1,h=>by
  unfold ldot
  split
  ·omega
  ·rename_i e
   have:i≠k:=fun h0=>e (h0▸hi)
   exact zgn c hi k om
variable {c s:Y8}
theorem zol (hc:good c=true) (h:und c s=true) (hne:c≠s) (hp:good (par c)=true\/par c=[]):par c≠[]/\und (par c) s=true:=by
 unfold und at h
 simp only[ya,yj,y8,yn] at h
 obtain⟨⟨⟨⟨g1,g2⟩,g3⟩,g4⟩,g5⟩:=h
 have hs0:0<s.length:=by
  rcases y2u s.length with e | e
  ·rw[y26.1 e] at g2; exact absurd g2 dk
  ·exact e
 have hl:s.length≠c.length:=fun e=>hne (by rw[<- g4,e,y1y])
 have h46:(c.getD s.length 0).toNat=46:=g5.elim (fun e=>absurd e.symm hl) id
 have hk:=zgn c h46 c.length om
 have hpar:par c=c.take (ldot c c.length):=by unfold par; rw[y7 hc]
 obtain⟨h1,h2⟩:=zc6 c c.length om
 have hlen:(par c).length=ldot c c.length:=by rw[hpar,yx]; omega
 have hne':par c≠[]:=fun e=>by rw[e] at hlen; simp at hlen; omega
 have hg:good (par c)=true:=hp.elim id fun e=>absurd e hne'
 refine⟨hne',?_⟩
 unfold und
 simp only[ya,yj,y8,yn]
 refine⟨⟨⟨⟨hg,g2⟩,om⟩,?_⟩,?_⟩
 ·rw[hpar,List.take_take,y5n hk,g4]
 ·by_cases e:ldot c c.length=s.length
  ·left; omega
  ·right
   rw[hpar]
   have:(c.take (ldot c c.length)).getD s.length 0=c.getD s.length 0:=by
    simp only[List.getD_eq_getElem?_getD]
    rw[y1s om]
   rw[this]; exact h46
variable {t:List THe}
theorem zf5 (h:CL (t.map (·.B))) (hs:leafT t s=true):∀ (n:Nat) (c:Y8),c.length<=n->c∈t.map (·.B)->und c s=true->c=s:=by
 intro n
 induction n with
 | zero =>
  intro c hn hc _
  have:=h.gd c hc
  rw[y26.1 (by omega:c.length=0)] at this
  exact absurd this dk
 | succ n ih =>
  intro c hn hc hu
  by_cases hne:c=s
  ·exact hne
  exfalso
  have hg:=h.gd c hc
  have hp:good (par c)=true\/par c=[]:=(h.pa c hc).elim .inr fun hm=>.inl (h.gd _ hm)
  obtain⟨k1,k2⟩:=zol hg hu hne hp
  have hm:par c∈t.map (·.B):=(h.pa c hc).resolve_left k1
  have hl:=(zc7 hg k1 k2).2
  have e:=ih (par c) om hm k2
  unfold leafT at hs
  simp only[ya] at hs
  obtain⟨x,hx,rfl⟩:=yz.1 hc
  have:=y18.1 hs.2 x hx
  rw[e] at this
  simp at this
theorem T5.und (h:T5 t) (hc:leafT t c=true) (hs:leafT t s=true):Go.Proofs.YtbmpcbbimefmoaaGreatDoor.und c s=true↔c=s:=by
 have hm:c∈t.map (·.B):=by
  unfold leafT at hc
  simp only[ya] at hc
  exact z3v.1 hc.1.2
 refine⟨fun hu=>zf5 h.cl hs _ c (yc _) hm hu,fun e=>?_⟩
 subst e
 have hg:=leafGood hc
 unfold Go.Proofs.YtbmpcbbimefmoaaGreatDoor.und
 rw[hg]; simp
theorem zf6 (h:leafT t c=true):has t c=true:=by
 unfold leafT at h
 simp only[ya] at h
 exact h.1.2
theorem zlq (ht:T5 t) {l:List TEa} (h1:∀ x∈l,leafT t x.S=true/\0<=x.T/\x.T<=50) (h2:l.Pairwise fun a b=>ltK a.S b.S=true):shareE t l=0:=by
 unfold shareE
 rw[y6]
 rw[y45,y30]
 intro c hc
 have hlc:=z1l.1 hc
 have key:∀ l:List TEa,(∀ x∈l,leafT t x.S=true/\0<=x.T/\x.T<=50)->l.Pairwise (fun a b=>ltK a.S b.S=true)->∀ a:Int,0<=a->(a<=50/\∀ x∈l,x.S≠c)\/a=0->(l.foldl (fun s x=>if und c x.S=true then i64.wrap (s+x.T) else s) a)<=50:=by
  intro l
  induction l with
  | nil=>intro _ _ a _ h; rw[List.foldl_nil]; omega
  | cons x l ih =>
   intro g1 g2 a ha h
   obtain⟨p1,p2⟩:=y3j.1 g2
   have hx:=g1 x y1a
   rw[y3k]
   by_cases e:c=x.S
   ·rw[y7 ((ht.und hlc hx.1).2 e)]
    have ha0:a=0:=h.elim (fun h=>absurd e.symm (h.2 x y1a)) id
    rw[wrapId om om]
    refine ih (fun y hy=>g1 y (ym _ hy)) p2 _ om (.inl ⟨om,fun y hy e'=>?_⟩)
    have:=p1 y hy
    rw[e',e] at this
    unfold ltK at this
    rw[z35] at this
    exact absurd this dk
   ·rw[y6 (fun hu=>e ((ht.und hlc hx.1).1 hu))]
    exact ih (fun y hy=>g1 y (ym _ hy)) p2 a ha (h.elim (fun h=>.inl ⟨h.1,fun y hy=>h.2 y (ym _ hy)⟩) .inr)
 have:=key l h1 h2 0 om (.inr rfl)
 unfold shSum
 simp only[y8]
 omega
section
variable {f y:Int} (hf:0<=f/\f<=12) (hy:1<=y/\y<=2) {t:List THe} (ht:T5 t)
include hf hy ht
theorem ru5 (am:List TAm) {s:TTape} (hs:TapeOk s) :
  ∃ s' ea,rangeM (fun i s=>(S_q1_b5 (leavesU t [57]) i s).den) (leavesU t [57]).length 0 (s,f,y,t,am,[])=some (.next (s',f,y,t,am,ea))/\TapeOk s'/\ea.length<=10/\fstE ea.length (earE t ea)=0/\shareE t ea=0:=by
 have hle:=ht.le
 have hrl:=z1f t [57]
 obtain⟨r,e,h1,h2,h3,h4,h5,h6,h7,h8,_⟩:=zp (body:=fun i s=>(S_q1_b5 (leavesU t [57]) i s).den) (n:=(leavesU t [57]).length)
  (fun i r=>TapeOk r.1/\r.2.1=f/\r.2.2.1=y/\r.2.2.2.1=t/\r.2.2.2.2.1=am/\r.2.2.2.2.2.length<=i/\(r.2.2.2.2.2.Pairwise fun a b=>ltK a.S b.S=true)/\(∀ x∈r.2.2.2.2.2,leafT t x.S=true/\leafT t x.B=true/\0<=x.T/\x.T<=50)/\∀ x∈r.2.2.2.2.2,∃ j,j<i/\x.S=(leavesU t [57]).getD j dF) (s0:=(s,f,y,t,am,[])) ⟨hs,rfl,rfl,rfl,rfl,sj,y4j,sj,sj⟩
  (fun i s hi ⟨o,q1,q2,q3,q4,q5,q6,q7,q8⟩=>by
   obtain⟨s0,f0,y0,t0,a0,ea⟩:=s
   simp only at o q1 q2 q3 q4 q5 q6 q7 q8
   subst q1 q2 q3 q4
   simp only[S_q1_b5,Scr.den]
   have hm:=z8 hi
   have hlf:=z1l.1 (z65 hm)
   obtain⟨n1,s1,e1,o1,l1,u1⟩:=zm (n:=3) o om om
   rw[e1,obind]
   by_cases hn:n1>0
   ·rw[y7 (by simpa using hn)]
    obtain⟨c,s2,e2,o2,hc⟩:=ht.Leaf o1
    obtain⟨w,s3,e3,o3,m3⟩:=zo (l:=[10,33,50]) o2 sj sj
    have hw:0<=w/\w<=50:=by simp at m3; omega
    rw[e2,obind,e3,obind,Ga]
    refine⟨_,rfl,o3,rfl,rfl,rfl,rfl,by simp only[yb,yd]; omega,?_,fun x hx=>?_,fun x hx=>?_⟩
    ·show List.Pairwise _ (ea++_)
     rw[y3m]
     refine⟨q6,y3p _ _,fun a ha b hb=>?_⟩
     obtain rfl:=y1b.1 hb
     obtain⟨j,hj,e⟩:=q8 a ha
     rw[e]
     exact zgm (ht.ord [57]) hj hi
    ·rcases y1c.1 hx with hx | hx
     ·exact q7 x hx
     ·obtain rfl:=y1b.1 hx
      exact⟨hlf,hc,hw⟩
    ·rcases y1c.1 hx with hx | hx
     ·obtain⟨j,hj,e⟩:=q8 x hx; exact⟨j,om,e⟩
     ·obtain rfl:=y1b.1 hx
      exact⟨i,om,rfl⟩
   ·rw[y6 (by simpa using hn)]
    exact⟨_,rfl,o1,rfl,rfl,rfl,rfl,by simp only; omega,q6,q7,fun x hx=>by obtain⟨j,hj,e⟩:=q8 x hx; exact⟨j,om,e⟩⟩)
 obtain⟨s9,f9,y9,t9,a9,ea⟩:=r
 simp only at h1 h2 h3 h4 h5 h6 h7 h8
 subst h2 h3 h4 h5
 refine⟨s9,ea,e,h1,om,?_,zlq ht (fun x hx=>⟨(h8 x hx).1,(h8 x hx).2.2⟩) h7⟩
 rw[z18]
 intro i hi
 unfold earE
 rw[z4r]
 obtain⟨k1,k2,k3,k4⟩:=h8 _ (z8 hi)
 refine⟨?_,fun h0=>?_⟩
 ·unfold z5m
  rw[y6 (by rw[zf6 k1,k2]; simp),y6 om]
 ·unfold ltC
  have h1:=y20.1 h7 (i-1) i om hi om
  rw[zh om,zh hi]
  unfold ltK at h1
  rw[h1]; rfl
theorem ru6 (am:List TAm) (x6:TTape×Int×Int×(List THe)×(List TAm)×(List TLi)) (x7:TTape×Int×Int×(List THe)×(List TAm)×(List TRu)×Int)
  (x12:TTape×Int×Int×(List THe)×(List TAm)×(List TBo)×(List TBo)) (x22:TTape×Int×Int×(List THe)×(List TAm)×(List TEa)) {n:Int} (hn:0<=n/\n<=2) {s:TTape} (hs:TapeOk s) :
  ∃ s' co i',iterM (fun s=>(S_q1_b6 x6 x7 x12 x22 s).den) (s,f,y,t,am,[],n)=some (.next (s',f,y,t,am,co,i'))/\TapeOk s'/\co.length<=2/\∀ x∈co,z1w t f y x=0:=by
 obtain⟨st,e,g1,g2,g3,g4,g5,g6,g7⟩:=z1b (step:=fun s=>(S_q1_b6 x6 x7 x12 x22 s).den) (fun s=>s.2.2.2.2.2.2.toNat)
  (fun s=>TapeOk s.1/\s.2.1=f/\s.2.2.1=y/\s.2.2.2.1=t/\s.2.2.2.2.1=am/\((s.2.2.2.2.2.1.length:Int)+s.2.2.2.2.2.2=n/\0<=s.2.2.2.2.2.2)/\∀ x∈s.2.2.2.2.2.1,z1w t f y x=0)
  (fun s=>TapeOk s.1/\s.2.1=f/\s.2.2.1=y/\s.2.2.2.1=t/\s.2.2.2.2.1=am/\s.2.2.2.2.2.1.length<=2/\∀ x∈s.2.2.2.2.2.1,z1w t f y x=0) (fun s ⟨o,q1,q2,q3,q4,q5,q6⟩=>by
   obtain⟨s0,f0,y0,t0,a0,co,i⟩:=s
   simp only at o q1 q2 q3 q4 q5 q6
   subst q1 q2 q3 q4
   simp only[S_q1_b6,Scr.den]
   by_cases hk:i>0
   ·left
    rw[y7 (by simpa using hk)]
    obtain⟨c,s1,e1,o1,hc⟩:=ht.Leaf o
    obtain⟨n2,s2,e2,o2,l2,u2⟩:=zm (n:=y0) o1 om om
    obtain⟨n3,s3,e3,o3,m3⟩:=zo (l:=[50,200]) o2 sj sj
    obtain⟨n4,s4,e4,o4,l4,u4⟩:=zm (n:=300) o3 om om
    obtain⟨n5,s5,e5,o5,l5,u5⟩:=zm (n:=2) o4 om om
    have hn3:amt n3=true:=z46.2 (by simp at m3; omega)
    have hY:inY f0 y0 (f0+n2)=true:=(z98 om om om).2 ⟨om,om⟩
    rw[e1,obind,e2,obind,e3,obind,e4,obind,e5,obind,wrapId (n:=i-1) om om,wrapId (n:=f0+n2) om om,wrapId (n:=360 * f0) om om,wrapId (n:=360 * f0+n4) om om]
    have h9:has t0 [57]=true:=z3v.2 ht.h9
    by_cases h5:n5=0
    ·rw[y7 (by simpa using h5)]
     obtain⟨n6,s6,e6,o6,l6,u6⟩:=zm (n:=1500) o5 om om
     rw[e6,obind]
     simp only[outM]
     rw[Ga]
     have hn6:amt n6=true:=z46.2 ⟨om,om⟩
     refine⟨_,rfl,⟨o6,rfl,rfl,rfl,rfl,by simp only[yb,yd]; omega,fun x hx=>?_⟩,by simp only; omega⟩
     rcases y1c.1 hx with hx | hx
     ·exact q6 x hx
     ·obtain rfl:=y1b.1 hx
      unfold z1w
      rw[y6 (by unfold condBad; simp),y6 (by rw[hc,h9]; simp),y6 (by rw[hY]; simp),y6 (by rw[hn3,hn6]; simp)]
    ·rw[y6 (by simpa using h5)]
     simp only[outM]
     rw[Ga]
     refine⟨_,rfl,⟨o5,rfl,rfl,rfl,rfl,by simp only[yb,yd]; omega,fun x hx=>?_⟩,by simp only; omega⟩
     rcases y1c.1 hx with hx | hx
     ·exact q6 x hx
     ·obtain rfl:=y1b.1 hx
      unfold z1w
      rw[y6 (by unfold condBad; simp),y6 (by rw[hc]; simp),y6 (by rw[hY]; simp),y6 (by rw[hn3,show amt 0=true from dk]; simp; omega)]
   ·right
    rw[y6 (by simpa using hk)]
    exact⟨_,rfl,o,rfl,rfl,rfl,rfl,by simp only; omega,q6⟩) _ (s,f,y,t,am,[],n) (y2k _)
  ⟨hs,rfl,rfl,rfl,rfl,sk,sj⟩
 obtain⟨s9,f9,y9,t9,a9,co,i9⟩:=st
 simp only at g1 g2 g3 g4 g5 g6 g7
 subst g2 g3 g4 g5
 exact⟨s9,co,i9,e,g1,g6,g7⟩
end
end Go.Proofs.YtbmpcbbimefmoaaGreatDoor
/- Laws with rules that are made: they are valid. No condition. -/
namespace Go.Proofs.YtbmpcbbimefmoaaGreatDoor
open Go Go.TA
open Go.IntKind (i64)
attribute [-simp] List.getD_eq_getElem?_getD
structure RL (l:TLa):Prop where
 ml:ML l
 t5:T5 l.F
 fi:0<=l.E/\l.E<=12
 ye:1<=l.I/\l.I<=2
 rn:l.N.length=3
 a1:l.A.length<=1
 ru:∀ x∈l.N,1<=x.H/\x.H<=3/\0<=x.T/\x.T<=100/\x.L∈l.F.map (·.B)/\x.V∈l.F.map (·.B)
def AmOk (t:List THe) (f y:Int) (am:List TAm):Prop:=am.length<=1/\(∀ a∈am,a.Q.length=1)/\fstE am.length (amdE t f y am)=0
end Go.Proofs.YtbmpcbbimefmoaaGreatDoor
