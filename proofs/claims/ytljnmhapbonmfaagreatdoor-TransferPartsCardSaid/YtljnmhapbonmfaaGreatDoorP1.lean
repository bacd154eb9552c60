/- A part of the proof: plain laws of what the functions compute. No condition. -/
import Derived.Test.YtljnmhapbonmfaaGreatDoorG4
import Derived.Test.YtljnmhapbonmfaaGreatDoorT7
import Derived.Test.YtljnmhapbonmfaaGreatDoorT4
namespace Go.Proofs.YtljnmhapbonmfaaGreatDoor
open Go Go.TA
open Go.IntKind (i64)
def dayP (d:Int):Prop:=0<=d/\d<=35990
def amtP (n:Int):Prop:=1<=n/\n<=1000000000000
instance (d:Int):Decidable (dayP d):=inferInstanceAs (Decidable (_/\_))
instance (d:Int):Decidable (amtP d):=inferInstanceAs (Decidable (_/\_))
def yr (d:Int):Int:=if 0<=d/\d<=36000 then d / 360 else -1
variable {α ρ:Type} {body:Nat->Unit->Option (Step Unit ρ)}
theorem z6i [Inhabited α] (l:List α) (p:α->Bool) (v:α->ρ) (hs:∀ i,i<l.length->body i ()=some (if p (l.getD i dF)=true then .ret (v (l.getD i dF)) else .cont ())) :
  rangeM body l.length 0 ()=some (match l.find? p with | some x=>.ret (v x) | none=>.next ()):=by
 have key:∀ (k i:Nat),i+k=l.length->rangeM body k i ()=some (match (l.drop i).find? p with | some x=>.ret (v x) | none=>.next ()):=by
  intro k
  induction k with
  | zero=>intro i hk; rw[y1f om]; rfl
  | succ k ih =>
   intro i hk
   have hi:i<l.length:=om
   have e:l.getD i dF=l[i]:=by simp[List.getD_eq_getElem?_getD,List.getElem?_eq_getElem hi]
   rw[y19 hi]
   simp only[rangeM,hs i hi,y4j,e]
   cases hp:p l[i] with
   | true=>simp
   | false=>simp only[y20,y2t]; exact ih (i+1) om
 have:=key l.length 0 om
 simpa using this
def goodR:Y8->Nat->Nat->Bool
 | [],d,p=>decide (0<d)&&decide (p<=4)
 | c :: l,d,p=>if c.toNat=46 then (if d=0 then false else goodR l 0 (p+1)) else
  if c.toNat<48\/57<c.toNat\/(d=0/\c.toNat=48)\/d=2 then false else goodR l (d+1) p
def dig (c:UInt8):Prop:=48<=c.toNat/\c.toNat<=57
def preOk:Y8->Prop
 | []=>True
 | [a]=>dig a/\a.toNat≠48
 | [a,b]=>dig a/\a.toNat≠48/\dig b
 | _=>False
def cntOk (ws:List Y8) (p:Nat):Bool:=match nums ws with
 | none=>false
 | some ns=>decide (ns.length+p<=5)
theorem z59 (w:Y8) (ws:List Y8) (p:Nat):cntOk (w :: ws) p=match pv w with
  | none=>false
  | some _=>cntOk ws (p+1):=by
 unfold cntOk
 simp only[nums]
 cases pv w with
 | none=>rfl
 | some n =>
  cases nums ws with
  | none=>rfl
  | some ns =>
   simp only[y1q,yp]
   congr 1
   rw[eq_iff_iff]; omega
theorem z8g:∀ {w:Y8},preOk w->w≠[]->∃ n,pv w=some n
 | [a],h,_=>⟨_,by simp only[pv]; rw[y4 ⟨by have:=h.1.1; have:=h.2; omega,h.1.2⟩]⟩
 | [a,b],h,_=>⟨_,by simp only[pv]; rw[y4 ⟨⟨by have:=h.1.1; have:=h.2.1; omega,h.1.2⟩,h.2.2⟩]⟩
 | [],_,h=>absurd rfl h
 | _ :: _ :: _ :: _,h,_=>h.elim
variable {w:Y8} {c:UInt8}
theorem zfi {pre:Y8} (hc:¬ dig c):pv (pre++c :: w)=none:=by
 match pre,w with
 | [],[]=>simp only[y1w,pv]; rw[y3]; intro h; exact hc ⟨om,h.2⟩
 | [],[b]=>simp only[y1w,pv]; rw[y3]; intro h; exact hc ⟨om,h.1.2⟩
 | [],b :: d :: w=>rfl
 | [a],[]=>simp only[y1y,y1w,pv]; rw[y3]; intro h; exact hc h.2
 | [a],b :: w=>rfl
 | [a,b],w=>rfl
 | a :: b :: d :: pre,w=>rfl
theorem zd3 (hc:c.toNat=48):pv (c :: w)=none:=by
 match w with
 | []=>simp only[pv]; rw[y3]; omega
 | [b]=>simp only[pv]; rw[y3]; omega
 | b :: d :: w=>rfl
theorem z7f:∀ (l pre p0:Y8) (ps:List Y8) (p:Nat),preOk pre->pieces l=p0 :: ps->goodR l pre.length p=cntOk ((pre++p0) :: ps) p
 | [],pre,p0,ps,p,hp,he=>by
  cases he
  rw[y31,z59]
  simp only[goodR]
  match pre,hp with
  | [],_=>rfl
  | a :: pre,hp =>
   obtain⟨n,hn⟩:=z8g hp sj
   rw[hn]
   simp[cntOk,nums]
 | c :: l,pre,p0,ps,p,hp,he=>by
  rw[zt] at he
  simp only[goodR]
  by_cases hc:c.toNat=46
  ·rw[y4 (by rw[show c=46 from UInt8.toNat_inj.mp hc]; rfl)] at he
   cases he
   rw[y4 hc,y31,z59]
   match pre,hp with
   | [],_=>rfl
   | a :: pre,hp =>
    obtain⟨n,hn⟩:=z8g hp sj
    rw[hn,y3 sj]
    simp only
    cases hl:pieces l with
    | nil=>exact absurd hl (zp l)
    | cons q qs =>
     have:=z7f l [] q qs (p+1) trivial hl
     simpa using this
  ·rw[y3 (by intro h; rw[eq_of_beq h] at hc; exact hc rfl)] at he
   rw[y3 hc]
   cases hl:pieces l with
   | nil=>exact absurd hl (zp l)
   | cons q qs =>
    rw[hl] at he
    injection he with e1 e2
    subst e1
    subst e2
    have ih:=z7f l (pre++[c]) q qs p
    by_cases hd:dig c
    ·match pre,hp with
     | [],_ =>
      by_cases h0:c.toNat=48
      ·rw[y4 (by right; right; left; exact⟨rfl,h0⟩),z59,y1w,zd3 h0]
      ·rw[y3 (by have:=hd.1; have:=hd.2; simp; omega)]
       exact ih ⟨hd,h0⟩ hl
     | [a],hp =>
      rw[y3 (by have:=hd.1; have:=hd.2; simp; omega)]
      have:=ih ⟨hp.1,hp.2,hd⟩ hl
      simpa using this
     | [a,b],hp =>
      rw[y4 (by right; right; right; rfl),z59]
      rfl
     | _ :: _ :: _ :: _,hp=>exact hp.elim
    ·rw[y4 (by unfold dig at hd; omega),z59,zfi hd]
theorem z2d:∀ {ws:List Y8} {ns:List Int},nums ws=some ns->ns.length=ws.length
 | [],ns,h=>by cases h; rfl
 | w :: ws,ns,h=>by
  simp only[nums] at h
  split at h
  ·cases h
  ·cases hn:nums ws with
   | none=>rw[hn] at h; cases h
   | some ms =>
    rw[hn] at h
    cases h
    simp[z2d hn]
def good (l:Y8):Bool:=goodR l 0 1
theorem z3v (l:Y8):decide ((parts l).length>0)=good l:=by
 unfold good
 cases hl:pieces l with
 | nil=>exact absurd hl (zp l)
 | cons q qs =>
  have:=z7f l [] q qs 1 trivial hl
  simp only[y1d,y1w] at this
  rw[this]
  unfold parts cntOk
  rw[hl]
  cases hn:nums (q :: qs) with
  | none=>rfl
  | some ns =>
   have h1:=z2d hn
   simp only[yp] at h1
   simp only
   by_cases h4:ns.length>4
   ·simp only[y4 h4]; simp; omega
   ·simp only[y3 h4]; rw[y1n]; simp; omega
variable {l:Y8}
theorem z27 (hl:l.length<4611686018427387904):F_qc l=some (good l):=by
 simp only[F_qc,S_qc,Scr.den,z6]
 generalize hF:(fun s=>(S_qc_b1 l s).den)=F
 have key:∀ (k i d p:Nat),i+k=l.length->d<=i->p<=i+1->outM (iterM F ((d:Int),(p:Int),(i:Int))) (fun s=>some (decide (s.1>0)&&decide (s.2.1<=4))) (fun x=>some (id x))=some (goodR (l.drop i) d p):=by
  intro k
  induction k with
  | zero =>
   intro i d p hk hd hp
   rw[zq,y1f om,<- hF]
   simp only[S_qc_b1,Scr.den]
   rw[y3 sk]
   simp only[outM,goodR]
   congr 1
   rw[y1n]; simp; omega
  | succ k ih =>
   intro i d p hk hd hp
   have hi:i<l.length:=om
   have ei:l.getD i 0=l[i]:=by simp[List.getD_eq_getElem?_getD,List.getElem?_eq_getElem hi]
   rw[zq,y19 hi,<- y37 hF]
   simp only[S_qc_b1,Scr.den,yf,ei,z6,ze]
   generalize hcc:l[i]=c
   rw[y4 sk,z3 ⟨om,hi,trivial⟩]
   have w1:i64.wrap ((p:Int)+1)=((p+1:Nat):Int):=by rw[wrapId om om]; omega
   have w2:i64.wrap ((i:Int)+1)=((i+1:Nat):Int):=by rw[wrapId om om]; omega
   have w3:i64.wrap ((d:Int)+1)=((d+1:Nat):Int):=by rw[wrapId om om]; omega
   simp only[w1,w2,w3,goodR]
   by_cases hc:c.toNat=46
   ·rw[y4 (by simp[hc]),y4 hc]
    by_cases h0:d=0
    ·rw[y4 (by simp[h0]),y4 h0]; rfl
    ·rw[y3 (by simpa using h0),y3 h0]
     have h:=ih (i+1) 0 (p+1) om om om
     rw[show ((0:Nat):Int)=0 from rfl] at h
     exact h
   ·rw[y3 sk,y3 hc,z3 ⟨fun _=>om,fun _=>hi,fun _=>om,fun _=>hi,trivial⟩]
    by_cases hb:c.toNat<48\/57<c.toNat\/(d=0/\c.toNat=48)\/d=2
    ·rw[y4 sk,y4 hb]; rfl
    ·rw[y3 sk,y3 hb]
     exact ih (i+1) (d+1) p om om om
 exact key l.length 0 0 1 om om om
theorem z5a (hl:l.length<=1099511627776):F_q4s l=some (parts l):=by
 unfold F_q4s
 exact zbi hl rfl
def lexC:List Int->List Int->Int
 | [],[]=>0
 | [],_ :: _=>-1
 | _ :: _,[]=>1
 | a :: x,b :: y=>if a<b then -1 else if a>b then 1 else lexC x y
theorem z2p:∀ x,lexC x x=0
 | []=>rfl
 | a :: x=>by simp[lexC,z2p x]
theorem z3m:∀ {x y:List Int},lexC x y=0->x=y
 | [],[],_=>rfl
 | [],_ :: _,h=>by simp[lexC] at h
 | _ :: _,[],h=>by simp[lexC] at h
 | a :: x,b :: y,h=>by
  simp only[lexC] at h
  split at h
  ·omega
  ·split at h
   ·omega
   ·rw[z3m h,show a=b from om]
theorem z7g:∀ x y:List Int,lexC y x=-lexC x y
 | [],[]=>rfl
 | [],_ :: _=>rfl
 | _ :: _,[]=>rfl
 | a :: x,b :: y=>by
  simp only[lexC]
  by_cases h1:a<b
  ·rw[y4 h1,y3 om,y4 om]; rfl
  ·by_cases h2:a>b
   ·rw[y4 om,y3 h1,y4 h2]
   ·rw[y3 h1,y3 h2,y3 om,y3 om,z7g x y]
theorem z6j:∀ {x y z:List Int},lexC x y<0->lexC y z<0->lexC x z<0
 | [],_,[],h,h'=>by
  rename_i y
  cases y with
  | nil=>simp[lexC] at h
  | cons b y=>simp[lexC] at h'
 | [],_,c :: z,_,_=>by simp[lexC]
 | a :: x,[],_,h,_=>by simp[lexC] at h
 | a :: x,b :: y,[],_,h'=>by simp[lexC] at h'
 | a :: x,b :: y,c :: z,h,h'=>by
  simp only[lexC] at h h' |-
  by_cases h1:a<b
  ·by_cases h2:b<c
   ·rw[y4 om]; omega
   ·rw[y3 h2] at h'
    by_cases h3:b>c
    ·rw[y4 h3] at h'; omega
    ·rw[y4 om]; omega
  ·rw[y3 h1] at h
   by_cases h2:a>b
   ·rw[y4 h2] at h; omega
   ·rw[y3 h2] at h
    by_cases h3:b<c
    ·rw[y4 om]; omega
    ·rw[y3 h3] at h'
     by_cases h4:b>c
     ·rw[y4 h4] at h'; omega
     ·rw[y3 h4] at h'
      rw[y3 om,y3 om]
      exact z6j h h'
theorem zlm:∀ {w w':Y8} {n:Int},pv w=some n->pv w'=some n->w=w'
 | [],_,_,h,_=>by simp[pv] at h
 | [a],[],_,_,h=>by simp[pv] at h
 | [a,b],[],_,_,h=>by simp[pv] at h
 | [a],[c],n,h,h'=>by
  simp only[pv] at h h'
  split at h <;> split at h' <;> simp at h h'
  have:a.toNat=c.toNat:=om
  rw[y42.1 this]
 | [a],[c,d],n,h,h'=>by
  simp only[pv] at h h'
  split at h <;> split at h' <;> simp at h h'
  omega
 | [a,b],[c],n,h,h'=>by
  simp only[pv] at h h'
  split at h <;> split at h' <;> simp at h h'
  omega
 | [a,b],[c,d],n,h,h'=>by
  simp only[pv] at h h'
  split at h <;> split at h' <;> simp at h h'
  have h1:a.toNat=c.toNat:=om
  have h2:b.toNat=d.toNat:=om
  rw[y42.1 h1,y42.1 h2]
 | _ :: _ :: _ :: _,_,_,h,_=>by simp[pv] at h
 | _,_ :: _ :: _ :: _,_,_,h=>by simp[pv] at h
theorem z8v:∀ {ws ws':List Y8} {ns:List Int},nums ws=some ns->nums ws'=some ns->ws=ws'
 | [],[],_,_,_=>rfl
 | [],w :: ws,ns,h,h'=>by
  have h1:=z2d h; have h2:=z2d h'; simp only[y1d,yp] at h1 h2; omega
 | w :: ws,[],ns,h,h'=>by
  have h1:=z2d h; have h2:=z2d h'; simp only[y1d,yp] at h1 h2; omega
 | w :: ws,w' :: ws',ns,h,h'=>by
  simp only[nums] at h h'
  split at h
  ·cases h
  ·rename_i n hn
   split at h'
   ·cases h'
   ·rename_i n' hn'
    cases hm:nums ws with
    | none=>rw[hm] at h; cases h
    | some ms =>
     cases hm':nums ws' with
     | none=>rw[hm'] at h'; cases h'
     | some ms' =>
      rw[hm] at h; rw[hm'] at h'
      simp only[y1q,yo] at h h'
      rw[<- h] at h'
      simp only[y3o] at h'
      obtain⟨rfl,rfl⟩:=h'
      rw[zlm hn hn',z8v hm hm']
theorem z2y:∀ {l l':Y8},pieces l=pieces l'->l=l'
 | [],[],_=>rfl
 | [],b :: m,h=>by
  rw[zt] at h
  split at h
  ·simp[pieces] at h; first | exact absurd h (zp m) | exact absurd h.symm (zp m)
  ·split at h <;> simp[pieces] at h
 | b :: m,[],h=>by
  rw[zt] at h
  split at h
  ·simp[pieces] at h; first | exact absurd h (zp m) | exact absurd h.symm (zp m)
  ·split at h <;> simp[pieces] at h
 | b :: l,c :: m,h=>by
  rw[zt,zt] at h
  cases hl:pieces l with
  | nil=>exact absurd hl (zp l)
  | cons p ps =>
   cases hm:pieces m with
   | nil=>exact absurd hm (zp m)
   | cons q qs =>
    rw[hl,hm] at h
    by_cases hb:(b==46)=true
    ·by_cases hc:(c==46)=true
     ·rw[y4 hb,y4 hc] at h
      have e:pieces l=pieces m:=by rw[hl,hm]; simpa using h
      rw[z2y e,show b=c by rw[eq_of_beq hb,eq_of_beq hc]]
     ·rw[y4 hb,y3 hc] at h; simp at h
    ·by_cases hc:(c==46)=true
     ·rw[y3 hb,y4 hc] at h; simp at h
     ·rw[y3 hb,y3 hc] at h
      simp only[y3o] at h
      obtain⟨⟨rfl,rfl⟩,rfl⟩:=h
      rw[z2y (hl.trans hm.symm)]
theorem z13 (h:good l=true):nums (pieces l)=some (parts l)/\0<(parts l).length/\(parts l).length<=4:=by
 rw[<- z3v] at h
 have h0:0<(parts l).length:=by simpa using h
 unfold parts at h0 |-
 split at h0
 ·simp at h0
 ·rename_i ns hn
  split at h0
  ·simp at h0
  ·rename_i h4
   rw[hn]
   simp only[y3 h4]
   exact⟨trivial,h0,om⟩
theorem z5n {l':Y8} (h:good l=true) (h':good l'=true) (e:parts l=parts l'):l=l' :=
 z2y (z8v (z13 h).1 (e▸(z13 h').1))
def valW (w:Y8):Int:=w.foldl (fun n c=>10 * n+((c.toNat:Int)-48)) 0
theorem z9q:∀ {w:Y8} {n:Int},pv w=some n->valW w=n/\1<=w.length/\w.length<=2/\(w.getD 0 0).toNat≠48/\∀ c∈w,48<=c.toNat/\c.toNat<=57
 | [],_,h=>by simp[pv] at h
 | [a],n,h=>by
  simp only[pv] at h
  split at h <;> simp at h
  rename_i h1
  refine⟨by simp[valW]; omega,sj,sj,sk,fun c hc=>by simp at hc; subst hc; omega⟩
 | [a,b],n,h=>by
  simp only[pv] at h
  split at h <;> simp at h
  rename_i h1
  refine⟨by simp[valW]; omega,sj,sj,sk,fun c hc=>?_⟩
  simp at hc
  rcases hc with rfl | rfl <;> omega
 | _ :: _ :: _ :: _,_,h=>by simp[pv] at h
theorem z3c (h:good l=true):l.length<=11:=by
 have key:∀ (l:Y8) (ns:List Int),nums (pieces l)=some ns->l.length+1<=3 * ns.length:=by
  intro l
  suffices H:∀ (l p0:Y8) (ps:List Y8),pieces l=p0 :: ps->l.length=p0.length+(ps.map fun q=>q.length+1).sum by
   intro ns hn
   cases hp:pieces l with
   | nil=>exact absurd hp (zp l)
   | cons p0 ps =>
    rw[hp] at hn
    rw[H l p0 ps hp]
    have hall:∀ (ws:List Y8) (ms:List Int),nums ws=some ms->(ws.map fun q=>q.length+1).sum<=3 * ms.length:=by
     intro ws
     induction ws with
     | nil=>intro ms hm; simp
     | cons w ws ih =>
      intro ms hm
      simp only[nums] at hm
      split at hm
      ·cases hm
      ·rename_i n hpv
       cases hw:nums ws with
       | none=>rw[hw] at hm; cases hm
       | some ks =>
        rw[hw] at hm; cases hm
        have:=ih ks hw
        have:=(z9q hpv).2.2.1
        simp only[y2c,List.sum_cons,yp]
        omega
    have:=hall _ _ hn
    simp only[y2c,List.sum_cons] at this
    omega
  intro l
  induction l with
  | nil=>intro p0 ps hp; simp[pieces] at hp; obtain⟨rfl,rfl⟩:=hp; simp
  | cons b l ih =>
   intro p0 ps hp
   rw[zt] at hp
   cases hl:pieces l with
   | nil=>exact absurd hl (zp l)
   | cons q qs =>
    have:=ih q qs hl
    rw[hl] at hp
    split at hp
    ·simp only[y3o] at hp
     obtain⟨rfl,rfl⟩:=hp
     simp only[yp,y1d,y2c,List.sum_cons]; omega
    ·simp only[y3o] at hp
     obtain⟨rfl,rfl⟩:=hp
     simp only[yp]; omega
 obtain⟨h1,h2,h3⟩:=z13 h
 have:=key l _ h1
 omega
def cmpI (a b:Int):Int:=if a<b then -1 else if a>b then 1 else 0
theorem z3n (a b:Int):F_qm a b=some (cmpI a b):=by
 simp only[F_qm,S_qm,F_q3c,S_q3c,Scr.den,obind,cmpI,bne_self_eq_false,y20,y2t,y5]
 by_cases h1:a<b
 ·rw[y4 h1,y4 h1]
 ·rw[y3 h1,y3 h1]
  by_cases h2:a>b
  ·rw[y4 h2,y4 h2]
  ·rw[y3 h2,y3 h2]
theorem z4z {l:List Int} {i:Nat} (hi:i<l.length):l.getD i dF=l[i]:=by simp[List.getD_eq_getElem?_getD,List.getElem?_eq_getElem hi]
theorem z8w (x y:List Int):F_q18 x y=some (lexC x y):=by
 simp only[F_q18,S_q18,Scr.den]
 generalize hB:(fun i s=>(S_q18_b1 x y i s).den)=B
 have key:∀ (k i:Nat),i+k=x.length->i<=y.length->outM (rangeM B k i ()) (fun _=>if decide ((x.length:Int)<(y.length:Int))=true then some (-1) else some 0) (fun r=>some (id r))=some (lexC (x.drop i) (y.drop i)):=by
  intro k
  induction k with
  | zero =>
   intro i hk hy
   rw[y1f om]
   by_cases h:y.length<=i
   ·rw[y1f h]
    simp only[rangeM,outM]
    rw[y3 sk]
    rfl
   ·rw[y19 (by omega:i<y.length)]
    simp only[rangeM,outM]
    rw[y4 sk]
    rfl
  | succ k ih =>
   intro i hk hy
   have hi:i<x.length:=om
   rw[y19 hi]
   simp only[rangeM]
   rw[<- y37 (y37 hB i) ()]
   simp only[S_q18_b1,Scr.den]
   by_cases h:y.length<=i
   ·rw[y4 sk,y1f h]
    rfl
   ·have hj:i<y.length:=om
    rw[y3 sk,z3 ⟨hj,trivial⟩,y19 hj]
    simp only[z3n,obind,z4z hi,z4z hj,lexC,cmpI]
    by_cases h1:x[i]<y[i]
    ·simp only[y4 h1]; rfl
    ·simp only[y3 h1]
     by_cases h2:x[i]>y[i]
     ·simp only[y4 h2]; rfl
     ·simp only[y3 h2]
      exact ih (i+1) om om
 have:=key x.length 0 om om
 simpa using this
def strC (a b:Y8):Int:=if Op.bytesLess a b=true then -1 else if (!(Op.bytesLess a b||a==b))=true then 1 else 0
def cmpC (a b:Y8):Int:=if (parts a).length=0/\(parts b).length=0 then strC a b else lexC (parts a) (parts b)
variable {a b:Y8}
theorem z6k (ha:a.length<=1000000) (hb:b.length<=1000000):F_q10 a b=some (cmpC a b):=by
 simp only[F_q10,S_q10,Scr.den,z5a (show a.length<=1099511627776 from om),z5a (show b.length<=1099511627776 from om),obind,z6,cmpC,z8w]
 by_cases h:(parts a).length=0/\(parts b).length=0
 ·rw[y4 (by simp[h]),y4 h]
  simp only[F_q49,S_q49,F_q3b,S_q3b,Scr.den,obind,y3k,y5l,y20,y2t,strC]
  by_cases h1:Op.bytesLess a b=true
  ·rw[y4 h1,y4 h1]; rfl
  ·rw[y3 h1,y3 h1]
   by_cases h2:(!(Op.bytesLess a b||a==b))=true
   ·rw[y4 h2,y4 h2]; rfl
   ·rw[y3 h2,y3 h2]; rfl
 ·rw[y3 (by simpa using h),y3 h]
theorem z3o (h:good a=true\/good b=true):cmpC a b=lexC (parts a) (parts b):=by
 unfold cmpC
 rw[y3]
 rintro⟨h1,h2⟩
 rcases h with h | h
 ·have:=(z13 h).2.1; omega
 ·have:=(z13 h).2.1; omega
theorem z5b (hg:good l=true):F_qe l=some (parts l):=by
 obtain⟨hn,h0,h4⟩:=z13 hg
 have hlen:=z3c hg
 simp only[F_qe,S_qe,Scr.den]
 rw[y3 sk]
 generalize hF:(fun s=>(S_qe_b1 l s).den)=F
 have w1:∀ i:Nat,i<=11->i64.wrap ((i:Int)+1)=((i+1:Nat):Int):=fun i hi=>by rw[wrapId om om]; omega
 have flush:∀ (i:Nat) (w:Y8) (out:List Int) (n:Int),i<=l.length->w.length<=i->(∀ j,j<w.length->l.getD (i-w.length+j) 0=w.getD j 0)->pv w=some n->(i=l.length\/(l.getD i 0).toNat=46)->out.length<=4 ->
   F (out,valW w,(w.length:Int),(i:Int))=some (.cont (out++[n],0,0,((i+1:Nat):Int))):=by
  intro i w out n hi hw hg hpv hor ho
  obtain⟨e1,e2,e3,e4,e5⟩:=z9q hpv
  have hk:i64.wrap ((i:Int)-(w.length:Int))=((i-w.length:Nat):Int):=by rw[wrapId om om]; omega
  have h0:=hg 0 om
  rw[y3u] at h0
  rw[<- y37 hF]
  simp only[S_qe_b1,Scr.den,yf,ze,hk,h0]
  rw[y4 sk,z3 ⟨fun _=>om,fun h=>by have h:=h.1; simp at h; omega,trivial⟩,y4 (by
   rcases hor with rfl | h
   ·simp
   ·simp only[yc,ym]; right; omega),z3 ⟨fun _=>om,fun _=>om,trivial⟩,y3 (by
    simp only[yc,ym,y5]; omega),Ga,w1 i om,e1]
 have digit:∀ (i:Nat) (w:Y8) (out:List Int),i<l.length->(l.getD i 0).toNat≠46->48<=(l.getD i 0).toNat/\(l.getD i 0).toNat<=57->w.length<=1->(∀ c∈w,48<=c.toNat/\c.toNat<=57) ->
   F (out,valW w,(w.length:Int),(i:Int))=some (.cont (out,valW (w++[l.getD i 0]),((w++[l.getD i 0]).length:Int),((i+1:Nat):Int))):=by
  intro i w out hi h46 hd hw hall
  have hv:0<=valW w/\valW w<=9:=by
   match w,hw with
   | [],_=>simp[valW]
   | [a],_=>have:=hall a sj; simp[valW]; omega
  have e1:valW (w++[l.getD i 0])=10 * valW w+(((l.getD i 0).toNat:Int)-48):=by simp[valW]
  have e2:IntKind.u8.wrap (((l.getD i 0).toNat:Int)-48)=((l.getD i 0).toNat:Int)-48:=by
   generalize (l.getD i 0).toNat=m at hd
   simp only[IntKind.wrap,IntKind.bits,IntKind.signed]
   simp
   omega
  rw[<- y37 hF]
  simp only[S_qe_b1,Scr.den,yf,ze,e1,e2]
  rw[y4 sk,z3 ⟨fun _=>om,fun _=>om,trivial⟩,y3 (by simp only[yc,ym]; omega),z3 ⟨om,hi,fun _=>om,fun _=>hi,trivial⟩,y3 (by simp only[yc,y5]; omega),w1 i om,w1 w.length om,
   wrapId (n:=10 * valW w) om om,wrapId (n:=((l.getD i 0).toNat:Int)-48) om om,wrapId om om]
  simp
 have key:∀ (k i:Nat) (w p0:Y8) (ps:List Y8) (out ns:List Int),i+k=l.length->w.length<=i->(∀ j,j<w.length->l.getD (i-w.length+j) 0=w.getD j 0)->pieces (l.drop i)=p0 :: ps->nums ((w++p0) :: ps)=some ns->out.length+ns.length<=4 ->
   iterM F (out,valW w,(w.length:Int),(i:Int))=some (.next (out++ns,0,0,((l.length+1:Nat):Int))):=by
  intro k
  induction k with
  | zero =>
   intro i w p0 ps out ns hk hw hgd hpc hnm ho
   obtain rfl:i=l.length:=om
   rw[y1f (y7 _)] at hpc
   simp only[pieces,y3o] at hpc
   obtain⟨rfl,rfl⟩:=hpc
   simp only[y31,nums] at hnm
   split at hnm
   ·cases hnm
   ·rename_i n hpv
    simp only[y1q,yo] at hnm
    subst hnm
    rw[zq,flush l.length w out n (y7 _) hw hgd hpv (.inl rfl) (by simp at ho; omega)]
    simp only
    rw[zq,<- y37 hF]
    simp only[S_qe_b1,Scr.den]
    rw[y3 sk]
  | succ k ih =>
   intro i w p0 ps out ns hk hw hgd hpc hnm ho
   have hi:i<l.length:=om
   have ei:l.getD i 0=l[i]:=by simp[List.getD_eq_getElem?_getD,List.getElem?_eq_getElem hi]
   rw[y19 hi,zt] at hpc
   cases hq:pieces (l.drop (i+1)) with
   | nil=>exact absurd hq (zp _)
   | cons q qs =>
    rw[hq] at hpc
    by_cases hc:(l[i]==46)=true
    ·rw[y4 hc] at hpc
     simp only[y3o] at hpc
     obtain⟨rfl,rfl⟩:=hpc
     simp only[y31,nums] at hnm
     split at hnm
     ·cases hnm
     ·rename_i n hpv
      cases hm:nums (q :: qs) with
      | none=>simp only[nums] at hm; rw[hm] at hnm; cases hnm
      | some ms =>
       have hm':=hm
       simp only[nums] at hm'
       rw[hm'] at hnm
       simp only[y1q,yo] at hnm
       subst hnm
       simp only[yp] at ho
       have h46:(l.getD i 0).toNat=46:=by rw[ei,eq_of_beq hc]; rfl
       rw[zq,flush i w out n om hw hgd hpv (.inr h46) om]
       simp only
       have:=ih (i+1) [] q qs (out++[n]) ms om sj sj hq (by simpa using hm) sk
       simpa [valW] using this
    ·rw[y3 hc] at hpc
     simp only[y3o] at hpc
     obtain⟨rfl,rfl⟩:=hpc
     have hpv:∃ n,pv (w++l[i] :: q)=some n:=by
      simp only[nums] at hnm
      split at hnm
      ·cases hnm
      ·rename_i n h; exact⟨n,h⟩
     obtain⟨n,hpv⟩:=hpv
     obtain⟨_,_,g3,_,g5⟩:=z9q hpv
     simp only[yb,yp] at g3
     have hne:(l.getD i 0).toNat≠46:=by
      rw[ei]; intro h; exact hc (by rw[y42.1 (show l[i].toNat=(46:UInt8).toNat from h)]; rfl)
     rw[zq,digit i w out hi hne (by rw[ei]; exact g5 l[i] sj) om (fun c hc=>g5 c (by simp[hc]))]
     simp only
     refine ih (i+1) (w++[l.getD i 0]) q qs out ns om sk (fun j hj=>?_) hq (by rw[ei]; simpa using hnm) ho
     simp only[yb,yp,y1d] at hj |-
     by_cases hjw:j<w.length
     ·have:=hgd j hjw
      rw[show i+1-(w.length+(0+1))+j=i-w.length+j from om,this]
      simp[List.getD_eq_getElem?_getD,List.getElem?_append_left hjw]
     ·obtain rfl:j=w.length:=om
      rw[show i+1-(w.length+(0+1))+w.length=i from om]
      simp[List.getD_eq_getElem?_getD]
 cases hp:pieces l with
 | nil=>exact absurd hp (zp l)
 | cons p0 ps =>
  rw[hp] at hn
  have h:=key l.length 0 [] p0 ps [] (parts l) om sj sj (by simpa using hp) (by simpa using hn) sk
  have h':iterM F (([]:List Int),(0:Int),(0:Int),(0:Int))=some (.next (parts l,0,0,((l.length+1:Nat):Int))):=by simpa [valW] using h
  rw[h']
  simp only[outM]
  rw[y3 sk,Ga]
def TapeOk (s:TTape):Prop:=0<=s.at_/\s.l.length<=500/\s.at_<=s.l.length
theorem z8x (t:List Int):∃ s,F_q2r t=some s/\TapeOk s:=by
 simp only[F_q2r,S_q2r,Scr.den]
 refine⟨_,zbi ⟨?_,?_,trivial⟩ rfl,sj,?_,sj⟩
 ·split <;> omega
 ·split <;> omega
 ·simp only[y13]
  split <;> omega
variable {s:TTape}
theorem zi {n:Int} (hs:TapeOk s) (h1:1<=n) (hn:n<=4611686018427387904):∃ v s',F_q1 n s=some (v,s')/\TapeOk s'/\0<=v/\v<n:=by
 obtain⟨a1,a2,a3⟩:=hs
 simp only[F_q1,S_q1,Scr.den]
 by_cases hc:s.at_>=(s.l.length:Int)
 ·rw[y4 (by simp[hc])]
  exact⟨0,s,rfl,⟨a1,a2,a3⟩,om,om⟩
 ·rw[y3 sk]
  have e1:i64.wrap (s.at_+1)=s.at_+1:=wrapId om om
  rw[e1,Gc]
  generalize s.l.getD s.at_.toNat dF=x
  have t1:x.tmod n<n:=Int.tmod_lt_of_pos x om
  have t2:-n<x.tmod n:=Int.lt_tmod_of_pos x om
  have e3:i64.wrap (x.tmod n+n)=x.tmod n+n:=wrapId om om
  rw[e3]
  have ht:TapeOk ⟨s.l,s.at_+1⟩:=⟨by simp only; omega,a2,by simp only; omega⟩
  split
  ·rename_i h
   simp only[y5] at h
   exact⟨_,_,rfl,ht,om,om⟩
  ·rename_i h
   simp only[y5] at h
   exact⟨_,_,rfl,ht,om,om⟩
theorem z25 {lo hi:Int} (hs:TapeOk s) (h0:-1000000000000000<=lo) (h1:lo<=hi) (h2:hi<=1000000000000000):∃ v s',F_qx lo hi s=some (v,s')/\TapeOk s'/\lo<=v/\v<=hi:=by
 simp only[F_qx,S_qx,Scr.den]
 rw[wrapId (n:=hi-lo) om om,wrapId (n:=hi-lo+1) om om]
 obtain⟨v,s',h3,h4,h5,h6⟩:=zi (n:=hi-lo+1) hs om om
 refine⟨lo+v,s',?_,h4,om,om⟩
 rw[h3,obind]
 simp only
 rw[wrapId (n:=lo+v) om om]
theorem z14 {l:List Int} (hs:TapeOk s) (h0:1<=l.length) (h1:l.length<=100):∃ v s',F_q6 l s=some (v,s')/\TapeOk s'/\v∈l:=by
 simp only[F_q6,S_q6,Scr.den]
 obtain⟨v,s',h3,h4,h5,h6⟩:=zi (n:=(l.length:Int)) hs om om
 refine⟨_,s',?_,h4,z4 (show v.toNat<l.length from om)⟩
 rw[h3,obind,z3 ⟨by simpa using h5,by simp only; omega,trivial⟩]
theorem z1x (ha:good a=true) (hb:good b=true):F_qf a b=some (lexC (parts a) (parts b)):=by
 have h1:=(z13 ha).2
 have h2:=(z13 hb).2
 simp only[F_qf,S_qf,Scr.den,z5b ha,z5b hb,obind,ze]
 rw[y3 (by simp only[yc,ym]; omega)]
 generalize parts a=x at h1
 generalize parts b=y at h2
 generalize hF:(fun s=>(S_qf_b1 x y s).den)=F
 have key:∀ (k i:Nat),i+k=x.length->i<=y.length->outM (iterM F (i:Int)) (fun _=>if decide ((x.length:Int)<(y.length:Int))=true then some (-1) else if decide ((x.length:Int)>(y.length:Int))=true then some 1 else some 0) (fun r=>some (id r))=some (lexC (x.drop i) (y.drop i)):=by
  intro k
  induction k with
  | zero =>
   intro i hk hy
   rw[zq,<- y37 hF]
   simp only[S_qf_b1,Scr.den,z6]
   rw[y3 (by simp only[y6,y5]; omega),y1f om]
   simp only[outM]
   by_cases h:y.length<=i
   ·rw[y1f h,y3 sk,y3 sk]; rfl
   ·rw[y19 (by omega:i<y.length),y4 sk]; rfl
  | succ k ih =>
   intro i hk hy
   have hi:i<x.length:=om
   rw[zq,<- y37 hF,y19 hi]
   simp only[S_qf_b1,Scr.den,z6]
   by_cases h:y.length<=i
   ·rw[y3 (by simp only[y6,y5]; omega),y1f h]
    simp only[outM]
    rw[y3 sk,y4 sk]; rfl
   ·have hj:i<y.length:=om
    have w1:i64.wrap ((i:Int)+1)=((i+1:Nat):Int):=by rw[wrapId om om]; omega
    rw[y4 (by simp only[y6,y5]; omega),Gc,y19 hj]
    simp only[yf,z4z hi,z4z hj,lexC]
    by_cases h1:x[i]<y[i]
    ·rw[y4 (y11 h1),y4 h1]; rfl
    ·rw[y3 (by simpa using h1),y3 h1]
     by_cases h2:x[i]>y[i]
     ·rw[y4 (y11 h2),y4 h2]; rfl
     ·rw[y3 (by simpa using h2),y3 h2,w1]
      exact ih (i+1) om om
 have:=key x.length 0 om om
 simpa using this
theorem z1m [Inhabited α] (l:List α) (p:α->Bool) (v:Nat->ρ) (hs:∀ i,i<l.length->body i ()=some (if p (l.getD i dF)=true then .ret (v i) else .cont ())) :
  rangeM body l.length 0 ()=some (if l.any p=true then .ret (v (l.findIdx p)) else .next ()):=by
 have key:∀ (k i:Nat),i+k=l.length->rangeM body k i ()=some (if (l.drop i).any p=true then .ret (v (i+(l.drop i).findIdx p)) else .next ()):=by
  intro k
  induction k with
  | zero=>intro i hk; rw[y1f om]; rfl
  | succ k ih =>
   intro i hk
   have hi:i<l.length:=om
   have e:l.getD i dF=l[i]:=by simp[List.getD_eq_getElem?_getD,List.getElem?_eq_getElem hi]
   rw[y19 hi]
   simp only[rangeM,hs i hi,e,y3q,y2i]
   cases hp:p l[i] with
   | true=>simp
   | false =>
    simp only[y20,y2t,y4a,cond_false]
    rw[ih (i+1) om,show i+1+(l.drop (i+1)).findIdx p=i+((l.drop (i+1)).findIdx p+1) from om]
 have:=key l.length 0 om
 simpa using this
end Go.Proofs.YtljnmhapbonmfaaGreatDoor
/- Codes,names,trees: what both programs say of them. No condition. -/
namespace Go.Proofs.YtljnmhapbonmfaaGreatDoor
open Go Go.TA
open Go.IntKind (i64)
def fstE (n:Nat) (e:Nat->Int):Int:=match (List.range n).find? (fun i=>e i != 0) with
 | some i=>e i
 | none=>0
variable {n:Nat}
theorem z4s {ρ:Type} {body:Nat->Unit->Option (Step Unit ρ)} (e:Nat->Int) (g:Nat->ρ) (hs:∀ i,i<n->(∀ j,j<i->e j=0)->body i ()=some (if e i=0 then .cont () else .ret (g i))) :
  rangeM body n 0 ()=some (match (List.range n).find? (fun i=>e i != 0) with | some j=>.ret (g j) | none=>.next ()):=by
 have key:∀ (k i:Nat),i+k=n->(∀ j,j<i->e j=0)->rangeM body k i ()=some (match (List.range' i k).find? (fun i=>e i != 0) with | some j=>.ret (g j) | none=>.next ()):=by
  intro k
  induction k with
  | zero=>intro i hk hz; rfl
  | succ k ih =>
   intro i hk hz
   simp only[rangeM,hs i om hz,List.range'_succ,y4j]
   by_cases h:e i=0
   ·rw[y4 h]
    simp only[h,bne_self_eq_false]
    exact ih (i+1) om (fun j hj=>by
     by_cases e':j=i
     ·rw[e']; exact h
     ·exact hz j om)
   ·rw[y3 h]
    have:(e i != 0)=true:=by simpa using h
    simp only[this]
 have:=key n 0 om (fun j hj=>om)
 rwa [<- List.range_eq_range'] at this
theorem z1p {body:Nat->Unit->Option (Step Unit Int)} (e:Nat->Int) (hs:∀ i,i<n->(∀ j,j<i->e j=0)->body i ()=some (if e i=0 then .cont () else .ret (e i))) :
  outM (rangeM body n 0 ()) (fun _=>some 0) (fun x=>some (id x))=some (fstE n e):=by
 rw[z4s e e hs]
 unfold fstE
 split <;> rfl
theorem z10 {e:Nat->Int}:fstE n e=0↔∀ i,i<n->e i=0:=by
 unfold fstE
 split
 ·rename_i i h
  have h1:=List.find?_some h
  have h2:=List.mem_of_find?_eq_some h
  exact⟨fun h0=>by simp[h0] at h1,fun h0=>h0 i (y2b.1 h2)⟩
 ·rename_i h
  rw[List.find?_eq_none] at h
  exact⟨fun _ i hi=>by simpa using h i (y2b.2 hi),fun _=>rfl⟩
def ldot (c:Y8):Nat->Nat
 | 0=>0
 | k+1=>if (c.getD k 0).toNat=46 then k else ldot c k
def par (c:Y8):Y8:=if good c=true then c.take (ldot c c.length) else []
theorem zeb (c:Y8):∀ k,ldot c k<=k
 | 0=>y7 _
 | k+1=>by unfold ldot; split; omega; exact y2j (zeb c k)
variable {c:Y8}
theorem zfj (hl:c.length<=1000000):F_q2s c=some (good c):=by
 simp only[F_q2s,S_q2s,Scr.den,z5a (l:=c) om,obind]
 rw[show (decide (((parts c).length:Int)>0))=decide ((parts c).length>0) from sj,z3v]
theorem z36 (hl:c.length<=1000000):F_qg c=some (par c):=by
 simp only[F_qg,S_qg,Scr.den,z27 (l:=c) om,obind]
 unfold par
 by_cases hg:good c=true
 ·rw[y3 (by simp[hg]),y4 hg]
  generalize hF:(fun s=>(S_qg_b1 c s).den)=F
  have key:∀ k:Nat,k<=c.length->outM (iterM F ((k:Int)-1)) (fun _=>some []) (fun x=>some (id x))=some (c.take (ldot c k)):=by
   intro k
   induction k with
   | zero =>
    intro _
    rw[zq,<- y37 hF]
    simp only[S_qg_b1,Scr.den]
    rw[y3 sj]
    rfl
   | succ k ih =>
    intro hk
    have ek:(((k+1:Nat):Int)-1)=(k:Int):=om
    rw[ek,zq,<- y37 hF]
    simp only[S_qg_b1,Scr.den,yf,ldot]
    rw[y4 sj,Gb]
    by_cases h:(c.getD k 0).toNat=46
    ·rw[y4 (by simp only[ym]; omega),y4 h,Ga]
     rfl
    ·rw[y3 (by simp only[ym]; omega),y3 h]
     have w1:i64.wrap ((k:Int)-1)=(k:Int)-1:=wrapId om om
     simp only[w1]
     exact ih om
  have w1:i64.wrap ((c.length:Int)-1)=(c.length:Int)-1:=wrapId om om
  rw[w1]
  exact key c.length (y7 _)
 ·rw[y4 (by simp[hg]),y3 hg]
theorem zln (hl:c.length<=1000000):∃ v,F_q39 c 46=some v/\(if 0>v then 0 else v)=(ldot c c.length:Int):=by
 simp only[F_q39,S_q39,F_q15,S_q15,Scr.den]
 generalize hF:(fun s=>(S_q15_b1 c 46 s).den)=F
 have key:∀ k:Nat,k<=c.length->∃ v,outM (iterM F ((k:Int)-1)) (fun _=>some (-1)) (fun x=>some (id x))=some v/\(if 0>v then 0 else v)=(ldot c k:Int):=by
  intro k
  induction k with
  | zero =>
   intro _
   rw[zq,<- y37 hF]
   simp only[S_q15_b1,Scr.den]
   rw[y3 sj]
   exact⟨-1,rfl,rfl⟩
  | succ k ih =>
   intro hk
   have ek:(((k+1:Nat):Int)-1)=(k:Int):=om
   rw[ek,zq,<- y37 hF]
   simp only[S_q15_b1,Scr.den,yf,ldot]
   rw[y4 sj,Gb]
   by_cases h:(c.getD k 0).toNat=46
   ·rw[y4 (by simp only[ym]; omega),y4 h]
    have hk0:¬ (0:Int)>(k:Int):=om
    exact⟨k,rfl,y3 hk0⟩
   ·rw[y3 (by simp only[ym]; omega),y3 h]
    have w1:i64.wrap ((k:Int)-1)=(k:Int)-1:=wrapId om om
    simp only[w1]
    exact ih om
 have w1:i64.wrap ((c.length:Int)-1)=(c.length:Int)-1:=wrapId om om
 rw[w1]
 obtain⟨v,h1,h2⟩:=key c.length (y7 _)
 exact⟨v,by rw[h1]; rfl,h2⟩
theorem zbj (hl:c.length<=1000000):F_q2z c=some (par c):=by
 obtain⟨v,h1,h2⟩:=zln hl
 simp only[F_q2z,S_q2z,Scr.den,zfj hl,h1,obind]
 unfold par
 by_cases hg:good c=true
 ·have:=zeb c c.length
  rw[y3 (by simp[hg]),y4 hg]
  simp only[h2,yf]
  rw[Gb]
 ·rw[y4 (by simp[hg]),y3 hg]
def und (a b:Y8):Bool:=good a&&good b&&decide (b.length<=a.length)&&(a.take b.length==b)&&(a.length==b.length||(a.getD b.length 0).toNat==46)
theorem z29 {a b:Y8} (ha:a.length<=1000000) (hb:b.length<=1000000):F_q1t a b=some (und a b):=by
 simp only[F_q1t,S_q1t,Scr.den,z27 (l:=a) om,obind]
 unfold und
 by_cases h1:good a=true
 ·rw[zm (by simp[AllP,h1])]
  simp only[z27 (l:=b) om,obind]
  by_cases h2:good b=true
  ·by_cases h3:b.length<=a.length
   ·rw[z3 ⟨fun _=>om,trivial⟩]
    by_cases h4:a.take b.length=b
    ·rw[y3 (by simp[h1,h2,h4]; omega),z3 ⟨fun h=>by
      have:¬ a.length=b.length:=by have h:=h.1; simp only[y21,ne_eq] at h; omega
      omega,trivial⟩]
     simp only[h1,h2,h3,h4,ze]
     congr 1
     rw[y1n]; simp; omega
    ·rw[y4 (by simp[h1,h2,h4])]
     simp[h4]
   ·rw[z3 ⟨fun h=>by have h:=h.1; simp[h1,h2] at h; omega,trivial⟩,y4 (by simp[h1,h2]; exact .inl om)]
    simp[h3]
  ·rw[z3 ⟨fun h=>by have h:=h.1; simp[h2] at h,trivial⟩,y4 (by simp[h2])]
   simp[h2]
 ·rw[z12 (by simp[AllP,h1]),obind,z3 ⟨fun h=>by have h:=h.1; simp[h1] at h,trivial⟩,y4 (by simp[h1])]
  simp[h1]
def joinD:List Y8->Y8
 | []=>[]
 | [w]=>w
 | w :: ws=>w++46 :: joinD ws
theorem z2z {w:Y8} {ws:List Y8} (h:ws≠[]):joinD (w :: ws)=w++46 :: joinD ws:=by
 cases ws with
 | nil=>exact absurd rfl h
 | cons x xs=>rfl
theorem z4d:∀ l:Y8,joinD (pieces l)=l
 | []=>rfl
 | b :: l=>by
  have ih:=z4d l
  have hne:=zp l
  rw[zt]
  split
  ·rename_i h
   rw[z2z hne,ih]
   have:b=46:=by simpa using h
   rw[this]; rfl
  ·cases hp:pieces l with
   | nil=>exact absurd hp hne
   | cons w ws =>
    rw[hp] at ih
    cases ws with
    | nil=>simp only[joinD] at ih |-; rw[ih]
    | cons x xs =>
     rw[z2z sj] at ih
     show joinD ((b :: w) :: x :: xs)=_
     rw[z2z sj,y1y,ih]
theorem z4t:∀ a b:Y8,pieces (a++46 :: b)=pieces a++pieces b
 | [],b=>by rw[y1w,zt]; rfl
 | x :: a,b=>by
  have ih:=z4t a b
  have hne:=zp a
  rw[y1y,zt,zt,ih]
  split
  ·rfl
  ·cases hp:pieces a with
   | nil=>exact absurd hp hne
   | cons w ws=>rfl
theorem z4i {xs ys:List Y8} (hx:xs≠[]) (hy:ys≠[]):joinD (xs++ys)=joinD xs++46 :: joinD ys:=by
 induction xs with
 | nil=>exact absurd rfl hx
 | cons x xs ih =>
  cases xs with
  | nil=>rw[y3d,z2z hy]; rfl
  | cons x' xs' =>
   have h1:=ih sj
   rw[y1y,z2z sj,h1,z2z (List.cons_ne_nil x' xs'),y1o]
   rfl
theorem z6l:∀ {xs ys:List Y8} {ns:List Int},nums (xs++ys)=some ns->∃ a b,nums xs=some a/\nums ys=some b/\ns=a++b
 | [],ys,ns,h=>⟨[],ns,rfl,h,rfl⟩
 | x :: xs,ys,ns,h=>by
  simp only[y1y,nums] at h |-
  cases hv:pv x with
  | none=>simp[hv] at h
  | some v =>
   cases hn:nums (xs++ys) with
   | none=>simp[hv,hn] at h
   | some m =>
    obtain⟨a,b,h1,h2,h3⟩:=z6l hn
    simp only[hv,hn,y1q,yo] at h
    exact⟨v :: a,b,by simp[h1],h2,by rw[<- h,h3]; rfl⟩
end Go.Proofs.YtljnmhapbonmfaaGreatDoor
/- One code under another,in the program; names. No condition. -/
namespace Go.Proofs.YtljnmhapbonmfaaGreatDoor
open Go Go.TA
open Go.IntKind (i64)
theorem zdu (x y:List Int):F_qq x y=some (x==y):=by
 simp only[F_qq,S_qq,Scr.den]
 by_cases h:x.length=y.length
 ·rw[y3 (by simp only[y4r,ne_eq]; omega)]
  have h1:∀ i,i<x.length->(x.getD i dF=y.getD i dF)->(S_qq_b1 x y i ()).den=some (.cont ()):=fun i hi e=>by
   simp only[S_qq_b1,Scr.den]
   rw[Ga,y3 (by simp only[y4r,ne_eq,y47]; exact e)]
  have h2:∀ i,i<x.length->¬ (x.getD i dF=y.getD i dF)->(S_qq_b1 x y i ()).den=some (.ret false):=fun i hi e=>by
   simp only[S_qq_b1,Scr.den]
   rw[Ga,y4 (by simp only[y4r,ne_eq]; exact e)]
  obtain⟨k1,k2⟩:=zfh (body:=fun i s=>(S_qq_b1 x y i s).den) (n:=x.length) (c:=false) (fun i=>x.getD i dF=y.getD i dF) h1 h2
  by_cases e:x=y
  ·subst e
   rw[k1 fun j _=>rfl]; simp[outM]
  ·rw[k2 fun hh=>e (List.ext_getElem h fun i hi hj=>by
    have:=hh i hi
    rw[z4z hi,z4z hj] at this
    exact this)]
   simp[outM,e]
 ·rw[y4 (by simp only[y4r,ne_eq]; omega)]
  have:(x==y)=false:=by simp only[y21,ne_eq]; intro e; exact h (by rw[e])
  rw[this]
variable {a b:Y8}
theorem zh6:und a b=(decide (0<(parts b).length)&&decide ((parts b).length<=(parts a).length)&&((parts a).take (parts b).length==parts b)):=by
 rw[y1n]
 unfold und
 simp only[y6,y5,ym,yc]
 constructor
 ·rintro⟨⟨⟨⟨ha,hb⟩,h1⟩,h2⟩,h3⟩
  obtain⟨na,ga⟩:=z13 ha
  obtain⟨nb,gb⟩:=z13 hb
  refine⟨⟨gb.1,?_⟩,?_⟩ <;> rcases h3 with h3 | h3
  ·have e:a=b:=by rw[<- h2,y2o om]
   rw[e]; exact y7 _
  ·have hlt:b.length<a.length:=by
    rcases yl b.length a.length with h | h
    ·exact h
    ·rw[List.getD_eq_getElem?_getD,y8 h] at h3; simp at h3
   have e:a=b++46 :: a.drop (b.length+1):=by
    have h3':a[b.length]=46:=by
     rw[List.getD_eq_getElem?_getD,yd hlt] at h3
     simp only[y3v] at h3
     exact y42.1 h3
    conv=>lhs; rw[<- y2e b.length a,h2,y19 hlt,h3']
   rw[e,z4t] at na
   obtain⟨x,y,k1,k2,k3⟩:=z6l na
   rw[nb] at k1; cases k1
   rw[<- e] at k3
   rw[k3]; simp
  ·have e:a=b:=by rw[<- h2,y2o om]
   rw[e]; simp
  ·have hlt:b.length<a.length:=by
    rcases yl b.length a.length with h | h
    ·exact h
    ·rw[List.getD_eq_getElem?_getD,y8 h] at h3; simp at h3
   have e:a=b++46 :: a.drop (b.length+1):=by
    have h3':a[b.length]=46:=by
     rw[List.getD_eq_getElem?_getD,yd hlt] at h3
     simp only[y3v] at h3
     exact y42.1 h3
    conv=>lhs; rw[<- y2e b.length a,h2,y19 hlt,h3']
   rw[e,z4t] at na
   obtain⟨x,y,k1,k2,k3⟩:=z6l na
   rw[nb] at k1; cases k1
   rw[<- e] at k3
   rw[k3]; simp
 ·rintro⟨⟨h1,h2⟩,h3⟩
  have hb:good b=true:=by rw[<- z3v]; simpa using h1
  have ha:good a=true:=by rw[<- z3v]; simp; omega
  obtain⟨na,ga⟩:=z13 ha
  obtain⟨nb,gb⟩:=z13 hb
  have hla:=z2d na
  have hlb:=z2d nb
  have hsplit:pieces a=(pieces a).take (pieces b).length++(pieces a).drop (pieces b).length:=(y2e _ _).symm
  rw[hsplit] at na
  obtain⟨x,y,k1,k2,k3⟩:=z6l na
  have hx:x=parts b:=by
   have:=z2d k1
   rw[y13] at this
   rw[<- h3,k3,y45 om,y2o om]
  have e1:(pieces a).take (pieces b).length=pieces b:=z8v (by rw[k1,hx]) nb
  rw[e1] at hsplit
  have ja:=z4d a
  have jb:=z4d b
  refine⟨⟨⟨⟨ha,hb⟩,?_⟩,?_⟩,?_⟩ <;> by_cases hr:(pieces a).drop (pieces b).length=[]
  ·rw[hr,y31] at hsplit
   rw[z2y hsplit]; exact y7 _
  ·rw[hsplit,z4i (zp b) hr,jb] at ja
   rw[<- ja]; simp
  ·rw[hr,y31] at hsplit
   rw[z2y hsplit]; simp
  ·rw[hsplit,z4i (zp b) hr,jb] at ja
   rw[<- ja]; simp
  ·rw[hr,y31] at hsplit
   exact .inl (by rw[z2y hsplit])
  ·rw[hsplit,z4i (zp b) hr,jb] at ja
   right
   rw[<- ja]; simp
theorem z2q (ha:a.length<=1000000) (hb:b.length<=1000000):F_qs a b=some (und a b):=by
 simp only[F_qs,S_qs,Scr.den,z5a (l:=a) om,z5a (l:=b) om,obind,z6,zh6]
 by_cases h:0<(parts b).length/\(parts b).length<=(parts a).length
 ·rw[zm (by simp[AllP]; omega),zdu,obind,z3 ⟨fun _=>h.2,trivial⟩]
  simp[h.1,h.2]
 ·rw[z12 (by simp only[AllP,y3l,y6,y5]; omega),obind,z3 ⟨fun hh=>by have hh:=hh.1; simp only[y6,y5] at hh; omega,trivial⟩]
  have:(decide (0<(parts b).length)&&decide ((parts b).length<=(parts a).length))=false:=by
   rw[yq]; intro hh; simp only[y6,y5] at hh; omega
  rw[this]
  congr 1
  have:(decide (((parts b).length:Int)>0)&&decide (((parts a).length:Int)>=((parts b).length:Int)))=false:=by
   rw[yq]; intro hh; simp only[y6,y5] at hh; omega
  simp
def nameOk (s:Y8):Bool:=decide (1<=s.length)&&decide (s.length<=40)&&!((s.getD 0 0).toNat==32)&&!((s.getD (s.length-1) 0).toNat==32)&&s.all fun c=>decide (32<=c.toNat)&&decide (c.toNat<=126)
variable {s:Y8}
theorem zd4 {i:Nat} {p:UInt8->Bool} (hi:i<s.length):(s.drop i).all p=(p (s.getD i 0)&&(s.drop (i+1)).all p):=by
 rw[y19 hi,y3p]
 simp[List.getD_eq_getElem?_getD,List.getElem?_eq_getElem hi]
theorem zdv (hl:s.length<=1000000):F_qu s=some (nameOk s):=by
 simp only[F_qu,S_qu,Scr.den,ze]
 have w1:i64.wrap ((s.length:Int)-1)=(s.length:Int)-1:=wrapId om om
 have w2:((s.length:Int)-1).toNat=s.length-1:=om
 simp only[w1,w2]
 rw[z3 ⟨fun h=>by simp[AllP] at h; omega,fun h=>by simp[AllP] at h; omega,fun h=>by simp[AllP] at h; omega,trivial⟩]
 have hlp:∀ k i:Nat,i+k=s.length->outM (iterM (fun s_1=>(S_qu_b1 s s_1).den) (i:Int)) (fun _=>some true) (fun x=>some (id x))=some ((s.drop i).all fun c=>decide (32<=c.toNat)&&decide (c.toNat<=126)):=by
  generalize hF:(fun s_1=>(S_qu_b1 s s_1).den)=F
  intro k
  induction k with
  | zero =>
   intro i hk
   rw[zq,<- y37 hF,y1f om]
   simp only[S_qu_b1,Scr.den]
   rw[y3 sk]
   rfl
  | succ k ih =>
   intro i hk
   rw[zq,<- y37 hF,zd4 om]
   simp only[S_qu_b1,Scr.den,yf,ze]
   rw[y4 sk,z3 ⟨om,om,fun _=>om,fun _=>om,trivial⟩]
   by_cases h:32<=(s.getD i 0).toNat/\(s.getD i 0).toNat<=126
   ·have w3:i64.wrap ((i:Int)+1)=((i+1:Nat):Int):=by rw[wrapId om om]; omega
    rw[y3 (by simp only[yc,y5]; omega)]
    simp only[w3,h,y4v,y4c,y1s]
    exact ih (i+1) om
   ·rw[y4 (by simp only[yc,y5]; omega)]
    have:(decide (32<=(s.getD i 0).toNat)&&decide ((s.getD i 0).toNat<=126))=false:=by rw[yq]; simp only[ne_eq,y6,y5]; omega
    rw[this]
    rfl
 unfold nameOk
 by_cases h:1<=s.length/\s.length<=40/\¬ (s.getD 0 0).toNat=32/\¬ (s.getD (s.length-1) 0).toNat=32
 ·obtain⟨h1,h2,h3,h4⟩:=h
  rw[y3 (by simp only[yc,y5,ym]; omega)]
  have:=hlp s.length 0 om
  rw[show ((0:Nat):Int)=0 from rfl] at this
  rw[this]
  simp only[List.drop_zero,h1,h2,y4v,y1s]
  have e3:((s.getD 0 0).toNat==32)=false:=by simpa using h3
  have e4:((s.getD (s.length-1) 0).toNat==32)=false:=by simpa using h4
  simp only[e3,e4,Bool.not_false,y1s]
 ·rw[y4 (by simp only[yc,y5,ym]; omega)]
  congr 1
  symm
  rw[yq]
  intro hh
  simp only[y6,y5,y1e,y21,ne_eq] at hh
  exact h ⟨hh.1.1.1.1,hh.1.1.1.2,hh.1.1.2,hh.1.2⟩
end Go.Proofs.YtljnmhapbonmfaaGreatDoor
/- Names in the program. No condition. -/
namespace Go.Proofs.YtljnmhapbonmfaaGreatDoor
open Go Go.TA
open Go.IntKind (i64)
variable {s:Y8} {p:Nat}
theorem zfk (_hp:p<s.length) (h:(s.getD p 0).toNat<128):runeAt s p=((s.getD p 0).toNat:Int)/\widAt s p=1:=by
 have hg:(ByteArray.mk s.toArray).get! (p+0)=s.getD p 0:=by
  show (s.toArray)[p+0]! = _
  simp[List.getD_eq_getElem?_getD,getElem!_def]
  cases s[p]? <;> rfl
 unfold runeAt widAt Utf8.decode
 simp only[hg]
 rw[y4 h]
 exact⟨rfl,rfl⟩
theorem ziv (_hp:p<s.length) (h:128<=(s.getD p 0).toNat):128<=runeAt s p:=by
 have hg:(ByteArray.mk s.toArray).get! (p+0)=s.getD p 0:=by
  show (s.toArray)[p+0]! = _
  simp[List.getD_eq_getElem?_getD,getElem!_def]
  cases s[p]? <;> rfl
 unfold runeAt Utf8.decode
 simp only[hg]
 rw[y3 om]
 have e:Utf8.runeError=65533:=rfl
 split
 ·split
  ·simp only; omega
  ·simp only[e]; omega
 ·split
  ·split
   ·rename_i h1
    simp only[y6,y5] at h1
    simp only; omega
   ·simp only[e]; omega
  ·split
   ·split
    ·rename_i h1
     simp only[y6,y5] at h1
     simp only; omega
    ·simp only[e]; omega
   ·simp only[e]; omega
theorem trimR (hl:s.length<=1000000) (h0:1<=s.length):∃ r,F_q16 s 32=some r/\r.length<=s.length/\((s.getD (s.length-1) 0).toNat≠32->r=s)/\((s.getD (s.length-1) 0).toNat=32->r.length<s.length):=by
 simp only[F_q16,S_q16,Scr.den]
 generalize hF:(fun sv1=>(S_q16_b1 32 sv1).den)=F
 have step:∀ t:Y8,t.length<=s.length->(0<t.length/\(t.getD (t.length-1) 0).toNat=32/\F t=some (.cont (t.take (t.length-1))))\/(¬ (0<t.length/\(t.getD (t.length-1) 0).toNat=32)/\F t=some (.brk t)):=fun t ht=>by
  rw[<- y37 hF]
  simp only[S_q16_b1,Scr.den,z6]
  by_cases hp:0<t.length
  ·have w1:i64.wrap ((t.length:Int)-1)=(t.length:Int)-1:=wrapId om om
   have w2:((t.length:Int)-1).toNat=t.length-1:=om
   simp only[w1,w2]
   rw[z3 ⟨fun _=>om,fun _=>om,trivial⟩]
   by_cases h:(t.getD (t.length-1) 0).toNat=32
   ·rw[y4 (by simp only[y6,y5,ym]; omega),Gb]
    exact .inl ⟨hp,h,rfl⟩
   ·rw[y3 (by simp only[y6,y5,ym]; omega)]
    exact .inr ⟨fun hh=>h hh.2,rfl⟩
  ·have hd:decide ((t.length:Int)>0)=false:=by simp only[y1a]; omega
   rw[z3 ⟨fun h=>by rw[hd] at h; exact absurd h.1 sj,fun h=>by rw[hd] at h; exact absurd h.1 sj,trivial⟩,y3 (by simp only[hd,y2x]; simp)]
   exact .inr ⟨fun hh=>hp hh.1,rfl⟩
 have tot:∀ t:Y8,t.length<=s.length->∃ r,iterM F t=some (.next r)/\r.length<=t.length:=fun t ht=>by
  refine z1b (fun x:Y8=>x.length) (fun x=>x.length<=t.length) (fun x=>x.length<=t.length) (fun x hx=>?_) (t.length+1) t om (y7 _)
  rcases step x om with ⟨h1,_,h3⟩ | ⟨_,h3⟩
  ·exact .inl ⟨_,h3,by simp <;> omega,by simp <;> omega⟩
  ·exact .inr ⟨_,h3,hx⟩
 rcases step s (y7 _) with ⟨h1,h2,h3⟩ | ⟨h2,h3⟩
 ·obtain⟨r,k1,k2⟩:=tot (s.take (s.length-1)) (by simp <;> omega)
  refine⟨r,by rw[zq,h3]; simp only[k1]; rfl,?_,fun h=>absurd h2 h,fun _=>?_⟩ <;> (simp at k2; omega)
 ·exact⟨s,by rw[zq,h3]; rfl,y7 _,fun _=>rfl,fun h=>absurd ⟨om,h⟩ h2⟩
theorem trimL:∃ r,F_q17 s 32=some r/\r.length<=s.length/\((s.getD 0 0).toNat≠32->r=s)/\(0<s.length->(s.getD 0 0).toNat=32->r.length<s.length):=by
 simp only[F_q17,S_q17,Scr.den]
 generalize hF:(fun sv1=>(S_q17_b1 32 sv1).den)=F
 have step:∀ t:Y8,(0<t.length/\(t.getD 0 0).toNat=32/\F t=some (.cont ((t.drop 1).take (t.length-1))))\/(¬ (0<t.length/\(t.getD 0 0).toNat=32)/\F t=some (.brk t)):=fun t=>by
  rw[<- y37 hF]
  simp only[S_q17_b1,Scr.den,z6]
  by_cases hp:0<t.length
  ·rw[z3 ⟨fun _=>hp,trivial⟩]
   by_cases h:(t.getD 0 0).toNat=32
   ·rw[y4 (by simp only[y6,y5,ym]; omega),Ga]
    exact .inl ⟨hp,h,rfl⟩
   ·rw[y3 (by simp only[y6,y5,ym]; omega)]
    exact .inr ⟨fun hh=>h hh.2,rfl⟩
  ·have hd:decide ((t.length:Int)>0)=false:=by simp only[y1a]; omega
   rw[z3 ⟨fun h=>by rw[hd] at h; exact absurd h.1 sj,trivial⟩,y3 (by simp only[hd,y2x]; simp)]
   exact .inr ⟨fun hh=>hp hh.1,rfl⟩
 have tot:∀ t:Y8,∃ r,iterM F t=some (.next r)/\r.length<=t.length:=fun t=>by
  refine z1b (fun x:Y8=>x.length) (fun x=>x.length<=t.length) (fun x=>x.length<=t.length) (fun x hx=>?_) (t.length+1) t om (y7 _)
  rcases step x with ⟨h1,_,h3⟩ | ⟨_,h3⟩
  ·exact .inl ⟨_,h3,by simp <;> omega,by simp <;> omega⟩
  ·exact .inr ⟨_,h3,hx⟩
 rcases step s with ⟨h1,h2,h3⟩ | ⟨h2,h3⟩
 ·obtain⟨r,k1,k2⟩:=tot ((s.drop 1).take (s.length-1))
  refine⟨r,by rw[zq,h3]; simp only[k1]; rfl,?_,fun h=>absurd h2 h,fun _ _=>?_⟩ <;> (simp at k2; omega)
 ·exact⟨s,by rw[zq,h3]; rfl,y7 _,fun _=>rfl,fun hp h=>absurd ⟨hp,h⟩ h2⟩
theorem zkd (hl:s.length<=1000000) (h0:1<=s.length):∃ r,F_q3a s [32]=some r/\(r==s)=(!((s.getD 0 0).toNat==32)&&!((s.getD (s.length-1) 0).toNat==32)):=by
 obtain⟨r,a1,a2,a3,a4⟩:=trimR hl h0
 obtain⟨q,b1,b2,b3,b4⟩:=trimL (s:=r)
 refine⟨q,?_,?_⟩
 ·simp only[F_q3a,S_q3a,Scr.den,ze]
  have hs:(s==[])=false:=by rw[y21]; intro e; rw[e] at h0; simp at h0
  rw[y3 (by simp[hs]),z3 ⟨fun _=>sj,trivial⟩,Gd]
  have e32:((([32]:Y8).getD 0 0).toNat:Int)=32:=rfl
  simp only[e32,a1,b1,obind]
  rw[z3 ⟨sj,trivial⟩]
 ·by_cases h1:(s.getD (s.length-1) 0).toNat=32
  ·have:=a4 h1
   have hne:(q==s)=false:=by rw[y21]; intro e; rw[e] at b2; omega
   have e1:((s.getD (s.length-1) 0).toNat==32)=true:=by simpa using h1
   rw[hne,e1,y5l,y48]
  ·have e:=a3 h1
   subst e
   by_cases h2:(r.getD 0 0).toNat=32
   ·have:=b4 om h2
    have hne:(q==r)=false:=by rw[y21]; intro e; rw[e] at this; omega
    have e2:((r.getD 0 0).toNat==32)=true:=by simpa using h2
    rw[hne,e2]; rfl
   ·have e:=b3 h2
    have e1:((r.getD (r.length-1) 0).toNat==32)=false:=by rw[y21]; exact h1
    have e2:((r.getD 0 0).toNat==32)=false:=by rw[y21]; exact h2
    rw[e,e1,e2]; simp
theorem zke (hl:s.length<=1000000):F_qr s=some (nameOk s):=by
 simp only[F_qr,S_qr,Scr.den,z6]
 have hlp:∀ K:Nat->Option Bool,(∀ a b,K a=K b)->∀ k i:Nat,i+k=s.length->outM (iterM (fun s_1=>(S_qr_b1 s s_1).den) i) K (fun x:Bool=>some (id x))=(if ((s.drop i).all fun c=>decide (32<=c.toNat)&&decide (c.toNat<=126))=true then K 0 else some false):=by
  generalize hF:(fun s_1=>(S_qr_b1 s s_1).den)=F
  intro K hK k
  induction k with
  | zero =>
   intro i hk
   rw[zq,<- y37 hF,y1f om]
   simp only[S_qr_b1,Scr.den]
   rw[y3 sk]
   simp only[outM,List.all_nil,y3j]
   exact hK _ _
  | succ k ih =>
   intro i hk
   have hi:i<s.length:=om
   rw[zq,<- y37 hF,zd4 hi]
   simp only[S_qr_b1,Scr.den,ze]
   rw[y4 sk]
   by_cases hb:(s.getD i 0).toNat<128
   ·obtain⟨r1,r2⟩:=zfk hi hb
    simp only[r1,r2]
    by_cases h:32<=(s.getD i 0).toNat/\(s.getD i 0).toNat<=126
    ·rw[y3 (by simp only[yc,y5]; omega)]
     simp only[h,y4v,y4c,y1s]
     exact ih (i+1) om
    ·rw[y4 (by simp only[yc,y5]; omega)]
     have:(decide (32<=(s.getD i 0).toNat)&&decide ((s.getD i 0).toNat<=126))=false:=by rw[yq]; simp only[ne_eq,y6,y5]; omega
     rw[this,y2x,y3 sj]
     rfl
   ·have:=ziv hi om
    rw[y4 (by simp only[yc,y5]; omega)]
    have:(decide (32<=(s.getD i 0).toNat)&&decide ((s.getD i 0).toNat<=126))=false:=by rw[yq]; simp only[ne_eq,y6,y5]; omega
    rw[this,y2x,y3 sj]
    rfl
 rw[hlp _ (fun _ _=>rfl) s.length 0 om,List.drop_zero]
 unfold nameOk
 by_cases ha:(s.all fun c=>decide (32<=c.toNat)&&decide (c.toNat<=126))=true
 ·rw[y4 ha,ha,y5m]
  by_cases h:1<=s.length/\s.length<=40
  ·obtain⟨r,k1,k2⟩:=zkd hl h.1
   rw[zm (by simp only[AllP,y3l,y6,y5]; omega),k1,obind,k2]
   have e1:decide ((s.length:Int)>=1)=true:=by simp only[y5]; omega
   have e2:decide ((s.length:Int)<=40)=true:=by simp only[y5]; omega
   simp only[e1,e2,h,y4v,y1s,y4c]
  ·rw[z12 (by simp only[AllP,y3l,y6,y5]; omega),obind]
   have e1:(decide ((s.length:Int)>=1)&&decide ((s.length:Int)<=40))=false:=by rw[yq]; simp only[ne_eq,y6,y5]; omega
   have e2:(decide (1<=s.length)&&decide (s.length<=40))=false:=by rw[yq]; simp only[ne_eq,y6,y5]; omega
   rw[e1,e2]; rfl
 ·rw[y3 ha]
  have:(s.all fun c=>decide (32<=c.toNat)&&decide (c.toNat<=126))=false:=by rw[yq]; exact ha
  rw[this,y48]
end Go.Proofs.YtljnmhapbonmfaaGreatDoor
/- Trees of codes: their checks,their leaves,in both programs. No condition. -/
namespace Go.Proofs.YtljnmhapbonmfaaGreatDoor
open Go Go.TA
open Go.IntKind (i64)
attribute [-simp] List.getD_eq_getElem?_getD
def has (t:List THe) (c:Y8):Bool:=t.any fun h=>h.B==c
theorem z9r (t:List THe) (c:Y8):F_q1j t c=some (has t c):=by
 simp only[F_q1j,S_q1j,Scr.den]
 rw[z1m t (fun h=>h.B==c) (fun _=>true) fun i hi=>by
  simp only[S_q1j_b1,Scr.den]
  split <;> rfl]
 unfold has
 split
 ·rename_i h; rw[h]; rfl
 ·rename_i h; rw[yq.2 h]; rfl
theorem zh7 (t:List THe) (c:Y8):F_q30 t c=some (has t c):=by
 simp only[F_q30,S_q30,F_q4b,S_q4b,F_q2d,S_q2d,Scr.den]
 rw[z1m t (fun h=>h.B==c) (fun i=>(i:Int)) fun i hi=>by
  simp only[S_q2d_b1,F_q4a,S_q4a,Scr.den,obind]
  split <;> rfl]
 unfold has
 split
 ·rename_i h; rw[h]; simp[outM]
 ·rename_i h; rw[yq.2 h]; simp only[outM,obind]; rfl
def headE (t:List THe) (i:Nat):Int :=
 if good (t.getD i dF).B=false then 5
 else if nameOk (t.getD i dF).X=false then 4
 else if 0<i/\¬ lexC (parts (t.getD (i-1) dF).B) (parts (t.getD i dF).B)<0 then 8
 else if par (t.getD i dF).B≠[]/\has t (par (t.getD i dF).B)=false then 6 else 0
def treeE (t:List THe):Int:=if t.length>60 then 3 else fstE t.length (headE t)
def SmT (t:List THe):Prop:=∀ h∈t,h.B.length<=1000000/\h.X.length<=1000000
variable {t:List THe} {i:Nat}
theorem z9s (h:headE t i=0):good (t.getD i dF).B=true:=by
 unfold headE at h
 split at h
 ·cases h
 ·rename_i hg; simpa using hg
variable {α:Type} {k:Option α} {d:α} {gs:List Prop}
theorem oT:optD (True :: gs) k d=optD gs k d:=by
 by_cases h:AllP gs
 ·rw[zm (gs:=True :: gs) ⟨trivial,h⟩,zm h]
 ·rw[z12 (gs:=True :: gs) fun hh=>h hh.2,z12 h]
theorem oF:optD (False :: gs) k d=some d:=by unfold optD; simp[AllP]
theorem oN:optD [] k d=k:=by unfold optD; simp[AllP]
theorem gT:guardP True k=k:=z3 trivial
theorem zaj (hs:SmT t) (hl:t.length<=60) (hi:i<t.length) (hz:∀ j,j<i->headE t j=0) :
  (S_q25_b1 t i ()).den=some (if headE t i=0 then .cont () else .ret (i64.wrap ((i:Int)+1),headE t i)):=by
 obtain⟨hc,hn⟩:=hs _ (z4 hi)
 have hw:0<i->i64.wrap ((i:Int)-1)=((i-1:Nat):Int):=fun h0=>by rw[wrapId om om]; omega
 have hi':i-1<t.length:=om
 simp only[S_q25_b1,Scr.den,z27 (l:=(t.getD i dF).B) om,zdv hn,z36 hc,z9r,obind,z6,headE]
 by_cases hg:good (t.getD i dF).B=true
 ·by_cases h0:0<i
  ·have hg':good (t.getD (i-1) dF).B=true:=z9s (hz (i-1) om)
   simp only[hw h0,yf,z1x hg' hg,hg]
   by_cases hp:par (t.getD i dF).B=[] <;> by_cases hh:has t (par (t.getD i dF).B)=true <;> simp[h0,hi',hp,hh,AllP,oT,oF,oN,gT] <;> (repeat' split) <;> simp_all
  ·have h0':i=0:=om
   subst h0'
   by_cases hp:par (t.getD 0 dF).B=[] <;> by_cases hh:has t (par (t.getD 0 dF).B)=true <;> simp[hg,hp,hh,AllP,oT,oF,oN,gT] <;> (repeat' split) <;> simp_all
 ·simp[hg]
theorem zd5 (hs:SmT t):F_q46 t=some (treeE t):=by
 simp only[F_q46,S_q46,F_q25,S_q25,Scr.den,treeE]
 by_cases hl:t.length>60
 ·rw[y4 (by simp only[y5]; omega),y4 hl]; rfl
 ·rw[y3 (by simp only[y5]; omega),y3 hl]
  rw[z4s (headE t) (fun i=>(i64.wrap ((i:Int)+1),headE t i)) fun i hi hz=>zaj hs om hi hz]
  unfold fstE
  split <;> rfl
end Go.Proofs.YtljnmhapbonmfaaGreatDoor
/- Trees in the program; leaves in both. No condition. -/
namespace Go.Proofs.YtljnmhapbonmfaaGreatDoor
open Go Go.TA
open Go.IntKind (i64)
attribute [-simp] List.getD_eq_getElem?_getD
variable {t:List THe}
theorem zfl (hs:SmT t) (hl:t.length<=60) {i:Nat} (hi:i<t.length) (hz:∀ j,j<i->headE t j=0):F_q3d t (i:Int)=some (headE t i):=by
 obtain⟨hc,hn⟩:=hs _ (z4 hi)
 have hw:0<i->i64.wrap ((i:Int)-1)=((i-1:Nat):Int):=fun h0=>by rw[wrapId om om]; omega
 have hi':i-1<t.length:=om
 obtain⟨hc',_⟩:=hs _ (z4 hi')
 simp only[F_q3d,S_q3d,Scr.den,yf,zbj hc,zfj hc,zke hn,zh7,obind,z6,headE]
 by_cases hg:good (t.getD i dF).B=true
 ·by_cases h0:0<i
  ·simp only[hw h0,yf,z6k hc' hc,z3o (.inr hg),hg]
   by_cases hp:par (t.getD i dF).B=[] <;> by_cases hh:has t (par (t.getD i dF).B)=true <;> simp[h0,hi,hi',hp,hh,AllP,oT,oF,oN,gT] <;> (repeat' split) <;> simp_all
  ·have h0':i=0:=om
   subst h0'
   by_cases hp:par (t.getD 0 dF).B=[] <;> by_cases hh:has t (par (t.getD 0 dF).B)=true <;> simp[hg,hi,hp,hh,AllP,oT,oF,oN,gT] <;> (repeat' split) <;> simp_all
 ·simp[hg,hi,AllP,gT]
theorem ziw (hs:SmT t):F_q3e t=some (treeE t):=by
 simp only[F_q3e,S_q3e,F_q2e,S_q2e,Scr.den,treeE]
 by_cases hl:t.length>60
 ·rw[y4 (by simp only[y5]; omega),y4 hl]; rfl
 ·rw[y3 (by simp only[y5]; omega),y3 hl]
  rw[z4s (headE t) (fun i=>(i64.wrap ((i:Int)+1),headE t i)) fun i hi hz=>by
   simp only[S_q2e_b1,Scr.den,zfl hs om hi hz,obind]
   by_cases h:headE t i=0 <;> simp[h]]
  unfold fstE
  split <;> rfl
def leafT (t:List THe) (c:Y8):Bool:=good c&&has t c&&t.all fun x=>!(par x.B==c)
def leavesU (t:List THe) (top:Y8):List Y8:=(t.filter fun h=>good h.B&&(top==[]||und h.B top)&&t.all fun x=>!(par x.B==h.B)).map (·.B)
theorem zj {c:Y8}:c∈leavesU t []↔leafT t c=true:=by
 unfold leavesU leafT has
 simp only[yv,y1v,y6,y3k,Bool.true_or,y3l,y1m,ym]
 constructor
 ·rintro⟨h,⟨h1,h2,h3⟩,rfl⟩; exact⟨⟨h2,h,h1,rfl⟩,h3⟩
 ·rintro⟨⟨h1,h,h2,rfl⟩,h3⟩; exact⟨h,⟨h2,h1,h3⟩,rfl⟩
theorem zu (t:List THe) (top:Y8):(leavesU t top).length<=t.length:=by unfold leavesU; simp; exact y51 _ _
variable {α:Type}
theorem zbk (l:List α) (p:α->Bool):∀ b:Bool,l.foldl (fun s x=>s&&p x) b=(b&&l.all p):=by
 induction l with
 | nil=>intro b; simp
 | cons x l ih=>intro b; rw[y3e,ih,y3p,Bool.and_assoc]
theorem z1j {β ρ:Type} [Inhabited α] {body:Nat->List β->Option (Step (List β) ρ)} (l:List α) (p:α->Bool) (f:α->β) (N:Nat) (hN:l.length<=N) (hs:∀ i s,i<l.length->s.length<=N->body i s=some (.cont (if p (l.getD i dF)=true then s++[f (l.getD i dF)] else s))) :
  rangeM body l.length 0 []=some (.next ((l.filter p).map f)):=by
 obtain⟨s,h1,h2,_⟩:=zl (body:=body) (n:=l.length) (fun i s=>s=((l.take i).filter p).map f/\s.length<=i) (s0:=[]) ⟨rfl,y43 _⟩ (fun i s hi ⟨h1,h2⟩=>by
  refine⟨_,hs i s hi om,?_,?_⟩
  ·rw[yw hi,List.filter_append,y30,<- h1]
   have e:l.getD i dF=l[i]:=by simp[List.getD_eq_getElem?_getD,List.getElem?_eq_getElem hi]
   rw[e]
   by_cases h:p l[i]=true
   ·simp[h]
   ·simp[h]
  ·split
   ·simp; omega
   ·omega)
 rw[h1,h2,y2o (y7 _)]
theorem zy {top:Y8} (hs:SmT t) (hl:t.length<=1000000) (ht:top.length<=1000000):F_q2 t top=some (leavesU t top):=by
 simp only[F_q2,S_q2,Scr.den]
 rw[z1j t (fun h=>good h.B&&(top==[]||und h.B top)&&t.all fun x=>!(par x.B==h.B)) (·.B) 1000000 hl fun i s hi hsl=>by
  obtain⟨hc,_⟩:=hs _ (z4 hi)
  have hin:rangeM (fun i1 s1=>(S_q2_b1 t i i1 s1).den) t.length 0 true=some (.next (t.all fun x=>!(par x.B==(t.getD i dF).B))):=by
   rw[z2i t (fun s x=>s&&!(par x.B==(t.getD i dF).B)) fun j b hj=>by
    obtain⟨hcj,_⟩:=hs _ (z4 hj)
    simp only[S_q2_b1,Scr.den,z36 hcj,z6]
    cases b <;> simp[oT,oF,oN]]
   rw[zbk,y1s]
  simp only[S_q2_b2,Scr.den,z27 (l:=(t.getD i dF).B) om,z29 hc ht,obind,hin,outM,z6,ze]
  by_cases hg:good (t.getD i dF).B=true <;> by_cases h0:top=[] <;> by_cases hu:und (t.getD i dF).B top=true <;> simp[hg,h0,hu,oT,oF,oN] <;> (split <;> first | rfl | (rw[Ga]))]
 simp only[outM]
 have:=zu t top
 unfold leavesU at this |-
 rw[Ga]
end Go.Proofs.YtljnmhapbonmfaaGreatDoor
/- Leaves in the program: a map of which entries are deleted. No condition. -/
namespace Go.Proofs.YtljnmhapbonmfaaGreatDoor
open Go Go.TA
open Go.IntKind (i64)
attribute [-simp] List.getD_eq_getElem?_getD
section
variable {α β:Type} [BEq α]
theorem z2r (a:α) (b:β) (l:List (α×β)) (c:α) (z:β):mget ((a,b) :: l) c z=if c==a then b else mget l c z:=by
 unfold mget
 rw[y4j]
 cases h:c==a <;> simp
theorem zbl (a:α) (b:β) (l:List (α×β)) (k:α) (v:β):mupd ((a,b) :: l) k v=if k==a then (a,v) :: l else (a,b) :: mupd l k v:=by
 unfold mupd msto ment midx
 rw[y3q,y2i]
 cases h:k==a
 ·simp only[y4a,cond_false,y20,y2t]
  split <;> rfl
 ·simp
theorem zh8 (a:α) (b:β) (l:List (α×β)) (k:α):mdel ((a,b) :: l) k=if k==a then l else (a,b) :: mdel l k:=by
 unfold mdel midx
 rw[y2i]
 cases h:k==a <;> simp
theorem zbm [LawfulBEq α] (c k:α) (v z:β):∀ l:List (α×β),mget (mupd l k v) c z=if c==k then v else mget l c z
 | []=>by show mget [(k,v)] c z=_; rw[z2r]
 | (a,b) :: l=>by
  rw[zbl,z2r]
  by_cases h:(k==a)=true
  ·have e:=eq_of_beq h
   subst e
   rw[y4 h,z2r]
   by_cases h2:(c==k)=true <;> simp[h2]
  ·rw[y3 h,z2r,zbm c k v z l]
   by_cases h2:(c==a)=true
   ·have e:=eq_of_beq h2
    subst e
    have:¬ (c==k)=true:=fun h3=>h (by rw[eq_of_beq h3]; exact y3k k)
    rw[y4 h2,y3 this,y4 h2]
   ·rw[y3 h2,y3 h2]
theorem zbn [LawfulBEq α] (k:α) (v:β):∀ l:List (α×β),(l.map (·.1)).Nodup->((mupd l k v).map (·.1)).Nodup/\∀ x,x∈(mupd l k v).map (·.1)->x=k\/x∈l.map (·.1)
 | [],_=>⟨by show ([k]:List α).Nodup; simp,fun x hx=>.inl (by have:x∈([k]:List α):=hx; simpa using this)⟩
 | (a,b) :: l,h=>by
  rw[zbl]
  obtain⟨h1,h2⟩:=y40.1 h
  by_cases hk:(k==a)=true
  ·rw[y4 hk]
   exact⟨h,fun x hx=>.inr hx⟩
  ·rw[y3 hk]
   obtain⟨k1,k2⟩:=zbn k v l h2
   refine⟨y40.2 ⟨fun ha=>?_,k1⟩,fun x hx=>?_⟩
   ·rcases k2 a ha with e | e
    ·exact hk (by rw[e]; exact y3k k)
    ·exact h1 e
   ·rcases yn.1 hx with e | e
    ·exact .inr (yn.2 (.inl e))
    ·rcases k2 x e with e | e
     ·exact .inl e
     ·exact .inr (yn.2 (.inr e))
theorem zec [LawfulBEq α] (c:α) (z:β):∀ l:List (α×β),c ∉ l.map (·.1)->mget l c z=z
 | [],_=>rfl
 | (a,b) :: l,h=>by
  rw[z2r,y3 (fun e=>h (by rw[eq_of_beq e]; simp))]
  exact zec c z l fun h'=>h (yh _ h')
theorem zbo [LawfulBEq α] (c k:α) (z:β):∀ l:List (α×β),(l.map (·.1)).Nodup->mget (mdel l k) c z=(if c==k then z else mget l c z)
 | [],_=>by show z=_; split <;> rfl
 | (a,b) :: l,h=>by
  obtain⟨h1,h2⟩:=y40.1 h
  rw[zh8,z2r]
  by_cases hk:(k==a)=true
  ·have e:=eq_of_beq hk
   subst e
   rw[y4 hk]
   by_cases hc:(c==k)=true
   ·have e:=eq_of_beq hc
    subst e
    rw[y4 hc,zec c z l h1]
   ·rw[y3 hc,y3 hc]
  ·rw[y3 hk,z2r,zbo c k z l h2]
   by_cases hc:(c==a)=true
   ·have e:=eq_of_beq hc
    subst e
    have:¬ (c==k)=true:=fun h3=>hk (by rw[eq_of_beq h3]; exact y3k k)
    rw[y4 hc,y3 this,y4 hc]
   ·rw[y3 hc,y3 hc]
theorem zh9 (k:α) (l:List (α×β)) (h:(l.map (·.1)).Nodup):((mdel l k).map (·.1)).Nodup:=by
 refine List.Nodup.sublist ?_ h
 exact (List.eraseIdx_sublist _ _).map _
end
theorem zix (t:List THe):∀ l:List (Y8×Bool),(l.map (·.1)).Nodup->((t.foldl (fun s h=>mupd s h.B (good h.B)) l).map (·.1)).Nodup /\
  ∀ c,mget (t.foldl (fun s h=>mupd s h.B (good h.B)) l) c false=if has t c=true then good c else mget l c false:=by
 induction t with
 | nil=>intro l h; exact⟨h,fun c=>by simp[has]⟩
 | cons x t ih =>
  intro l h
  obtain⟨k1,k2⟩:=ih _ (zbn x.B (good x.B) l h).1
  refine⟨k1,fun c=>?_⟩
  rw[y3e,k2,zbm]
  unfold has
  rw[y3q]
  by_cases h1:(t.any fun h=>h.B==c)=true
  ·simp[h1]
  ·rw[y3 h1]
   by_cases h2:c=x.B
   ·subst h2; simp
   ·have:(x.B==c)=false:=by simpa using fun e:x.B=c=>h2 e.symm
    simp[h1,h2,this]
theorem ziy (t:List THe):∀ l:List (Y8×Bool),(l.map (·.1)).Nodup ->
  ∀ c,mget (t.foldl (fun s h=>mdel s (par h.B)) l) c false=((t.all fun h=>!(par h.B==c))&&mget l c false):=by
 induction t with
 | nil=>intro l h c; simp
 | cons x t ih =>
  intro l h c
  rw[y3e,ih _ (zh9 (par x.B) l h),zbo _ _ _ _ h,y3p]
  by_cases h2:c=par x.B
  ·subst h2; simp
  ·have:(par x.B==c)=false:=by simpa using fun e:par x.B=c=>h2 e.symm
   simp[h2,this]
theorem z7h {t:List THe} (hs:SmT t) (hl:t.length<=1000000):F_q3 t []=some (leavesU t []):=by
 simp only[F_q3,S_q3,Scr.den]
 rw[z2i t (fun s h=>mupd s h.B (good h.B)) fun i s hi=>by
  obtain⟨hc,_⟩:=hs _ (z4 hi)
  simp only[S_q3_b1,Scr.den,zfj hc,obind]]
 simp only[outM]
 rw[z2i t (fun s h=>mdel s (par h.B)) fun i s hi=>by
  obtain⟨hc,_⟩:=hs _ (z4 hi)
  simp only[S_q3_b2,Scr.den,zbj hc,obind]]
 simp only
 obtain⟨k1,k2⟩:=zix t [] sj
 have k3:=ziy t _ k1
 generalize t.foldl (fun s h=>mdel s (par h.B)) (t.foldl (fun s h=>mupd s h.B (good h.B)) [])=M at k3
 rw[z1j t (fun h=>good h.B&&(([]:Y8)==[]||und h.B [])&&t.all fun x=>!(par x.B==h.B)) (·.B) 1000000 hl fun i s hi hsl=>by
  have hh:has t (t.getD i dF).B=true:=by
   unfold has; rw[y1m]; exact⟨_,z4 hi,sj⟩
  have hm:mget M (t.getD i dF).B false=((t.all fun h=>!(par h.B==(t.getD i dF).B))&&good (t.getD i dF).B):=by rw[k3,k2,y4 hh]
  simp only[S_q3_b3,Scr.den,hm,z6,ze]
  by_cases hg:good (t.getD i dF).B=true <;> by_cases ha:(t.all fun h=>!(par h.B==(t.getD i dF).B))=true <;> simp[hg,ha,oF] <;> (rw[Ga])]
 simp only
 have:=zu t []
 unfold leavesU at this |-
 rw[Ga]
theorem z8h (l:List Y8) (c:Y8):F_q31 l c=some (l.contains c):=by
 simp only[F_q31,S_q31,F_q2g,S_q2g,Scr.den]
 rw[z1m l (fun x=>c==x) (fun i=>(i:Int)) fun i hi=>by
  simp only[S_q2g_b1,Scr.den]
  split <;> rfl]
 rw[List.contains_eq_any_beq]
 split
 ·rename_i h; rw[h]; simp[outM]
 ·rename_i h; rw[yq.2 h]; simp only[outM,obind]; rfl
end Go.Proofs.YtljnmhapbonmfaaGreatDoor
/- What a law's parts must be. No condition. -/
namespace Go.Proofs.YtljnmhapbonmfaaGreatDoor
open Go Go.TA
open Go.IntKind (i64)
attribute [-simp] List.getD_eq_getElem?_getD
def inY (f y x:Int):Bool:=decide (x>=f)&&decide (IntKind.u64.wrap (IntKind.u64.wrap x-IntKind.u64.wrap f)<IntKind.u64.wrap y)
def amt (n:Int):Bool:=decide (0<=n)&&decide (n<=1000000000000)
def ltC (a:Y8) (m:Int) (b:Y8) (n:Int):Bool:=decide (lexC (parts a) (parts b)<0)||(decide (lexC (parts a) (parts b)=0)&&decide (m<n))
def chE (one:Nat->Int) (ord:Nat->Bool) (i:Nat):Int:=if one i=0 then (if 0<i/\ord i=false then 8 else 0) else one i
variable {one:Nat->Int} {ord:Nat->Bool} {i:Nat}
theorem z3p (h:chE one ord i=0):one i=0:=by
 unfold chE at h
 split at h
 ·assumption
 ·exact h
theorem z3d:chE one ord i=0↔one i=0/\(0<i->ord i=true):=by
 unfold chE
 by_cases h:one i=0
 ·rw[y4 h]
  by_cases h0:0<i <;> cases ho:ord i <;> simp[h0,h]
 ·rw[y3 h]; simp[h]
def z1d (t:List THe) (f y:Int) (x:TLi):Int:=if leafT t x.B=false then 5 else if inY f y x.D=false then 16 else if amt x.C=false then 2 else 0
def lineE (t:List THe) (f y:Int) (l:List TLi):Nat->Int:=chE (fun i=>z1d t f y (l.getD i dF)) fun i=>ltC (l.getD (i-1) dF).B (l.getD (i-1) dF).D (l.getD i dF).B (l.getD i dF).D
def zr (t:List THe) (f y:Int) (x:TBo):Int:=if has t x.B=false then 5 else if x.D≠-1/\inY f y x.D=false then 16 else if amt x.C=false then 2 else 0
def boundE (t:List THe) (f y:Int) (l:List TBo):Nat->Int:=chE (fun i=>zr t f y (l.getD i dF)) fun i=>ltC (l.getD (i-1) dF).B (l.getD (i-1) dF).D (l.getD i dF).B (l.getD i dF).D
def z4u (t:List THe) (x:TEa):Int:=if has t x.T=false\/leafT t x.B=false then 5 else if x.R<0\/x.R>100 then 2 else 0
def earE (t:List THe) (l:List TEa):Nat->Int:=chE (fun i=>z4u t (l.getD i dF)) fun i=>ltC (l.getD (i-1) dF).T (lexC (parts (l.getD (i-1) dF).B) (parts (l.getD i dF).B)) (l.getD i dF).T 0
def shSum (l:List TEa) (c:Y8):Int:=l.foldl (fun s x=>if und c x.T=true then i64.wrap (s+x.R) else s) 0
def shareE (t:List THe) (l:List TEa):Int:=if (leavesU t []).any (fun c=>decide (shSum l c>100))=true then 13 else 0
def condBad (x:TCo):Prop:=(x.N≠1/\x.N≠2)\/(x.N=1/\(x.T≠[]\/x.W≠0))\/(x.N=2/\x.H≠0)
instance (x:TCo):Decidable (condBad x):=inferInstanceAs (Decidable (_\/_))
def z1l (t:List THe) (f y:Int) (x:TCo):Int:=if condBad x then 1 else if leafT t x.B=false\/(x.N=2/\has t x.T=false) then 5 else if inY f y x.D=false then 16 else
 if amt x.C=false\/amt x.W=false\/x.H<0\/x.H>35990 then 2 else 0
def z62 (t:List THe) (x:TRu):Int:=if x.F<1\/x.F>1000000\/x.R<0\/x.R>100 then 2 else if has t x.K=false\/has t x.V=false then 5 else 0
def ruleE (t:List THe) (l:List TRu):Nat->Int:=chE (fun i=>z62 t (l.getD i dF)) fun i=>decide ((l.getD (i-1) dF).F<(l.getD i dF).F)
def z1e (t:List THe) (f y:Int) (x:TCh):Int:=if x.N<1\/x.N>3 then 1 else if has t x.B=false\/(x.N=1/\leafT t x.B=false) then 5 else
 if inY f y x.D=false/\(x.N=1\/x.D≠-1) then 16 else if amt x.C=false/\(x.N≠2\/x.C≠-1) then 2 else 0
def ltX (a b:TCh):Bool:=decide (a.N<b.N)||(decide (a.N=b.N)&&ltC a.B a.D b.B b.D)
def chgE (t:List THe) (f y:Int) (l:List TCh):Nat->Int:=chE (fun i=>z1e t f y (l.getD i dF)) fun i=>ltX (l.getD (i-1) dF) (l.getD i dF)
def ltA (a b:TAm):Bool:=decide (a.H<b.H)||(decide (a.H=b.H)&&decide (a.F<b.F))
def amdE (t:List THe) (f y:Int) (l:List TAm) (i:Nat):Int :=
 if (l.getD i dF).H<0\/(l.getD i dF).H>35990\/(l.getD i dF).F<1\/(l.getD i dF).F>1000000 then 2
 else if 0<i/\ltA (l.getD (i-1) dF) (l.getD i dF)=false then 8 else if (l.getD i dF).M=[] then 1 else fstE (l.getD i dF).M.length (chgE t f y (l.getD i dF).M)
def orE (l:List Int):Int:=match l.find? (· != 0) with
 | some x=>x
 | none=>0
theorem z20 (x:Int) (l:List Int):orE (x :: l)=if x=0 then orE l else x:=by
 unfold orE
 rw[y4j]
 by_cases h:x=0
 ·subst h; simp
 ·have:(x != 0)=true:=by simpa using h
  rw[this,y3 h]
theorem z30:orE []=0:=rfl
theorem zak (l:List Int) {body:Nat->Unit->Option (Step Unit Int)} (hs:∀ i,i<l.length->body i ()=some (if (l.getD i dF)=0 then .cont () else .ret (l.getD i dF))) :
  outM (rangeM body l.length 0 ()) (fun _=>some 0) (fun x=>some (id x))=some (orE l):=by
 rw[z6i l (fun x=>x != 0) id fun i hi=>by
  rw[hs i hi]
  by_cases h:l.getD i dF=0 <;> simp]
 unfold orE
 cases l.find? (fun x=>x != 0) <;> rfl
def limB (l:TLa):Prop:=l.P.length>120\/l.S.length>60\/l.U.length>60\/l.L.length>20\/l.O.length>20\/l.I.length>20\/l.A.length>20\/l.A.any (fun a=>decide (a.M.length>20))=true
instance (l:TLa):Decidable (limB l):=inferInstanceAs (Decidable (_\/_))
def yrB (l:TLa):Prop:=l.G<0\/l.G>99\/l.J<1\/l.J>4\/l.G+l.J>100
instance (l:TLa):Decidable (yrB l):=inferInstanceAs (Decidable (_\/_))
def errL (l:TLa):Int:=if yrB l then 2 else if treeE l.E=0 then (if limB l then 3 else
 orE [fstE l.P.length (lineE l.E l.G l.J l.P),fstE l.S.length (boundE l.E l.G l.J l.S),fstE l.U.length (boundE l.E l.G l.J l.U),
  fstE l.L.length (earE l.E l.L),shareE l.E l.L,fstE l.O.length (fun i=>z1l l.E l.G l.J (l.O.getD i dF)),
  fstE l.I.length (ruleE l.E l.I),fstE l.A.length (amdE l.E l.G l.J l.A)]) else treeE l.E
structure SmL (l:TLa):Prop where
 t:SmT l.E
 tl:l.E.length<=1000000
 li:∀ x∈l.P,x.B.length<=1000000
 ll:l.P.length<=1000000
 ce:∀ x∈l.S,x.B.length<=1000000
 cl:l.S.length<=1000000
 fl:∀ x∈l.U,x.B.length<=1000000
 fll:l.U.length<=1000000
 ea:∀ x∈l.L,x.T.length<=1000000/\x.B.length<=1000000
 el:l.L.length<=1000000
 co:∀ x∈l.O,x.T.length<=1000000/\x.B.length<=1000000
 col:l.O.length<=1000000
 rl:l.I.length<=1000000
 am:∀ x∈l.A,x.M.length<=1000000/\∀ c∈x.M,c.B.length<=1000000
 al:l.A.length<=1000000
end Go.Proofs.YtljnmhapbonmfaaGreatDoor
/- The reference's checks of a law. No condition. -/
namespace Go.Proofs.YtljnmhapbonmfaaGreatDoor
open Go Go.TA
open Go.IntKind (i64)
attribute [-simp] List.getD_eq_getElem?_getD
theorem z3w (n:Int):F_q2m n=some (amt n):=by
 simp only[F_q2m,S_q2m,Scr.den,z6,amt,ge_iff_le]
theorem z7i {a b:Y8} (ha:good a=true) (hb:good b=true) (m n:Int):F_q2x a m b n=some (ltC a m b n):=by
 simp only[F_q2x,S_q2x,Scr.den,z1x ha hb,obind,z6,ze,ltC]
 congr 2
variable {c:Y8} {t:List THe}
theorem hasGood (ht:treeE t=0) (h:has t c=true):good c=true:=by
 unfold has at h
 obtain⟨x,hx,e⟩:=y1m.1 h
 obtain⟨i,hi,rfl⟩:=z2o hx
 have e:(t.getD i dF).B=c:=by simpa using e
 unfold treeE at ht
 split at ht
 ·cases ht
 ·rw[<- e]; exact z9s (z10.1 ht i hi)
theorem leafGood (h:leafT t c=true):good c=true:=by
 unfold leafT at h
 simp only[y6] at h
 exact h.1.1
theorem wp {i:Nat} (h0:0<i) (h:i<=1000000):i64.wrap ((i:Int)-1)=((i-1:Nat):Int):=by rw[wrapId om om]; omega
variable {l:TLa}
theorem HasB (c:Y8):F_q1l l c=some (has l.E c):=by simp only[F_q1l,S_q1l,Scr.den,z9r,obind]
theorem LeafB (hs:SmT l.E) (hc:c.length<=1000000):F_qv l c=some (leafT l.E c):=by
 simp only[F_qv,S_qv,Scr.den,z27 (l:=c) om,HasB,obind,ze,leafT]
 by_cases hg:good c=true
 ·by_cases hh:has l.E c=true
  ·simp[hg,hh,oT,oN]
   rw[z1m l.E (fun x=>par x.B==c) (fun _=>false) fun i hi=>by
    obtain⟨hc,_⟩:=hs _ (z4 hi)
    simp only[S_qv_b1,Scr.den,z36 hc,obind]
    split <;> rfl]
   by_cases ha:(l.E.any fun x=>par x.B==c)=true
   ·rw[y4 ha]; simp only[outM]; congr 1; symm; rw[yq]; intro h
    obtain⟨x,hx,e⟩:=y1m.1 ha
    have:=y1c.1 h x hx
    simp[e] at this
   ·rw[y3 ha]; simp only[outM]; congr 1; symm; rw[y1c]; intro x hx
    have:=fun e=>ha (y1m.2 ⟨x,hx,e⟩)
    simpa using this
  ·simp[hg,hh,oT,oN]
 ·simp[hg,oF]
theorem InB (hy:1<=l.J) (x:Int):F_q2q l x=some (inY l.G l.J x):=by
 simp only[F_q2q,S_q2q,Scr.den,z6,inY]
 rw[y11 (show l.J>0 from om),y1s]
theorem linesB (hs:SmT l.E) (hy:1<=l.J) (hc:∀ x∈l.P,x.B.length<=1000000) (hl:l.P.length<=1000000):F_q1m l=some (fstE l.P.length (lineE l.E l.G l.J l.P)):=by
 simp only[F_q1m,S_q1m,Scr.den]
 skip
 refine z1p (lineE l.E l.G l.J l.P) fun i hi hz=>?_
 have hci:=hc _ (z4 hi)
 have hi':i-1<l.P.length:=om
 simp only[S_q1m_b1,Scr.den,LeafB hs hci,InB hy,z3w,obind,z6,lineE,chE,z1d]
 by_cases hf:leafT l.E (l.P.getD i dF).B=true
 ·have hg:=leafGood hf
  by_cases h0:0<i
  ·have hz':=z3p (hz (i-1) om)
   have hf':leafT l.E (l.P.getD (i-1) dF).B=true:=by
    simp only[z1d] at hz'
    split at hz'
    ·cases hz'
    ·rename_i h; simpa using h
   simp only[wp h0 (show i<=1000000 from om),yf,z7i (leafGood hf') hg,hf]
   by_cases h1:inY l.G l.J (l.P.getD i dF).D=true <;> by_cases h2:amt (l.P.getD i dF).C=true <;>
    by_cases h3:ltC (l.P.getD (i-1) dF).B (l.P.getD (i-1) dF).D (l.P.getD i dF).B (l.P.getD i dF).D=true <;> simp[h0,hi',h1,h2,h3,AllP,oT,oN,gT]
  ·have h0':i=0:=om
   subst h0'
   by_cases h1:inY l.G l.J (l.P.getD 0 dF).D=true <;> by_cases h2:amt (l.P.getD 0 dF).C=true <;> simp[hf,hi,h1,h2,AllP,oF,gT]
 ·simp[hf]
theorem boundsB {b:List TBo} (ht:treeE l.E=0) (hy:1<=l.J) (hl:b.length<=1000000):F_qw l b=some (fstE b.length (boundE l.E l.G l.J b)):=by
 simp only[F_qw,S_qw,Scr.den]
 skip
 refine z1p (boundE l.E l.G l.J b) fun i hi hz=>?_
 have hi':i-1<b.length:=om
 simp only[S_qw_b1,Scr.den,HasB,InB hy,z3w,obind,z6,boundE,chE,zr]
 by_cases hf:has l.E (b.getD i dF).B=true
 ·have hg:=hasGood ht hf
  by_cases h0:0<i
  ·have hz':=z3p (hz (i-1) om)
   have hf':has l.E (b.getD (i-1) dF).B=true:=by
    simp only[zr] at hz'
    split at hz'
    ·cases hz'
    ·rename_i h; simpa using h
   simp only[wp h0 (show i<=1000000 from om),yf,z7i (hasGood ht hf') hg,hf]
   by_cases h1:inY l.G l.J (b.getD i dF).D=true <;> by_cases h2:amt (b.getD i dF).C=true <;> by_cases h4:(b.getD i dF).D=-1 <;>
    by_cases h3:ltC (b.getD (i-1) dF).B (b.getD (i-1) dF).D (b.getD i dF).B (b.getD i dF).D=true <;> (try simp only[h4] at h1 h3 |-) <;> simp[h0,hi',h1,h2,h3,h4,AllP,oT,oF,oN,gT]
  ·have h0':i=0:=om
   subst h0'
   by_cases h1:inY l.G l.J (b.getD 0 dF).D=true <;> by_cases h2:amt (b.getD 0 dF).C=true <;> by_cases h4:(b.getD 0 dF).D=-1 <;> (try simp only[h4] at h1 |-) <;> simp[hf,hi,h1,h2,h4,AllP,oT,oF,oN,gT]
 ·simp[hf]
end Go.Proofs.YtljnmhapbonmfaaGreatDoor
/- The reference's Valid. No condition. -/
namespace Go.Proofs.YtljnmhapbonmfaaGreatDoor
open Go Go.TA
open Go.IntKind (i64)
attribute [-simp] List.getD_eq_getElem?_getD
theorem zd6 (l:List TEa) (c:Y8):shSum l c=l.foldl (fun s x=>if und c x.T=true then i64.wrap (s+x.R) else s) 0:=rfl
theorem ordB (u v:Int):(decide (u>0)||u==0&&decide (v>=0))=!(decide (u<0)||decide (u=0)&&decide (v<0)):=by
 rw[y1n]
 simp only[yc,y6,y5,ym,y1e,y23,y2g,y1a]
 omega
variable {l:TLa}
theorem earsB (hs:SmT l.E) (ht:treeE l.E=0) (htl:l.E.length<=1000000) (hc:∀ x∈l.L,x.T.length<=1000000/\x.B.length<=1000000) (hl:l.L.length<=1000000) :
  F_q5 l=some (orE [fstE l.L.length (earE l.E l.L),shareE l.E l.L]):=by
 simp only[F_q5,S_q5,Scr.den]
 rw[z4s (earE l.E l.L) (earE l.E l.L) fun i hi hz=>by
  have hi':i-1<l.L.length:=om
  obtain⟨hcs,hci⟩:=hc _ (z4 hi)
  simp only[S_q5_b1,Scr.den,HasB,LeafB hs hci,obind,z6,ze,earE,chE,z4u]
  by_cases hf:has l.E (l.L.getD i dF).T=true <;> by_cases hf2:leafT l.E (l.L.getD i dF).B=true
  ·have hg:=hasGood ht hf
   have hg2:=leafGood hf2
   by_cases h0:0<i
   ·have hz':=z3p (hz (i-1) om)
    have hf':has l.E (l.L.getD (i-1) dF).T=true/\leafT l.E (l.L.getD (i-1) dF).B=true:=by
     simp only[z4u] at hz'
     split at hz'
     ·cases hz'
     ·rename_i h; simp only[y4l,y3b] at h; exact h
    simp only[wp h0 (show i<=1000000 from om),yf,z1x (hasGood ht hf'.1) hg,z1x (leafGood hf'.2) hg2,hf,hf2,obind,ltC,ordB]
    by_cases h1:(l.L.getD i dF).R<0 <;> by_cases h2:(l.L.getD i dF).R>100 <;>
     by_cases h3:(decide (lexC (parts (l.L.getD (i-1) dF).T) (parts (l.L.getD i dF).T)<0)||decide (lexC (parts (l.L.getD (i-1) dF).T) (parts (l.L.getD i dF).T)=0)&&decide (lexC (parts (l.L.getD (i-1) dF).B) (parts (l.L.getD i dF).B)<0))=true <;> (try rw[y3m] at h3) <;> simp only[h3] <;> simp[h0,hi',h1,h2,AllP,oT,oN,gT]
   ·have h0':i=0:=om
    subst h0'
    by_cases h1:(l.L.getD 0 dF).R<0 <;> by_cases h2:(l.L.getD 0 dF).R>100 <;> simp[hf,hf2,h1,h2,oT,oN]
  all_goals simp[hf,hf2,AllP,oT,oF,oN]]
 have hsh:(outM (F_q2 l.E [] >>= fun rv6=>rangeM (fun i s=>(S_q5_b3 l rv6 i s).den) rv6.length 0 ()) (fun _=>some 0) (fun x=>some (id x)))=some (shareE l.E l.L):=by
  rw[zy hs htl sj]
  show outM (rangeM (fun i s=>(S_q5_b3 l (leavesU l.E []) i s).den) (leavesU l.E []).length 0 ()) _ _=_
  rw[z1m (leavesU l.E []) (fun c=>decide (shSum l.L c>100)) (fun _=>13) fun i hi=>by
   have hlen:((leavesU l.E []).getD i dF).length<=1000000:=by
    have:=zj.1 (z4 hi)
    have:=z3c (leafGood this)
    omega
   simp only[S_q5_b3,Scr.den]
   rw[z2i l.L (fun s x=>if und ((leavesU l.E []).getD i dF) x.T=true then i64.wrap (s+x.R) else s) fun j s hj=>by
    obtain⟨hcs,_⟩:=hc _ (z4 hj)
    simp only[S_q5_b2,Scr.den,z29 hlen hcs,obind]
    split <;> rfl]
   simp only[outM,<- zd6]
   by_cases h:shSum l.L ((leavesU l.E []).getD i dF)>100 <;> simp[h]]
  unfold shareE
  split <;> rfl
 rw[z20,z20,z30]
 unfold fstE
 split
 ·rename_i j hj
  have:=List.find?_some hj
  have hne:earE l.E l.L j≠0:=by simpa using this
  rw[y3 hne]
  rfl
 ·simp only[outM,y3j]
  simp only[zy (top:=[]) hs htl sj,obind] at hsh |-
  have e:(if shareE l.E l.L=0 then (0:Int) else shareE l.E l.L)=shareE l.E l.L:=by split <;> simp_all
  rw[e]
  exact hsh
theorem condsB (hs:SmT l.E) (hy:1<=l.J) (hc:∀ x∈l.O,x.T.length<=1000000/\x.B.length<=1000000) (_hl:l.O.length<=1000000) :
  F_q1n l=some (fstE l.O.length fun i=>z1l l.E l.G l.J (l.O.getD i dF)):=by
 simp only[F_q1n,S_q1n,Scr.den]
 refine z1p (fun i=>z1l l.E l.G l.J (l.O.getD i dF)) fun i hi hz=>?_
 obtain⟨hcs,hci⟩:=hc _ (z4 hi)
 simp only[S_q1n_b1,Scr.den,HasB,LeafB hs hci,InB hy,z3w,obind,z6,ze,z1l]
 generalize l.O.getD i dF=x
 have hb:(!(x.N==1)&&!(x.N==2)||x.N==1&&(!(x.T==[])||x.W != 0)||x.N==2&&x.H != 0)=decide (condBad x):=by
  rw[y1n,y5i]
  unfold condBad
  simp[or_assoc]
 rw[hb]
 by_cases h1:condBad x
 ·simp[h1]
 ·by_cases h2:leafT l.E x.B=true <;> by_cases h3:has l.E x.T=true <;> by_cases h4:x.N=2 <;> by_cases h5:inY l.G l.J x.D=true <;> by_cases h6:amt x.C=true <;> by_cases h7:amt x.W=true <;>
   simp[h1,h2,h3,h4,h5,h6,h7,oT,oF,oN] <;> (split <;> simp_all <;> omega)
theorem rulesB (hl:l.I.length<=1000000):F_q1o l=some (fstE l.I.length (ruleE l.E l.I)):=by
 simp only[F_q1o,S_q1o,Scr.den]
 refine z1p (ruleE l.E l.I) fun i hi hz=>?_
 have hi':i-1<l.I.length:=om
 simp only[S_q1o_b1,Scr.den,HasB,obind,z6,ze,ruleE,chE,z62]
 by_cases h0:0<i
 ·simp only[wp h0 (show i<=1000000 from om),yf]
  by_cases h1:has l.E (l.I.getD i dF).K=true <;> by_cases h2:has l.E (l.I.getD i dF).V=true <;> by_cases h3:(l.I.getD (i-1) dF).F>=(l.I.getD i dF).F <;>
   by_cases h4:(l.I.getD i dF).F<1\/(l.I.getD i dF).F>1000000\/(l.I.getD i dF).R<0\/(l.I.getD i dF).R>100 <;>
   simp[h0,hi',h1,h2,h3,h4,or_assoc,AllP,oT,oF,oN,gT] <;> omega
 ·have h0':i=0:=om
  subst h0'
  by_cases h1:has l.E (l.I.getD 0 dF).K=true <;> by_cases h2:has l.E (l.I.getD 0 dF).V=true <;>
   by_cases h4:(l.I.getD 0 dF).F<1\/(l.I.getD 0 dF).F>1000000\/(l.I.getD 0 dF).R<0\/(l.I.getD 0 dF).R>100 <;>
   simp[h1,h2,h4,or_assoc,AllP,oT,oF,oN,gT]
end Go.Proofs.YtljnmhapbonmfaaGreatDoor
/- The reference's Valid. No condition. -/
namespace Go.Proofs.YtljnmhapbonmfaaGreatDoor
open Go Go.TA
open Go.IntKind (i64)
attribute [-simp] List.getD_eq_getElem?_getD
theorem z45 {one:Nat->Int} {ord:Nat->Bool} {i:Nat} {X:Option (Step Unit Int)} (h1:one i≠0->X=some (.ret (one i))) (h2:one i=0->X=some (if 0<i/\ord i=false then .ret 8 else .cont ())) :
  X=some (if chE one ord i=0 then .cont () else .ret (chE one ord i)):=by
 unfold chE
 by_cases h:one i=0
 ·rw[h2 h,y4 h]
  by_cases h':0<i/\ord i=false
  ·rw[y4 h',y4 h',y3 dk]
  ·rw[y3 h',y3 h',y4 rfl]
 ·rw[h1 h,y3 h,y3 h]
theorem chgsB {l:TLa} (hs:SmT l.E) (ht:treeE l.E=0) (hy:1<=l.J) {b:List TCh} (hc:∀ x∈b,x.B.length<=1000000) (hl:b.length<=1000000) :
  F_q26 l b=some (fstE b.length (chgE l.E l.G l.J b)):=by
 simp only[F_q26,S_q26,Scr.den]
 refine z1p (chgE l.E l.G l.J b) fun i hi hz=>?_
 have hci:=hc _ (z4 hi)
 have hi':i-1<b.length:=om
 simp only[S_q26_b1,Scr.den,HasB,LeafB hs hci,InB hy,z3w,obind,z6,ze]
 unfold chgE
 by_cases p1:(b.getD i dF).N<1\/(b.getD i dF).N>3
 ·refine z45 (fun _=>by simp[z1e,p1]) (fun h=>by simp[z1e,p1] at h)
 have k1:¬ (b.getD i dF).N<1:=fun h=>p1 (.inl h)
 have k2:¬ (b.getD i dF).N>3:=fun h=>p1 (.inr h)
 by_cases p2:has l.E (b.getD i dF).B=false\/((b.getD i dF).N=1/\leafT l.E (b.getD i dF).B=false)
 ·refine z45 (fun _=>?_) (fun h=>by simp[z1e,p1,p2] at h)
  simp only[z1e,y3 p1,y4 p2]
  rcases p2 with h | ⟨h,h'⟩
  ·simp[k1,k2,h]
   by_cases h4:(b.getD i dF).N=1 <;> simp[h4,oT,oF]
  ·by_cases hh:has l.E (b.getD i dF).B=true <;> simp[h,h',hh,oT,oF,oN]
 have hf:has l.E (b.getD i dF).B=true:=by
  cases h:has l.E (b.getD i dF).B
  ·exact absurd (.inl h) p2
  ·rfl
 have hlf:(b.getD i dF).N=1->leafT l.E (b.getD i dF).B=true:=fun e=>by
  cases h:leafT l.E (b.getD i dF).B
  ·exact absurd (.inr ⟨e,h⟩) p2
  ·rfl
 have e2:(optD [((b.getD i dF).N==1)=true,(!true)=false] (some (leafT l.E (b.getD i dF).B)) dF)=some (if (b.getD i dF).N=1 then true else dF):=by
  by_cases h4:(b.getD i dF).N=1 <;> simp[h4,oT,oF,oN,hlf]
 have e3:(!inY l.G l.J (b.getD i dF).D&&((b.getD i dF).N==1||(b.getD i dF).D != -1))=decide (inY l.G l.J (b.getD i dF).D=false/\((b.getD i dF).N=1\/(b.getD i dF).D≠-1)):=by
  rw[y1n,y5i]; simp
 have e4:(!amt (b.getD i dF).C&&((b.getD i dF).N != 2||(b.getD i dF).C != -1))=decide (amt (b.getD i dF).C=false/\((b.getD i dF).N≠2\/(b.getD i dF).C≠-1)):=by
  rw[y1n,y5i]; simp
 have e1:(decide ((b.getD i dF).N<1)||decide ((b.getD i dF).N>3))=false:=by simp[k1]; omega
 simp only[hf,e1,e2,e3,e4,obind,y20,y2t]
 have e5:(!true||(b.getD i dF).N==1&&!(if (b.getD i dF).N=1 then true else dF))=false:=by
  by_cases h4:(b.getD i dF).N=1 <;> simp[h4]
 simp only[e5,y20,y2t]
 by_cases p3:inY l.G l.J (b.getD i dF).D=false/\((b.getD i dF).N=1\/(b.getD i dF).D≠-1)
 ·refine z45 (fun _=>?_) (fun h=>by simp only[z1e,y3 p1,y3 p2,y4 p3] at h; cases h)
  simp only[z1e,y3 p1,y3 p2,y4 p3,y11 p3,y3j]
 by_cases p4:amt (b.getD i dF).C=false/\((b.getD i dF).N≠2\/(b.getD i dF).C≠-1)
 ·refine z45 (fun _=>?_) (fun h=>by simp only[z1e,y3 p1,y3 p2,y3 p3,y4 p4] at h; cases h)
  simp only[z1e,y3 p1,y3 p2,y3 p3,y4 p4,y11 p4,y1x p3,y3j,y20,y2t]
 refine z45 (fun h=>by simp only[z1e,y3 p1,y3 p2,y3 p3,y3 p4] at h; exact absurd rfl h) (fun _=>?_)
 simp only[y1x p4,y1x p3,y20,y2t]
 have hg:=hasGood ht hf
 by_cases h0:0<i
 ·have hz':=z3p (hz (i-1) om)
  have hf':has l.E (b.getD (i-1) dF).B=true:=by
   simp only[z1e] at hz'
   split at hz'
   ·cases hz'
   ·split at hz'
    ·cases hz'
    ·rename_i h; simp only[y4l,y3b] at h; exact h.1
  simp only[wp h0 (show i<=1000000 from om),yf,z7i (hasGood ht hf') hg,ltX]
  rcases Int.lt_trichotomy (b.getD (i-1) dF).N (b.getD i dF).N with hh | hh | hh
  ·have a1:¬ (b.getD (i-1) dF).N>(b.getD i dF).N:=om
   have a2:¬ (b.getD (i-1) dF).N=(b.getD i dF).N:=om
   simp[h0,hi',hh,a1,a2,AllP,oF,gT]
  ·by_cases hq:ltC (b.getD (i-1) dF).B (b.getD (i-1) dF).D (b.getD i dF).B (b.getD i dF).D=true <;> simp[h0,hi',hh,hq,AllP,oT,oN,gT]
  ·have a1:¬ (b.getD (i-1) dF).N<(b.getD i dF).N:=om
   have a2:¬ (b.getD (i-1) dF).N=(b.getD i dF).N:=om
   simp[h0,hi',hh,a1,a2,AllP,oF,gT]
 ·have h0':i=0:=om
  subst h0'
  simp[AllP,gT]
  by_cases hh:(b.getD (i64.wrap (-1)).toNat dF).N=(b.getD 0 dF).N <;> simp[hh,oT,oF]
end Go.Proofs.YtljnmhapbonmfaaGreatDoor
/- The reference's Valid. No condition. -/
namespace Go.Proofs.YtljnmhapbonmfaaGreatDoor
open Go Go.TA
open Go.IntKind (i64)
attribute [-simp] List.getD_eq_getElem?_getD
theorem zal (l:List Int) (i:Nat):(if (l.getD i dF != 0)=true then some (.ret (l.getD i dF)) else some (.cont ()):Option (Step Unit Int))=some (if l.getD i dF=0 then .cont () else .ret (l.getD i dF)):=by
 generalize l.getD i dF=v
 by_cases h:v=0 <;> simp[h]
variable {l:TLa}
theorem amdsB (hs:SmT l.E) (ht:treeE l.E=0) (hy:1<=l.J) (hc:∀ x∈l.A,x.M.length<=1000000/\∀ c∈x.M,c.B.length<=1000000) (hl:l.A.length<=1000000) :
  F_q1p l=some (fstE l.A.length (amdE l.E l.G l.J l.A)):=by
 simp only[F_q1p,S_q1p,Scr.den]
 skip
 refine z1p (amdE l.E l.G l.J l.A) fun i hi hz=>?_
 obtain⟨hcl,hcc⟩:=hc _ (z4 hi)
 have hi':i-1<l.A.length:=om
 simp only[S_q1p_b1,Scr.den,chgsB hs ht hy hcc hcl,obind,z6,ze,amdE]
 skip
 by_cases p1:(l.A.getD i dF).H<0\/(l.A.getD i dF).H>35990\/(l.A.getD i dF).F<1\/(l.A.getD i dF).F>1000000
 ·simp only[y4 p1]
  rw[y4 (by simp only[yc,y5]; omega)]
  rfl
 simp only[y3 p1]
 rw[y3 (by simp only[yc,y5]; omega)]
 have he:(l.A.getD i dF).M=[]↔((((l.A.getD i dF).M).length:Int)==0)=true:=by
  rw[ym,<- y1r]; omega
 have hfin:(if ((((l.A.getD i dF).M).length:Int)==0)=true then some (Step.ret 1) else if (fstE (l.A.getD i dF).M.length (chgE l.E l.G l.J (l.A.getD i dF).M) != 0)=true then
   some (Step.ret (fstE (l.A.getD i dF).M.length (chgE l.E l.G l.J (l.A.getD i dF).M))) else some (Step.cont ()):Option (Step Unit Int)) =
   some (if (if (l.A.getD i dF).M=[] then 1 else fstE (l.A.getD i dF).M.length (chgE l.E l.G l.J (l.A.getD i dF).M))=0 then Step.cont () else
    Step.ret (if (l.A.getD i dF).M=[] then 1 else fstE (l.A.getD i dF).M.length (chgE l.E l.G l.J (l.A.getD i dF).M))):=by
  by_cases h:(l.A.getD i dF).M=[]
  ·rw[y4 (he.1 h)]; simp only[y4 h]; rfl
  ·rw[y3 (fun h'=>h (he.2 h'))]; simp only[y3 h]
   by_cases h0:fstE (l.A.getD i dF).M.length (chgE l.E l.G l.J (l.A.getD i dF).M)=0
   ·simp[h0]
   ·simp[h0]
 by_cases h0:0<i
 ·simp only[wp h0 (show i<=1000000 from om),yf,ltA]
  rcases Int.lt_trichotomy (l.A.getD (i-1) dF).H (l.A.getD i dF).H with hh | hh | hh
  ·have a1:¬ (l.A.getD (i-1) dF).H>(l.A.getD i dF).H:=om
   have a2:¬ (l.A.getD (i-1) dF).H=(l.A.getD i dF).H:=om
   rw[z3 (by simp[h0,hi',a1,a2,AllP])]
   rw[y3 (by simp[a1,a2])]
   simp only[hh,y4v,Bool.true_or,y4o,and_false,y2t]
   exact hfin
  ·have a1:¬ (l.A.getD (i-1) dF).H>(l.A.getD i dF).H:=om
   have a3:¬ (l.A.getD (i-1) dF).H<(l.A.getD i dF).H:=om
   rw[z3 (by simp[h0,hi',hh,AllP])]
   by_cases hn:(l.A.getD (i-1) dF).F<(l.A.getD i dF).F
   ·rw[y3 (by simp only[y6,yc,y5,ym]; omega)]
    simp only[hh,hn,y4v,y4c,y4p,y4o,and_false,y2t]
    exact hfin
   ·rw[y4 (by simp only[y6,yc,y5,ym]; omega)]
    have:(decide ((l.A.getD (i-1) dF).H<(l.A.getD i dF).H)||decide ((l.A.getD (i-1) dF).H=(l.A.getD i dF).H)&&decide ((l.A.getD (i-1) dF).F<(l.A.getD i dF).F))=false:=by
     rw[yq]; simp only[ne_eq,y6,yc,y5]; omega
    simp only[this,h0,and_self,y3j]
    rfl
  ·have a1:¬ (l.A.getD (i-1) dF).H<(l.A.getD i dF).H:=om
   have a2:¬ (l.A.getD (i-1) dF).H=(l.A.getD i dF).H:=om
   rw[z3 (by simp[h0,hi',hh,a2,AllP])]
   rw[y4 (by simp only[y6,yc,y5,ym]; omega)]
   have:(decide ((l.A.getD (i-1) dF).H<(l.A.getD i dF).H)||decide ((l.A.getD (i-1) dF).H=(l.A.getD i dF).H)&&decide ((l.A.getD (i-1) dF).F<(l.A.getD i dF).F))=false:=by
    rw[yq]; simp only[ne_eq,y6,yc,y5]; omega
   simp only[this,h0,and_self,y3j]
   rfl
 ·have h0':i=0:=om
  subst h0'
  rw[z3 (by simp[AllP])]
  rw[y3 sj]
  simp only[Nat.lt_irrefl,false_and,y2t]
  exact hfin
theorem limsB (hl:l.A.length<=1000000):F_q1k l=some (if limB l then 3 else 0):=by
 simp only[F_q1k,S_q1k,Scr.den,ze]
 by_cases h:l.P.length>120\/l.S.length>60\/l.U.length>60\/l.L.length>20\/l.O.length>20\/l.I.length>20\/l.A.length>20
 ·rw[y4 (by simp only[yc,y5]; omega),y4 (by rcases h with h | h | h | h | h | h | h <;> simp[limB,h])]
 ·rw[y3 (by simp only[yc,y5]; omega)]
  skip
  rw[z1m l.A (fun a=>decide (a.M.length>20)) (fun _=>3) fun i hi=>by
   simp only[S_q1k_b1,Scr.den]
   skip
   by_cases hx:(l.A.getD i dF).M.length>20
   ·rw[y4 (by simp only[y5]; omega),y4 (y11 hx)]
   ·rw[y3 (by simp only[y5]; omega),y3 (by simpa using hx)]]
  by_cases ha:(l.A.any fun a=>decide (a.M.length>20))=true
  ·rw[y4 ha,y4 (show limB l from .inr (.inr (.inr (.inr (.inr (.inr (.inr ha)))))))]; rfl
  ·rw[y3 ha,y3 (show ¬ limB l from fun hb=>by
    rcases hb with hb | hb | hb | hb | hb | hb | hb | hb
    ·exact h (.inl hb)
    ·exact h (.inr (.inl hb))
    ·exact h (.inr (.inr (.inl hb)))
    ·exact h (.inr (.inr (.inr (.inl hb))))
    ·exact h (.inr (.inr (.inr (.inr (.inl hb)))))
    ·exact h (.inr (.inr (.inr (.inr (.inr (.inl hb))))))
    ·exact h (.inr (.inr (.inr (.inr (.inr (.inr hb))))))
    ·exact ha hb)]; rfl
theorem zfm (hs:SmL l):F_q27 l=some (errL l):=by
 simp only[F_q27,S_q27,Scr.den,ze,zd5 (t:=l.E) hs.t,obind]
 unfold errL
 by_cases p1:yrB l
 ·rw[y4 p1,y4]
  unfold yrB at p1
  simp only[yc,y5] at p1 |-
  by_cases hr:0<=l.G/\l.G<=99/\1<=l.J/\l.J<=4
  ·rw[wrapId (n:=l.G+l.J) om om,wrapId om om]; omega
  ·omega
 have q1:¬ (l.G<0\/l.G>99\/l.J<1\/l.J>4\/l.G+l.J>100):=p1
 rw[y3 p1,y3 (by simp only[yc,y5]; rw[wrapId (n:=l.G+l.J) om om,wrapId om om]; omega)]
 by_cases p2:treeE l.E=0
 ·have hy:1<=l.J:=om
  rw[y3 (by simp[p2]),y4 p2]
  simp only[limsB hs.al,linesB hs.t hy hs.li hs.ll,boundsB p2 hy hs.cl,boundsB p2 hy hs.fll,earsB hs.t p2 hs.tl hs.ea hs.el,condsB hs.t hy hs.co hs.col,rulesB hs.rl,amdsB hs.t p2 hy hs.am hs.al,obind]
  refine (zak [if limB l then 3 else 0,fstE l.P.length (lineE l.E l.G l.J l.P),fstE l.S.length (boundE l.E l.G l.J l.S),fstE l.U.length (boundE l.E l.G l.J l.U),
   orE [fstE l.L.length (earE l.E l.L),shareE l.E l.L],fstE l.O.length (fun i=>z1l l.E l.G l.J (l.O.getD i dF)),fstE l.I.length (ruleE l.E l.I),fstE l.A.length (amdE l.E l.G l.J l.A)] fun i hi=>?_).trans ?_
  ·simp only[S_q27_b1,Scr.den]
   exact zal _ i
  congr 1
  rw[z20]
  by_cases p3:limB l
  ·simp only[y4 p3]; rfl
  ·simp only[y3 p3,y3j]
   simp only[z20,z30]
   (repeat' split) <;> simp_all
 ·rw[y4 (by simp[p2]),y3 p2]
end Go.Proofs.YtljnmhapbonmfaaGreatDoor
/- The program's Valid: the same. No condition. -/
namespace Go.Proofs.YtljnmhapbonmfaaGreatDoor
open Go Go.TA
open Go.IntKind (i64)
attribute [-simp] List.getD_eq_getElem?_getD
theorem z3e (n a b:Int):F_qz n a b=some (decide (n>=a)&&decide (n<=b)):=by simp only[F_qz,S_qz,Scr.den,z6]
theorem z46 (n:Int):F_q19 n=some (amt n):=by simp only[F_q19,S_q19,Scr.den,z6,amt,ge_iff_le]
theorem zha (n:Int):F_q32 n=some (decide (n>=0)&&decide (n<=35990)):=by simp only[F_q32,S_q32,Scr.den,z3e,obind]
theorem zbp (n:Int):F_q33 n=some (decide (n>=1)&&decide (n<=1000000)):=by simp only[F_q33,S_q33,Scr.den,z3e,obind]
variable {l:TLa}
theorem z7j (hy:1<=l.J) (x:Int):F_q2h l x=some (inY l.G l.J x):=by
 simp only[F_q2h,S_q2h,Scr.den,z6,inY]
 rw[y3 om]
theorem z63 (l:TLa) (c:Y8):F_q1u l c=some (has l.E c):=by simp only[F_q1u,S_q1u,Scr.den,zh7,obind]
def ck (l:TLa):TChe:=⟨l,leavesU l.E []⟩
theorem z83 (l:TLa) (c:Y8):F_q2n (ck l) c=some (leafT l.E c):=by
 simp only[F_q2n,S_q2n,Scr.den,z8h,obind,ck]
 congr 1
 rw[y1n,<- zj]
 simp
theorem z5c (l:List Int):F_qi l=some (orE l):=by
 simp only[F_qi,S_qi,Scr.den]
 refine zak l fun i hi=>?_
 simp only[S_qi_b1,Scr.den]
 exact zal l i
theorem zlo (l:List Int):F_q1x l=some (orE l):=by
 simp only[F_q1x,S_q1x,Scr.den]
 refine zak l fun i hi=>?_
 simp only[S_q1x_b1,Scr.den]
 exact zal l i
variable {u:Int}
theorem or2 {m n:Int}:(decide (orE [u,cmpI m n]>=0))=!(decide (u<0)||(decide (u=0)&&decide (m<n))):=by
 simp only[z20,z30,cmpI]
 rw[y1n]
 simp only[y1e,y5,y23,y2g,y1a]
 (repeat' split) <;> omega
theorem zmh {v:Int}:(decide (orE [u,v]>=0))=!(decide (u<0)||(decide (u=0)&&decide (v<0))):=by
 simp only[z20,z30]
 rw[y1n]
 simp only[y1e,y5,y23,y2g,y1a]
 (repeat' split) <;> omega
theorem lenC {c:Y8} (h:good c=true):c.length<=1000000:=by have:=z3c h; omega
theorem z7k {a b:Y8} (ha:good a=true) (hb:good b=true):F_q10 a b=some (lexC (parts a) (parts b)):=by rw[z6k (lenC ha) (lenC hb),z3o (.inl ha)]
theorem z4j {n:Nat} {one:Nat->Int} {ord:Nat->Bool} {body:Nat->Unit->Option (Step Unit Int)}
  (hs:∀ i,i<n->one i≠0->body i ()=some (.ret (one i)))
  (hz:∀ i,i<n->one i=0->(0<i->one (i-1)=0)->body i ()=some (if 0<i/\ord i=false then .ret 8 else .cont ())) :
  outM (rangeM body n 0 ()) (fun _=>some 0) (fun x=>some (id x))=some (fstE n (chE one ord)) :=
 z1p (chE one ord) fun i hi h=>z45 (hs i hi) fun h0=>hz i hi h0 fun h1=>z3p (h (i-1) om)
theorem zed (hy:1<=l.J) (x:TLi):F_q3h (ck l) x=some (z1d l.E l.G l.J x):=by
 simp only[F_q3h,S_q3h,Scr.den,z83,z46,obind,show (ck l).law=l from rfl,z7j hy,z1d]
 by_cases h1:leafT l.E x.B=true <;> by_cases h2:inY l.G l.J x.D=true <;> by_cases h3:amt x.C=true <;> simp[h1,h2,h3]
theorem zd7 (hy:1<=l.J) (x:TBo):F_q3j (ck l) x=some (zr l.E l.G l.J x):=by
 simp only[F_q3j,S_q3j,Scr.den,show (ck l).law=l from rfl,z63,z46,obind,z7j hy,zr,z6]
 by_cases h1:has l.E x.B=true <;> by_cases h4:x.D=-1 <;> by_cases h2:inY l.G l.J x.D=true <;> by_cases h3:amt x.C=true <;> (try simp only[h4] at h2 |-) <;> simp[h1,h2,h3,h4,oT,oF,oN]
theorem z9t (x:TEa):F_q3l (ck l) x=some (z4u l.E x):=by
 simp only[F_q3l,S_q3l,Scr.den,show (ck l).law=l from rfl,z63,z83,z3e,obind,z4u,ze]
 by_cases h1:has l.E x.T=true <;> by_cases h2:leafT l.E x.B=true <;> simp[h1,h2,oT,oF,oN]
 by_cases h3:x.R<0\/x.R>100
 ·rw[y4 om,y4 h3]
 ·rw[y3 om,y3 h3]
theorem zkf (hy:1<=l.J) (x:TCo):F_q3n (ck l) x=some (z1l l.E l.G l.J x):=by
 simp only[F_q3n,S_q3n,Scr.den,show (ck l).law=l from rfl,z63,z83,z3e,z46,zha,z7j hy,obind,z1l,ze,z6]
 have hb:∀ (K:Bool->Option Int),outM (if (!(decide (x.N>=1)&&decide (x.N<=2)))=true then some (Out.next (!(decide (x.N>=1)&&decide (x.N<=2)))) else
   if (x.N==2&&x.H != 0)=true then some (Out.next (x.N==2&&x.H != 0)) else some (Out.next (!(x.N==2)&&(!(x.T==[])||x.W != 0)))) K some=K (decide (condBad x)):=fun K=>by
  unfold condBad
  by_cases k1:x.N=1
  ·simp only[k1]; simp[outM]
   congr 1
   rw[y1n]
   simp
  ·by_cases k2:x.N=2
   ·simp only[k2]
    by_cases d:x.H=0
    ·simp[outM,d]
    ·have e:(x.H != 0)=true:=by simpa using d
     simp[outM,d,e]
   ·have:(decide (x.N>=1)&&decide (x.N<=2))=false:=by rw[yq]; simp only[ne_eq,y6,y5]; omega
    simp[this,outM,k1,k2]
 rw[hb]
 by_cases h1:condBad x
 ·simp[h1]
 ·by_cases h2:leafT l.E x.B=true <;> by_cases h3:has l.E x.T=true <;> by_cases h4:x.N=2 <;> by_cases h5:inY l.G l.J x.D=true <;> by_cases h6:amt x.C=true <;> by_cases h7:amt x.W=true <;>
   simp[h1,h2,h3,h4,h5,h6,h7,oT,oF,oN] <;> (split <;> simp_all <;> omega)
theorem zee (x:TRu):F_q3o (ck l) x=some (z62 l.E x):=by
 simp only[F_q3o,S_q3o,Scr.den,show (ck l).law=l from rfl,z63,zbp,z3e,obind,z62,ze]
 by_cases h4:x.F<1\/x.F>1000000\/x.R<0\/x.R>100
 ·rw[y4 h4]
  by_cases h5:1<=x.F/\x.F<=1000000
  ·simp[h5,oT,oN]; omega
  ·have:(decide (x.F>=1)&&decide (x.F<=1000000))=false:=by rw[yq]; simp only[ne_eq,y6,y5]; omega
   simp[this,oF]
 ·rw[y3 h4]
  have e1:(decide (x.F>=1)&&decide (x.F<=1000000))=true:=by simp only[y6,y5]; omega
  have e2:(decide (x.R>=0)&&decide (x.R<=100))=true:=by simp only[y6,y5]; omega
  simp only[e1,e2]
  by_cases h1:has l.E x.K=true <;> by_cases h2:has l.E x.V=true <;> simp[h1,h2,oT,oF,oN]
theorem zbq (hy:1<=l.J) (x:TCh):F_q3r (ck l) x=some (z1e l.E l.G l.J x):=by
 simp only[F_q3r,S_q3r,Scr.den,show (ck l).law=l from rfl,z63,z83,z3e,z46,z7j hy,obind,z1e,ze,z6]
 by_cases p1:x.N<1\/x.N>3
 ·rw[y4 p1,y4 (by simp only[y1e,y2g,y1a]; omega)]
 ·rw[y3 p1,y3 (by simp only[y1e,y2g,y1a]; omega)]
  by_cases h1:has l.E x.B=true <;> by_cases h2:leafT l.E x.B=true <;> by_cases h4:x.N=1 <;> simp[h1,h2,h4,oT,oF,oN] <;> ((repeat' split) <;> simp_all)
end Go.Proofs.YtljnmhapbonmfaaGreatDoor
/- The program's Valid. No condition. -/
namespace Go.Proofs.YtljnmhapbonmfaaGreatDoor
open Go Go.TA
open Go.IntKind (i64)
attribute [-simp] List.getD_eq_getElem?_getD
theorem zlp {a b:Y8} (_ha:good a=true) (_hb:good b=true) (m n:Int):(decide (orE [lexC (parts a) (parts b),cmpI m n]>=0))=!ltC a m b n:=by rw[or2]; rfl
variable {t:List THe} {f y:Int}
theorem lineG {x:TLi} (h:z1d t f y x=0):good x.B=true:=by
 unfold z1d at h
 split at h
 ·cases h
 ·rename_i hg; exact leafGood (by simpa using hg)
theorem boundG (ht:treeE t=0) {x:TBo} (h:zr t f y x=0):good x.B=true:=by
 unfold zr at h
 split at h
 ·cases h
 ·rename_i hg; exact hasGood ht (by simpa using hg)
theorem earG (ht:treeE t=0) {x:TEa} (h:z4u t x=0):good x.T=true/\good x.B=true:=by
 unfold z4u at h
 split at h
 ·cases h
 ·rename_i hg; simp only[y4l,y3b] at hg; exact⟨hasGood ht hg.1,leafGood hg.2⟩
theorem chgG (ht:treeE t=0) {x:TCh} (h:z1e t f y x=0):good x.B=true:=by
 unfold z1e at h
 split at h
 ·cases h
 ·split at h
  ·cases h
  ·rename_i hg; simp only[y4l,y3b] at hg; exact hasGood ht hg.1
theorem cmpLine {a b:TLi} (ha:good a.B=true) (hb:good b.B=true):F_q3i a b=some (orE [lexC (parts a.B) (parts b.B),cmpI a.D b.D]):=by
 simp only[F_q3i,S_q3i,Scr.den,z7k ha hb,z3n,z5c,obind]
theorem cmpBound {a b:TBo} (ha:good a.B=true) (hb:good b.B=true):F_q3k a b=some (orE [lexC (parts a.B) (parts b.B),cmpI a.D b.D]):=by
 simp only[F_q3k,S_q3k,Scr.den,z7k ha hb,z3n,z5c,obind]
theorem cmpEar {a b:TEa} (ha:good a.T=true/\good a.B=true) (hb:good b.T=true/\good b.B=true):F_q3m a b=some (orE [lexC (parts a.T) (parts b.T),lexC (parts a.B) (parts b.B)]):=by
 simp only[F_q3m,S_q3m,Scr.den,z7k ha.1 hb.1,z7k ha.2 hb.2,z5c,obind]
theorem cmpRule (a b:TRu):F_q3p a b=some (cmpI a.F b.F):=by simp only[F_q3p,S_q3p,Scr.den,z3n,obind]
theorem cmpChg {a b:TCh} (ha:good a.B=true) (hb:good b.B=true):F_q3s a b=some (orE [cmpI a.N b.N,lexC (parts a.B) (parts b.B),cmpI a.D b.D]):=by
 simp only[F_q3s,S_q3s,Scr.den,z7k ha hb,z3n,z5c,obind]
theorem cmpAmd (a b:TAm):F_q3q a b=some (orE [cmpI a.H b.H,cmpI a.F b.F]):=by simp only[F_q3q,S_q3q,Scr.den,z3n,z5c,obind]
theorem geRule (m n:Int):(decide (cmpI m n>=0))=!decide (m<n):=by
 unfold cmpI; rw[y1n]; simp only[y1e,y5,y1a]; (repeat' split) <;> omega
theorem geAmd (a b:TAm):(decide (orE [cmpI a.H b.H,cmpI a.F b.F]>=0))=!ltA a b:=by
 unfold ltA
 simp only[z20,z30,cmpI]
 rw[y1n]
 simp only[y1e,y5,y23,y2g,y1a]
 (repeat' split) <;> omega
theorem geChg (a b:TCh):(decide (orE [cmpI a.N b.N,lexC (parts a.B) (parts b.B),cmpI a.D b.D]>=0))=!ltX a b:=by
 unfold ltX ltC
 generalize lexC (parts a.B) (parts b.B)=u
 simp only[z20,z30,cmpI]
 rw[y1n]
 simp only[y1e,y5,y23,y2g,y1a]
 (repeat' split) <;> omega
variable {l:TLa}
theorem eachL (hy:1<=l.J) {b:List TLi} (hl:b.length<=1000000):F_q1a b (ck l)=some (fstE b.length (lineE l.E l.G l.J b)):=by
 simp only[F_q1a,S_q1a,Scr.den]
 refine z4j (fun i hi h=>?_) fun i hi h hp=>?_
 ·simp only[S_q1a_b1,Scr.den,zed hy,obind]
  rw[y4 (by simpa using h)]
 ·have hi':i-1<b.length:=om
  simp only[S_q1a_b1,Scr.den,zed hy,obind,z6]
  rw[y3 (by simpa using h)]
  by_cases h0:0<i
  ·have h':=hp h0
   skip
   simp only[wp h0 (show i<=1000000 from om),yf]
   rw[zm (by simp only[AllP,y3l,y5]; omega),cmpLine (lineG h') (lineG h),obind,z3 (by simp[h0,hi',AllP])]
   simp only[h0,y11 (show (i:Int)>0 from om),y1s,true_and,zlp (lineG h') (lineG h)]
   by_cases hq:ltC (b.getD (i-1) dF).B (b.getD (i-1) dF).D (b.getD i dF).B (b.getD i dF).D=true <;> simp[hq]
  ·have h0':i=0:=om
   subst h0'
   rw[Gh,obind,z3 (by simp[AllP]),y3 sj,y3 sj]
theorem eachB (ht:treeE l.E=0) (hy:1<=l.J) {b:List TBo} (hl:b.length<=1000000):F_q11 b (ck l)=some (fstE b.length (boundE l.E l.G l.J b)):=by
 simp only[F_q11,S_q11,Scr.den]
 refine z4j (fun i hi h=>?_) fun i hi h hp=>?_
 ·simp only[S_q11_b1,Scr.den,zd7 hy,obind]
  rw[y4 (by simpa using h)]
 ·have hi':i-1<b.length:=om
  simp only[S_q11_b1,Scr.den,zd7 hy,obind,z6]
  rw[y3 (by simpa using h)]
  by_cases h0:0<i
  ·have h':=hp h0
   skip
   simp only[wp h0 (show i<=1000000 from om),yf]
   rw[zm (by simp only[AllP,y3l,y5]; omega),cmpBound (boundG ht h') (boundG ht h),obind,z3 (by simp[h0,hi',AllP])]
   simp only[h0,y11 (show (i:Int)>0 from om),y1s,true_and,zlp (boundG ht h') (boundG ht h)]
   by_cases hq:ltC (b.getD (i-1) dF).B (b.getD (i-1) dF).D (b.getD i dF).B (b.getD i dF).D=true <;> simp[hq]
  ·have h0':i=0:=om
   subst h0'
   rw[Gh,obind,z3 (by simp[AllP]),y3 sj,y3 sj]
theorem eachE (ht:treeE l.E=0) {b:List TEa} (hl:b.length<=1000000):F_q1b b (ck l)=some (fstE b.length (earE l.E b)):=by
 simp only[F_q1b,S_q1b,Scr.den]
 refine z4j (fun i hi h=>?_) fun i hi h hp=>?_
 ·simp only[S_q1b_b1,Scr.den,z9t,obind]
  rw[y4 (by simpa using h)]
 ·have hi':i-1<b.length:=om
  simp only[S_q1b_b1,Scr.den,z9t,obind,z6]
  rw[y3 (by simpa using h)]
  by_cases h0:0<i
  ·have h':=hp h0
   skip
   simp only[wp h0 (show i<=1000000 from om),yf]
   rw[zm (by simp only[AllP,y3l,y5]; omega),cmpEar (earG ht h') (earG ht h),obind,z3 (by simp[h0,hi',AllP])]
   simp only[h0,y11 (show (i:Int)>0 from om),y1s,true_and,zmh]
   by_cases hq:(decide (lexC (parts (b.getD (i-1) dF).T) (parts (b.getD i dF).T)<0)||decide (lexC (parts (b.getD (i-1) dF).T) (parts (b.getD i dF).T)=0)&&decide (lexC (parts (b.getD (i-1) dF).B) (parts (b.getD i dF).B)<0))=true <;> (try rw[y3m] at hq) <;> simp only[ltC,hq] <;> simp
  ·have h0':i=0:=om
   subst h0'
   rw[Gh,obind,z3 (by simp[AllP]),y3 sj,y3 sj]
theorem eachR {b:List TRu} (hl:b.length<=1000000):F_q1c b (ck l)=some (fstE b.length (ruleE l.E b)):=by
 simp only[F_q1c,S_q1c,Scr.den]
 refine z4j (fun i hi h=>?_) fun i hi h hp=>?_
 ·simp only[S_q1c_b1,Scr.den,zee,obind]
  rw[y4 (by simpa using h)]
 ·have hi':i-1<b.length:=om
  simp only[S_q1c_b1,Scr.den,zee,obind,z6]
  rw[y3 (by simpa using h)]
  by_cases h0:0<i
  ·have h':=hp h0
   skip
   simp only[wp h0 (show i<=1000000 from om),yf]
   rw[zm (by simp only[AllP,y3l,y5]; omega),cmpRule,obind,z3 (by simp[h0,hi',AllP])]
   simp only[h0,y11 (show (i:Int)>0 from om),y1s,true_and,geRule]
   by_cases hq:(decide ((b.getD (i-1) dF).F<(b.getD i dF).F))=true <;> simp[hq]
  ·have h0':i=0:=om
   subst h0'
   rw[Gh,obind,z3 (by simp[AllP]),y3 sj,y3 sj]
theorem eachX (ht:treeE l.E=0) (hy:1<=l.J) {b:List TCh} (hl:b.length<=1000000):F_q1d b (ck l)=some (fstE b.length (chgE l.E l.G l.J b)):=by
 simp only[F_q1d,S_q1d,Scr.den]
 refine z4j (fun i hi h=>?_) fun i hi h hp=>?_
 ·simp only[S_q1d_b1,Scr.den,zbq hy,obind]
  rw[y4 (by simpa using h)]
 ·have hi':i-1<b.length:=om
  simp only[S_q1d_b1,Scr.den,zbq hy,obind,z6]
  rw[y3 (by simpa using h)]
  by_cases h0:0<i
  ·have h':=hp h0
   skip
   simp only[wp h0 (show i<=1000000 from om),yf]
   rw[zm (by simp only[AllP,y3l,y5]; omega),cmpChg (chgG ht h') (chgG ht h),obind,z3 (by simp[h0,hi',AllP])]
   simp only[h0,y11 (show (i:Int)>0 from om),y1s,true_and,geChg]
   by_cases hq:ltX (b.getD (i-1) dF) (b.getD i dF)=true <;> simp[hq]
  ·have h0':i=0:=om
   subst h0'
   rw[Gh,obind,z3 (by simp[AllP]),y3 sj,y3 sj]
theorem eachC (hy:1<=l.J) {b:List TCo} (hl:b.length<=1000000):F_q1v b (ck l)=some (fstE b.length fun i=>z1l l.E l.G l.J (b.getD i dF)):=by
 simp only[F_q1v,S_q1v,Scr.den]
 refine z1p (fun i=>z1l l.E l.G l.J (b.getD i dF)) fun i hi hz=>?_
 have hi':i-1<b.length:=om
 simp only[S_q1v_b1,Scr.den,zkf hy,F_q4d,S_q4d,obind,z6]
 by_cases h:z1l l.E l.G l.J (b.getD i dF)=0
 ·rw[y3 (by simpa using h),y4 h]
  by_cases h0:0<i
  ·simp only[wp h0 (show i<=1000000 from om),yf]
   rw[zm (by simp only[AllP,y3l,y5]; omega),obind,z3 (by simp[h0,hi',AllP]),y3 sj]
  ·have h0':i=0:=om
   subst h0'
   rw[Gh,obind,z3 (by simp[AllP]),y3 sj]
 ·rw[y4 (by simpa using h),y3 h]
theorem zhb (hc:∀ x∈l.L,x.T.length<=1000000/\x.B.length<=1000000):F_qn (ck l)=some (shareE l.E l.L):=by
 simp only[F_qn,S_qn,Scr.den,show (ck l).leaves=leavesU l.E [] from rfl]
 rw[z1m (leavesU l.E []) (fun c=>decide (shSum l.L c>100)) (fun _=>13) fun i hi=>by
  have hlen:((leavesU l.E []).getD i dF).length<=1000000:=by
   have:=zj.1 (z4 hi)
   exact lenC (leafGood this)
  simp only[S_qn_b2,Scr.den,show (ck l).law=l from rfl]
  rw[z2i l.L (fun s x=>if und ((leavesU l.E []).getD i dF) x.T=true then i64.wrap (s+x.R) else s) fun j s hj=>by
   obtain⟨hcs,_⟩:=hc _ (z4 hj)
   simp only[S_qn_b1,Scr.den,show (ck l).leaves=leavesU l.E [] from rfl,show (ck l).law=l from rfl,z2q hlen hcs,obind]
   split <;> rfl]
  simp only[outM,<- zd6]
  by_cases h:shSum l.L ((leavesU l.E []).getD i dF)>100 <;> simp[h]]
 unfold shareE
 split <;> rfl
theorem zc2 (ht:treeE l.E=0) (hy:1<=l.J) (hc:∀ x∈l.A,x.M.length<=1000000) (hl:l.A.length<=1000000):F_q1w (ck l)=some (fstE l.A.length (amdE l.E l.G l.J l.A)):=by
 simp only[F_q1w,S_q1w,Scr.den,show (ck l).law=l from rfl]
 refine z1p (amdE l.E l.G l.J l.A) fun i hi hz=>?_
 have hcl:=hc _ (z4 hi)
 have hi':i-1<l.A.length:=om
 simp only[S_q1w_b1,Scr.den,show (ck l).law=l from rfl,zha,zbp,eachX ht hy hcl,cmpAmd,obind,z6,ze,amdE]
 by_cases p1:(l.A.getD i dF).H<0\/(l.A.getD i dF).H>35990\/(l.A.getD i dF).F<1\/(l.A.getD i dF).F>1000000
 ·simp only[y4 p1]
  by_cases hd:0<=(l.A.getD i dF).H/\(l.A.getD i dF).H<=35990
  ·have e1:(decide ((l.A.getD i dF).H>=0)&&decide ((l.A.getD i dF).H<=35990))=true:=by simp only[y6,y5]; omega
   have e2:(decide ((l.A.getD i dF).F>=1)&&decide ((l.A.getD i dF).F<=1000000))=false:=by rw[yq]; simp only[ne_eq,y6,y5]; omega
   simp[e1,e2,oT,oN]
  ·have e1:(decide ((l.A.getD i dF).H>=0)&&decide ((l.A.getD i dF).H<=35990))=false:=by rw[yq]; simp only[ne_eq,y6,y5]; omega
   simp[e1,oF]
 simp only[y3 p1]
 have e1:(decide ((l.A.getD i dF).H>=0)&&decide ((l.A.getD i dF).H<=35990))=true:=by simp only[y6,y5]; omega
 have e2:(decide ((l.A.getD i dF).F>=1)&&decide ((l.A.getD i dF).F<=1000000))=true:=by simp only[y6,y5]; omega
 simp only[e1,e2]
 rw[Gg,obind,y3 sj]
 have he:(l.A.getD i dF).M=[]↔((((l.A.getD i dF).M).length:Int)==0)=true:=by
  rw[ym,<- y1r]; omega
 have hfin:(if ((((l.A.getD i dF).M).length:Int)==0)=true then some (Step.ret 1) else if (fstE (l.A.getD i dF).M.length (chgE l.E l.G l.J (l.A.getD i dF).M) != 0)=true then
   some (Step.ret (fstE (l.A.getD i dF).M.length (chgE l.E l.G l.J (l.A.getD i dF).M))) else some (Step.cont ()):Option (Step Unit Int)) =
   some (if (if (l.A.getD i dF).M=[] then 1 else fstE (l.A.getD i dF).M.length (chgE l.E l.G l.J (l.A.getD i dF).M))=0 then Step.cont () else
    Step.ret (if (l.A.getD i dF).M=[] then 1 else fstE (l.A.getD i dF).M.length (chgE l.E l.G l.J (l.A.getD i dF).M))):=by
  by_cases h:(l.A.getD i dF).M=[]
  ·rw[y4 (he.1 h)]; simp only[y4 h]; rfl
  ·rw[y3 (fun h'=>h (he.2 h'))]; simp only[y3 h]
   by_cases h0:fstE (l.A.getD i dF).M.length (chgE l.E l.G l.J (l.A.getD i dF).M)=0
   ·simp[h0]
   ·simp[h0]
 by_cases h0:0<i
 ·simp only[wp h0 (show i<=1000000 from om),yf]
  rw[zm (by simp only[AllP,y3l,y5]; omega),obind,z3 (by simp[h0,hi',AllP])]
  simp only[geAmd,y11 (show (i:Int)>0 from om),y1s]
  by_cases hq:ltA (l.A.getD (i-1) dF) (l.A.getD i dF)=true
  ·rw[y3 (by simp[hq])]
   simp only[hq,y4o,and_false,y2t]
   exact hfin
  ·rw[y4 (by simp[hq])]
   simp only[show ltA (l.A.getD (i-1) dF) (l.A.getD i dF)=false by simpa using hq,h0,and_self,y3j]
   rfl
 ·have h0':i=0:=om
  subst h0'
  rw[Gh,obind,z3 (by simp[AllP]),y3 sj]
  simp only[Nat.lt_irrefl,false_and,y2t]
  exact hfin
theorem ziz (hs:SmL l):F_q3g ⟨l,[]⟩=some (if yrB l then 2 else if treeE l.E=0 then (if limB l then 3 else 0) else treeE l.E):=by
 simp only[F_q3g,S_q3g,Scr.den,z3e,obind,ze,ziw hs.t]
 by_cases p1:yrB l
 ·rw[y4 p1]
  unfold yrB at p1
  by_cases hd:0<=l.G/\l.G<=99
  ·have e1:(decide (l.G>=0)&&decide (l.G<=99))=true:=by simp only[y6,y5]; omega
   simp only[e1]
   rw[Gg,obind,y4]
   by_cases hy:1<=l.J/\l.J<=4
   ·rw[wrapId om om]
    simp only[yc,y5]; omega
   ·have e2:(decide (l.J>=1)&&decide (l.J<=4))=false:=by rw[yq]; simp only[ne_eq,y6,y5]; omega
    simp[e2]
  ·have e1:(decide (l.G>=0)&&decide (l.G<=99))=false:=by rw[yq]; simp only[ne_eq,y6,y5]; omega
   simp only[e1]
   rw[Gh,obind,y4 sj]
 ·rw[y3 p1]
  have q1:¬ (l.G<0\/l.G>99\/l.J<1\/l.J>4\/l.G+l.J>100):=p1
  have e1:(decide (l.G>=0)&&decide (l.G<=99))=true:=by simp only[y6,y5]; omega
  have e2:(decide (l.J>=1)&&decide (l.J<=4))=true:=by simp only[y6,y5]; omega
  simp only[e1,e2]
  rw[Gg,obind,wrapId om om,y3 (by simp only[yc,y5,y5l,y20,false_or]; omega)]
  by_cases p2:treeE l.E=0
  ·rw[y3 (by simp[p2]),y4 p2]
   have hcf:F_q3f l.A=some (l.A.any fun a=>decide (a.M.length>20)):=by
    simp only[F_q3f,S_q3f,F_q2f,S_q2f,Scr.den]
    rw[z1m l.A (fun a=>decide (a.M.length>20)) (fun i=>(i:Int)) fun i hi=>by
     simp only[S_q2f_b1,F_q4c,S_q4c,Scr.den,obind]
     by_cases hx:(l.A.getD i dF).M.length>20
     ·rw[y4 (by simp only[y5]; omega),y4 (y11 hx)]
     ·rw[y3 (by simp only[y5]; omega),y3 (by simpa using hx)]]
    split
    ·rename_i h; rw[h]; simp[outM]
    ·rename_i h; rw[yq.2 h]; simp only[outM,obind]; rfl
   by_cases h:l.P.length>120\/l.S.length>60\/l.U.length>60\/l.L.length>20\/l.O.length>20\/l.I.length>20\/l.A.length>20
   ·rw[z12 (by simp only[AllP,y3l,y23,y1a]; omega),obind,y4 (by simp only[yc,y5]; omega),y4 (by rcases h with h | h | h | h | h | h | h <;> simp[limB,h])]
   ·rw[zm (by simp only[AllP,y3l,y23,y1a]; omega),hcf,obind]
    by_cases ha:(l.A.any fun a=>decide (a.M.length>20))=true
    ·rw[y4 (by rw[ha,y4p]),y4 (show limB l from .inr (.inr (.inr (.inr (.inr (.inr (.inr ha)))))))]
    ·rw[y3 (by rw[yq.2 ha]; simp only[yc,y5,Bool.or_false]; omega),y3 (show ¬ limB l from fun hb=>by
      rcases hb with hb | hb | hb | hb | hb | hb | hb | hb
      ·exact h (.inl hb)
      ·exact h (.inr (.inl hb))
      ·exact h (.inr (.inr (.inl hb)))
      ·exact h (.inr (.inr (.inr (.inl hb))))
      ·exact h (.inr (.inr (.inr (.inr (.inl hb)))))
      ·exact h (.inr (.inr (.inr (.inr (.inr (.inl hb))))))
      ·exact h (.inr (.inr (.inr (.inr (.inr (.inr hb))))))
      ·exact ha hb)]
  ·rw[y4 (by simp[p2]),y3 p2]
theorem z7l (hs:SmL l):F_q2i l=some (errL l):=by
 simp only[F_q2i,S_q2i,Scr.den,ziz hs,obind]
 unfold errL
 by_cases p1:yrB l
 ·simp only[y4 p1]; rfl
 ·simp only[y3 p1]
  have q1:¬ (l.G<0\/l.G>99\/l.J<1\/l.J>4\/l.G+l.J>100):=p1
  have hy:1<=l.J:=om
  by_cases p2:treeE l.E=0
  ·simp only[y4 p2]
   by_cases p3:limB l
   ·simp only[y4 p3]; rfl
   ·simp only[y3 p3]
    rw[y3 sj]
    simp only[z7h hs.t hs.tl,obind]
    rw[show (⟨(⟨l,[]⟩:TChe).law,leavesU l.E []⟩:TChe)=ck l from rfl]
    simp only[eachL hy hs.ll,eachB p2 hy hs.cl,eachB p2 hy hs.fll,eachE p2 hs.el,zhb hs.ea,eachC hy hs.col,eachR hs.rl,zc2 p2 hy (fun x hx=>(hs.am x hx).1) hs.al,zlo,obind]
  ·simp only[y3 p2]
   rw[y4 (by simpa using p2)]
end Go.Proofs.YtljnmhapbonmfaaGreatDoor
/- Places in order. (Turned out of the plain law of chapter 13.) No condition. -/
namespace Go.Proofs.YtljnmhapbonmfaaGreatDoor
open Go Go.TA
open Go.IntKind (i64)
def cmpP (a b:TPl):Int:=if cmpC a.code b.code≠0 then cmpC a.code b.code else cmpI a.year b.year
variable {a b:TPl}
theorem zfn (ha:a.code.length<=1000000) (hb:b.code.length<=1000000):F_q2u a b=some (cmpP a b):=by
 simp only[F_q2u,S_q2u,Scr.den,z6k ha hb,z3n,z5c,obind,z20,z30,cmpP]
 by_cases h:cmpC a.code b.code=0 <;> by_cases h2:cmpI a.year b.year=0 <;> simp[h,h2]
def isP (c:Y8) (y:Int) (p:TPl):Bool:=p.code==c&&p.year==y
variable {c:Y8} {y:Int}
theorem zam {p:TPl}:isP c y p=true↔p.code=c/\p.year=y:=by simp[isP]
def hasP (l:List TPl) (c:Y8) (y:Int):Bool:=l.any (isP c y)
def pix (l:List TPl) (c:Y8) (y:Int):Nat:=l.findIdx (isP c y)
variable {l:List TPl}
theorem zd8 (h:hasP l c y=true):pix l c y<l.length/\(l.getD (pix l c y) dF).code=c/\(l.getD (pix l c y) dF).year=y:=by
 have h1:pix l c y<l.length:=y44.2 (by simpa [hasP,List.any_eq_true] using h)
 have h2:=y5a (xs:=l) (p:=isP c y) (w:=h1)
 refine⟨h1,?_⟩
 rw[show l.getD (pix l c y) dF=l[pix l c y] by simp[List.getD_eq_getElem?_getD,List.getElem?_eq_getElem h1]]
 exact zam.1 h2
def PGood (p:TPl):Prop:=good p.code=true/\True
theorem zef:hasP l c y=true↔∃ x∈l,x.code=c/\x.year=y:=by
 unfold hasP
 rw[y1m]
 exact⟨fun⟨x,h1,h2⟩=>⟨x,h1,zam.1 h2⟩,fun⟨x,h1,h2⟩=>⟨x,h1,zam.2 h2⟩⟩
def Srt (l:List TPl):Prop:=∀ i,i<l.length->i=0\/cmpP (l.getD (i-1) dF) (l.getD i dF)<0
theorem z47 (h:good a.code=true\/good b.code=true):cmpP a b<0↔lexC (parts a.code) (parts b.code)<0\/(lexC (parts a.code) (parts b.code)=0/\a.year<b.year):=by
 unfold cmpP
 rw[z3o h]
 generalize lexC (parts a.code) (parts b.code)=c
 by_cases hc:c=0
 ·rw[y3 (by simpa using hc)]
  unfold cmpI
  by_cases h1:a.year<b.year
  ·rw[y4 h1]; simp[hc,h1]
  ·rw[y3 h1]
   split <;> simp[hc,h1]
 ·rw[y4 hc]; simp[hc]
theorem z50 (ha:good a.code=true) (hb:good b.code=true):cmpP a b=0↔a.code=b.code/\a.year=b.year:=by
 unfold cmpP
 rw[z3o (.inl ha)]
 by_cases hc:lexC (parts a.code) (parts b.code)=0
 ·rw[y3 (by simpa using hc)]
  have e:=z5n ha hb (z3m hc)
  unfold cmpI
  by_cases h1:a.year<b.year
  ·rw[y4 h1]; simp; omega
  ·rw[y3 h1]
   by_cases h2:a.year>b.year
   ·rw[y4 h2]; simp; omega
   ·rw[y3 h2]; simp[e]; omega
 ·rw[y4 hc]
  constructor
  ·intro h; exact absurd h hc
  ·rintro⟨h1,_⟩
   exact absurd (by rw[h1]; exact z2p _) hc
theorem z9u {c:TPl} (ha:good a.code=true) (hb:good b.code=true) (h:cmpP a b<0) (h':cmpP b c<0):cmpP a c<0:=by
 rw[z47 (.inl ha)] at h |-
 rw[z47 (.inl hb)] at h'
 rcases h with h | ⟨h,h2⟩
 ·rcases h' with h' | ⟨h',_⟩
  ·exact .inl (z6j h h')
  ·rw[<- z3m h']; exact .inl h
 ·rcases h' with h' | ⟨h',h3⟩
  ·rw[z3m h]; exact .inl h'
  ·rw[z3m h]; exact .inr ⟨h',om⟩
theorem zhc (ha:good a.code=true):cmpP b a=-cmpP a b:=by
 unfold cmpP
 rw[z3o (.inl ha),z3o (.inr ha),z7g (parts a.code) (parts b.code)]
 by_cases h:lexC (parts a.code) (parts b.code)=0
 ·rw[y3 om,y3 om]
  unfold cmpI
  by_cases h1:a.year<b.year
  ·rw[y3 om,y4 om,y4 h1]; rfl
  ·by_cases h2:b.year<a.year
   ·rw[y4 h2,y3 h1,y4 om]
   ·rw[y3 h2,y3 om,y3 h1,y3 om]; rfl
 ·rw[y4 om,y4 h]
theorem Srt.lt (h:Srt l) (hg:∀ r∈l,PGood r):∀ {i j:Nat},i<j->j<l.length->cmpP (l.getD i dF) (l.getD j dF)<0:=by
 intro i j hij
 induction j with
 | zero=>omega
 | succ j ih =>
  intro hj
  have h1:=(h (j+1) hj).resolve_left om
  rw[show j+1-1=j from om] at h1
  by_cases e:i=j
  ·subst e; exact h1
  ·exact z9u (hg _ (z4 om)).1 (hg _ (z4 om)).1 (ih om om) h1
def posP (l:List TPl) (r:TPl):Nat:=l.findIdx (fun x=>decide (0<=cmpP x r))
variable {i:Nat}
theorem za {α:Type} [Inhabited α] {l:List α} (hi:i<l.length):l.getD i dF=l[i]:=by simp[List.getD_eq_getElem?_getD,List.getElem?_eq_getElem hi]
theorem z51 (l:List TPl) (r:TPl):posP l r<=l.length:=List.findIdx_le_length
variable {r:TPl}
theorem zan (hi:i<posP l r):cmpP (l.getD i dF) r<0:=by
 have hl:i<l.length:=y17 hi (z51 l r)
 have:=List.not_of_lt_findIdx hi
 rw[za hl]
 simpa using this
theorem zeg (hi:posP l r<l.length):0<=cmpP (l.getD (posP l r) dF) r:=by
 have:=y5a (xs:=l) (p:=fun x=>decide (0<=cmpP x r)) (w:=hi)
 rw[za hi]
 exact y3a this
theorem zeh (hS:Srt l) (hg:∀ x∈l,PGood x) (hi:i<l.length) (hp:posP l r<=i):0<=cmpP (l.getD i dF) r:=by
 have h0:=zeg (l:=l) (r:=r) om
 by_cases e:posP l r=i
 ·rwa [e] at h0
 ·have h1:=hS.lt hg (show posP l r<i from om) hi
  by_cases h:cmpP (l.getD i dF) r<0
  ·have:=z9u (hg _ (z4 om)).1 (hg _ (z4 hi)).1 h1 h
   omega
  ·omega
theorem zkg {j:Nat} (h:i+j<4611686018427387904):i64.wrap ((IntKind.u64.wrap (i64.wrap ((i:Int)+(j:Int)))).fdiv (2 ^ (min (1:Int).toNat IntKind.u64.bits)))=(((i+j) / 2:Nat):Int):=by
 rw[wrapId (n:=(i:Int)+(j:Int)) om om]
 have e:IntKind.u64.wrap ((i:Int)+(j:Int))=(i:Int)+(j:Int):=by
  simp only[IntKind.wrap,IntKind.bits,IntKind.signed]
  simp
  omega
 rw[e]
 have e2:(2:Int) ^ (min (1:Int).toNat IntKind.u64.bits)=2:=dk
 rw[e2,Int.fdiv_eq_ediv_of_nonneg _ om,wrapId om om]
 omega
theorem PGood.len (h:PGood r):r.code.length<=1000000:=by have:=z3c h.1; omega
theorem zj0 (hg:∀ x∈l,PGood x) (k:Nat):(l.getD k dF).code.length<=1000000:=by
 by_cases h:k<l.length
 ·exact (hg _ (z4 h)).len
 ·rw[List.getD_eq_getElem?_getD,y8 om]; exact y43 _
theorem z9v (hl:l.length<=1000000) (hS:Srt l) (hg:∀ x∈l,PGood x) (hr:PGood r) :
  F_q12 r l=some ((posP l r:Int),decide (posP l r<l.length)&&(cmpP (l.getD (posP l r) dF) r==0)):=by
 have hc:∀ k,F_q2u (l.getD k dF) r=some (cmpP (l.getD k dF) r):=fun k=>zfn (zj0 hg k) hr.len
 have hp:=z51 l r
 simp only[F_q12,S_q12,Scr.den]
 obtain⟨s,e,hJ⟩:=z1b (step:=fun s=>(S_q12_b1 r l s).den) (fun s=>(s.2-s.1).toNat) (fun s=>∃ i j:Nat,s=((i:Int),(j:Int))/\i<=posP l r/\posP l r<=j/\j<=l.length) (fun s=>s.1=(posP l r:Int)) (fun s hI=>by
  obtain⟨i,j,rfl,h1,h2,h3⟩:=hI
  simp only[S_q12_b1,Scr.den,zkg (show i+j<4611686018427387904 from om),hc,obind,yf]
  by_cases hij:i<j
  ·left
   rw[y4 (by simpa using hij),Gc,y1l]
   by_cases hlt:cmpP (l.getD ((i+j) / 2) dF) r<0
   ·rw[y4 (by simpa using hlt),wrapId om om]
    have:(i+j) / 2<posP l r:=by
     by_cases h:(i+j) / 2<posP l r
     ·exact h
     ·have:=zeh (r:=r) hS hg (show (i+j) / 2<l.length from om) om
      omega
    exact⟨_,rfl,⟨(i+j) / 2+1,j,sj,om,h2,h3⟩,by simp only; omega⟩
   ·rw[y3 (by simpa using hlt)]
    have:posP l r<=(i+j) / 2:=by
     by_cases h:posP l r<=(i+j) / 2
     ·exact h
     ·have:=zan (show (i+j) / 2<posP l r from om)
      omega
    exact⟨_,rfl,⟨i,(i+j) / 2,rfl,h1,this,om⟩,by simp only; omega⟩
  ·right
   rw[y3 (by simpa using hij)]
   exact⟨_,rfl,by simp only; omega⟩) _ (0,(l.length:Int)) (y2v _) ⟨0,l.length,rfl,om,hp,om⟩
 rw[e]
 simp only[outM,hJ,yf,hc,z6,y1l]
 by_cases h:posP l r<l.length
 ·rw[zm (by exact⟨sk,trivial⟩),obind,z3 ⟨fun _=>om,fun _=>h,fun _=>h,trivial⟩]
  simp[h]
 ·rw[z12 (by simp[AllP]; omega),obind,z3 ⟨fun _=>om,fun h'=>absurd h (by simp[AllP] at h'; omega),fun h'=>absurd h (by simp[AllP] at h'; omega),trivial⟩]
  simp[h]
theorem z84 (hS:Srt l) (hg:∀ x∈l,PGood x) (hr:PGood r) :
  (decide (posP l r<l.length)&&(cmpP (l.getD (posP l r) dF) r==0))=hasP l r.code r.year/\(hasP l r.code r.year=true->pix l r.code r.year=posP l r):=by
 have key:hasP l r.code r.year=true->pix l r.code r.year=posP l r:=fun h=>by
  obtain⟨h1,h2,h3⟩:=zd8 h
  have h4:=hg _ (z4 h1)
  have h5:cmpP (l.getD (pix l r.code r.year) dF) r=0:=(z50 h4.1 hr.1).2 ⟨h2,h3⟩
  rcases Nat.lt_trichotomy (pix l r.code r.year) (posP l r) with h | h | h
  ·have:=zan h; omega
  ·exact h
  ·have h6:=hS.lt hg h h1
   have h7:=zeg (l:=l) (r:=r) om
   have h8:=hg _ (z4 (show posP l r<l.length from om))
   have:cmpP (l.getD (posP l r) dF) r<0:=by
    rw[z47 (.inl h8.1)] at h6 |-
    rw[h2,h3] at h6
    exact h6
   omega
 refine⟨?_,key⟩
 rw[y1n]
 simp only[y6,y5,ym]
 constructor
 ·rintro⟨h1,h2⟩
  obtain⟨h3,h4⟩:=(z50 (hg _ (z4 h1)).1 hr.1).1 h2
  exact zef.2 ⟨_,z4 h1,h3,h4⟩
 ·intro h
  obtain⟨h1,h2,h3⟩:=zd8 h
  rw[key h] at h1 h2 h3
  exact⟨h1,(z50 (hg _ (z4 h1)).1 hr.1).2 ⟨h2,h3⟩⟩
end Go.Proofs.YtljnmhapbonmfaaGreatDoor
/- Rows in order: an element set,put in or taken out. No condition. -/
namespace Go.Proofs.YtljnmhapbonmfaaGreatDoor
open Go Go.TA
open Go.IntKind (i64)
attribute [-simp] List.getD_eq_getElem?_getD
def PW (l:List TPl):Prop:=l.Pairwise fun a b=>cmpP a b<0
theorem zhd {l:List TPl} (h:PW l):Srt l:=fun i hi=>by
 by_cases h0:i=0
 ·exact .inl h0
 ·right
  have:=y1u.1 h (i-1) i om hi om
  rw[za hi,za (show i-1<l.length from om)]
  exact this
theorem zhe {l:List TPl} (hg:∀ x∈l,PGood x) (h:Srt l):PW l:=y1u.2 fun i j hi hj hij=>by
 have:=h.lt hg hij hj
 rwa [za hi,za hj] at this
theorem zei {α:Type} [Inhabited α] (l:List α) (k:Nat) (hk:k<l.length) (z:α) :
  (clearL (copyL l (k-0) (l.length-(k+1)) (fun i=>l.getD ((0+(k+1))+i) dF)) (0+((k-0)+(l.length-(k+1)))) (l.length-((k-0)+(l.length-(k+1)))) z).take ((k-0)+(l.length-(k+1)))=l.eraseIdx k:=by
 refine List.ext_getElem ?_ fun i h1 h2=>?_
 ·rw[y13,z1i,zx,List.length_eraseIdx_of_lt hk]; omega
 ·have hi:i<l.length-1:=by rw[List.length_eraseIdx_of_lt hk] at h2; exact h2
  rw[y5o,List.getElem_eraseIdx]
  simp only[clearL,List.getElem_mapIdx]
  rw[y3 om]
  simp only[copyL,y3w,List.getElem_range]
  by_cases h:i<k
  ·rw[y3 om,y3z h,za om]
  ·rw[y4 om,dif_neg h,za om]
   congr 1; omega
section
variable {α:Type} (pl:α->TPl)
def putG (l:List α) (x:α) (rm:Bool):List α :=
 if hasP (l.map pl) (pl x).code (pl x).year=true then (if rm=true then l.eraseIdx (posP (l.map pl) (pl x)) else l.set (posP (l.map pl) (pl x)) x)
 else (if rm=true then l else insL l (posP (l.map pl) (pl x)) x)
structure OrdG (l:List α):Prop where
 pw:PW (l.map pl)
 good:∀ x∈l,good (pl x).code=true
variable {pl}
theorem OrdG.gd {l:List α} (h:OrdG pl l):∀ x∈l.map pl,PGood x:=fun x hx=>by
 obtain⟨y,hy,rfl⟩:=yv.1 hx
 exact⟨h.good y hy,trivial⟩
theorem OrdG.srt {l:List α} (h:OrdG pl l):Srt (l.map pl):=zhd h.pw
theorem z9w [Inhabited α] {l:List α} (h:OrdG pl l) {x:α} (hx:good (pl x).code=true) (hh:hasP (l.map pl) (pl x).code (pl x).year=true) :
  posP (l.map pl) (pl x)<l.length/\(l.map pl).getD (posP (l.map pl) (pl x)) dF=pl x:=by
 obtain⟨h1,h2⟩:=z84 h.srt h.gd (r:=pl x) ⟨hx,trivial⟩
 obtain⟨k1,k2,k3⟩:=zd8 hh
 rw[h2 hh] at k1 k2 k3
 refine⟨by simpa using k1,?_⟩
 generalize (l.map pl).getD (posP (l.map pl) (pl x)) dF=p at k2 k3
 cases p
 cases hq:pl x
 rw[hq] at k2 k3
 simp only at k2 k3
 rw[k2,k3]
theorem z8y (l:List α) (x:α) (rm:Bool):(putG pl l x rm).length<=l.length+1:=by
 unfold putG
 split <;> split
 ·exact y2j (List.length_eraseIdx_le _ _)
 ·simp
 ·omega
 ·rw[z1u]; exact y7 _
theorem zd9 {l:List α} {x y:α} {rm:Bool} (h:y∈putG pl l x rm):y=x\/y∈l:=by
 unfold putG at h
 split at h <;> split at h
 ·exact .inr (List.mem_of_mem_eraseIdx h)
 ·rcases List.mem_or_eq_of_mem_set h with h | h
  ·exact .inr h
  ·exact .inl h
 ·exact .inr h
 ·unfold insL at h
  rcases y12.1 h with h | h
  ·exact .inr (y1h h)
  ·rcases yn.1 h with h | h
   ·exact .inl h
   ·exact .inr (y38 h)
theorem zda [Inhabited α] {l:List α} (h:OrdG pl l) {x:α} (hx:good (pl x).code=true) (rm:Bool):OrdG pl (putG pl l x rm):=by
 refine⟨?_,fun y hy=>?_⟩
 ·unfold putG
  split
  ·rename_i hh
   obtain⟨h1,h2⟩:=z9w h hx hh
   split
   ·rw[z55]
    exact y49 (List.eraseIdx_sublist _ _) h.pw
   ·rw[List.map_set]
    have:(l.map pl).set (posP (l.map pl) (pl x)) (pl x)=l.map pl:=by
     refine List.ext_getElem sj fun i a b=>?_
     rw[List.getElem_set]
     split
     ·rename_i e
      rw[<- h2,za (by simpa using h1)]
      simp only[e]
     ·rfl
    rw[this]; exact h.pw
  ·rename_i hh
   split
   ·exact h.pw
   ·have hm:(insL l (posP (l.map pl) (pl x)) x).map pl=(l.map pl).take (posP (l.map pl) (pl x))++pl x :: (l.map pl).drop (posP (l.map pl) (pl x)):=by
     unfold insL; rw[y30,y2c,y5k,List.map_drop]
    rw[hm]
    have hle:=z51 (l.map pl) (pl x)
    have hno:∀ q∈l.map pl,cmpP q (pl x)≠0:=fun q hq e=>by
     obtain⟨e1,e2⟩:=(z50 (h.gd q hq).1 hx).1 e
     exact hh (zef.2 ⟨q,hq,e1,e2⟩)
    refine y2a.2 ⟨y49 (List.take_sublist _ _) h.pw,y2n.2 ⟨fun q hq=>?_,y49 (List.drop_sublist _ _) h.pw⟩,fun a ha b hb=>?_⟩
    ·obtain⟨i,hi,e⟩:=List.mem_iff_getElem.1 hq
     rw[List.getElem_drop] at e
     have hi':posP (l.map pl) (pl x)+i<(l.map pl).length:=by simp only[y1p] at hi; omega
     have h1:=zeh (r:=pl x) h.srt h.gd hi' om
     have h2:=hno q (y38 hq)
     have h3:=zhc (a:=pl x) (b:=q) hx
     rw[za hi',e] at h1
     omega
    ·obtain⟨i,hi,e⟩:=List.mem_iff_getElem.1 ha
     rw[y5o] at e
     have hi':i<posP (l.map pl) (pl x):=by simp only[y13] at hi; omega
     have h1:=zan (r:=pl x) hi'
     rw[za om,e] at h1
     rcases yn.1 hb with rfl | hb
     ·exact h1
     ·have:PW (l.map pl):=h.pw
      unfold PW at this
      rw[<- y2e (posP (l.map pl) (pl x)) (l.map pl)] at this
      exact (y2a.1 this).2.2 a ha b hb
 ·rcases zd9 hy with rfl | hy
  ·exact hx
  ·exact h.good y hy
end
def plL (x:TLi):TPl:=⟨x.B,x.D⟩
def plB (x:TBo):TPl:=⟨x.B,x.D⟩
theorem cloneLine {l:List TLi} (hl:l.length<=1000000):F_q3w l=some l:=by
 simp only[F_q3w,S_q3w,Scr.den]
 rw[Ga]
theorem deleteLine {l:List TLi} (hl:l.length<=1000000) {k:Nat} (hk:k<l.length):F_q3x (k:Int) ((k+1:Nat):Int) l=some (l.eraseIdx k):=by
 simp only[F_q3x,S_q3x,Scr.den,yf]
 rw[z3 ⟨om,om,om,om,trivial⟩,y3 (by simp only[ym]; omega),Gb,
  z3 ⟨om,by rw[zx]; exact y7 _,trivial⟩,z3 ⟨by rw[z1i,zx]; omega,trivial⟩,z3 ⟨by rw[z1i,zx]; omega,trivial⟩]
 rw[zei l k hk]
theorem putLine {l:List TLi} (hl:l.length<=100000) (h:OrdG plL l) {x:TLi} (hx:good x.B=true) (rm:Bool):F_q1z l x rm=some (putG plL l x rm):=by
 simp only[F_q1z,S_q1z,Scr.den]
 rw[z1j l (fun _=>true) plL 1000000 om fun i s hi hs=>by
  simp only[S_q1z_b1,Scr.den,F_q2t,S_q2t,obind]
  rw[Ga,y4 trivial]; rfl]
 rw[y3x.2 (fun _ _=>rfl)]
 simp only[outM,F_q2t,S_q2t,Scr.den,obind]
 rw[show (⟨x.B,x.D⟩:TPl)=plL x from rfl]
 have hgx:PGood (plL x):=⟨hx,trivial⟩
 have hml:(l.map plL).length<=1000000:=sk
 rw[z9v hml h.srt h.gd hgx,(z84 h.srt h.gd hgx).1,obind,cloneLine om,obind]
 have hp:=z51 (l.map plL) (plL x)
 simp only[y1g] at hp
 simp only[z6,yf,y1l]
 unfold putG
 by_cases hh:hasP (l.map plL) (plL x).code (plL x).year=true
 ·obtain⟨k1,k2⟩:=z9w h hx hh
  cases rm with
  | true =>
   rw[y4 (by simp[hh]),y4 hh,y4 rfl,wrapId om om,show ((posP (l.map plL) (plL x):Int)+1)=((posP (l.map plL) (plL x)+1:Nat):Int) from om,deleteLine om k1,obind]
  | false =>
   rw[y3 sj,y3 sj,y4 hh,y4 hh,y3 sj,z3 ⟨om,k1,k1,trivial⟩,z3 ⟨by rw[y41]; omega,trivial⟩]
 ·cases rm with
  | true =>
   rw[y3 (by simp[hh]),y4 rfl,y3 hh,y4 rfl,Ga]
  | false =>
   rw[y3 sj,y3 sj,y3 hh,y3 hh,y3 sj]
   simp only[F_q4q,yf]
   rw[z3 ⟨om,hp,om⟩,obind,z3 ⟨by rw[z1u]; omega,trivial⟩]
theorem cloneBound {l:List TBo} (hl:l.length<=1000000):F_q3y l=some l:=by
 simp only[F_q3y,S_q3y,Scr.den]
 rw[Ga]
theorem deleteBound {l:List TBo} (hl:l.length<=1000000) {k:Nat} (hk:k<l.length):F_q3z (k:Int) ((k+1:Nat):Int) l=some (l.eraseIdx k):=by
 simp only[F_q3z,S_q3z,Scr.den,yf]
 rw[z3 ⟨om,om,om,om,trivial⟩,y3 (by simp only[ym]; omega),Gb,
  z3 ⟨om,by rw[zx]; exact y7 _,trivial⟩,z3 ⟨by rw[z1i,zx]; omega,trivial⟩,z3 ⟨by rw[z1i,zx]; omega,trivial⟩]
 rw[zei l k hk]
theorem putBound {l:List TBo} (hl:l.length<=100000) (h:OrdG plB l) {x:TBo} (hx:good x.B=true) (rm:Bool):F_q1f l x rm=some (putG plB l x rm):=by
 simp only[F_q1f,S_q1f,Scr.den]
 rw[z1j l (fun _=>true) plB 1000000 om fun i s hi hs=>by
  simp only[S_q1f_b1,Scr.den,F_q2v,S_q2v,obind]
  rw[Ga,y4 trivial]; rfl]
 rw[y3x.2 (fun _ _=>rfl)]
 simp only[outM,F_q2v,S_q2v,Scr.den,obind]
 rw[show (⟨x.B,x.D⟩:TPl)=plB x from rfl]
 have hgx:PGood (plB x):=⟨hx,trivial⟩
 have hml:(l.map plB).length<=1000000:=sk
 rw[z9v hml h.srt h.gd hgx,(z84 h.srt h.gd hgx).1,obind,cloneBound om,obind]
 have hp:=z51 (l.map plB) (plB x)
 simp only[y1g] at hp
 simp only[z6,yf,y1l]
 unfold putG
 by_cases hh:hasP (l.map plB) (plB x).code (plB x).year=true
 ·obtain⟨k1,k2⟩:=z9w h hx hh
  cases rm with
  | true =>
   rw[y4 (by simp[hh]),y4 hh,y4 rfl,wrapId om om,show ((posP (l.map plB) (plB x):Int)+1)=((posP (l.map plB) (plB x)+1:Nat):Int) from om,deleteBound om k1,obind]
  | false =>
   rw[y3 sj,y3 sj,y4 hh,y4 hh,y3 sj,z3 ⟨om,k1,k1,trivial⟩,z3 ⟨by rw[y41]; omega,trivial⟩]
 ·cases rm with
  | true =>
   rw[y3 (by simp[hh]),y4 rfl,y3 hh,y4 rfl,Ga]
  | false =>
   rw[y3 sj,y3 sj,y3 hh,y3 hh,y3 sj]
   simp only[F_q4r,yf]
   rw[z3 ⟨om,hp,om⟩,obind,z3 ⟨by rw[z1u]; omega,trivial⟩]
end Go.Proofs.YtljnmhapbonmfaaGreatDoor
/- A law that is valid; changes carried out; the law in force. No condition. -/
namespace Go.Proofs.YtljnmhapbonmfaaGreatDoor
open Go Go.TA
open Go.IntKind (i64)
attribute [-simp] List.getD_eq_getElem?_getD
theorem z7m {α:Type} [Inhabited α] {pl:α->TPl} {l:List α} {x y:α} {rm:Bool} (h:y∈putG pl l x rm):(y=x/\rm=false)\/y∈l:=by
 cases rm with
 | false=>exact (zd9 h).imp (fun e=>⟨e,rfl⟩) id
 | true =>
  right
  unfold putG at h
  split at h
  ·rw[y4 rfl] at h; exact List.mem_of_mem_eraseIdx h
  ·rw[y4 rfl] at h; exact h
theorem zdb {a b:TPl} (h:good a.code=true\/good b.code=true):cmpP a b<0↔ltC a.code a.year b.code b.year=true:=by
 rw[z47 h]; unfold ltC; simp
section
variable {α:Type} [Inhabited α] {pl:α->TPl}
theorem z6m {l:List α} {i:Nat} (hi:i<l.length):(l.map pl).getD i dF=pl (l.getD i dF):=by
 rw[za (by simpa using hi),za hi,y3w]
theorem zej {one:α->Int} (hg:∀ x,one x=0->good (pl x).code=true) {l:List α} :
  fstE l.length (chE (fun i=>one (l.getD i dF)) fun i=>ltC (pl (l.getD (i-1) dF)).code (pl (l.getD (i-1) dF)).year (pl (l.getD i dF)).code (pl (l.getD i dF)).year)=0 ↔
   OrdG pl l/\∀ x∈l,one x=0:=by
 rw[z10]
 constructor
 ·intro h
  have h1:∀ x∈l,one x=0:=fun x hx=>by
   obtain⟨i,hi,rfl⟩:=z2o hx
   exact z3p (h i hi)
  refine⟨⟨zhe (fun q hq=>?_) fun i hi=>?_,fun x hx=>hg x (h1 x hx)⟩,h1⟩
  ·obtain⟨x,hx,rfl⟩:=yv.1 hq
   exact⟨hg x (h1 x hx),trivial⟩
  ·have hi':i<l.length:=by simpa using hi
   by_cases h0:i=0
   ·exact .inl h0
   ·right
    rw[z6m hi',z6m (show i-1<l.length from om),zdb (.inr (hg _ (h1 _ (z4 hi'))))]
    exact (z3d.1 (h i hi')).2 om
 ·rintro⟨ho,h1⟩ i hi
  refine z3d.2 ⟨h1 _ (z4 hi),fun h0=>?_⟩
  have:=(ho.srt i (by simpa using hi)).resolve_left om
  rwa [z6m hi,z6m (show i-1<l.length from om),zdb (.inr (hg _ (h1 _ (z4 hi))))] at this
end
variable {t:List THe} {f y:Int}
theorem ordL {l:List TLi}:fstE l.length (lineE t f y l)=0↔OrdG plL l/\∀ x∈l,z1d t f y x=0 :=
 zej (pl:=plL) (one:=z1d t f y) fun _ h=>lineG h
theorem ordBd (ht:treeE t=0) {l:List TBo}:fstE l.length (boundE t f y l)=0↔OrdG plB l/\∀ x∈l,zr t f y x=0 :=
 zej (pl:=plB) (one:=zr t f y) fun _ h=>boundG ht h
structure RestOk (l:TLa):Prop where
 yr:¬ yrB l
 tr:treeE l.E=0
 li:¬ (l.L.length>20\/l.O.length>20\/l.I.length>20\/l.A.length>20\/l.A.any (fun a=>decide (a.M.length>20))=true)
 ea:fstE l.L.length (earE l.E l.L)=0
 sh:shareE l.E l.L=0
 co:fstE l.O.length (fun i=>z1l l.E l.G l.J (l.O.getD i dF))=0
 ru:fstE l.I.length (ruleE l.E l.I)=0
 am:fstE l.A.length (amdE l.E l.G l.J l.A)=0
structure RowsOk (l:TLa):Prop where
 lo:OrdG plL l.P
 l1:∀ x∈l.P,z1d l.E l.G l.J x=0
 co:OrdG plB l.S
 c1:∀ x∈l.S,zr l.E l.G l.J x=0
 fo:OrdG plB l.U
 f1:∀ x∈l.U,zr l.E l.G l.J x=0
def bigL (l:TLa):Prop:=l.P.length>120\/l.S.length>60\/l.U.length>60
instance (l:TLa):Decidable (bigL l):=inferInstanceAs (Decidable (_\/_))
variable {l:TLa}
theorem z1s:errL l=0↔RestOk l/\RowsOk l/\¬ bigL l:=by
 unfold errL
 by_cases p1:yrB l
 ·rw[y4 p1]; exact⟨fun h=>absurd h dk,fun h=>absurd p1 h.1.yr⟩
 rw[y3 p1]
 by_cases p2:treeE l.E=0
 ·rw[y4 p2]
  by_cases p3:limB l
  ·rw[y4 p3]
   refine⟨fun h=>absurd h dk,fun⟨h1,_,h3⟩=>?_⟩
   have h4:=h1.li
   unfold bigL at h3
   rcases p3 with p | p | p | p | p | p | p | p
   ·exact absurd (.inl p) h3
   ·exact absurd (.inr (.inl p)) h3
   ·exact absurd (.inr (.inr p)) h3
   ·exact absurd (.inl p) h4
   ·exact absurd (.inr (.inl p)) h4
   ·exact absurd (.inr (.inr (.inl p))) h4
   ·exact absurd (.inr (.inr (.inr (.inl p)))) h4
   ·exact absurd (.inr (.inr (.inr (.inr p)))) h4
  ·rw[y3 p3]
   have hz:∀ (a b c d e f g h:Int),orE [a,b,c,d,e,f,g,h]=0↔a=0/\b=0/\c=0/\d=0/\e=0/\f=0/\g=0/\h=0:=fun a b c d e f g h=>by
    simp only[z20,z30]
    constructor
    ·intro hh
     by_cases ha:a=0 <;> by_cases hb:b=0 <;> by_cases hc:c=0 <;> by_cases hd:d=0 <;> by_cases he:e=0 <;> by_cases hf:f=0 <;> by_cases hg:g=0 <;> by_cases hi:h=0 <;> simp_all
    ·rintro⟨rfl,rfl,rfl,rfl,rfl,rfl,rfl,rfl⟩; rfl
   rw[hz,ordL,ordBd p2,ordBd p2]
   constructor
   ·rintro⟨⟨a1,a2⟩,⟨b1,b2⟩,⟨c1,c2⟩,d,e,f,g,h⟩
    refine⟨⟨p1,p2,fun hb=>p3 ?_,d,e,f,g,h⟩,⟨a1,a2,b1,b2,c1,c2⟩,fun hb=>p3 ?_⟩
    ·exact .inr (.inr (.inr hb))
    ·rcases hb with hb | hb | hb
     ·exact .inl hb
     ·exact .inr (.inl hb)
     ·exact .inr (.inr (.inl hb))
   ·rintro⟨h1,h2,_⟩
    exact⟨⟨h2.lo,h2.l1⟩,⟨h2.co,h2.c1⟩,⟨h2.fo,h2.f1⟩,h1.ea,h1.sh,h1.co,h1.ru,h1.am⟩
 ·rw[y3 p2]; exact⟨fun h=>absurd h p2,fun h=>absurd h.1.tr p2⟩
def setS (x:TCh) (l:TLa):TLa :=
 if x.N=1 then { l with P:=putG plL l.P ⟨x.B,x.D,x.C⟩ (x.C==0) }
 else if x.N=2 then { l with S:=putG plB l.S ⟨x.B,x.D,x.C⟩ (x.C==-1) }
 else if x.N=3 then { l with U:=putG plB l.U ⟨x.B,x.D,x.C⟩ (x.C==0) }
 else l
structure WL (n:Nat) (l:TLa):Prop where
 lo:OrdG plL l.P
 ll:l.P.length<=n
 co:OrdG plB l.S
 cl:l.S.length<=n
 fo:OrdG plB l.U
 fl:l.U.length<=n
theorem putLo {l:List TLi} (h:OrdG plL l) {x:TLi} (hx:good x.B=true) (rm:Bool):OrdG plL (putG plL l x rm):=zda h hx rm
theorem putBo {l:List TBo} (h:OrdG plB l) {x:TBo} (hx:good x.B=true) (rm:Bool):OrdG plB (putG plB l x rm):=zda h hx rm
variable {x:TCh} {n:Nat}
theorem zkh (h:WL n l) (hx:good x.B=true):WL (n+1) (setS x l):=by
 unfold setS
 have g1:=h.ll; have g2:=h.cl; have g3:=h.fl
 split
 ·exact⟨putLo h.lo hx _,y27 (z8y _ _ _) (Nat.succ_le_succ g1),h.co,y2j g2,h.fo,y2j g3⟩
 ·split
  ·exact⟨h.lo,y2j g1,putBo h.co hx _,y27 (z8y _ _ _) (Nat.succ_le_succ g2),h.fo,y2j g3⟩
  ·split
   ·exact⟨h.lo,y2j g1,h.co,y2j g2,putBo h.fo hx _,y27 (z8y _ _ _) (Nat.succ_le_succ g3)⟩
   ·exact⟨h.lo,y2j g1,h.co,y2j g2,h.fo,y2j g3⟩
theorem zlq (hn:n<=100000) (h:WL n l) (hx:good x.B=true):F_q40 x l=some (setS x l):=by
 have g1:=h.ll; have g2:=h.cl; have g3:=h.fl
 simp only[F_q40,S_q40,Scr.den]
 unfold setS
 by_cases k1:x.N=1
 ·rw[y4 (by simpa using k1),y4 k1,putLine om h.lo hx,obind]
 ·rw[y3 (by simpa using k1),y3 k1]
  by_cases k2:x.N=2
  ·rw[y4 (by simpa using k2),y4 k2,putBound om h.co hx,obind]
  ·rw[y3 (by simpa using k2),y3 k2]
   by_cases k3:x.N=3
   ·rw[y4 (by simpa using k3),y4 k3,putBound om h.fo hx,obind]
   ·rw[y3 (by simpa using k3),y3 k3]
theorem zbr (x:TCh) (l:TLa):(setS x l).G=l.G/\(setS x l).J=l.J/\(setS x l).E=l.E/\(setS x l).L=l.L/\(setS x l).O=l.O /\
  (setS x l).I=l.I/\(setS x l).A=l.A:=by
 unfold setS
 split
 ·exact⟨rfl,rfl,rfl,rfl,rfl,rfl,rfl⟩
 ·split
  ·exact⟨rfl,rfl,rfl,rfl,rfl,rfl,rfl⟩
  ·split <;> exact⟨rfl,rfl,rfl,rfl,rfl,rfl,rfl⟩
theorem zhf (h:RowsOk l) (ht:treeE l.E=0) (hx:z1e l.E l.G l.J x=0):RowsOk (setS x l):=by
 have hg:=chgG ht hx
 have hx':¬ (has l.E x.B=false\/(x.N=1/\leafT l.E x.B=false))/\¬ (inY l.G l.J x.D=false/\(x.N=1\/x.D≠-1))/\¬ (amt x.C=false/\(x.N≠2\/x.C≠-1)):=by
  unfold z1e at hx
  split at hx
  ·cases hx
  ·split at hx
   ·cases hx
   ·split at hx
    ·cases hx
    ·split at hx
     ·cases hx
     ·rename_i a b c d; exact⟨b,c,d⟩
 obtain⟨q1,q2,q3⟩:=hx'
 have hb:∀ rm:Bool,(rm=true\/amt x.C=true)->rm=false->zr l.E l.G l.J ⟨x.B,x.D,x.C⟩=0:=fun rm h1 h2=>by
  unfold zr
  rw[y3 (fun h=>q1 (.inl h)),y3 (fun h=>q2 ⟨h.2,.inr h.1⟩),y3 (by rcases h1 with h1 | h1; rw[h1] at h2; cases h2; simp[h1])]
 unfold setS
 split
 ·rename_i k1
  refine⟨putLo h.lo hg _,fun y hy=>?_,h.co,h.c1,h.fo,h.f1⟩
  rcases z7m hy with ⟨rfl,_⟩ | hy
  ·unfold z1d
   have e1:leafT l.E x.B=true:=by
    cases e:leafT l.E x.B
    ·exact absurd (.inr ⟨k1,e⟩) q1
    ·rfl
   have e2:inY l.G l.J x.D=true:=by
    cases e:inY l.G l.J x.D
    ·exact absurd ⟨e,.inl k1⟩ q2
    ·rfl
   have e3:amt x.C=true:=by
    cases e:amt x.C
    ·exact absurd ⟨e,.inl om⟩ q3
    ·rfl
   show (if leafT l.E x.B=false then (5:Int) else if inY l.G l.J x.D=false then 16 else if amt x.C=false then 2 else 0)=0
   simp[e1,e2,e3]
  ·exact h.l1 y hy
 ·split
  ·rename_i k2
   refine⟨h.lo,h.l1,putBo h.co hg _,fun y hy=>?_,h.fo,h.f1⟩
   rcases z7m hy with ⟨rfl,hr⟩ | hy
   ·refine hb _ ?_ hr
    by_cases e:amt x.C=true
    ·exact .inr e
    ·left
     have:¬ (x.N≠2\/x.C≠-1):=fun h=>q3 ⟨by simpa using e,h⟩
     simp only[y4l,ne_eq,y47] at this
     simpa using this.2
   ·exact h.c1 y hy
  ·rename_i k1 k2
   split
   ·refine⟨h.lo,h.l1,h.co,h.c1,putBo h.fo hg _,fun y hy=>?_⟩
    rcases z7m hy with ⟨rfl,hr⟩ | hy
    ·refine hb _ ?_ hr
     right
     cases e:amt x.C
     ·exact absurd ⟨e,.inl k2⟩ q3
     ·rfl
    ·exact h.f1 y hy
   ·exact h
end Go.Proofs.YtljnmhapbonmfaaGreatDoor
/- The law in force. No condition. -/
namespace Go.Proofs.YtljnmhapbonmfaaGreatDoor
open Go Go.TA
open Go.IntKind (i64)
attribute [-simp] List.getD_eq_getElem?_getD
def applyS (cs:List TCh) (l:TLa):TLa:=cs.foldl (fun l x=>setS x l) l
def zL:TLa:=⟨0,0,[],[],[],[],[],[],[],[]⟩
theorem z9x (a b:List TCh) (l:TLa):applyS (a++b) l=applyS b (applyS a l):=List.foldl_append
theorem zdw (cs:List TCh):∀ l:TLa,(applyS cs l).G=l.G/\(applyS cs l).J=l.J/\(applyS cs l).E=l.E/\(applyS cs l).L=l.L /\
  (applyS cs l).O=l.O/\(applyS cs l).I=l.I/\(applyS cs l).A=l.A:=by
 induction cs with
 | nil=>intro l; exact⟨rfl,rfl,rfl,rfl,rfl,rfl,rfl⟩
 | cons x cs ih =>
  intro l
  obtain⟨a1,a2,a3,a4,a5,a6,a7⟩:=ih (setS x l)
  obtain⟨b1,b2,b3,b4,b5,b6,b7⟩:=zbr x l
  exact⟨a1.trans b1,a2.trans b2,a3.trans b3,a4.trans b4,a5.trans b5,a6.trans b6,a7.trans b7⟩
variable {cs:List TCh}
theorem z5o (hc:∀ x∈cs,good x.B=true):∀ {n:Nat} {l:TLa},WL n l->WL (n+cs.length) (applyS cs l):=by
 induction cs with
 | nil=>intro n l h; exact h
 | cons x cs ih =>
  intro n l h
  have:=ih (fun y hy=>hc y (yh _ hy)) (zkh h (hc x y16))
  rwa [yp,show n+(cs.length+1)=n+1+cs.length from om]
theorem zdx:∀ {l:TLa},RowsOk l->treeE l.E=0->(∀ x∈cs,z1e l.E l.G l.J x=0)->RowsOk (applyS cs l):=by
 induction cs with
 | nil=>intro l h _ _; exact h
 | cons x cs ih =>
  intro l h ht hc
  obtain⟨b1,b2,b3,_⟩:=zbr x l
  exact ih (zhf h ht (hc x y16)) (by rw[b3]; exact ht) (fun y hy=>by rw[b1,b2,b3]; exact hc y (yh _ hy))
structure FewL (l:TLa):Prop where
 t:l.E.length<=1000000
 li:l.P.length<=1000000
 c:l.S.length<=1000000
 f:l.U.length<=1000000
 e:l.L.length<=1000000
 o:l.O.length<=1000000
 r:l.I.length<=1000000
 a:l.A.length<=1000000
 x:∀ x∈l.A,x.M.length<=1000000
variable {l:TLa}
theorem zfo (h:FewL l):F_q1e l=some l:=by
 have g1:=h.t; have g2:=h.li; have g3:=h.c; have g4:=h.f; have g5:=h.e; have g6:=h.o; have g7:=h.r; have g8:=h.a
 simp only[F_q1e,S_q1e,Scr.den,F_q4g,S_q4g,F_q4h,S_q4h,F_q3v,S_q3v,
  F_q4i,S_q4i,F_q4j,S_q4j,F_q4k,S_q4k]
 rw[Ga,obind,Ga,obind,Ga,obind,Ga,obind,Ga,obind,Ga,obind,Ga,obind]
 obtain⟨s,e,hs⟩:=zl (body:=fun i s=>(S_q1e_b1 l i s).den) (n:=l.A.length) (fun i s=>s=(l.G,l.J,l.E,l.P,l.S,l.U,l.L,l.O,l.I,l.A.take i))
  (s0:=(l.G,l.J,l.E,l.P,l.S,l.U,l.L,l.O,l.I,[])) rfl (fun i s hi h1=>by
   subst h1
   have hx:=h.x _ (z4 hi)
   refine⟨_,?_,rfl⟩
   simp only[S_q1e_b1,Scr.den,F_q4l,S_q4l]
   rw[Ga,obind,z3 ⟨by rw[y13]; omega,trivial⟩]
   rw[yw hi,za hi])
 rw[e,hs]
 simp only[outM,y1z]
 rw[Ga]
theorem zj1 {n:Nat} (hf:FewL l) (h:WL n l) (hc:∀ x∈cs,good x.B=true) (hn:n+cs.length<=100000) :
  F_q13 l cs=some (if bigL (applyS cs l) then (zL,3) else (applyS cs l,0)):=by
 simp only[F_q13,S_q13,Scr.den,zfo hf,obind]
 rw[Ga]
 obtain⟨s,e,hs⟩:=zl (body:=fun i s=>(S_q13_b1 cs i s).den) (n:=cs.length) (fun i s=>s=applyS (cs.take i) l) (s0:=l) rfl (fun i s hi h1=>by
  refine⟨_,?_,rfl⟩
  have hw:WL (n+i) s:=by
   rw[h1]
   have:=z5o (cs:=cs.take i) (fun x hx=>hc x (y1h hx)) h
   rwa [y13,Nat.min_eq_left om] at this
  simp only[S_q13_b1,Scr.den,y1l]
  rw[z3 ⟨hi,trivial⟩,zlq om hw (hc _ (z4 hi)),obind,h1,yw hi,z9x,za hi]
  rfl)
 rw[e,hs]
 simp only[outM,y1z,ze]
 by_cases hb:bigL (applyS cs l)
 ·rw[y4 hb,y4 (by unfold bigL at hb; simp only[yc,y5]; omega)]
  rfl
 ·rw[y3 hb,y3 (by unfold bigL at hb; simp only[yc,y5]; omega)]
def laterI (l:TLa) (d:Int):Nat:=l.A.findIdx fun a=>decide (a.H>d)
def nowC (l:TLa) (d:Int):List TCh:=(l.A.take (laterI l d)).flatMap (·.M)
def forceL (l:TLa) (d:Int):TLa:=applyS (nowC l d) { l with A:=l.A.drop (laterI l d) }
def inS (l:TLa) (d:Int):TLa×Int:=if errL l=0 then (if d<0\/d>36000 then (zL,2) else if bigL (forceL l d) then (zL,3) else (forceL l d,0)) else (zL,errL l)
theorem zbs (l:TLa) (d:Int):laterI l d<=l.A.length:=List.findIdx_le_length
theorem zao {L:List TAm} {k:Nat} (h:∀ a∈L,a.M.length<=k):(L.flatMap (·.M)).length<=L.length * k:=by
 induction L with
 | nil=>simp
 | cons a L ih =>
  have h1:=ih fun x hx=>h x (yh _ hx)
  have h2:=h a y16
  rw[y46,yb,yp,y1i]; omega
theorem z6n (h:RestOk l):l.A.length<=20/\∀ a∈l.A,a.M.length<=20:=by
 have h1:=h.li
 simp only[y4l] at h1
 refine⟨om,fun a ha=>?_⟩
 have:=h1.2.2.2.2
 rcases yl 20 a.M.length with h2 | h2
 ·exact absurd (y1m.2 ⟨a,ha,y11 h2⟩) this
 ·exact h2
theorem zdc (h:RestOk l):∀ a∈l.A,∀ c∈a.M,z1e l.E l.G l.J c=0:=fun a ha c hc=>by
 obtain⟨i,hi,rfl⟩:=z2o ha
 have h1:=z10.1 h.am i hi
 unfold amdE at h1
 split at h1
 ·cases h1
 ·split at h1
  ·cases h1
  ·split at h1
   ·cases h1
   ·obtain⟨j,hj,rfl⟩:=z2o hc
    exact z3p (z10.1 h1 j hj)
theorem z85 (h:RestOk l) (d:Int):∀ c∈nowC l d,z1e l.E l.G l.J c=0:=fun c hc=>by
 obtain⟨a,ha,hca⟩:=y3i.1 hc
 exact zdc h a (y1h ha) c hca
theorem zek (h:RestOk l) (d:Int):(nowC l d).length<=400:=by
 obtain⟨h1,h2⟩:=z6n h
 have:=zao (L:=l.A.take (laterI l d)) (k:=20) fun a ha=>h2 a (y1h ha)
 have h3:=zbs l d
 unfold nowC
 rw[y13] at this
 have:min (laterI l d) l.A.length * 20<=20 * 20:=yg 20 om
 omega
theorem zjj (h:RowsOk l) (hb:¬ bigL l):WL 120 l:=by
 unfold bigL at hb
 exact⟨h.lo,om,h.co,om,h.fo,om⟩
theorem zfp (hs:SmL l) (d:Int):F_q14 l d=some (inS l d):=by
 simp only[F_q14,S_q14,Scr.den,z7l hs,obind,ze]
 unfold inS
 by_cases hne:¬ errL l=0
 ·rw[y4 (by simpa using hne),y3 hne]; rfl
 have he:errL l=0:=y47.1 hne
 rw[y3 (by simpa using he),y4 he]
 by_cases hd:d<0\/d>36000
 ·rw[y4 (by simpa using hd),y4 hd]; rfl
 rw[y3 (by simpa using hd),y3 hd]
 obtain⟨hr,hw,hb⟩:=z1s.1 he
 obtain⟨f1,f2⟩:=z6n hr
 have hle:=zbs l d
 have hidx:∃ v,F_q1y l.A d=some v/\(if v<0 then (l.A.length:Int) else v)=(laterI l d:Int):=by
  simp only[F_q1y,S_q1y,Scr.den]
  rw[z1m l.A (fun a=>decide (a.H>d)) (fun i=>(i:Int)) fun i hi=>by
   simp only[S_q1y_b1,F_q4f,S_q4f,Scr.den,obind]
   split <;> rfl]
  by_cases ha:(l.A.any fun a=>decide (a.H>d))=true
  ·rw[y4 ha]
   refine⟨_,rfl,?_⟩
   have h0:¬ ((l.A.findIdx fun a=>decide (a.H>d):Nat):Int)<0:=om
   exact y3 h0
  ·rw[y3 ha]
   refine⟨_,rfl,?_⟩
   rw[y4 dk]
   have:laterI l d=l.A.length:=y4t.2 fun a ha'=>by
    cases h:decide (a.H>d)
    ·rfl
    ·exact absurd (y1m.2 ⟨a,ha',h⟩) ha
   rw[this]
 obtain⟨v,hv,hv2⟩:=hidx
 rw[hv,obind]
 have hcut:(if decide (v<0)=true then some (Out.next (l.A.length:Int)) else some (Out.next v):Option (Out Int R_q14))=some (.next (laterI l d:Int)):=by
  rw[<- hv2]
  by_cases h:v<0
  ·rw[y4 (y11 h),y4 h]
  ·rw[y3 (by simpa using h),y3 h]
 rw[hcut]
 simp only[outM,yf]
 rw[z3 ⟨om,hle,trivial⟩]
 obtain⟨s,e,h1⟩:=zl (body:=fun i s=>(S_q14_b1 l (laterI l d:Int) i s).den) (n:=(l.A.take (laterI l d)).length) (fun i s=>s=((l.A.take (laterI l d)).take i).flatMap (·.M)) (s0:=[]) rfl (fun i s hi h1=>by
  refine⟨_,?_,rfl⟩
  have hsl:s.length<=400:=by
   rw[h1]
   have:=zao (L:=(l.A.take (laterI l d)).take i) (k:=20) fun a ha=>f2 a (y1h (y1h ha))
   have h3:((l.A.take (laterI l d)).take i).length * 20<=20 * 20:=yg 20 (by rw[y13,y13]; omega)
   omega
  have hcl:=f2 _ (y1h (z4 hi))
  simp only[S_q14_b1,Scr.den,yf]
  rw[Ga,h1,yw hi,y4e,za hi]
  simp)
 rw[e,h1]
 simp only[y1z]
 have hcc:∀ x∈nowC l d,good x.B=true:=fun x hx=>chgG hr.tr (z85 hr d x hx)
 have hlim:=hr.li
 have htl:l.E.length<=60:=by
  have:=hr.tr
  unfold treeE at this
  split at this
  ·cases this
  ·omega
 have hbb:=hb
 unfold bigL at hbb
 have hfew:FewL { l with A:=l.A.drop (laterI l d) }:=⟨by simp only; omega,by simp only; omega,by simp only; omega,by simp only; omega,by simp only; omega,by simp only; omega,by simp only; omega,
  by simp only[y1p]; omega,fun x hx=>by have:=f2 x (y38 hx); omega⟩
 have hwl:WL 120 { l with A:=l.A.drop (laterI l d) }:=zjj (l:={ l with A:=l.A.drop (laterI l d) }) ⟨hw.lo,hw.l1,hw.co,hw.c1,hw.fo,hw.f1⟩ hb
 have hnl:=zek hr d
 rw[show (l.A.take (laterI l d)).flatMap (·.M)=nowC l d from rfl]
 show ((F_q13 { l with A:=l.A.drop (laterI l d) } (nowC l d)).bind fun r=>some (r.1,r.2))=_
 rw[zj1 hfew hwl hcc om,obind]
 rfl
end Go.Proofs.YtljnmhapbonmfaaGreatDoor
/- A law is the same as itself; the days; the law in force on a later day. No condition. -/
namespace Go.Proofs.YtljnmhapbonmfaaGreatDoor
open Go Go.TA
open Go.IntKind (i64)
attribute [-simp] List.getD_eq_getElem?_getD
theorem z4e {ρ:Type} {body:Nat->Unit->Option (Step Unit ρ)} {n:Nat} (hs:∀ i,i<n->body i ()=some (.cont ())):rangeM body n 0 ()=some (.next ()):=by
 obtain⟨s,e,_⟩:=zl (body:=body) (n:=n) (fun _ _=>True) (s0:=()) trivial (fun i s hi _=>⟨(),hs i hi,trivial⟩)
 exact e
theorem z6o (l:TLa) (d:Int):(forceL l d).G=l.G/\(forceL l d).J=l.J/\(forceL l d).E=l.E/\(forceL l d).L=l.L /\
  (forceL l d).O=l.O/\(forceL l d).I=l.I/\(forceL l d).A=l.A.drop (laterI l d):=zdw (nowC l d) _
theorem zj2 {α:Type} {l:List α} {k:Nat} {p:α->Bool} (h:(l.drop k).any p=true):l.any p=true:=by
 obtain⟨x,hx,e⟩:=y1m.1 h
 exact y1m.2 ⟨x,y38 hx,e⟩
theorem zj3 {t:List THe} {f y:Int} {L:List TAm} (h:fstE L.length (amdE t f y L)=0) (k:Nat):fstE (L.drop k).length (amdE t f y (L.drop k))=0:=by
 rw[z10] at h |-
 intro i hi
 rw[y1p] at hi
 have hk:k+i<L.length:=om
 have h1:=h (k+i) hk
 have e:∀ j,k+j<L.length->(L.drop k).getD j dF=L.getD (k+j) dF:=fun j hj=>by
  rw[za (by rw[y1p]; omega),za hj,List.getElem_drop]
 unfold amdE at h1 |-
 rw[e i hk]
 by_cases h0:0<i
 ·rw[e (i-1) om]
  rw[show k+i-1=k+(i-1) from om] at h1
  have:0<k+i↔0<i:=om
  simp only[this] at h1
  exact h1
 ·have hz:¬ (0<i/\ltA ((L.drop k).getD (i-1) dF) (L.getD (k+i) dF)=false):=fun h=>h0 h.1
  rw[y3 hz]
  split at h1
  ·cases h1
  ·rename_i p1
   rw[y3 p1]
   split at h1
   ·cases h1
   ·exact h1
theorem z48 {l:TLa} (he:errL l=0) (d:Int) (hb:¬ bigL (forceL l d)):errL (forceL l d)=0:=by
 obtain⟨hr,hw,_⟩:=z1s.1 he
 obtain⟨a1,a2,a3,a4,a5,a6,a7⟩:=z6o l d
 refine z1s.2 ⟨⟨?_,?_,?_,?_,?_,?_,?_,?_⟩,?_,hb⟩
 ·have:=hr.yr; unfold yrB at this |-; rw[a1,a2]; exact this
 ·rw[a3]; exact hr.tr
 ·have:=hr.li
  rw[a4,a5,a6,a7]
  intro h
  refine this ?_
  rcases h with h | h | h | h | h
  ·exact .inl h
  ·exact .inr (.inl h)
  ·exact .inr (.inr (.inl h))
  ·exact .inr (.inr (.inr (.inl (by rw[y1p] at h; omega))))
  ·exact .inr (.inr (.inr (.inr (zj2 h))))
 ·rw[a3,a4]; exact hr.ea
 ·rw[a3,a4]; exact hr.sh
 ·rw[a1,a2,a3,a5]; exact hr.co
 ·rw[a3,a6]; exact hr.ru
 ·rw[a1,a2,a3,a7]; exact zj3 hr.am _
 ·exact zdx (l:={ l with A:=l.A.drop (laterI l d) }) ⟨hw.lo,hw.l1,hw.co,hw.c1,hw.fo,hw.f1⟩ hr.tr (z85 hr d)
end Go.Proofs.YtljnmhapbonmfaaGreatDoor
/- Trees that are made. No condition. -/
namespace Go.Proofs.YtljnmhapbonmfaaGreatDoor
open Go Go.TA
open Go.IntKind (i64)
attribute [-simp] List.getD_eq_getElem?_getD
variable {w:Y8} {n:Int}
theorem zki (h:pv w=some n):w=Lib.decDigits n.toNat/\1<=n/\n<=99:=by
 obtain⟨k,h1,h2,rfl,rfl⟩:=zcy h
 exact⟨by rw[yf,z61 om],om,om⟩
theorem z8z:∀ {ws:List Y8} {ns:List Int},nums ws=some ns->ws=ns.map (fun n=>Lib.decDigits n.toNat)/\∀ n∈ns,1<=n/\n<=99
 | [],ns,h=>by cases h; exact⟨rfl,fun n hn=>by simp at hn⟩
 | w :: ws,ns,h=>by
  simp only[nums] at h
  cases hv:pv w with
  | none=>simp[hv] at h
  | some v =>
   cases hn:nums ws with
   | none=>simp[hv,hn] at h
   | some m =>
    simp only[hv,hn,y1q,yo] at h
    subst h
    obtain⟨h1,h2⟩:=z8z hn
    obtain⟨k1,k2⟩:=zki hv
    exact⟨by rw[y2c,<- h1,<- k1],fun n hn'=>by
     rcases yn.1 hn' with rfl | hn'
     ·exact k2
     ·exact h2 n hn'⟩
variable {c:Y8}
theorem zhg (h:good c=true):c=joinD ((parts c).map fun n=>Lib.decDigits n.toNat):=by
 rw[<- (z8z (z13 h).1).1,z4d]
theorem zdy {ns:List Int} (hl:ns.length<=4) (hn:∀ n∈ns,1<=n/\n<=99):F_qy ns=some (joinD (ns.map fun n=>Lib.decDigits n.toNat)):=by
 simp only[F_qy,S_qy,Scr.den]
 rw[y3 (by simp only[y5]; omega),Ga]
 have hd:∀ n:Int,(Lib.decDigits n.toNat).length<=20\/¬ (1<=n/\n<=99):=fun n=>by
  by_cases h:1<=n/\n<=99
  ·left
   rw[z61 om]
   unfold z7b
   split <;> simp
  ·exact .inr h
 obtain⟨s,e,h1,_⟩:=zl (body:=fun i s=>(S_qy_b1 ns i s).den) (n:=ns.length) (fun i s=>s=joinD ((ns.take i).map fun n=>Lib.decDigits n.toNat)/\s.length<=30 * i) (s0:=[]) ⟨rfl,sj⟩ (fun i s hi ⟨h1,h2⟩=>by
  have hr:=hn _ (z4 hi)
  have hdl:(Lib.decDigits (ns.getD i dF).toNat).length<=20:=(hd _).resolve_right (by simpa using hr)
  have hI:F_q4p (ns.getD i dF)=some (Lib.decDigits (ns.getD i dF).toNat):=z3 ⟨om,om⟩
  simp only[S_qy_b1,Scr.den,y1l,hI,obind,ze]
  rw[z3 ⟨hi,trivial⟩,y3 (by simp only[yc,y5]; omega)]
  have ht:(ns.take (i+1)).map (fun n=>Lib.decDigits n.toNat)=(ns.take i).map (fun n=>Lib.decDigits n.toNat)++[Lib.decDigits (ns.getD i dF).toNat]:=by
   rw[yw hi,y30,za hi]; rfl
  by_cases h0:0<i
  ·rw[y4 (by simp only[y5]; omega),z3 ⟨by simp only[yp,y1d]; omega,trivial⟩]
   simp only[outM]
   rw[z3 ⟨by rw[yb,yp,y1d]; omega,trivial⟩]
   refine⟨_,rfl,?_,by rw[yb,yb,yp,y1d]; omega⟩
   rw[ht,z4i (by
    intro h
    have:=congrArg List.length h
    rw[y1g,y13] at this
    simp only[y1d] at this
    omega) sj,<- h1]
   simp[joinD]
  ·have h0':i=0:=om
   subst h0'
   rw[y3 sj]
   simp only[outM]
   have hs:s=[]:=by rw[h1]; rfl
   subst hs
   rw[z3 ⟨by simp only[y1d]; omega,trivial⟩]
   refine⟨_,rfl,?_,by simp only[y1w]; omega⟩
   rw[ht]; rfl)
 rw[e,h1]
 simp only[outM,y1z]
theorem zj4 {a:Y8} (hw:∀ c∈w,c.toNat≠46):ldot (a++46 :: w) (a++46 :: w).length=a.length:=by
 have key:∀ k,k<=w.length->ldot (a++46 :: w) (a.length+1+k)=a.length:=by
  intro k
  induction k with
  | zero =>
   intro _
   show (if ((a++46 :: w).getD a.length 0).toNat=46 then a.length else _)=_
   rw[y4]
   rw[List.getD_eq_getElem?_getD,y1b (y7 _)]; simp
  | succ k ih =>
   intro hk
   show (if ((a++46 :: w).getD (a.length+1+k) 0).toNat=46 then a.length+1+k else ldot _ (a.length+1+k))=_
   rw[y3,ih om]
   rw[List.getD_eq_getElem?_getD,y1b om,show a.length+1+k-a.length=k+1 from om,List.getElem?_cons_succ,yd om]
   exact hw _ (y4y _)
 have:=key w.length (y7 _)
 rwa [show a.length+1+w.length=(a++46 :: w).length from sk] at this
theorem zj5 (hc:good c=true) (hl:(parts c).length<4) (hw:pv w=some n):good (c++46 :: w)=true/\parts (c++46 :: w)=parts c++[n]/\par (c++46 :: w)=c:=by
 obtain⟨_,_,_,_,hdig⟩:=z9q hw
 have hnd:∀ x∈w,x.toNat≠46:=fun x hx=>by have:=hdig x hx; omega
 have hpw:pieces w=[w]:=by
  have:∀ w:Y8,(∀ x∈w,x.toNat≠46)->pieces w=[w]:=by
   intro w
   induction w with
   | nil=>intro _; rfl
   | cons x w ih =>
    intro h
    rw[zt,ih fun y hy=>h y (yh _ hy),y3]
    have:=h x y16
    intro e
    have e:x=46:=by simpa using e
    exact this (by rw[e]; rfl)
  exact this w hnd
 obtain⟨h1,h2,h3⟩:=z13 hc
 have hn:∀ xs ns,nums xs=some ns->nums (xs++[w])=some (ns++[n]):=by
  intro xs
  induction xs with
  | nil=>intro ns h; cases h; simp[nums,hw]
  | cons x xs ih =>
   intro ns h
   simp only[y1y,nums] at h |-
   cases hv:pv x with
   | none=>simp[hv] at h
   | some v =>
    cases hm:nums xs with
    | none=>simp[hv,hm] at h
    | some m =>
     simp only[hv,hm,y1q,yo] at h
     subst h
     simp[ih m hm]
 have hp:parts (c++46 :: w)=parts c++[n]:=by
  unfold parts
  rw[z4t,hpw,hn _ _ h1]
  simp only[yb,yk]
  rw[y3 om]
  rw[h1]
  simp only
  rw[y3 om]
 have hg:good (c++46 :: w)=true:=by rw[<- z3v,hp]; simp
 refine⟨hg,hp,?_⟩
 unfold par
 rw[y4 hg,zj4 hnd,List.take_left']
 rfl
end Go.Proofs.YtljnmhapbonmfaaGreatDoor
/- Trees that are made. No condition. -/
namespace Go.Proofs.YtljnmhapbonmfaaGreatDoor
open Go Go.TA
open Go.IntKind (i64)
attribute [-simp] List.getD_eq_getElem?_getD
def ltK (a b:Y8):Bool:=decide (lexC (parts a) (parts b)<0)
def insK (c:Y8):List Y8->List Y8
 | []=>[c]
 | x :: l=>if ltK c x=true then c :: x :: l else x :: insK c l
theorem zdd {c x:Y8}:∀ {l:List Y8},l.any (ltK c)=true->insK c (l++[x])=insK c l++[x]
 | [],h=>by cases h
 | y :: l,h=>by
  rw[y1y]
  unfold insK
  by_cases hy:ltK c y=true
  ·rw[y4 hy,y4 hy]; rfl
  ·rw[y3 hy,y3 hy,zdd (by rw[y3q] at h; simpa [hy] using h)]; rfl
theorem z7n {c:Y8} {m:List Y8}:∀ {l:List Y8},l.any (ltK c)=false->insK c (l++m)=l++insK c m
 | [],_=>rfl
 | y :: l,h=>by
  rw[y3q,y23] at h
  rw[y1y]
  conv=>lhs; unfold insK
  rw[y3 (by rw[h.1]; simp),z7n h.2]; rfl
theorem z90 (c:Y8):∀ l,(insK c l).length=l.length+1
 | []=>rfl
 | y :: l=>by
  unfold insK
  split
  ·rfl
  ·rw[yp,z90 c l]; rfl
theorem z3f {c x:Y8}:∀ {l:List Y8},x∈insK c l↔x=c\/x∈l
 | []=>by simp[insK]
 | y :: l=>by
  unfold insK
  split
  ·simp
  ·rw[yn,z3f,yn]
   constructor
   ·rintro (h | h | h)
    ·exact .inr (.inl h)
    ·exact .inl h
    ·exact .inr (.inr h)
   ·rintro (h | h | h)
    ·exact .inr (.inl h)
    ·exact .inl h
    ·exact .inr (.inr h)
structure CL (l:List Y8):Prop where
 pw:l.Pairwise fun a b=>ltK a b=true
 gd:∀ c∈l,good c=true
 pa:∀ c∈l,par c=[]\/par c∈l
variable {l:List Y8} {c:Y8}
theorem zlr (h:CL l) (hc:good c=true) (hn:c ∉ l) (hp:par c=[]\/par c∈l):CL (insK c l):=by
 refine⟨?_,fun x hx=>?_,fun x hx=>?_⟩
 ·have key:∀ m:List Y8,m.Pairwise (fun a b=>ltK a b=true)->(∀ x∈m,good x=true)->c ∉ m->(insK c m).Pairwise (fun a b=>ltK a b=true):=by
   intro m
   induction m with
   | nil=>intro _ _ _; exact y2l _ _
   | cons y m ih =>
    intro h1 h2 h3
    obtain⟨h4,h5⟩:=y2n.1 h1
    unfold insK
    by_cases hy:ltK c y=true
    ·rw[y4 hy]
     refine y2n.2 ⟨fun z hz=>?_,h1⟩
     rcases yn.1 hz with rfl | hz
     ·exact hy
     ·exact y11 (z6j (y3a hy) (y3a (h4 z hz)))
    ·rw[y3 hy]
     refine y2n.2 ⟨fun z hz=>?_,ih h5 (fun x hx=>h2 x (yh _ hx)) fun h=>h3 (yh _ h)⟩
     rcases z3f.1 hz with rfl | hz
     ·have h6:¬ lexC (parts z) (parts y)<0:=by simpa [ltK] using hy
      have h7:lexC (parts z) (parts y)≠0:=fun e=>h3 (by rw[z5n hc (h2 y y16) (z3m e)]; exact y16)
      have h8:=z7g (parts z) (parts y)
      exact y11 om
     ·exact h4 z hz
  exact key l h.pw h.gd hn
 ·rcases z3f.1 hx with rfl | hx
  ·exact hc
  ·exact h.gd x hx
 ·rcases z3f.1 hx with rfl | hx
  ·exact hp.imp id fun h=>z3f.2 (.inr h)
  ·exact (h.pa x hx).imp id fun h=>z3f.2 (.inr h)
def withS (l:List Y8) (c:Y8):List Y8:=if c∈l then l else insK c l
theorem zap (h:CL l) (hl:l.length<=1000000) (hc:good c=true):F_qk l c=some (withS l c):=by
 simp only[F_qk,S_qk,Scr.den]
 unfold withS
 have hst:∀ (i:Nat) (s:List Y8×Bool),i<l.length->s.1.length<=2000000->(S_qk_b1 l c i s).den=some (if c=l.getD i dF then .ret l else .cont (if ltK c (l.getD i dF)=true/\s.2=false then (s.1++[c]++[l.getD i dF],true) else (s.1++[l.getD i dF],s.2))):=fun i s hi hsl=>by
  have hg:=h.gd _ (z4 hi)
  simp only[S_qk_b1,Scr.den,z1x hc hg,obind,z6]
  by_cases he:c=l.getD i dF
  ·rw[y4 (by rw[<- he,z2p]; rfl),y4 he]
  ·have hne:lexC (parts c) (parts (l.getD i dF))≠0:=fun e=>he (z5n hc hg (z3m e))
   rw[y3 (by simpa using hne),y3 he]
   by_cases hlt:ltK c (l.getD i dF)=true/\s.2=false
   ·rw[y4 (by rw[show decide (lexC (parts c) (parts (l.getD i dF))<0)=true from hlt.1,hlt.2]; rfl),Ga]
    simp only[outM]
    rw[z3 ⟨by rw[yb,yk]; omega,trivial⟩,y4 hlt]
   ·rw[y3 (by
     intro hh
     simp only[y6,y1e] at hh
     exact hlt ⟨hh.1,hh.2⟩)]
    simp only[outM]
    rw[Ga,y3 hlt]
 by_cases hm:c∈l
 ·rw[y4 hm]
  obtain⟨k,hk,e⟩:=z2o hm
  have hloop:∀ (j i:Nat) (s:List Y8×Bool),i+j=l.length->i<=k->s.1.length<=2 * i->rangeM (fun i s=>(S_qk_b1 l c i s).den) j i s=some (.ret l):=by
   intro j
   induction j with
   | zero=>intro i s hij hik _; omega
   | succ j ih =>
    intro i s hij hik hsl
    simp only[rangeM,hst i s om om]
    by_cases he:c=l.getD i dF
    ·rw[y4 he]
    ·rw[y3 he]
     refine ih (i+1) _ om ?_ ?_
     ·rcases yl i k with h | h
      ·omega
      ·have:i=k:=om
       rw[this] at he
       exact absurd e.symm he
     ·split <;> simp only[yb,yk] <;> omega
  rw[hloop l.length 0 _ om om sj]
  rfl
 ·rw[y3 hm]
  obtain⟨s,e,h1,_⟩:=zl (body:=fun i s=>(S_qk_b1 l c i s).den) (n:=l.length) (fun i s=>s=(if (l.take i).any (ltK c)=true then (insK c (l.take i),true) else (l.take i,false))/\s.1.length<=i+1) (s0:=([],false)) ⟨rfl,sj⟩ (fun i s hi ⟨h1,h2⟩=>by
   have hne:¬ c=l.getD i dF:=fun e=>hm (by rw[e]; exact z4 hi)
   have ht:l.take (i+1)=l.take i++[l.getD i dF]:=by rw[yw hi,za hi]
   refine⟨_,by rw[hst i s hi om,y3 hne],?_⟩
   rw[ht,List.any_append]
   by_cases ha:(l.take i).any (ltK c)=true
   ·rw[y4 ha] at h1
    rw[h1,ha]
    simp only[y4o,and_false,y2t,Bool.true_or,y3j]
    rw[zdd ha]
    refine⟨rfl,?_⟩
    rw[h1] at h2
    simp only[yb,yk] at h2 |-
    omega
   ·rw[y3 ha] at h1
    have ha':=yq.2 ha
    rw[h1,ha']
    simp only[y3l,y4a,y3q,List.any_nil,Bool.or_false]
    by_cases hlt:ltK c (l.getD i dF)=true
    ·rw[y4 hlt,y4 hlt,z7n ha']
     refine⟨?_,by simp only[yb,yk,y13]; omega⟩
     unfold insK
     rw[y4 hlt]
     simp
    ·rw[y3 hlt,y3 hlt]
     exact⟨rfl,by simp only[yb,yk,y13]; omega⟩)
  rw[e,h1,y1z]
  simp only[outM]
  by_cases ha:l.any (ltK c)=true
  ·rw[y4 ha]
   simp only
   rw[y3 sj,z3 ⟨by rw[z90]; omega,trivial⟩]
  ·rw[y3 ha]
   simp only
   have hi:insK c l=l++[c]:=by
    have:=z7n (m:=[]) (yq.2 ha)
    rw[y31] at this
    exact this
   rw[y4 sj,Ga,z3 ⟨by simp only[yb,yk]; omega,trivial⟩,hi]
theorem z91 (h:CL l) (hc:good c=true) (hp:par c=[]\/par c∈l):CL (withS l c):=by
 unfold withS
 split
 ·exact h
 ·exact zlr h hc aj hp
theorem z7o (l:List Y8) (c:Y8):(withS l c).length<=l.length+1/\l.length<=(withS l c).length:=by
 unfold withS
 split
 ·omega
 ·rw[z90]; omega
theorem z4k {x:Y8}:x∈withS l c↔x=c\/x∈l:=by
 unfold withS
 split
 ·rename_i h
  exact⟨.inr,fun h'=>h'.elim (fun e=>e▸h) id⟩
 ·exact z3f
end Go.Proofs.YtljnmhapbonmfaaGreatDoor
/- Trees that are made. No condition. -/
namespace Go.Proofs.YtljnmhapbonmfaaGreatDoor
open Go Go.TA
open Go.IntKind (i64)
attribute [-simp] List.getD_eq_getElem?_getD
structure MT (t:List THe):Prop where
 ok:treeE t=0
 ge:1<=t.length
 le:t.length<=11
theorem zj6 {c:Y8} (hc:good c=true) (hl:(parts c).length<3) {n:Int} (hn:n∈([1,2,3,10]:List Int)) :
  F_qy (parts c++[n])=some (c++46 :: Lib.decDigits n.toNat)/\good (c++46 :: Lib.decDigits n.toNat)=true/\par (c++46 :: Lib.decDigits n.toNat)=c:=by
 have hr:1<=n/\n<=99:=by simp at hn; rcases hn with rfl | rfl | rfl | rfl <;> omega
 have hw:pv (Lib.decDigits n.toNat)=some n:=by
  have h1:=(z4r ⟨n.toNat,om⟩ (by simp only; omega)).1
  simp only at h1
  rw[z61 om,h1]
  congr 1; omega
 obtain⟨k1,k2,k3⟩:=zj5 hc om hw
 obtain⟨h1,h2,h3⟩:=z13 hc
 refine⟨?_,k1,k3⟩
 rw[zdy (by rw[yb,yk]; omega) (fun m hm=>by
  rcases y12.1 hm with hm | hm
  ·exact (z8z h1).2 m hm
  ·have:m=n:=by simpa using hm
   rw[this]; exact hr)]
 congr 1
 rw[y30,z4i (by
  intro e
  have:=congrArg List.length e
  rw[y1g,y1d] at this
  omega) sj,<- zhg hc]
 rfl
theorem CL0:CL [[49],[50]]:=⟨dk,dk,dk⟩
end Go.Proofs.YtljnmhapbonmfaaGreatDoor
/- What is drawn: amounts,years,leaves,codes,changes. No condition. -/
namespace Go.Proofs.YtljnmhapbonmfaaGreatDoor
open Go Go.TA
open Go.IntKind (i64)
attribute [-simp] List.getD_eq_getElem?_getD
theorem MT.good {t:List THe} (h:MT t):∀ x∈t,good x.B=true:=fun x hx=>hasGood h.ok (y1m.2 ⟨x,hx,sj⟩)
theorem nameL {s:Y8} (h:nameOk s=true):s.length<=40:=by
 unfold nameOk at h
 simp only[y6,y5] at h
 exact h.1.1.1.2
variable {t:List THe}
theorem treeName (h:treeE t=0):∀ x∈t,nameOk x.X=true:=fun x hx=>by
 obtain⟨i,hi,rfl⟩:=z2o hx
 unfold treeE at h
 split at h
 ·cases h
 ·have:=z10.1 h i hi
  unfold headE at this
  split at this
  ·cases this
  ·split at this
   ·cases this
   ·rename_i h; simpa using h
theorem MT.sm (h:MT t):SmT t:=fun x hx=>⟨lenC (h.good x hx),by have:=nameL (treeName h.ok x hx); omega⟩
variable {top:Y8}
theorem zdz (hs:SmT t) (hl:t.length<=1000000) (ht:top.length<=1000000):F_qh t top=some (leavesU t top):=by
 simp only[F_qh,S_qh,Scr.den]
 rw[z1j t (fun h=>good h.B&&(top==[]||und h.B top)&&t.all fun x=>!(par x.B==h.B)) (·.B) 1000000 hl fun i s hi hsl=>by
  obtain⟨hc,_⟩:=hs _ (z4 hi)
  have hin:rangeM (fun i1 s1=>(S_qh_b1 t i i1 s1).den) t.length 0 true=some (.next (t.all fun x=>!(par x.B==(t.getD i dF).B))):=by
   rw[z2i t (fun s x=>s&&!(par x.B==(t.getD i dF).B)) fun j b hj=>by
    obtain⟨hcj,_⟩:=hs _ (z4 hj)
    simp only[S_qh_b1,Scr.den,z36 hcj,z6]
    cases b <;> simp[oT,oF,oN]]
   rw[zbk,y1s]
  simp only[S_qh_b2,Scr.den,z27 (l:=(t.getD i dF).B) om,z29 hc ht,obind,hin,outM,z6,ze]
  by_cases hg:good (t.getD i dF).B=true <;> by_cases h0:top=[] <;> by_cases hu:und (t.getD i dF).B top=true <;> simp[hg,h0,hu,oT,oF,oN] <;> (split <;> first | rfl | (rw[z3 ⟨by first | omega | (simp only[yp,y1d]; omega),trivial⟩]))]
 simp only[outM]
 rfl
def leafs (t:List THe):List Y8:=leavesU t [49]++leavesU t [50]
theorem z7p:∀ c∈leavesU t top,good c=true:=fun c hc=>by
 unfold leavesU at hc
 obtain⟨x,hx,rfl⟩:=yv.1 hc
 have:=(y1v.1 hx).2
 simp only[y6] at this
 exact this.1.1
theorem zhh (h:MT t) {s:TTape} (hs:TapeOk s):∃ c s',F_q2c t s=some (c,s')/\TapeOk s'/\good c=true/\(leafs t≠[]->c∈leafs t):=by
 have hle:=h.le
 have g1:=zu t [49]
 have g2:=zu t [50]
 simp only[F_q2c,S_q2c,Scr.den,zdz h.sm (show t.length<=1000000 from om) (show ([49]:Y8).length<=1000000 from sj),zy h.sm (show t.length<=1000000 from om) (show ([50]:Y8).length<=1000000 from sj),obind]
 rw[Ga,z3 ⟨by rw[yb]; omega,trivial⟩]
 rw[show leavesU t [49]++leavesU t [50]=leafs t from rfl]
 have gl:(leafs t).length<=22:=by unfold leafs; rw[yb]; omega
 by_cases h0:(leafs t).length=0
 ·rw[y4 (by simp only[ym]; omega)]
  exact⟨_,_,rfl,hs,dk,fun hne=>absurd (y1r.1 h0) hne⟩
 ·rw[y3 (by simp only[ym]; omega)]
  obtain⟨v,s',e,o,l,u⟩:=zi (n:=((leafs t).length:Int)) hs om om
  rw[e,obind,z3 ⟨l,om,trivial⟩]
  have hm:=z4 (l:=leafs t) (i:=v.toNat) om
  refine⟨_,_,rfl,o,?_,fun _=>hm⟩
  unfold leafs at hm |-
  rcases y12.1 hm with hm | hm
  ·exact z7p _ hm
  ·exact z7p _ hm
end Go.Proofs.YtljnmhapbonmfaaGreatDoor
/- Changes that are made. No condition. -/
namespace Go.Proofs.YtljnmhapbonmfaaGreatDoor
open Go Go.TA
open Go.IntKind (i64)
attribute [-simp] List.getD_eq_getElem?_getD
structure ChOk (f y:Int) (t:List THe) (c:TCh):Prop where
 gd:good c.B=true
 k:c.N=1\/c.N=2\/c.N=3
 k1:c.N=1->(leafs t≠[]->c.B∈leafs t)/\(f<=c.D/\c.D<f+y)/\0<=c.C/\c.C<=1000000000000
 k2:c.N≠1->has t c.B=true/\(c.D=-1\/(f<=c.D/\c.D<f+y))/\(0<=c.C/\c.C<=1000000000000\/(c.N=2/\c.C=-1))
structure ChsOk (f y:Int) (t:List THe) (l:List TCh):Prop where
 ok:∀ c∈l,ChOk f y t c
 le:l.length<=3
 ge:1<=l.length
 kd:l.Pairwise fun a b=>a.N<b.N
end Go.Proofs.YtljnmhapbonmfaaGreatDoor
/- What else is made: earmarks,conditions,rules. No condition. -/
namespace Go.Proofs.YtljnmhapbonmfaaGreatDoor
open Go Go.TA
open Go.IntKind (i64)
attribute [-simp] List.getD_eq_getElem?_getD
section
variable {f y:Int} (hy:1<=y/\y<=3) {t:List THe} (ht:MT t)
include ht
include hy
end
end Go.Proofs.YtljnmhapbonmfaaGreatDoor
/- Laws that are made. No condition. -/
namespace Go.Proofs.YtljnmhapbonmfaaGreatDoor
open Go Go.TA
open Go.IntKind (i64)
attribute [-simp] List.getD_eq_getElem?_getD
end Go.Proofs.YtljnmhapbonmfaaGreatDoor
/- Laws that are made. No condition. -/
namespace Go.Proofs.YtljnmhapbonmfaaGreatDoor
open Go Go.TA
open Go.IntKind (i64)
attribute [-simp] List.getD_eq_getElem?_getD
structure ML (l:TLa):Prop where
 fi:0<=l.G/\l.G<=95
 ye:1<=l.J/\l.J<=3
 tr:MT l.E
 ok:errL l=0
 sm:SmL l
 ll:l.P.length<=33
 cl:l.S.length<=44
 fl:l.U.length<=44
 al:l.A.length<=3
 ac:∀ a∈l.A,a.M.length<=3
section
variable {f y:Int} (hf:0<=f/\f<=95) (hy:1<=y/\y<=3) {t:List THe} (ht:MT t)
include hf hy
include ht
end
end Go.Proofs.YtljnmhapbonmfaaGreatDoor
/- The law AmendmentLater. No condition. -/
namespace Go.Proofs.YtljnmhapbonmfaaGreatDoor
open Go Go.TA
open Go.IntKind (i64)
attribute [-simp] List.getD_eq_getElem?_getD
def lineA (l:List TLi) (c:Y8) (y:Int):Int:=match l.find? (fun x=>x.B==c&&x.D==y) with
 | some x=>x.C
 | none=>0
theorem zel (l:TLa) (c:Y8) (y:Int):F_q1r l c y=some (lineA l.P c y):=by
 simp only[F_q1r,S_q1r,Scr.den]
 rw[z6i l.P (fun x=>x.B==c&&x.D==y) (·.C) fun i hi=>by
  simp only[S_q1r_b1,Scr.den,z6]
  split <;> rfl]
 unfold lineA
 cases l.P.find? (fun x=>x.B==c&&x.D==y) <;> rfl
theorem zfq {L:List TAm} (h1:L.length<=3) (h2:∀ a∈L,a.M.length<=3) (k:Nat):((L.take k).flatMap (·.M)).length<=9:=by
 have h3:=zao (L:=L.take k) (k:=3) fun a ha=>h2 a (y1h ha)
 have h4:(L.take k).length<=3:=by rw[y13]; omega
 have h5:(L.take k).length * 3<=3 * 3:=yg 3 h4
 omega
variable {l:TLa}
theorem ML.few (h:ML l) (d:Int):WL 53 (forceL l d):=by
 obtain⟨hr,hw,_⟩:=z1s.1 h.ok
 have g1:=h.ll; have g2:=h.cl; have g3:=h.fl
 have hn:(nowC l d).length<=9:=zfq h.al h.ac _
 have h0:WL 44 { l with A:=l.A.drop (laterI l d) }:=⟨hw.lo,by simp only; omega,hw.co,by simp only; omega,hw.fo,by simp only; omega⟩
 have:=z5o (cs:=nowC l d) (fun x hx=>chgG hr.tr (z85 hr d x hx)) h0
 have k1:=this.ll; have k2:=this.cl; have k3:=this.fl
 exact⟨this.lo,by unfold forceL; omega,this.co,by unfold forceL; omega,this.fo,by unfold forceL; omega⟩
theorem ML.nbig (h:ML l) (d:Int):¬ bigL (forceL l d):=by
 have:=h.few d
 have k1:=this.ll; have k2:=this.cl; have k3:=this.fl
 unfold bigL; omega
theorem ML.inS {l:TLa} (h:ML l) {d:Int} (hd:0<=d/\d<=36000):inS l d=(forceL l d,0):=by
 unfold Go.Proofs.YtljnmhapbonmfaaGreatDoor.inS
 rw[y4 h.ok,y3 om,y3 (h.nbig d)]
theorem z6p (he:errL l=0):SmL l:=by
 obtain⟨hr,hw,hb⟩:=z1s.1 he
 obtain⟨f1,f2⟩:=z6n hr
 have hlim:=hr.li
 unfold bigL at hb
 have ht:=hr.tr
 have htl:l.E.length<=60:=by
  unfold treeE at ht
  split at ht
  ·cases ht
  ·omega
 have hE:∀ x∈l.L,z4u l.E x=0:=fun x hx=>by
  obtain⟨i,hi,rfl⟩:=z2o hx
  exact z3p (z10.1 hr.ea i hi)
 have hC:∀ x∈l.O,z1l l.E l.G l.J x=0:=fun x hx=>by
  obtain⟨i,hi,rfl⟩:=z2o hx
  exact z10.1 hr.co i hi
 refine⟨fun x hx=>⟨lenC (hasGood ht (y1m.2 ⟨x,hx,sj⟩)),by have:=nameL (treeName ht x hx); omega⟩,om,fun x hx=>lenC (hw.lo.good x hx),om,fun x hx=>lenC (hw.co.good x hx),om,
  fun x hx=>lenC (hw.fo.good x hx),om,fun x hx=>?_,om,fun x hx=>?_,om,om,fun x hx=>⟨by have:=f2 x hx; omega,fun c hc=>lenC (chgG ht (zdc hr x hx c hc))⟩,om⟩
 ·have:=earG ht (hE x hx)
  exact⟨lenC this.1,lenC this.2⟩
 ·have:=hC x hx
  unfold z1l at this
  split at this
  ·cases this
  ·rename_i hb
   split at this
   ·cases this
   ·rename_i hc
    simp only[y4l,y3b,not_and] at hc
    refine⟨?_,lenC (leafGood hc.1)⟩
    by_cases k2:x.N=2
    ·exact lenC (hasGood ht (hc.2 k2))
    ·unfold condBad at hb
     have:x.T=[]:=by
      by_cases h:x.T=[]
      ·exact h
      ·exact absurd (.inr (.inl ⟨om,.inl h⟩)) hb
     rw[this]; simp
end Go.Proofs.YtljnmhapbonmfaaGreatDoor
/- Trees that are made of few codes: their leaves. No condition. -/
namespace Go.Proofs.YtljnmhapbonmfaaGreatDoor
open Go Go.TA
open Go.IntKind (i64)
attribute [-simp] List.getD_eq_getElem?_getD
structure T5 (t:List THe):Prop where
 mt:MT t
 cl:CL (t.map (·.B))
 le:t.length<=10
 h1:([49]:Y8)∈t.map (·.B)
 h9:([57]:Y8)∈t.map (·.B)
variable {s:TTape}
theorem zfr (hs:TapeOk s):∃ t s',F_q4 5 s=some (t,s')/\TapeOk s'/\T5 t:=by
 have w7:i64.wrap (5+1)=6:=by rw[wrapId om om]; rfl
 obtain⟨v0,s1,e1,o1,l1,u1⟩:=zi (n:=6) hs om om
 simp only[F_q4,S_q4,Scr.den,w7,e1,obind]
 -- the first loop
 obtain⟨st,e2,⟨o2,c2,g2,h2,q49⟩⟩:=z1b (step:=fun s=>(S_q4_b1 s).den) (fun s=>s.2.2.toNat)
  (fun s=>TapeOk s.1/\CL s.2.1/\1<=s.2.1.length/\(s.2.1.length:Int)+max s.2.2 0<=7/\s.2.2<=5/\([49]:Y8)∈s.2.1) (fun s=>TapeOk s.1/\CL s.2.1/\1<=s.2.1.length/\s.2.1.length<=7/\([49]:Y8)∈s.2.1) (fun s ⟨o,c,g,h,h6,k49⟩=>by
   simp only[S_q4_b1,Scr.den]
   by_cases hp:s.2.2>0
   ·left
    obtain⟨v,s',e,o',a1,a2⟩:=zi (n:=(s.2.1.length:Int)) o om om
    have hv:v.toNat<s.2.1.length:=om
    have hg:=c.gd _ (z4 hv)
    have hm:=z4 hv
    have w1:i64.wrap (s.2.2-1)=s.2.2-1:=wrapId om om
    rw[y4 (by simpa using hp)]
    simp only[e,obind,z5b hg,w1]
    rw[z3 ⟨a1,hv,trivial⟩]
    by_cases h3:(parts (s.2.1.getD v.toNat dF)).length>=3
    ·rw[y4 (by simp only[y5]; omega)]
     exact⟨_,rfl,⟨o',c,g,by simp only; omega,by simp only; omega,k49⟩,by simp only; omega⟩
    ·rw[y3 (by simp only[y5]; omega)]
     obtain⟨n,s'',e',o'',hn⟩:=z14 (l:=[1,2,3,10]) o' sj sj
     obtain⟨k1,k2,k3⟩:=zj6 hg om hn
     simp only[e',obind,k1]
     rw[Gb,zap c om k2,obind]
     have hl:=z7o s.2.1 (s.2.1.getD v.toNat dF++46 :: Lib.decDigits n.toNat)
     exact⟨_,rfl,⟨o'',z91 c k2 (by rw[k3]; exact .inr hm),by simp only; omega,by simp only; omega,by simp only; omega,z4k.2 (.inr k49)⟩,by simp only; omega⟩
   ·right
    rw[y3 (by simpa using hp)]
    exact⟨_,rfl,o,c,g,by simp only; omega,k49⟩) _ (s1,[[49],[50]],v0) (y2v _)
  ⟨o1,CL0,sj,by simp only[yp,y1d]; omega,by simp only; omega,sj⟩
 rw[e2]
 simp only[outM]
 obtain⟨v3,s3,e3,o3,l3,u3⟩:=zi (n:=3) o2 om om
 have hg9:good [57]=true:=dk
 rw[zap c2 om hg9,obind,e3,obind]
 have c3:CL (withS st.2.1 [57]):=z91 c2 hg9 (by left; decide)
 have hl9:=z7o st.2.1 [57]
 have m9:([57]:Y8)∈withS st.2.1 [57]:=z4k.2 (.inl rfl)
 obtain⟨sv,e4,⟨o4,c4,g4,h4,f9,f1⟩⟩:=z1b (step:=fun s=>(S_q4_b2 s).den) (fun s=>s.2.2.toNat)
  (fun s=>TapeOk s.1/\CL s.2.1/\1<=s.2.1.length/\(s.2.1.length:Int)+max s.2.2 0<=10/\s.2.2<=3/\([57]:Y8)∈s.2.1/\([49]:Y8)∈s.2.1) (fun s=>TapeOk s.1/\CL s.2.1/\1<=s.2.1.length/\s.2.1.length<=10/\([57]:Y8)∈s.2.1/\([49]:Y8)∈s.2.1) (fun s ⟨o,c,g,h,h6,h9,k49⟩=>by
   simp only[S_q4_b2,Scr.den]
   by_cases hp:s.2.2>0
   ·left
    obtain⟨v,s',e,o',a1,a2⟩:=zi (n:=2) o om om
    have w1:i64.wrap (s.2.2-1)=s.2.2-1:=wrapId om om
    rw[y4 (by simpa using hp)]
    simp only[e,obind,w1]
    have hv:v.toNat<([[57,46,49],[57,46,50]]:List Y8).length:=by simp only[yp,y1d]; omega
    have hx:∀ x∈([[57,46,49],[57,46,50]]:List Y8),good x=true/\par x=[57]:=dk
    obtain⟨k1,k2⟩:=hx _ (z4 hv)
    rw[zap c om k1,obind,z3 ⟨a1,om,trivial⟩]
    have hl:=z7o s.2.1 (([[57,46,49],[57,46,50]]:List Y8).getD v.toNat dF)
    exact⟨_,rfl,⟨o',z91 c k1 (by rw[k2]; exact .inr h9),by simp only; omega,by simp only; omega,by simp only; omega,z4k.2 (.inr h9),z4k.2 (.inr k49)⟩,by simp only; omega⟩
   ·right
    rw[y3 (by simpa using hp)]
    exact⟨_,rfl,o,c,g,by simp only; omega,h9,k49⟩) _ (s3,withS st.2.1 [57],v3) (y2v _)
  ⟨o3,c3,by simp only; omega,by simp only; omega,by simp only; omega,m9,z4k.2 (.inr q49)⟩
 rw[e4]
 simp only
 obtain⟨sw,e5,⟨o5,h5,h6⟩⟩:=zl (body:=fun i s=>(S_q4_b3 sv i s).den) (n:=sv.2.1.length) (fun i s=>TapeOk s.1/\s.2.map (·.B)=sv.2.1.take i/\∀ h∈s.2,nameOk h.X=true) (s0:=(sv.1,[])) ⟨o4,rfl,sj⟩ (fun i s hi ⟨o,h,hn⟩=>by
  obtain⟨v,s',e,o',a1,a2⟩:=zi (n:=5) o om om
  have hlen:s.2.length<=10:=by
   have:=congrArg List.length h
   rw[y1g,y13] at this
   omega
  simp only[S_q4_b3,Scr.den,e,obind]
  rw[z3 ⟨a1,om,om,trivial⟩]
  refine⟨_,rfl,o',?_,fun x hx=>?_⟩
  ·rw[y30,h,yw hi,za hi]; rfl
  ·rcases y12.1 hx with hx | hx
   ·exact hn x hx
   ·have hx':x=⟨sv.2.1.getD i dF,([[115,99,104,111,111,108,115],[114,111,97,100,115],[99,111,117,114,116,32,111,102,32,97,117,100,105,116],[97],[116,97,120]]:List Y8).getD v.toNat dF⟩:=by simpa using hx
    rw[hx']
    have hall:∀ x∈([[115,99,104,111,111,108,115],[114,111,97,100,115],[99,111,117,114,116,32,111,102,32,97,117,100,105,116],[97],[116,97,120]]:List Y8),nameOk x=true:=dk
    exact hall _ (z4 (by simp only[yp,y1d]; omega)))
 rw[e5]
 simp only
 have h5':sw.2.map (·.B)=sv.2.1:=by rw[h5,y1z]
 have hlen:sw.2.length=sv.2.1.length:=by have:=congrArg List.length h5'; rwa [y1g] at this
 rw[Ga]
 refine⟨_,_,rfl,o5,⟨⟨?_,om,om⟩,by rw[h5']; exact c4,om,by rw[h5']; exact f1,by rw[h5']; exact f9⟩⟩
 unfold treeE
 rw[y3 om,z10]
 intro i hi
 have hcode:∀ j,j<sw.2.length->(sw.2.getD j dF).B=sv.2.1.getD j dF:=fun j hj=>by
  rw[<- h5',za hj,za (by rw[y1g]; exact hj),y3w]
 have hg:good (sw.2.getD i dF).B=true:=by rw[hcode i hi]; exact c4.gd _ (z4 om)
 unfold headE
 rw[y3 (by simp[hg]),y3 (by simp[h6 _ (z4 hi)]),y3,y3]
 ·rintro⟨q1,q2⟩
  rw[hcode i hi] at q1 q2
  rcases c4.pa _ (z4 (show i<sv.2.1.length from om)) with h | h
  ·exact q1 h
  ·rw[<- h5'] at h
   obtain⟨y,hy,e⟩:=yv.1 h
   have:has sw.2 (par (sv.2.1.getD i dF))=true:=by
    unfold has
    rw[<- h5']
    exact y1m.2 ⟨y,hy,by simpa using e⟩
   rw[this] at q2; cases q2
 ·rintro⟨q1,q2⟩
  rw[hcode i hi,hcode (i-1) om] at q2
  have:=y1u.1 c4.pw (i-1) i om om om
  rw[za (show i<sv.2.1.length from om),za (show i-1<sv.2.1.length from om)] at q2
  exact q2 (y3a this)
variable {t:List THe} {c:Y8}
theorem z49:has t c=true↔c∈t.map (·.B):=by
 unfold has
 rw[y1m,yv]
 exact⟨fun⟨x,hx,e⟩=>⟨x,hx,by simpa using e⟩,fun⟨x,hx,e⟩=>⟨x,hx,by simpa using e⟩⟩
theorem zaq (c:Y8):∀ k,0<ldot c k->ldot c k<k/\(c.getD (ldot c k) 0).toNat=46
 | 0,h=>by simp[ldot] at h
 | k+1,h=>by
  unfold ldot at h |-
  split
  ·rename_i e; exact⟨y2v _,e⟩
  ·rename_i e
   rw[y3 e] at h
   obtain⟨a,b⟩:=zaq c k h
   exact⟨om,b⟩
variable {top:Y8}
theorem zar {x:Y8} (hx:good x=true) (hp:par x≠[]) (h:und (par x) top=true):und x top=true/\(par x).length<x.length:=by
 unfold par at hp h |-
 rw[y4 hx] at hp h |-
 obtain⟨k,hk⟩:∃ k,k=ldot x x.length:=⟨_,rfl⟩
 rw[<- hk] at hp h |-
 have hk0:0<k:=by
  rcases y2r k with e | e
  ·rw[e] at hp; simp at hp
  ·exact e
 obtain⟨h1,h2⟩:=zaq x x.length om
 rw[<- hk] at h1 h2
 have hl:(x.take k).length=k:=by rw[y13]; omega
 refine⟨?_,by rw[hl]; exact h1⟩
 unfold und at h |-
 simp only[y6,yc,y5,ym] at h |-
 obtain⟨⟨⟨⟨g1,g2⟩,g3⟩,g4⟩,g5⟩:=h
 rw[hl] at g3 g5
 rw[List.take_take,Nat.min_eq_left om] at g4
 refine⟨⟨⟨⟨hx,g2⟩,om⟩,g4⟩,?_⟩
 rcases g5 with g5 | g5
 ·right; rw[<- g5]; exact h2
 ·by_cases e:top.length=k
  ·right; rw[e]; exact h2
  ·right
   have:(x.take k).getD top.length 0=x.getD top.length 0:=by
    simp only[List.getD_eq_getElem?_getD]
    rw[y1j om]
   rw[this] at g5; exact g5
theorem zem (ht:∀ x∈t,good x.B=true) (top:Y8):∀ (n:Nat) (c:Y8),c∈t.map (·.B)->und c top=true->60-c.length<=n->leavesU t top≠[]:=by
 intro n
 induction n with
 | zero =>
  intro c hc hu hn
  obtain⟨x,hx,e⟩:=yv.1 hc
  have hg:=ht x hx
  have h60:=z3c hg
  by_cases hl:t.all (fun y=>!(par y.B==c))=true
  ·exact fun h0=>by
    have:c∈leavesU t top:=by
     unfold leavesU
     rw[yv]
     exact⟨x,y1v.2 ⟨hx,by rw[e] at hg |-; simp only[hg,hu,hl,y4p,y4c]⟩,e⟩
    rw[h0] at this; cases this
  ·rw[y3m,List.all_eq_false] at hl
   obtain⟨y,hy,hl⟩:=hl
   have hpy:par y.B=c:=by simpa using hl
   have hgy:=ht y hy
   have hne:par y.B≠[]:=by rw[hpy]; intro h0; rw[h0] at hu; simp[und,good,goodR] at hu
   have:=(zar hgy hne (by rw[hpy]; exact hu)).2
   rw[hpy] at this
   have:=z3c hgy
   omega
 | succ n ih =>
  intro c hc hu hn
  obtain⟨x,hx,e⟩:=yv.1 hc
  have hg:=ht x hx
  by_cases hl:t.all (fun y=>!(par y.B==c))=true
  ·exact fun h0=>by
    have:c∈leavesU t top:=by
     unfold leavesU
     rw[yv]
     exact⟨x,y1v.2 ⟨hx,by rw[e] at hg |-; simp only[hg,hu,hl,y4p,y4c]⟩,e⟩
    rw[h0] at this; cases this
  ·rw[y3m,List.all_eq_false] at hl
   obtain⟨y,hy,hl⟩:=hl
   have hpy:par y.B=c:=by simpa using hl
   have hgy:=ht y hy
   have hne:par y.B≠[]:=by rw[hpy]; intro h0; rw[h0] at hu; simp[und,good,goodR] at hu
   obtain⟨k1,k2⟩:=zar hgy hne (by rw[hpy]; exact hu)
   rw[hpy] at k2
   exact ih y.B (yv.2 ⟨y,hy,rfl⟩) k1 om
theorem z3g (h:c∈leavesU t top):c∈leavesU t []:=by
 unfold leavesU at h |-
 obtain⟨x,hx,e⟩:=yv.1 h
 obtain⟨hx,hp⟩:=y1v.1 hx
 simp only[y6] at hp
 exact yv.2 ⟨x,y1v.2 ⟨hx,by simp only[hp.1.1,hp.2]; rfl⟩,e⟩
theorem T5.leafs {t:List THe} (h:T5 t):leafs t≠[]:=by
 unfold Go.Proofs.YtljnmhapbonmfaaGreatDoor.leafs
 have:=zem h.mt.good [49] 60 [49] h.h1 dk om
 intro h0
 exact this (List.append_eq_nil_iff.1 h0).1
theorem T5.leaf1 (h:c∈Go.Proofs.YtljnmhapbonmfaaGreatDoor.leafs t):leafT t c=true:=by
 unfold Go.Proofs.YtljnmhapbonmfaaGreatDoor.leafs at h
 rcases y12.1 h with h | h <;> exact zj.1 (z3g h)
theorem T5.Leaf (h:T5 t) (hs:TapeOk s):∃ c s',F_q2c t s=some (c,s')/\TapeOk s'/\leafT t c=true:=by
 obtain⟨c,s',e,o,_,h1⟩:=zhh h.mt hs
 exact⟨c,s',e,o,T5.leaf1 (h1 h.leafs)⟩
theorem T5.leaves (h:T5 t):leavesU t []≠[]:=fun h0=>by
 obtain⟨c,hc⟩:=List.exists_mem_of_ne_nil _ (zem h.mt.good [49] 60 [49] h.h1 dk om)
 have:=z3g hc
 rw[h0] at this; cases this
theorem T5.ord (h:T5 t) (top:Y8):(leavesU t top).Pairwise fun a b=>ltK a b=true:=by
 unfold leavesU
 exact y49 ((List.filter_sublist).map _) h.cl.pw
end Go.Proofs.YtljnmhapbonmfaaGreatDoor
/- The loops that make a law with rules. No condition. -/
namespace Go.Proofs.YtljnmhapbonmfaaGreatDoor
open Go Go.TA
open Go.IntKind (i64)
attribute [-simp] List.getD_eq_getElem?_getD
variable {n:Int}
theorem z9y (h:0<=n) (h':n<18446744073709551616):IntKind.u64.wrap n=n:=by
 show (n % 18446744073709551616:Int)=n
 exact Int.emod_eq_of_lt h h'
theorem z52 {f y x:Int} (hf:0<=f/\f<=100) (hy:1<=y/\y<=100) (hx:x<=1000000):inY f y x=true↔f<=x/\x<f+y:=by
 unfold inY
 by_cases h:x>=f
 ·rw[y11 h,y1s,y5,z9y (n:=x) om om,z9y (n:=f) om om,z9y (n:=x-f) om om,z9y (n:=y) om om]
  omega
 ·rw[y1x h,y2x]
  exact⟨fun e=>(by cases e),fun e=>absurd e.1 om⟩
theorem z4a:amt n=true↔0<=n/\n<=1000000000000:=by
 unfold amt; simp only[y6,y5]
variable {α:Type}
theorem zbt {pl:α->TPl} {l:List α} (h:OrdG pl l) {x:α} (hx:good (pl x).code=true) (hl:∀ a∈l,cmpP (pl a) (pl x)<0):OrdG pl (l++[x]):=by
 refine⟨?_,fun z hz=>?_⟩
 ·unfold PW
  rw[y30,y2a]
  refine⟨h.pw,y2l _ _,fun a ha b hb=>?_⟩
  obtain⟨z,hz,rfl⟩:=yv.1 ha
  obtain rfl:=y10.1 hb
  exact hl z hz
 ·rcases y12.1 hz with hz | hz
  ·exact h.good z hz
  ·obtain rfl:=y10.1 hz
   exact hx
theorem z92 (pl:α->TPl):OrdG pl []:=⟨y3g,sj⟩
variable {a b:TPl}
theorem zen (ha:good a.code=true) (h:ltK a.code b.code=true):cmpP a b<0:=(z47 (.inl ha)).2 (.inl (by simpa [ltK] using h))
theorem zkj (ha:good a.code=true) (h:a.code=b.code) (hy:a.year<b.year):cmpP a b<0:=(z47 (.inl ha)).2 (.inr ⟨by rw[h]; exact z2p _,hy⟩)
theorem zeo {l:List Y8} (h:l.Pairwise fun a b=>ltK a b=true) {i j:Nat} (hij:i<j) (hj:j<l.length):ltK (l.getD i dF) (l.getD j dF)=true:=by
 rw[za om,za hj]
 exact y1u.1 h i j om hj hij
variable {s:TTape}
section
variable {f y:Int} (hf:0<=f/\f<=12) (hy:1<=y/\y<=2) {t:List THe} (ht:T5 t)
include hf hy
theorem ru1 (am:List TAm) (rv:R_q2) (hrv:∀ c∈rv,leafT t c=true) (hp:rv.Pairwise fun a b=>ltK a b=true) (hrl:rv.length<=10) (hs:TapeOk s) :
  ∃ s' ls,rangeM (fun i s=>(S_q0_b2 rv i s).den) rv.length 0 (s,f,y,t,am,[])=some (.next (s',f,y,t,am,ls))/\TapeOk s'/\ls.length<=20/\OrdG plL ls/\∀ x∈ls,z1d t f y x=0:=by
 obtain⟨r,e,h1,h2,h3,h4,h5,h6,h7,h8,_⟩:=zl (body:=fun i s=>(S_q0_b2 rv i s).den) (n:=rv.length)
  (fun i r=>TapeOk r.1/\r.2.1=f/\r.2.2.1=y/\r.2.2.2.1=t/\r.2.2.2.2.1=am/\r.2.2.2.2.2.length<=2 * i/\OrdG plL r.2.2.2.2.2/\(∀ x∈r.2.2.2.2.2,z1d t f y x=0)/\∀ x∈r.2.2.2.2.2,∃ j,j<i/\x.B=rv.getD j dF) (s0:=(s,f,y,t,am,[])) ⟨hs,rfl,rfl,rfl,rfl,sj,z92 _,sj,sj⟩
  (fun i s hi ⟨o,q1,q2,q3,q4,q5,q6,q7,q8⟩=>by
   obtain⟨s0,f0,y0,t0,a0,ls⟩:=s
   simp only at o q1 q2 q3 q4 q5 q6 q7 q8
   subst q1 q2 q3 q4
   have hlf:=hrv _ (z4 hi)
   have hg:=leafGood hlf
   obtain⟨st,e,g1,g2,g3,g4,g5,g6,g7,g8,g9⟩:=z1b (step:=fun s=>(S_q0_b1 rv i s).den) (fun s=>(f0+y0-s.2.2.2.2.2.2).toNat)
    (fun s=>TapeOk s.1/\s.2.1=f0/\s.2.2.1=y0/\s.2.2.2.1=t0/\s.2.2.2.2.1=a0/\(s.2.2.2.2.2.1.length:Int)<=2 * i+(s.2.2.2.2.2.2-f0)/\OrdG plL s.2.2.2.2.2.1/\(∀ x∈s.2.2.2.2.2.1,z1d t0 f0 y0 x=0)/\(f0<=s.2.2.2.2.2.2/\s.2.2.2.2.2.2<=f0+y0)/\∀ x∈s.2.2.2.2.2.1,(∃ j,j<i/\x.B=rv.getD j dF)\/(x.B=rv.getD i dF/\x.D<s.2.2.2.2.2.2))
    (fun s=>TapeOk s.1/\s.2.1=f0/\s.2.2.1=y0/\s.2.2.2.1=t0/\s.2.2.2.2.1=a0/\(s.2.2.2.2.2.1.length:Int)<=2 * i+2/\OrdG plL s.2.2.2.2.2.1/\(∀ x∈s.2.2.2.2.2.1,z1d t0 f0 y0 x=0)/\∀ x∈s.2.2.2.2.2.1,∃ j,j<i+1/\x.B=rv.getD j dF) (fun s ⟨o,q1,q2,q3,q4,q5,q6,q7,q8,q9⟩=>by
     obtain⟨s0,f1,y1,t1,a1,ls,yy⟩:=s
     simp only at o q1 q2 q3 q4 q5 q6 q7 q8 q9
     subst q1 q2 q3 q4
     simp only[S_q0_b1,Scr.den]
     rw[wrapId (n:=f1+y1) om om]
     by_cases hk:yy<f1+y1
     ·left
      rw[y4 (by simpa using hk)]
      obtain⟨n1,s1,e1,o1,l1,u1⟩:=zi (n:=5000) o om om
      obtain⟨n2,s2,e2,o2,m2⟩:=z14 (l:=[100,500,n1]) o1 sj sj
      rw[e1,obind,e2,obind,Ga,wrapId (n:=yy+1) om om]
      have hn2:0<=n2/\n2<=5000:=by simp at m2; omega
      have hE:z1d t1 f1 y1 ⟨rv.getD i dF,yy,n2⟩=0:=by
       have hY:inY f1 y1 yy=true:=(z52 om om om).2 ⟨om,om⟩
       have hA:amt n2=true:=z4a.2 ⟨om,om⟩
       unfold z1d
       rw[y3 (by rw[hlf]; simp),y3 (by rw[hY]; simp),y3 (by rw[hA]; simp)]
      refine⟨_,rfl,⟨o2,rfl,rfl,rfl,rfl,by simp only[yb,yk]; omega,?_,?_,by simp only; omega,?_⟩,by simp only; omega⟩
      ·refine zbt q6 hg fun a ha=>?_
       rcases q9 a ha with ⟨j,hj,e⟩ | ⟨e,h⟩
       ·exact zen (q6.good a ha) (by show ltK a.B (rv.getD i dF)=true; rw[e]; exact zeo hp hj hi)
       ·exact zkj (q6.good a ha) e h
      ·intro x hx
       rcases y12.1 hx with hx | hx
       ·exact q7 x hx
       ·obtain rfl:=y10.1 hx
        exact hE
      ·intro x hx
       rcases y12.1 hx with hx | hx
       ·rcases q9 x hx with h | ⟨h,h'⟩
        ·exact .inl h
        ·exact .inr ⟨h,by simp only; omega⟩
       ·obtain rfl:=y10.1 hx
        exact .inr ⟨rfl,by simp only; omega⟩
     ·right
      rw[y3 (by simpa using hk)]
      refine⟨_,rfl,o,rfl,rfl,rfl,rfl,by simp only; omega,q6,q7,fun x hx=>?_⟩
      rcases q9 x hx with ⟨j,hj,h⟩ | ⟨h,_⟩
      ·exact⟨j,om,h⟩
      ·exact⟨i,om,h⟩) _ (s0,f0,y0,t0,a0,ls,f0) (y2v _)
    ⟨o,rfl,rfl,rfl,rfl,by simp only; omega,q6,q7,by simp only; omega,fun x hx=>.inl (q8 x hx)⟩
   simp only[S_q0_b2,Scr.den]
   rw[e]
   obtain⟨s9,f9,y9,t9,a9,l9,z9⟩:=st
   simp only at g1 g2 g3 g4 g5 g6 g7 g8 g9
   subst g2 g3 g4 g5
   exact⟨_,rfl,g1,rfl,rfl,rfl,rfl,by simp only; omega,g7,g8,g9⟩)
 obtain⟨s9,f9,y9,t9,a9,l9⟩:=r
 simp only at h1 h2 h3 h4 h5 h6 h7 h8
 subst h2 h3 h4 h5
 exact⟨s9,l9,e,h1,om,h7,h8⟩
include ht
theorem ru2 (am:List TAm) (hs:TapeOk s) :
  ∃ s' ru,iterM (fun s=>(S_q0_b3 s).den) (s,f,y,t,am,[],1)=some (.next (s',f,y,t,am,ru,4))/\TapeOk s'/\ru.length=3/\fstE ru.length (ruleE t ru)=0/\∀ x∈ru,1<=x.F/\x.F<=3/\0<=x.R/\x.R<=100/\x.K∈t.map (·.B)/\x.V∈t.map (·.B):=by
 have hge:=ht.mt.ge
 have hle:=ht.le
 obtain⟨st,e,g1,g2,g3,g4,g5,g6,g7,g8,g9⟩:=z1b (step:=fun s=>(S_q0_b3 s).den) (fun s=>(4-s.2.2.2.2.2.2).toNat)
  (fun s=>TapeOk s.1/\s.2.1=f/\s.2.2.1=y/\s.2.2.2.1=t/\s.2.2.2.2.1=am/\(s.2.2.2.2.2.1.length:Int)=s.2.2.2.2.2.2-1/\s.2.2.2.2.2.2<=4/\(∀ j,j<s.2.2.2.2.2.1.length->(s.2.2.2.2.2.1.getD j dF).F=(j:Int)+1)/\∀ x∈s.2.2.2.2.2.1,0<=x.R/\x.R<=100/\x.K∈t.map (·.B)/\x.V∈t.map (·.B))
  (fun s=>TapeOk s.1/\s.2.1=f/\s.2.2.1=y/\s.2.2.2.1=t/\s.2.2.2.2.1=am/\s.2.2.2.2.2.1.length=3/\s.2.2.2.2.2.2=4/\(∀ j,j<s.2.2.2.2.2.1.length->(s.2.2.2.2.2.1.getD j dF).F=(j:Int)+1)/\∀ x∈s.2.2.2.2.2.1,0<=x.R/\x.R<=100/\x.K∈t.map (·.B)/\x.V∈t.map (·.B)) (fun s ⟨o,q1,q2,q3,q4,q5,q6,q7,q8⟩=>by
   obtain⟨s0,f0,y0,t0,a0,ru,i⟩:=s
   simp only at o q1 q2 q3 q4 q5 q6 q7 q8
   subst q1 q2 q3 q4
   simp only[S_q0_b3,Scr.den]
   by_cases hk:i<4
   ·left
    rw[y4 (by simpa using hk)]
    obtain⟨n1,s1,e1,o1,l1,u1⟩:=zi (n:=(t0.length:Int)) o om om
    obtain⟨n2,s2,e2,o2,l2,u2⟩:=zi (n:=(t0.length:Int)) o1 om om
    obtain⟨n3,s3,e3,o3,m3⟩:=z14 (l:=[10,50,100]) o2 sj sj
    rw[e1,obind,e2,obind,e3,obind,z3 ⟨l1,by simp only; omega,l2,by simp only; omega,om,trivial⟩,wrapId (n:=i+1) om om]
    have hn3:0<=n3/\n3<=100:=by simp at m3; omega
    have c1:(t0.getD n1.toNat dF).B∈t0.map (·.B):=yv.2 ⟨_,z4 om,rfl⟩
    have c2:(t0.getD n2.toNat dF).B∈t0.map (·.B):=yv.2 ⟨_,z4 om,rfl⟩
    refine⟨_,rfl,⟨o3,rfl,rfl,rfl,rfl,by simp only[yb,yk]; omega,by simp only; omega,fun j hj=>?_,fun x hx=>?_⟩,by simp only; omega⟩
    ·simp only[yb,yk] at hj
     by_cases hj':j<ru.length
     ·simp only[List.getD_eq_getElem?_getD]
      rw[yj hj']
      have:=q7 j hj'
      simpa only [List.getD_eq_getElem?_getD] using this
     ·have:j=ru.length:=om
      subst this
      simp only[List.getD_eq_getElem?_getD,List.getElem?_concat_length,y3v]
      omega
    ·rcases y12.1 hx with hx | hx
     ·exact q8 x hx
     ·obtain rfl:=y10.1 hx
      exact⟨hn3.1,hn3.2,c1,c2⟩
   ·right
    rw[y3 (by simpa using hk)]
    exact⟨_,rfl,o,rfl,rfl,rfl,rfl,by simp only; omega,by simp only; omega,q7,q8⟩) _ (s,f,y,t,am,[],1) (y2v _)
  ⟨hs,rfl,rfl,rfl,rfl,sj,sj,sj,sj⟩
 obtain⟨s9,f9,y9,t9,a9,ru,i9⟩:=st
 simp only at g1 g2 g3 g4 g5 g6 g7 g8 g9
 subst g2 g3 g4 g5 g7
 refine⟨s9,ru,e,g1,g6,?_,fun x hx=>?_⟩
 ·rw[z10]
  intro i hi
  unfold ruleE
  rw[z3d]
  have h1:=g8 i hi
  obtain⟨h2,h3,h4,h5⟩:=g9 _ (z4 hi)
  refine⟨?_,fun h0=>?_⟩
  ·unfold z62
   rw[y3 om,y3 (by rw[z49.2 h4,z49.2 h5]; simp)]
  ·have h6:=g8 (i-1) om
   rw[y5]; omega
 ·obtain⟨i,hi,rfl⟩:=y2z hx
  have h1:=g8 i hi
  rw[za hi] at h1
  exact⟨om,om,g9 _ hx⟩
theorem ru3 (am:List TAm) (x6:TTape×Int×Int×(List THe)×(List TAm)×(List TLi)) (s7:TTape) (r7:List TRu) (i7:Int) (hs:TapeOk s) :
  ∃ s' fl ce,rangeM (fun i s=>(S_q0_b4 x6 (s7,f,y,t,am,r7,i7) i s).den) t.length 0 (s,f,y,t,am,[],[])=some (.next (s',f,y,t,am,fl,ce))/\TapeOk s'/\fl.length<=10/\ce.length<=10/\OrdG plB fl/\OrdG plB ce/\(∀ x∈fl,zr t f y x=0)/\∀ x∈ce,zr t f y x=0:=by
 have hle:=ht.le
 obtain⟨r,e,h1,h2,h3,h4,h5,h6,h7,h8,h9,h10,h11,_⟩:=zl (body:=fun i s=>(S_q0_b4 x6 (s7,f,y,t,am,r7,i7) i s).den) (n:=t.length)
  (fun i r=>TapeOk r.1/\r.2.1=f/\r.2.2.1=y/\r.2.2.2.1=t/\r.2.2.2.2.1=am/\r.2.2.2.2.2.1.length<=i/\r.2.2.2.2.2.2.length<=i/\OrdG plB r.2.2.2.2.2.1/\OrdG plB r.2.2.2.2.2.2/\(∀ x∈r.2.2.2.2.2.1,zr t f y x=0)/\(∀ x∈r.2.2.2.2.2.2,zr t f y x=0)/\∀ x,x∈r.2.2.2.2.2.1\/x∈r.2.2.2.2.2.2->∃ j,j<i/\x.B=(t.getD j dF).B) (s0:=(s,f,y,t,am,[],[])) ⟨hs,rfl,rfl,rfl,rfl,sj,sj,z92 _,z92 _,sj,sj,sj⟩
  (fun i s hi ⟨o,q1,q2,q3,q4,q5,q6,q7,q8,q9,q10,q11⟩=>by
   obtain⟨s0,f0,y0,t0,a0,fl,ce⟩:=s
   simp only at o q1 q2 q3 q4 q5 q6 q7 q8 q9 q10 q11
   subst q1 q2 q3 q4
   have hc:(t0.getD i dF).B∈t0.map (·.B):=yv.2 ⟨_,z4 hi,rfl⟩
   have hg:good (t0.getD i dF).B=true:=ht.mt.good _ (z4 hi)
   have hlt:∀ x:TBo,(∃ j,j<i/\x.B=(t0.getD j dF).B)->∀ (z:Int) (w:Int),cmpP (plB x) (plB ⟨(t0.getD i dF).B,z,w⟩)<0:=fun x ⟨j,hj,e⟩ z w=>by
    refine zen (by show good x.B=true; rw[e]; exact ht.mt.good _ (z4 om)) ?_
    show ltK x.B (t0.getD i dF).B=true
    rw[e]
    have h1:=y1u.1 ht.cl.pw j i (by rw[y1g]; omega) (by rw[y1g]; omega) hj
    rw[y3w,y3w] at h1
    rw[za om,za hi]
    exact h1
   have hE:∀ z w:Int,z=-1\/z=f0->0<=w/\w<=20000->zr t0 f0 y0 ⟨(t0.getD i dF).B,z,w⟩=0:=fun z w hz hw=>by
    have hA:amt w=true:=z4a.2 ⟨om,om⟩
    unfold zr
    rw[y3 (by rw[z49.2 hc]; simp),y3,y3 (by rw[hA]; simp)]
    rintro⟨a,b⟩
    simp only at a b
    rw[(z52 om om om).2 ⟨om,om⟩] at b
    cases b
   have fin:∀ (s':TTape) (fl' ce':List TBo),TapeOk s'->(fl'=fl\/∃ z w,(z=-1\/z=f0)/\(0<=w/\w<=20000)/\fl'=fl++[⟨(t0.getD i dF).B,z,w⟩])->(ce'=ce\/∃ z w,(z=-1\/z=f0)/\(0<=w/\w<=20000)/\ce'=ce++[⟨(t0.getD i dF).B,z,w⟩]) ->
     TapeOk s'/\f0=f0/\y0=y0/\t0=t0/\a0=a0/\fl'.length<=i+1/\ce'.length<=i+1/\OrdG plB fl'/\OrdG plB ce'/\(∀ x∈fl',zr t0 f0 y0 x=0)/\(∀ x∈ce',zr t0 f0 y0 x=0)/\∀ x,x∈fl'\/x∈ce'->∃ j,j<i+1/\x.B=(t0.getD j dF).B:=fun s' fl' ce' o' hF hC=>by
    have one:∀ (l l':List TBo),l.length<=i->OrdG plB l->(∀ x∈l,zr t0 f0 y0 x=0)->(∀ x∈l,∃ j,j<i/\x.B=(t0.getD j dF).B)->(l'=l\/∃ z w,(z=-1\/z=f0)/\(0<=w/\w<=20000)/\l'=l++[⟨(t0.getD i dF).B,z,w⟩])->l'.length<=i+1/\OrdG plB l'/\(∀ x∈l',zr t0 f0 y0 x=0)/\∀ x∈l',∃ j,j<i+1/\x.B=(t0.getD j dF).B:=fun l l' k1 k2 k3 k4 h=>by
     rcases h with rfl | ⟨z,w,hz,hw,rfl⟩
     ·exact⟨om,k2,k3,fun x hx=>by obtain⟨j,hj,e⟩:=k4 x hx; exact⟨j,om,e⟩⟩
     ·refine⟨by rw[yb,yk]; omega,zbt k2 hg fun a ha=>hlt a (k4 a ha) z w,fun x hx=>?_,fun x hx=>?_⟩
      ·rcases y12.1 hx with hx | hx
       ·exact k3 x hx
       ·obtain rfl:=y10.1 hx
        exact hE z w hz hw
      ·rcases y12.1 hx with hx | hx
       ·obtain⟨j,hj,e⟩:=k4 x hx; exact⟨j,om,e⟩
       ·obtain rfl:=y10.1 hx
        exact⟨i,om,rfl⟩
    obtain⟨a1,a2,a3,a4⟩:=one fl fl' q5 q7 q9 (fun x hx=>q11 x (.inl hx)) hF
    obtain⟨b1,b2,b3,b4⟩:=one ce ce' q6 q8 q10 (fun x hx=>q11 x (.inr hx)) hC
    exact⟨o',rfl,rfl,rfl,rfl,a1,b1,a2,b2,a3,b3,fun x hx=>hx.elim (a4 x) (b4 x)⟩
   simp only[S_q0_b4,Scr.den]
   obtain⟨n1,s1,e1,o1,l1,u1⟩:=zi (n:=6) o om om
   rw[e1,obind]
   have tail:∀ (s1:TTape) (ce':List TBo),TapeOk s1->(ce'=ce\/∃ z w,(z=-1\/z=f0)/\(0<=w/\w<=20000)/\ce'=ce++[⟨(t0.getD i dF).B,z,w⟩]) ->
     ∃ n2 s2,F_q1 8 s1=some (n2,s2)/\(n2≠7->TapeOk s2)/\(n2=7->∃ z s3 w s4,F_q6 [-1,f0] s2=some (z,s3)/\F_q6 [50,400] s3=some (w,s4)/\TapeOk s4/\(z=-1\/z=f0)/\0<=w/\w<=20000):=fun s1 ce' o1 _=>by
    obtain⟨n2,s2,e2,o2,l2,u2⟩:=zi (n:=8) o1 om om
    obtain⟨z,s3,e3,o3,m3⟩:=z14 (l:=[-1,f0]) o2 sj sj
    obtain⟨w,s4,e4,o4,m4⟩:=z14 (l:=[50,400]) o3 sj sj
    exact⟨n2,s2,e2,fun _=>o2,fun _=>⟨z,s3,w,s4,e3,e4,o4,by simpa using m3,by simp at m4; omega,by simp at m4; omega⟩⟩
   by_cases h5:n1=5
   ·rw[y4 (by simpa using h5)]
    obtain⟨z,s3,e3,o3,m3⟩:=z14 (l:=[-1,f0]) o1 sj sj
    obtain⟨w,s4,e4,o4,m4⟩:=z14 (l:=[600,3000,20000]) o3 sj sj
    have hw:0<=w/\w<=20000:=by simp at m4; omega
    have hz:z=-1\/z=f0:=by simpa using m3
    rw[e3,obind,e4,obind,Ga]
    simp only[outM]
    have hC:(ce++[(⟨(t0.getD i dF).B,z,w⟩:TBo)])=ce\/∃ z' w',(z'=-1\/z'=f0)/\(0<=w'/\w'<=20000)/\(ce++[(⟨(t0.getD i dF).B,z,w⟩:TBo)])=ce++[⟨(t0.getD i dF).B,z',w'⟩]:=.inr ⟨z,w,hz,hw,rfl⟩
    obtain⟨n2,s5,e5,o5,k5⟩:=tail s4 _ o4 hC
    rw[e5,obind]
    by_cases h7:n2=7
    ·obtain⟨z',s6,w',s8,e6,e8,o8,hz',hw'⟩:=k5 h7
     rw[y4 (by simpa using h7),e6,obind,e8,obind,Ga]
     exact⟨_,rfl,fin _ _ _ o8 (.inr ⟨z',w',hz',hw',rfl⟩) hC⟩
    ·rw[y3 (by simpa using h7)]
     exact⟨_,rfl,fin _ _ _ (o5 h7) (.inl rfl) hC⟩
   ·rw[y3 (by simpa using h5)]
    simp only[outM]
    obtain⟨n2,s5,e5,o5,k5⟩:=tail s1 ce o1 (.inl rfl)
    rw[e5,obind]
    by_cases h7:n2=7
    ·obtain⟨z',s6,w',s8,e6,e8,o8,hz',hw'⟩:=k5 h7
     rw[y4 (by simpa using h7),e6,obind,e8,obind,Ga]
     exact⟨_,rfl,fin _ _ _ o8 (.inr ⟨z',w',hz',hw',rfl⟩) (.inl rfl)⟩
    ·rw[y3 (by simpa using h7)]
     exact⟨_,rfl,fin _ _ _ (o5 h7) (.inl rfl) (.inl rfl)⟩)
 obtain⟨s9,f9,y9,t9,a9,fl,ce⟩:=r
 simp only at h1 h2 h3 h4 h5 h6 h7 h8 h9 h10 h11
 subst h2 h3 h4 h5
 exact⟨s9,fl,ce,e,h1,om,om,h8,h9,h10,h11⟩
end
end Go.Proofs.YtljnmhapbonmfaaGreatDoor
