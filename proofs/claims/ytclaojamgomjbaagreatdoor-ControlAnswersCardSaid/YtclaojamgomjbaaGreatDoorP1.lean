/- A part of the proof: plain laws of what the functions compute. No condition. -/
import Derived.Test.YtclaojamgomjbaaGreatDoorG6
import Derived.Test.YtclaojamgomjbaaGreatDoorT9
import Derived.Test.YtclaojamgomjbaaGreatDoorT5
namespace Go.Proofs.YtclaojamgomjbaaGreatDoor
open Go Go.TA
def dayP (d:Int):Prop:=0≤d∧d≤35990
def amtP (n:Int):Prop:=1≤n∧n≤1000000000000
instance (d:Int):Decidable (dayP d):=inferInstanceAs (Decidable (_∧_))
instance (d:Int):Decidable (amtP d):=inferInstanceAs (Decidable (_∧_))
def yr (d:Int):Int:=if 0≤d∧d≤36000 then d / 360 else -1
theorem zh5 {d:Int} (h:0≤d∧d≤36000):IntKind.i64.wrap (d.tdiv 360)=d / 360:=by
 rw[Int.tdiv_eq_ediv_of_nonneg h.1,wrapId (by omega) (by omega)]
theorem z2h (d:Int):F_qs d=some (decide (dayP d)):=by
 simp only[F_qs,S_qs,Scr.den,zh]
 exact congrArg some (Bool.eq_iff_iff.mpr (by rw[decide_eq_true_iff (p:=dayP d)]; simp[dayP]))
theorem z1r (d:Int):F_q13 d=some (decide (amtP d)):=by
 simp only[F_q13,S_q13,Scr.den,zh]
 exact congrArg some (Bool.eq_iff_iff.mpr (by rw[decide_eq_true_iff (p:=amtP d)]; simp[amtP]))
theorem z48 (n a b:Int):F_qx n a b=some (decide (a≤n∧n≤b)):=by
 simp only[F_qx,S_qx,Scr.den,zh,ge_iff_le,Bool.decide_and]
theorem zb0 (d:Int):F_q29 d=some (decide (dayP d)):=by
 simp only[F_q29,S_q29,Scr.den,z48,obind]
 rfl
theorem z87 (d:Int):F_q2z d=some (decide (amtP d)):=by
 simp only[F_q2z,S_q2z,Scr.den,z48,obind]
 rfl
theorem z1w (d:Int):F_qt d=some (yr d):=by
 simp only[F_qt,S_qt,F_q1r,S_q1r,Scr.den,obind,zh,yr]
 by_cases h:0≤d∧d≤36000
 ·rw[if_neg (by simp[h]),if_pos h,zh5 h]
 ·rw[if_pos (by simp only[Bool.not_eq_true',Bool.and_eq_false_iff,decide_eq_false_iff_not,ge_iff_le]; omega),if_neg h]
theorem z6i (d:Int):F_q2a d=some (yr d):=by
 simp only[F_q2a,S_q2a,F_q1u,S_q1u,Scr.den,obind,zh,yr]
 by_cases h:0≤d∧d≤36000
 ·rw[if_neg (by simp[h]),if_pos h,zh5 h]
 ·rw[if_pos (by simp only[Bool.not_eq_true',Bool.and_eq_false_iff,decide_eq_false_iff_not,ge_iff_le]; omega),if_neg h]
def cmt (b:TBo) (n:Int):Int:=sm b.Commitments (fun c=>c.Reservation==n) (·.Amount)
def rel (b:TBo) (n:Int):Int:=sm b.Commitments (fun c=>c.Reservation==n) (·.Released)
def ver (b:TBo) (n:Int):Int:=sm b.Verifications (fun v=>v.Commitment==n) (·.Amount)
def leftV (b:TBo) (r:TRe):Int:=IntKind.i64.wrap (r.Amount-r.Released-cmt b r.Number)
def restV (b:TBo) (c:TCo):Int:=IntKind.i64.wrap (c.Amount-c.Released-ver b c.Number)
def leftN (b:TBo) (n:Int):Int:=match b.Reservations.find? (fun r=>r.Number==n) with
 | some r=>leftV b r
 | none=>0
def usedV (b:TBo) (code:List UInt8) (y:Int):Int:=IntKind.i64.wrap (sm b.Reservations (fun r=>r.Code==code&&r.Year==y) (fun r=>r.Amount-r.Released-rel b r.Number))
theorem z88 (b:TBo) (n:Int):F_q1l b n=some (IntKind.i64.wrap (cmt b n),IntKind.i64.wrap (rel b n)):=by
 simp only[F_q1l,S_q1l,Scr.den]
 rw[z1v b.Commitments (fun (s:Int×Int) c=>if (c.Reservation==n)=true then (IntKind.i64.wrap (s.1+c.Amount),IntKind.i64.wrap (s.2+c.Released)) else s)]
 ·simp only[outM]
  have key:∀ (l:List TCo) (x y:Int),l.foldl (fun (s:Int×Int) c=>if (c.Reservation==n)=true then (IntKind.i64.wrap (s.1+c.Amount),IntKind.i64.wrap (s.2+c.Released)) else s) (IntKind.i64.wrap x,IntKind.i64.wrap y)=(IntKind.i64.wrap (x+sm l (fun c=>c.Reservation==n) (·.Amount)),IntKind.i64.wrap (y+sm l (fun c=>c.Reservation==n) (·.Released))):=by
   intro l
   induction l with
   | nil=>intro x y; simp[sm]
   | cons c l ih =>
    intro x y
    rw[List.foldl_cons,z17,z17]
    split
    ·simp only[zco]; rw[ih]; simp only[Int.add_assoc]
    ·rw[ih]; simp
  have e0:IntKind.i64.wrap 0=0:=wrapId (by omega) (by omega)
  have:=key b.Commitments 0 0
  rw[e0] at this
  rw[this]
  simp[cmt,rel]
 ·intro i s hi
  simp only[S_q1l_b1,Scr.den]
  split <;> rfl
theorem zg3 (b:TBo) (r:TRe):F_q3x b r=some (leftV b r):=by
 simp only[F_q3x,S_q3x,Scr.den,z88,obind]
 rw[z30,z5y]
 rfl
theorem zg4 (b:TBo) (n:Int):F_q1v b n=some (IntKind.i64.wrap (ver b n)):=by
 simp only[F_q1v,S_q1v,Scr.den]
 rw[z1v b.Verifications (fun (s:Int) v=>if (v.Commitment==n)=true then IntKind.i64.wrap (s+v.Amount) else s)]
 ·have e0:IntKind.i64.wrap 0=0:=wrapId (by omega) (by omega)
  have:=z84 b.Verifications (fun v=>v.Commitment==n) (·.Amount) 0
  rw[e0] at this
  simp only[outM,this]
  simp[ver]
 ·intro i s hi
  simp only[S_q1v_b1,Scr.den]
  split <;> rfl
theorem znh (b:TBo) (c:TCo):F_q3y b c=some (restV b c):=by
 simp only[F_q3y,S_q3y,Scr.den,zg4,obind]
 rw[z30,z5y]
 rfl
theorem z6c (b:TBo) (c:TCo):F_q15 b c=some (restV b c):=by
 simp only[F_q15,S_q15,Scr.den]
 rw[z1v b.Verifications (fun (s:Int) v=>if (v.Commitment==c.Number)=true then IntKind.i64.wrap (s-v.Amount) else s)]
 ·have:=z86 b.Verifications (fun v=>v.Commitment==c.Number) (·.Amount) (c.Amount-c.Released)
  simp only[outM,this]
  rfl
 ·intro i s hi
  simp only[S_q15_b1,Scr.den]
  split <;> rfl
theorem zi5 {α ρ:Type} [Inhabited α] (l:List α) (p:α→Bool) (v:α→ρ) {body:Nat→Unit→Option (Step Unit ρ)} (hs:∀ i,i<l.length→body i ()=some (if p (l.getD i default)=true then .ret (v (l.getD i default)) else .cont ())) :
  rangeM body l.length 0 ()=some (match l.find? p with | some x=>.ret (v x) | none=>.next ()):=by
 have key:∀ (k i:Nat),i+k=l.length→rangeM body k i ()=some (match (l.drop i).find? p with | some x=>.ret (v x) | none=>.next ()):=by
  intro k
  induction k with
  | zero=>intro i hk; rw[List.drop_of_length_le (by omega)]; rfl
  | succ k ih =>
   intro i hk
   have hi:i<l.length:=by omega
   have e:l.getD i default=l[i]:=by simp[List.getD_eq_getElem?_getD,List.getElem?_eq_getElem hi]
   rw[List.drop_eq_getElem_cons hi]
   simp only[rangeM,hs i hi,List.find?_cons,e]
   cases hp:p l[i] with
   | true=>simp
   | false=>simp only[Bool.false_eq_true,if_false]; exact ih (i+1) (by omega)
 have:=key l.length 0 (by omega)
 simpa using this
theorem z6d (b:TBo) (n:Int):F_qi b n=some (leftN b n):=by
 simp only[F_qi,S_qi,Scr.den]
 rw[zi5 b.Reservations (fun r=>r.Number==n) (leftV b)]
 ·unfold leftN
  cases b.Reservations.find? (fun r=>r.Number==n) <;> rfl
 ·intro i hi
  simp only[S_qi_b2,Scr.den]
  split
  ·rename_i hn
   rw[z1v b.Commitments (fun (s:Int) c=>if (c.Reservation==n)=true then IntKind.i64.wrap (s-c.Amount) else s)]
   ·have:=z86 b.Commitments (fun c=>c.Reservation==n) (·.Amount) ((b.Reservations.getD i default).Amount-(b.Reservations.getD i default).Released)
    simp only[outM,this]
    unfold leftV cmt
    rw[eq_of_beq hn]
   ·intro j s hj
    simp only[S_qi_b1,Scr.den]
    split <;> rfl
  ·rfl
theorem zbs (b:TBo) (code:List UInt8) (y:Int):F_q1n b code y=some (usedV b code y):=by
 simp only[F_q1n,S_q1n,Scr.den]
 rw[z1v b.Reservations (fun (s:Int) r=>if (r.Code==code&&r.Year==y)=true then IntKind.i64.wrap (s+(r.Amount-r.Released-rel b r.Number)) else s)]
 ·have e0:IntKind.i64.wrap 0=0:=wrapId (by omega) (by omega)
  have:=z84 b.Reservations (fun r=>r.Code==code&&r.Year==y) (fun r=>r.Amount-r.Released-rel b r.Number) 0
  rw[e0] at this
  simp only[outM,this]
  simp[usedV]
 ·intro i s hi
  simp only[S_q1n_b1,Scr.den,z88,obind,zh]
  split
  ·rw[z30,z5y,zcp]
  ·rfl
end Go.Proofs.YtclaojamgomjbaaGreatDoor
namespace Go.Proofs.YtclaojamgomjbaaGreatDoor
open Go Go.TA
def goodR:List UInt8→Nat→Nat→Bool
 | [],d,p=>decide (0<d)&&decide (p≤4)
 | c :: l,d,p=>if c.toNat=46 then (if d=0 then false else goodR l 0 (p+1)) else
  if c.toNat<48∨57<c.toNat∨(d=0∧c.toNat=48)∨d=2 then false else goodR l (d+1) p
def dig (c:UInt8):Prop:=48≤c.toNat∧c.toNat≤57
def preOk:List UInt8→Prop
 | []=>True
 | [a]=>dig a∧a.toNat≠48
 | [a,b]=>dig a∧a.toNat≠48∧dig b
 | _=>False
def cntOk (ws:List (List UInt8)) (p:Nat):Bool:=match nums ws with
 | none=>false
 | some ns=>decide (ns.length+p≤5)
theorem z5g (w:List UInt8) (ws:List (List UInt8)) (p:Nat):cntOk (w :: ws) p=match pv w with
  | none=>false
  | some _=>cntOk ws (p+1):=by
 unfold cntOk
 simp only[nums]
 cases pv w with
 | none=>rfl
 | some n =>
  cases nums ws with
  | none=>rfl
  | some ns =>
   simp only[Option.map_some,List.length_cons]
   congr 1
   rw[eq_iff_iff]; omega
theorem z9r:∀ {w:List UInt8},preOk w→w≠[]→∃ n,pv w=some n
 | [a],h,_=>⟨_,by simp only[pv]; rw[if_pos ⟨by have:=h.1.1; have:=h.2; omega,h.1.2⟩]⟩
 | [a,b],h,_=>⟨_,by simp only[pv]; rw[if_pos ⟨⟨by have:=h.1.1; have:=h.2.1; omega,h.1.2⟩,h.2.2⟩]⟩
 | [],_,h=>absurd rfl h
 | _ :: _ :: _ :: _,h,_=>h.elim
theorem zi6 {pre w:List UInt8} {c:UInt8} (hc:¬ dig c):pv (pre++c :: w)=none:=by
 match pre,w with
 | [],[]=>simp only[List.nil_append,pv]; rw[if_neg]; intro h; exact hc ⟨by omega,h.2⟩
 | [],[b]=>simp only[List.nil_append,pv]; rw[if_neg]; intro h; exact hc ⟨by omega,h.1.2⟩
 | [],b :: d :: w=>rfl
 | [a],[]=>simp only[List.cons_append,List.nil_append,pv]; rw[if_neg]; intro h; exact hc h.2
 | [a],b :: w=>rfl
 | [a,b],w=>rfl
 | a :: b :: d :: pre,w=>rfl
theorem zeo {w:List UInt8} {c:UInt8} (hc:c.toNat=48):pv (c :: w)=none:=by
 match w with
 | []=>simp only[pv]; rw[if_neg]; omega
 | [b]=>simp only[pv]; rw[if_neg]; omega
 | b :: d :: w=>rfl
theorem z89:∀ (l pre p0:List UInt8) (ps:List (List UInt8)) (p:Nat),preOk pre→pieces l=p0 :: ps→goodR l pre.length p=cntOk ((pre++p0) :: ps) p
 | [],pre,p0,ps,p,hp,he=>by
  cases he
  rw[List.append_nil,z5g]
  simp only[goodR]
  match pre,hp with
  | [],_=>rfl
  | a :: pre,hp =>
   obtain⟨n,hn⟩:=z9r hp (by simp)
   rw[hn]
   simp[cntOk,nums]
 | c :: l,pre,p0,ps,p,hp,he=>by
  rw[z1u] at he
  simp only[goodR]
  by_cases hc:c.toNat=46
  ·rw[if_pos (by rw[show c=46 from UInt8.toNat_inj.mp hc]; rfl)] at he
   cases he
   rw[if_pos hc,List.append_nil,z5g]
   match pre,hp with
   | [],_=>rfl
   | a :: pre,hp =>
    obtain⟨n,hn⟩:=z9r hp (by simp)
    rw[hn,if_neg (by simp)]
    simp only
    cases hl:pieces l with
    | nil=>exact absurd hl (z1i l)
    | cons q qs =>
     have:=z89 l [] q qs (p+1) trivial hl
     simpa using this
  ·rw[if_neg (by intro h; rw[eq_of_beq h] at hc; exact hc rfl)] at he
   rw[if_neg hc]
   cases hl:pieces l with
   | nil=>exact absurd hl (z1i l)
   | cons q qs =>
    rw[hl] at he
    injection he with e1 e2
    subst e1
    subst e2
    have ih:=z89 l (pre++[c]) q qs p
    by_cases hd:dig c
    ·match pre,hp with
     | [],_ =>
      by_cases h0:c.toNat=48
      ·rw[if_pos (by right; right; left; exact⟨rfl,h0⟩),z5g,List.nil_append,zeo h0]
      ·rw[if_neg (by have:=hd.1; have:=hd.2; simp; omega)]
       exact ih ⟨hd,h0⟩ hl
     | [a],hp =>
      rw[if_neg (by have:=hd.1; have:=hd.2; simp; omega)]
      have:=ih ⟨hp.1,hp.2,hd⟩ hl
      simpa using this
     | [a,b],hp =>
      rw[if_pos (by right; right; right; rfl),z5g]
      rfl
     | _ :: _ :: _ :: _,hp=>exact hp.elim
    ·rw[if_pos (by unfold dig at hd; omega),z5g,zi6 hd]
theorem z49:∀ {ws:List (List UInt8)} {ns:List Int},nums ws=some ns→ns.length=ws.length
 | [],ns,h=>by cases h; rfl
 | w :: ws,ns,h=>by
  simp only[nums] at h
  split at h
  ·cases h
  ·cases hn:nums ws with
   | none=>rw[hn] at h; cases h
   | some ms =>
    rw[hn] at h
    cases h
    simp[z49 hn]
def good (l:List UInt8):Bool:=goodR l 0 1
theorem z4t (l:List UInt8):decide ((parts l).length>0)=good l:=by
 unfold good
 cases hl:pieces l with
 | nil=>exact absurd hl (z1i l)
 | cons q qs =>
  have:=z89 l [] q qs 1 trivial hl
  simp only[List.length_nil,List.nil_append] at this
  rw[this]
  unfold parts cntOk
  rw[hl]
  cases hn:nums (q :: qs) with
  | none=>rfl
  | some ns =>
   have h1:=z49 hn
   simp only[List.length_cons] at h1
   simp only
   by_cases h4:ns.length>4
   ·simp only[if_pos h4]; simp; omega
   ·simp only[if_neg h4]; rw[Bool.eq_iff_iff]; simp; omega
theorem z3e {l:List UInt8} (hl:l.length<4611686018427387904):F_ql l=some (good l):=by
 simp only[F_ql,S_ql,Scr.den,zh]
 generalize hF:(fun s=>(S_ql_b1 l s).den)=F
 have key:∀ (k i d p:Nat),i+k=l.length→d≤i→p≤i+1→outM (iterM F ((d:Int),(p:Int),(i:Int))) (fun s=>some (decide (s.1>0)&&decide (s.2.1≤4))) (fun x=>some (id x))=some (goodR (l.drop i) d p):=by
  intro k
  induction k with
  | zero =>
   intro i d p hk hd hp
   rw[z16,List.drop_of_length_le (by omega),← hF]
   simp only[S_ql_b1,Scr.den]
   rw[if_neg (by simp; omega)]
   simp only[outM,goodR]
   congr 1
   rw[Bool.eq_iff_iff]; simp; omega
  | succ k ih =>
   intro i d p hk hd hp
   have hi:i<l.length:=by omega
   have ei:l.getD i 0=l[i]:=by simp[List.getD_eq_getElem?_getD,List.getElem?_eq_getElem hi]
   rw[z16,List.drop_eq_getElem_cons hi,← congrFun hF]
   simp only[S_ql_b1,Scr.den,Int.toNat_natCast,ei,zh,zl]
   generalize hcc:l[i]=c
   rw[if_pos (by simp; omega),za ⟨by omega,hi,trivial⟩]
   have w1:IntKind.i64.wrap ((p:Int)+1)=((p+1:Nat):Int):=by rw[wrapId (by omega) (by omega)]; omega
   have w2:IntKind.i64.wrap ((i:Int)+1)=((i+1:Nat):Int):=by rw[wrapId (by omega) (by omega)]; omega
   have w3:IntKind.i64.wrap ((d:Int)+1)=((d+1:Nat):Int):=by rw[wrapId (by omega) (by omega)]; omega
   simp only[w1,w2,w3,goodR]
   by_cases hc:c.toNat=46
   ·rw[if_pos (by simp[hc]),if_pos hc]
    by_cases h0:d=0
    ·rw[if_pos (by simp[h0]),if_pos h0]; rfl
    ·rw[if_neg (by simpa using h0),if_neg h0]
     have h:=ih (i+1) 0 (p+1) (by omega) (by omega) (by omega)
     rw[show ((0:Nat):Int)=0 from rfl] at h
     exact h
   ·rw[if_neg (by simp; omega),if_neg hc,za ⟨fun _=>by omega,fun _=>hi,fun _=>by omega,fun _=>hi,trivial⟩]
    by_cases hb:c.toNat<48∨57<c.toNat∨(d=0∧c.toNat=48)∨d=2
    ·rw[if_pos (by simp; omega),if_pos hb]; rfl
    ·rw[if_neg (by simp; omega),if_neg hb]
     exact ih (i+1) (d+1) p (by omega) (by omega) (by omega)
 exact key l.length 0 0 1 (by omega) (by omega) (by omega)
theorem z5h {l:List UInt8} (hl:l.length≤1099511627776):F_q52 l=some (parts l):=by
 unfold F_q52
 exact zcn hl rfl
end Go.Proofs.YtclaojamgomjbaaGreatDoor
namespace Go.Proofs.YtclaojamgomjbaaGreatDoor
open Go Go.TA
def lexC:List Int→List Int→Int
 | [],[]=>0
 | [],_ :: _=>-1
 | _ :: _,[]=>1
 | a :: x,b :: y=>if a<b then -1 else if a>b then 1 else lexC x y
theorem zcr:∀ x,lexC x x=0
 | []=>rfl
 | a :: x=>by simp[lexC,zcr x]
theorem z55:∀ {x y:List Int},lexC x y=0→x=y
 | [],[],_=>rfl
 | [],_ :: _,h=>by simp[lexC] at h
 | _ :: _,[],h=>by simp[lexC] at h
 | a :: x,b :: y,h=>by
  simp only[lexC] at h
  split at h
  ·omega
  ·split at h
   ·omega
   ·rw[z55 h,show a=b by omega]
theorem zcs:∀ x y:List Int,lexC y x=-lexC x y
 | [],[]=>rfl
 | [],_ :: _=>rfl
 | _ :: _,[]=>rfl
 | a :: x,b :: y=>by
  simp only[lexC]
  by_cases h1:a<b
  ·rw[if_pos h1,if_neg (by omega),if_pos (by omega)]; rfl
  ·by_cases h2:a>b
   ·rw[if_pos (by omega),if_neg h1,if_pos h2]
   ·rw[if_neg h1,if_neg h2,if_neg (by omega),if_neg (by omega),zcs x y]
theorem zb1:∀ {x y z:List Int},lexC x y<0→lexC y z<0→lexC x z<0
 | [],_,[],h,h'=>by
  rename_i y
  cases y with
  | nil=>simp[lexC] at h
  | cons b y=>simp[lexC] at h'
 | [],_,c :: z,_,_=>by simp[lexC]
 | a :: x,[],_,h,_=>by simp[lexC] at h
 | a :: x,b :: y,[],_,h'=>by simp[lexC] at h'
 | a :: x,b :: y,c :: z,h,h'=>by
  simp only[lexC] at h h' ⊢
  by_cases h1:a<b
  ·by_cases h2:b<c
   ·rw[if_pos (by omega)]; omega
   ·rw[if_neg h2] at h'
    by_cases h3:b>c
    ·rw[if_pos h3] at h'; omega
    ·rw[if_pos (by omega)]; omega
  ·rw[if_neg h1] at h
   by_cases h2:a>b
   ·rw[if_pos h2] at h; omega
   ·rw[if_neg h2] at h
    by_cases h3:b<c
    ·rw[if_pos (by omega)]; omega
    ·rw[if_neg h3] at h'
     by_cases h4:b>c
     ·rw[if_pos h4] at h'; omega
     ·rw[if_neg h4] at h'
      rw[if_neg (by omega),if_neg (by omega)]
      exact zb1 h h'
theorem zoo:∀ {w w':List UInt8} {n:Int},pv w=some n→pv w'=some n→w=w'
 | [],_,_,h,_=>by simp[pv] at h
 | [a],[],_,_,h=>by simp[pv] at h
 | [a,b],[],_,_,h=>by simp[pv] at h
 | [a],[c],n,h,h'=>by
  simp only[pv] at h h'
  split at h <;> split at h' <;> simp at h h'
  have:a.toNat=c.toNat:=by omega
  rw[UInt8.toNat_inj.1 this]
 | [a],[c,d],n,h,h'=>by
  simp only[pv] at h h'
  split at h <;> split at h' <;> simp at h h'
  omega
 | [a,b],[c],n,h,h'=>by
  simp only[pv] at h h'
  split at h <;> split at h' <;> simp at h h'
  omega
 | [a,b],[c,d],n,h,h'=>by
  simp only[pv] at h h'
  split at h <;> split at h' <;> simp at h h'
  have h1:a.toNat=c.toNat:=by omega
  have h2:b.toNat=d.toNat:=by omega
  rw[UInt8.toNat_inj.1 h1,UInt8.toNat_inj.1 h2]
 | _ :: _ :: _ :: _,_,_,h,_=>by simp[pv] at h
 | _,_ :: _ :: _ :: _,_,_,h=>by simp[pv] at h
theorem zep:∀ {ws ws':List (List UInt8)} {ns:List Int},nums ws=some ns→nums ws'=some ns→ws=ws'
 | [],[],_,_,_=>rfl
 | [],w :: ws,ns,h,h'=>by
  have h1:=z49 h; have h2:=z49 h'; simp only[List.length_nil,List.length_cons] at h1 h2; omega
 | w :: ws,[],ns,h,h'=>by
  have h1:=z49 h; have h2:=z49 h'; simp only[List.length_nil,List.length_cons] at h1 h2; omega
 | w :: ws,w' :: ws',ns,h,h'=>by
  simp only[nums] at h h'
  split at h
  ·cases h
  ·rename_i n hn
   split at h'
   ·cases h'
   ·rename_i n' hn'
    cases hm:nums ws with
    | none=>rw[hm] at h; cases h
    | some ms =>
     cases hm':nums ws' with
     | none=>rw[hm'] at h'; cases h'
     | some ms' =>
      rw[hm] at h; rw[hm'] at h'
      simp only[Option.map_some,Option.some.injEq] at h h'
      rw[← h] at h'
      simp only[List.cons.injEq] at h'
      obtain⟨rfl,rfl⟩:=h'
      rw[zoo hn hn',zep hm hm']
theorem z77:∀ {l l':List UInt8},pieces l=pieces l'→l=l'
 | [],[],_=>rfl
 | [],b :: m,h=>by
  rw[z1u] at h
  split at h
  ·simp[pieces] at h; first | exact absurd h (z1i m) | exact absurd h.symm (z1i m)
  ·split at h <;> simp[pieces] at h
 | b :: m,[],h=>by
  rw[z1u] at h
  split at h
  ·simp[pieces] at h; first | exact absurd h (z1i m) | exact absurd h.symm (z1i m)
  ·split at h <;> simp[pieces] at h
 | b :: l,c :: m,h=>by
  rw[z1u,z1u] at h
  cases hl:pieces l with
  | nil=>exact absurd hl (z1i l)
  | cons p ps =>
   cases hm:pieces m with
   | nil=>exact absurd hm (z1i m)
   | cons q qs =>
    rw[hl,hm] at h
    by_cases hb:(b==46)=true
    ·by_cases hc:(c==46)=true
     ·rw[if_pos hb,if_pos hc] at h
      have e:pieces l=pieces m:=by rw[hl,hm]; simpa using h
      rw[z77 e,show b=c by rw[eq_of_beq hb,eq_of_beq hc]]
     ·rw[if_pos hb,if_neg hc] at h; simp at h
    ·by_cases hc:(c==46)=true
     ·rw[if_neg hb,if_pos hc] at h; simp at h
     ·rw[if_neg hb,if_neg hc] at h
      simp only[List.cons.injEq] at h
      obtain⟨⟨rfl,rfl⟩,rfl⟩:=h
      rw[z77 (hl.trans hm.symm)]
theorem z2p {l:List UInt8} (h:good l=true):nums (pieces l)=some (parts l)∧0<(parts l).length∧(parts l).length≤4:=by
 rw[← z4t] at h
 have h0:0<(parts l).length:=by simpa using h
 unfold parts at h0 ⊢
 split at h0
 ·simp at h0
 ·rename_i ns hn
  split at h0
  ·simp at h0
  ·rename_i h4
   rw[hn]
   simp only[if_neg h4]
   exact⟨trivial,h0,by omega⟩
theorem zct {l l':List UInt8} (h:good l=true) (h':good l'=true) (e:parts l=parts l'):l=l' :=
 z77 (zep (z2p h).1 (e▸(z2p h').1))
def valW (w:List UInt8):Int:=w.foldl (fun n c=>10 * n+((c.toNat:Int)-48)) 0
theorem zeq:∀ {w:List UInt8} {n:Int},pv w=some n→valW w=n∧1≤w.length∧w.length≤2∧(w.getD 0 0).toNat≠48∧∀ c∈w,48≤c.toNat∧c.toNat≤57
 | [],_,h=>by simp[pv] at h
 | [a],n,h=>by
  simp only[pv] at h
  split at h <;> simp at h
  rename_i h1
  refine⟨by simp[valW]; omega,by simp,by simp,by simp; omega,fun c hc=>by simp at hc; subst hc; omega⟩
 | [a,b],n,h=>by
  simp only[pv] at h
  split at h <;> simp at h
  rename_i h1
  refine⟨by simp[valW]; omega,by simp,by simp,by simp; omega,fun c hc=>?_⟩
  simp at hc
  rcases hc with rfl | rfl <;> omega
 | _ :: _ :: _ :: _,_,h=>by simp[pv] at h
theorem z5i {l:List UInt8} (h:good l=true):l.length≤11:=by
 have key:∀ (l:List UInt8) (ns:List Int),nums (pieces l)=some ns→l.length+1≤3 * ns.length:=by
  intro l
  suffices H:∀ (l p0:List UInt8) (ps:List (List UInt8)),pieces l=p0 :: ps→l.length=p0.length+(ps.map fun q=>q.length+1).sum by
   intro ns hn
   cases hp:pieces l with
   | nil=>exact absurd hp (z1i l)
   | cons p0 ps =>
    rw[hp] at hn
    rw[H l p0 ps hp]
    have hall:∀ (ws:List (List UInt8)) (ms:List Int),nums ws=some ms→(ws.map fun q=>q.length+1).sum≤3 * ms.length:=by
     intro ws
     induction ws with
     | nil=>intro ms hm; simp
     | cons w ws ih =>
      intro ms hm
      simp only[nums] at hm
      split at hm
      ·cases hm
      ·rename_i n hpv
       cases hw:nums ws with
       | none=>rw[hw] at hm; cases hm
       | some ks =>
        rw[hw] at hm; cases hm
        have:=ih ks hw
        have:=(zeq hpv).2.2.1
        simp only[List.map_cons,List.sum_cons,List.length_cons]
        omega
    have:=hall _ _ hn
    simp only[List.map_cons,List.sum_cons] at this
    omega
  intro l
  induction l with
  | nil=>intro p0 ps hp; simp[pieces] at hp; obtain⟨rfl,rfl⟩:=hp; simp
  | cons b l ih =>
   intro p0 ps hp
   rw[z1u] at hp
   cases hl:pieces l with
   | nil=>exact absurd hl (z1i l)
   | cons q qs =>
    have:=ih q qs hl
    rw[hl] at hp
    split at hp
    ·simp only[List.cons.injEq] at hp
     obtain⟨rfl,rfl⟩:=hp
     simp only[List.length_cons,List.length_nil,List.map_cons,List.sum_cons]; omega
    ·simp only[List.cons.injEq] at hp
     obtain⟨rfl,rfl⟩:=hp
     simp only[List.length_cons]; omega
 obtain⟨h1,h2,h3⟩:=z2p h
 have:=key l _ h1
 omega
end Go.Proofs.YtclaojamgomjbaaGreatDoor
namespace Go.Proofs.YtclaojamgomjbaaGreatDoor
open Go Go.TA
def cmpI (a b:Int):Int:=if a<b then -1 else if a>b then 1 else 0
theorem zbt (a b:Int):F_q32 a b=some (cmpI a b):=by
 simp only[F_q32,S_q32,F_q45,S_q45,Scr.den,obind,cmpI,bne_self_eq_false,Bool.false_eq_true,if_false,decide_eq_true_eq]
 by_cases h1:a<b
 ·rw[if_pos h1,if_pos h1]
 ·rw[if_neg h1,if_neg h1]
  by_cases h2:a>b
  ·rw[if_pos h2,if_pos h2]
  ·rw[if_neg h2,if_neg h2]
theorem z8y {l:List Int} {i:Nat} (hi:i<l.length):l.getD i default=l[i]:=by simp[List.getD_eq_getElem?_getD,List.getElem?_eq_getElem hi]
theorem zab (x y:List Int):F_q1m x y=some (lexC x y):=by
 simp only[F_q1m,S_q1m,Scr.den]
 generalize hB:(fun i s=>(S_q1m_b1 x y i s).den)=B
 have key:∀ (k i:Nat),i+k=x.length→i≤y.length→outM (rangeM B k i ()) (fun _=>if decide ((x.length:Int)<(y.length:Int))=true then some (-1) else some 0) (fun r=>some (id r))=some (lexC (x.drop i) (y.drop i)):=by
  intro k
  induction k with
  | zero =>
   intro i hk hy
   rw[List.drop_of_length_le (by omega)]
   by_cases h:y.length≤i
   ·rw[List.drop_of_length_le h]
    simp only[rangeM,outM]
    rw[if_neg (by simp; omega)]
    rfl
   ·rw[List.drop_eq_getElem_cons (by omega:i<y.length)]
    simp only[rangeM,outM]
    rw[if_pos (by simp; omega)]
    rfl
  | succ k ih =>
   intro i hk hy
   have hi:i<x.length:=by omega
   rw[List.drop_eq_getElem_cons hi]
   simp only[rangeM]
   rw[← congrFun (congrFun hB i) ()]
   simp only[S_q1m_b1,Scr.den]
   by_cases h:y.length≤i
   ·rw[if_pos (by simp; omega),List.drop_of_length_le h]
    rfl
   ·have hj:i<y.length:=by omega
    rw[if_neg (by simp; omega),za ⟨hj,trivial⟩,List.drop_eq_getElem_cons hj]
    simp only[zbt,obind,z8y hi,z8y hj,lexC,cmpI]
    by_cases h1:x[i]<y[i]
    ·simp only[if_pos h1]; rfl
    ·simp only[if_neg h1]
     by_cases h2:x[i]>y[i]
     ·simp only[if_pos h2]; rfl
     ·simp only[if_neg h2]
      exact ih (i+1) (by omega) (by omega)
 have:=key x.length 0 (by omega) (by omega)
 simpa using this
def strC (a b:List UInt8):Int:=if Op.bytesLess a b=true then -1 else if (!(Op.bytesLess a b||a==b))=true then 1 else 0
def cmpC (a b:List UInt8):Int:=if (parts a).length=0∧(parts b).length=0 then strC a b else lexC (parts a) (parts b)
theorem zi7 {a b:List UInt8} (ha:a.length≤1000000) (hb:b.length≤1000000):F_q46 a b=some (cmpC a b):=by
 simp only[F_q46,S_q46,Scr.den,z5h (show a.length≤1099511627776 by omega),z5h (show b.length≤1099511627776 by omega),obind,zh,cmpC,zab]
 by_cases h:(parts a).length=0∧(parts b).length=0
 ·rw[if_pos (by simp[h]),if_pos h]
  simp only[F_q4o,S_q4o,F_q44,S_q44,Scr.den,obind,beq_self_eq_true,Bool.not_true,Bool.false_eq_true,if_false,strC]
  by_cases h1:Op.bytesLess a b=true
  ·rw[if_pos h1,if_pos h1]; rfl
  ·rw[if_neg h1,if_neg h1]
   by_cases h2:(!(Op.bytesLess a b||a==b))=true
   ·rw[if_pos h2,if_pos h2]; rfl
   ·rw[if_neg h2,if_neg h2]; rfl
 ·rw[if_neg (by simpa using h),if_neg h]
theorem z60 {a b:List UInt8} (h:good a=true∨good b=true):cmpC a b=lexC (parts a) (parts b):=by
 unfold cmpC
 rw[if_neg]
 rintro⟨h1,h2⟩
 rcases h with h | h
 ·have:=(z2p h).2.1; omega
 ·have:=(z2p h).2.1; omega
def cmpR (a b:TRi):Int:=if cmpC a.Code b.Code≠0 then cmpC a.Code b.Code else cmpI a.Year b.Year
theorem zac {a b:TRi} (ha:a.Code.length≤1000000) (hb:b.Code.length≤1000000):F_q47 a b=some (cmpR a b):=by
 simp only[F_q47,S_q47,Scr.den,zi7 ha hb,zbt,obind,F_q2b,S_q2b,S_q2b_b1,cmpR]
 by_cases h:cmpC a.Code b.Code=0
 ·rw[if_neg (by simpa using h)]
  by_cases h2:cmpI a.Year b.Year=0
  ·simp[rangeM,h,h2,outM]
  ·simp[rangeM,h,h2,outM]
 ·rw[if_pos h]
  simp[rangeM,h,outM]
theorem z8a {l:List UInt8} (hg:good l=true):F_qm l=some (parts l):=by
 obtain⟨hn,h0,h4⟩:=z2p hg
 have hlen:=z5i hg
 simp only[F_qm,S_qm,Scr.den]
 rw[if_neg (by simp; omega)]
 generalize hF:(fun s=>(S_qm_b1 l s).den)=F
 have w1:∀ i:Nat,i≤11→IntKind.i64.wrap ((i:Int)+1)=((i+1:Nat):Int):=fun i hi=>by rw[wrapId (by omega) (by omega)]; omega
 have flush:∀ (i:Nat) (w:List UInt8) (out:List Int) (n:Int),i≤l.length→w.length≤i→(∀ j,j<w.length→l.getD (i-w.length+j) 0=w.getD j 0)→pv w=some n→(i=l.length∨(l.getD i 0).toNat=46)→out.length≤4 →
   F (out,valW w,(w.length:Int),(i:Int))=some (.cont (out++[n],0,0,((i+1:Nat):Int))):=by
  intro i w out n hi hw hg hpv hor ho
  obtain⟨e1,e2,e3,e4,e5⟩:=zeq hpv
  have hk:IntKind.i64.wrap ((i:Int)-(w.length:Int))=((i-w.length:Nat):Int):=by rw[wrapId (by omega) (by omega)]; omega
  have h0:=hg 0 (by omega)
  rw[Nat.add_zero] at h0
  rw[← congrFun hF]
  simp only[S_qm_b1,Scr.den,Int.toNat_natCast,zl,hk,h0]
  rw[if_pos (by simp; omega),za ⟨fun _=>by omega,fun h=>by have h:=h.1; simp at h; omega,trivial⟩,if_pos (by
   rcases hor with rfl | h
   ·simp
   ·simp only[Bool.or_eq_true,beq_iff_eq]; right; omega),za ⟨fun _=>by omega,fun _=>by omega,trivial⟩,if_neg (by
    simp only[Bool.or_eq_true,beq_iff_eq,decide_eq_true_eq]; omega),za ⟨by omega,trivial⟩,w1 i (by omega),e1]
 have digit:∀ (i:Nat) (w:List UInt8) (out:List Int),i<l.length→(l.getD i 0).toNat≠46→48≤(l.getD i 0).toNat∧(l.getD i 0).toNat≤57→w.length≤1→(∀ c∈w,48≤c.toNat∧c.toNat≤57) →
   F (out,valW w,(w.length:Int),(i:Int))=some (.cont (out,valW (w++[l.getD i 0]),((w++[l.getD i 0]).length:Int),((i+1:Nat):Int))):=by
  intro i w out hi h46 hd hw hall
  have hv:0≤valW w∧valW w≤9:=by
   match w,hw with
   | [],_=>simp[valW]
   | [a],_=>have:=hall a (by simp); simp[valW]; omega
  have e1:valW (w++[l.getD i 0])=10 * valW w+(((l.getD i 0).toNat:Int)-48):=by simp[valW]
  have e2:IntKind.u8.wrap (((l.getD i 0).toNat:Int)-48)=((l.getD i 0).toNat:Int)-48:=by
   generalize (l.getD i 0).toNat=m at hd
   simp only[IntKind.wrap,IntKind.bits,IntKind.signed]
   simp
   omega
  rw[← congrFun hF]
  simp only[S_qm_b1,Scr.den,Int.toNat_natCast,zl,e1,e2]
  rw[if_pos (by simp; omega),za ⟨fun _=>by omega,fun _=>by omega,trivial⟩,if_neg (by simp only[Bool.or_eq_true,beq_iff_eq]; omega),za ⟨by omega,hi,fun _=>by omega,fun _=>hi,trivial⟩,if_neg (by simp only[Bool.or_eq_true,decide_eq_true_eq]; omega),w1 i (by omega),w1 w.length (by omega),
   wrapId (n:=10 * valW w) (by omega) (by omega),wrapId (n:=((l.getD i 0).toNat:Int)-48) (by omega) (by omega),wrapId (by omega) (by omega)]
  simp
 have key:∀ (k i:Nat) (w p0:List UInt8) (ps:List (List UInt8)) (out ns:List Int),i+k=l.length→w.length≤i→(∀ j,j<w.length→l.getD (i-w.length+j) 0=w.getD j 0)→pieces (l.drop i)=p0 :: ps→nums ((w++p0) :: ps)=some ns→out.length+ns.length≤4 →
   iterM F (out,valW w,(w.length:Int),(i:Int))=some (.next (out++ns,0,0,((l.length+1:Nat):Int))):=by
  intro k
  induction k with
  | zero =>
   intro i w p0 ps out ns hk hw hgd hpc hnm ho
   obtain rfl:i=l.length:=by omega
   rw[List.drop_of_length_le (Nat.le_refl _)] at hpc
   simp only[pieces,List.cons.injEq] at hpc
   obtain⟨rfl,rfl⟩:=hpc
   simp only[List.append_nil,nums] at hnm
   split at hnm
   ·cases hnm
   ·rename_i n hpv
    simp only[Option.map_some,Option.some.injEq] at hnm
    subst hnm
    rw[z16,flush l.length w out n (Nat.le_refl _) hw hgd hpv (.inl rfl) (by simp at ho; omega)]
    simp only
    rw[z16,← congrFun hF]
    simp only[S_qm_b1,Scr.den]
    rw[if_neg (by simp; omega)]
  | succ k ih =>
   intro i w p0 ps out ns hk hw hgd hpc hnm ho
   have hi:i<l.length:=by omega
   have ei:l.getD i 0=l[i]:=by simp[List.getD_eq_getElem?_getD,List.getElem?_eq_getElem hi]
   rw[List.drop_eq_getElem_cons hi,z1u] at hpc
   cases hq:pieces (l.drop (i+1)) with
   | nil=>exact absurd hq (z1i _)
   | cons q qs =>
    rw[hq] at hpc
    by_cases hc:(l[i]==46)=true
    ·rw[if_pos hc] at hpc
     simp only[List.cons.injEq] at hpc
     obtain⟨rfl,rfl⟩:=hpc
     simp only[List.append_nil,nums] at hnm
     split at hnm
     ·cases hnm
     ·rename_i n hpv
      cases hm:nums (q :: qs) with
      | none=>simp only[nums] at hm; rw[hm] at hnm; cases hnm
      | some ms =>
       have hm':=hm
       simp only[nums] at hm'
       rw[hm'] at hnm
       simp only[Option.map_some,Option.some.injEq] at hnm
       subst hnm
       simp only[List.length_cons] at ho
       have h46:(l.getD i 0).toNat=46:=by rw[ei,eq_of_beq hc]; rfl
       rw[z16,flush i w out n (by omega) hw hgd hpv (.inr h46) (by omega)]
       simp only
       have:=ih (i+1) [] q qs (out++[n]) ms (by omega) (by simp) (by simp) hq (by simpa using hm) (by simp; omega)
       simpa [valW] using this
    ·rw[if_neg hc] at hpc
     simp only[List.cons.injEq] at hpc
     obtain⟨rfl,rfl⟩:=hpc
     have hpv:∃ n,pv (w++l[i] :: q)=some n:=by
      simp only[nums] at hnm
      split at hnm
      ·cases hnm
      ·rename_i n h; exact⟨n,h⟩
     obtain⟨n,hpv⟩:=hpv
     obtain⟨_,_,g3,_,g5⟩:=zeq hpv
     simp only[List.length_append,List.length_cons] at g3
     have hne:(l.getD i 0).toNat≠46:=by
      rw[ei]; intro h; exact hc (by rw[UInt8.toNat_inj.1 (show l[i].toNat=(46:UInt8).toNat from h)]; rfl)
     rw[z16,digit i w out hi hne (by rw[ei]; exact g5 l[i] (by simp)) (by omega) (fun c hc=>g5 c (by simp[hc]))]
     simp only
     refine ih (i+1) (w++[l.getD i 0]) q qs out ns (by omega) (by simp; omega) (fun j hj=>?_) hq (by rw[ei]; simpa using hnm) ho
     simp only[List.length_append,List.length_cons,List.length_nil] at hj ⊢
     by_cases hjw:j<w.length
     ·have:=hgd j hjw
      rw[show i+1-(w.length+(0+1))+j=i-w.length+j by omega,this]
      simp[List.getD_eq_getElem?_getD,List.getElem?_append_left hjw]
     ·obtain rfl:j=w.length:=by omega
      rw[show i+1-(w.length+(0+1))+w.length=i by omega]
      simp[List.getD_eq_getElem?_getD]
 cases hp:pieces l with
 | nil=>exact absurd hp (z1i l)
 | cons p0 ps =>
  rw[hp] at hn
  have h:=key l.length 0 [] p0 ps [] (parts l) (by omega) (by simp) (by simp) (by simpa using hp) (by simpa using hn) (by simp; omega)
  have h':iterM F (([]:List Int),(0:Int),(0:Int),(0:Int))=some (.next (parts l,0,0,((l.length+1:Nat):Int))):=by simpa [valW] using h
  rw[h']
  simp only[outM]
  rw[if_neg (by simp; omega),za ⟨by omega,trivial⟩]
end Go.Proofs.YtclaojamgomjbaaGreatDoor
namespace Go.Proofs.YtclaojamgomjbaaGreatDoor
open Go Go.TA
def ordersOf (l:List TOr) (v:Int):List TOr:=l.filter (fun o=>o.Verification==v)
theorem zer {α ρ:Type} [Inhabited α] (l:List α) (p:α→Bool) (v:Nat→ρ) {body:Nat→Unit→Option (Step Unit ρ)} (hs:∀ i,i<l.length→body i ()=some (if p (l.getD i default)=true then .ret (v i) else .cont ())) :
  (rangeM body l.length 0 ()=some (.next ())∧∀ x∈l,p x=false)∨∃ i,i<l.length∧p (l.getD i default)=true∧(∀ x∈l.take i,p x=false)∧rangeM body l.length 0 ()=some (.ret (v i)):=by
 have key:∀ (k i:Nat),i+k=l.length→(∀ x∈l.take i,p x=false)→(rangeM body k i ()=some (.next ())∧∀ x∈l,p x=false)∨∃ i,i<l.length∧p (l.getD i default)=true∧(∀ x∈l.take i,p x=false)∧rangeM body k (l.length-k) ()=some (.ret (v i)):=by
  intro k
  induction k with
  | zero =>
   intro i hk h
   left
   rw[List.take_of_length_le (by omega)] at h
   exact⟨rfl,h⟩
  | succ k ih =>
   intro i hk h
   have hi:i<l.length:=by omega
   have e:l.length-(k+1)=i:=by omega
   have e':l.length-k=i+1:=by omega
   rw[e]
   simp only[rangeM,hs i hi]
   cases hp:p (l.getD i default) with
   | true =>
    right
    exact⟨i,hi,hp,h,by simp⟩
   | false =>
    simp only[Bool.false_eq_true,if_false]
    rw[e'] at ih
    refine ih (i+1) (by omega) fun x hx=>?_
    rw[List.take_add_one,List.mem_append] at hx
    rcases hx with hx | hx
    ·exact h x hx
    ·rw[List.getElem?_eq_getElem hi] at hx
     simp only[Option.toList_some,List.mem_singleton] at hx
     rw[hx]
     simpa [List.getD_eq_getElem?_getD,List.getElem?_eq_getElem hi] using hp
 have:=key l.length 0 (by omega) (by simp)
 simpa using this
theorem zi8 {α:Type} (l:List α) (i n:Nat) (z:α):(clearL l (0+i) n z).take i=l.take i:=by
 apply List.ext_getElem?
 intro k
 simp only[List.getElem?_take,clearL,List.getElem?_mapIdx]
 split
 ·cases l[k]? with
  | none=>rfl
  | some x=>simp only[Option.map_some]; rw[if_neg (by omega)]
 ·rfl
theorem z9s {α:Type} {l:List α} {q:α→Bool} (h:∀ x∈l,q x=true):l.filter q=l:=List.filter_eq_self.mpr h
theorem zk6 {l:List TOr} (v:Int) (hl:l.length<4611686018427387904):F_q1b l v=some (ordersOf l v):=by
 have hI:(F_q1a l v=some (-1)∧∀ x∈l,(x.Verification==v)=true)∨∃ i:Nat,i<l.length∧((l.getD i default).Verification==v)=false∧(∀ x∈l.take i,(x.Verification==v)=true)∧F_q1a l v=some (i:Int):=by
  simp only[F_q1a,S_q1a,Scr.den]
  rw[za ⟨by omega,trivial⟩]
  have:=zer l (fun x=>x.Verification != v) (fun i=>(i:Int)) (body:=fun i s=>(S_q1a_b1 l v i s).den) fun i hi=>by
   simp only[S_q1a_b1,F_q30,S_q30,Scr.den,obind,Nat.zero_add]
   rw[za ⟨hi,trivial⟩]
   split <;> rfl
  rcases this with ⟨h1,h2⟩ | ⟨i,h1,h2,h3,h4⟩
  ·left
   rw[h1]
   exact⟨rfl,fun x hx=>by simpa using h2 x hx⟩
  ·right
   refine⟨i,h1,by simpa [bne] using h2,fun x hx=>by simpa using h3 x hx,?_⟩
   rw[h4]
   rfl
 simp only[F_q1b,S_q1b,Scr.den]
 rcases hI with ⟨h1,h2⟩ | ⟨i0,h1,h2,h3,h4⟩
 ·rw[h1,obind,if_pos (show ((-1:Int)==-1)=true from rfl),za ⟨by omega,trivial⟩]
  unfold ordersOf
  rw[z9s h2]
 ·rw[h4,obind,if_neg (by simp)]
  obtain⟨s,h5,h6⟩:=z1b (step:=fun s=>(S_q1b_b1 v s).den) (fun s=>l.length-s.2.2.toNat)
   (fun s=>s.1.length=l.length∧0≤s.2.1∧s.2.1≤s.2.2∧s.2.2≤l.length∧s.1.take s.2.1.toNat=ordersOf (l.take s.2.2.toNat) v∧s.1.drop s.2.2.toNat=l.drop s.2.2.toNat)
   (fun s=>s.1.length=l.length∧0≤s.2.1∧s.2.1≤l.length∧s.1.take s.2.1.toNat=ordersOf l v) (fun s hs=>by
    obtain⟨sl,i,j⟩:=s
    obtain⟨a1,a2,a3,a4,a5,a6⟩:=hs
    simp only at a1 a2 a3 a4 a5 a6
    by_cases hj:j<(l.length:Int)
    ·left
     have hjn:j.toNat<sl.length:=by omega
     have hjl:j.toNat<l.length:=by omega
     have ex:sl.getD j.toNat default=l.getD j.toNat default:=by
      have:=congrArg (fun t=>t[0]?) a6
      simp only[List.getElem?_drop,Nat.add_zero] at this
      rw[List.getD_eq_getElem?_getD,List.getD_eq_getElem?_getD,this]
     have et:ordersOf (l.take (j.toNat+1)) v=ordersOf (l.take j.toNat) v++if ((l.getD j.toNat default).Verification==v)=true then [l.getD j.toNat default] else []:=by
      unfold ordersOf
      rw[List.take_add_one,List.filter_append,List.getElem?_eq_getElem hjl]
      simp only[Option.toList_some,List.getD_eq_getElem?_getD,List.getElem?_eq_getElem hjl,Option.getD_some,List.filter_cons,List.filter_nil]
     have w1:IntKind.i64.wrap (i+1)=i+1:=wrapId (by omega) (by omega)
     have w2:IntKind.i64.wrap (j+1)=j+1:=wrapId (by omega) (by omega)
     have en:(j+1).toNat=j.toNat+1:=by omega
     have em:(i+1).toNat=i.toNat+1:=by omega
     have dj:sl.drop (j.toNat+1)=l.drop (j.toNat+1):=by
      have:=congrArg (List.drop 1) a6
      simpa [List.drop_drop] using this
     simp only[S_q1b_b1,F_q30,S_q30,Scr.den,obind,Nat.zero_add,ex,w1,w2]
     rw[if_pos (by simp; omega),za ⟨by omega,by omega,by omega,trivial⟩]
     by_cases hv:((l.getD j.toNat default).Verification==v)=true
     ·rw[if_pos (by simp only[bne,hv]; rfl),za ⟨by omega,by omega,by omega,trivial⟩]
      refine⟨_,rfl,⟨by simpa using a1,by simp only; omega,by simp only; omega,by simp only; omega,?_,?_⟩,by simp only; omega⟩
      ·simp only[en,em]
       rw[et,if_pos hv,← a5,List.take_add_one,List.take_set_of_le (by omega),List.getElem?_set_self (by omega)]
       rfl
      ·simp only[en]
       rw[List.drop_set_of_lt (by omega),dj]
     ·rw[if_neg (by simp only[bne,hv]; simp)]
      refine⟨_,rfl,⟨a1,a2,by simp only; omega,by simp only; omega,?_,?_⟩,by simp only; omega⟩
      ·simp only[en]
       rw[et,if_neg hv,List.append_nil,a5]
      ·simp only[en]
       exact dj
    ·right
     simp only[S_q1b_b1,Scr.den]
     rw[if_neg (by simp; omega)]
     refine⟨_,rfl,a1,a2,by simp only; omega,?_⟩
     simp only
     rw[a5,List.take_of_length_le (by omega)]) _ (l,(i0:Int),IntKind.i64.wrap ((i0:Int)+1)) (Nat.lt_succ_self _) (by
    have w2:IntKind.i64.wrap ((i0:Int)+1)=i0+1:=wrapId (by omega) (by omega)
    have en:((i0:Int)+1).toNat=i0+1:=by omega
    simp only[w2,en,Int.toNat_natCast]
    refine⟨trivial,by omega,by omega,by omega,?_,trivial⟩
    unfold ordersOf
    rw[List.take_add_one,List.filter_append,z9s h3,List.getElem?_eq_getElem h1]
    simp only[List.getD_eq_getElem?_getD,List.getElem?_eq_getElem h1,Option.getD_some] at h2
    simp[h2])
  obtain⟨b1,b2,b3,b4⟩:=h6
  rw[h5]
  simp only[outM]
  rw[za ⟨b2,by omega,trivial⟩,za ⟨by rw[z1m]; omega,trivial⟩,za ⟨by rw[z1m]; omega,trivial⟩,zi8,b4]
def Few (b:TBo):Prop:=b.Reservations.length≤1000000∧b.Commitments.length≤1000000∧b.Verifications.length≤1000000∧b.Orders.length≤1000000
theorem zk7 {l:List TOr} (hl:l.length≤1000000):F_q3z l=some l:=by
 simp only[F_q3z,S_q3z,Scr.den]
 rw[za ⟨by omega,trivial⟩]
theorem z25 {b:TBo} (h:Few b):F_q1f b=some (b.Reservations,b.Commitments,b.Verifications,b.Orders):=by
 obtain⟨h1,h2,h3,h4⟩:=h
 simp only[F_q1f,S_q1f,Scr.den]
 rw[za ⟨by omega,by omega,by omega,by omega,trivial⟩]
theorem zk8 {b:TBo} (h:b.Orders.length≤1000000) (v:Int):F_q40 b v=some (ordersOf b.Orders v):=by
 simp only[F_q40,S_q40,Scr.den,zk7 h,obind,zk6 v (show b.Orders.length<4611686018427387904 by omega)]
theorem z9d (l:List TOr) (o:TOr):F_q41 l o=some (l.any fun x=>!x.Back||decide (x.Day>o.Day)):=by
 simp only[F_q41,S_q41,F_q1w,S_q1w,Scr.den]
 rcases zer l (fun x=>!x.Back||decide (x.Day>o.Day)) (fun i=>(i:Int)) (body:=fun i s=>(S_q1w_b1 l o i s).den) (fun i hi=>by
  simp only[S_q1w_b1,F_q4m,S_q4m,Scr.den,obind,zl]
  split <;> rfl) with ⟨h1,h2⟩ | ⟨i,h1,h2,h3,h4⟩
 ·rw[h1]
  simp only[outM,obind]
  rw[List.any_eq_false.mpr fun x hx=>by rw[h2 x hx]; simp]
  rfl
 ·rw[h4]
  simp only[outM,obind]
  rw[List.any_eq_true.mpr ⟨_,zm h1,h2⟩]
  simp
def noOrder:TOr:=⟨0,0,0,0,false⟩
def lastV (b:TBo) (v:Int):TOr:=(ordersOf b.Orders v).getLastD noOrder
theorem zh6 {b:TBo} (h:b.Orders.length≤1000000) (v:Int):F_q1g b v=some (lastV b v,((ordersOf b.Orders v).length:Int)):=by
 simp only[F_q1g,S_q1g,Scr.den]
 rw[z1v b.Orders (fun (s:TOr×Int) o=>if (o.Verification==v)=true then (o,IntKind.i64.wrap (s.2+1)) else s)]
 ·have key:∀ (l:List TOr) (x:TOr) (n:Nat),n+l.length≤1000000→l.foldl (fun (s:TOr×Int) o=>if (o.Verification==v)=true then (o,IntKind.i64.wrap (s.2+1)) else s) (x,(n:Int))=((ordersOf l v).getLastD x,((n+(ordersOf l v).length:Nat):Int)):=by
   intro l
   induction l with
   | nil=>intro x n _; rfl
   | cons o l ih =>
    intro x n hn
    simp only[List.length_cons] at hn
    rw[List.foldl_cons]
    unfold ordersOf
    rw[List.filter_cons]
    by_cases ho:(o.Verification==v)=true
    ·rw[if_pos ho,if_pos ho]
     rw[show IntKind.i64.wrap ((n:Int)+1)=((n+1:Nat):Int) by rw[wrapId (by omega) (by omega)]; omega,ih o (n+1) (by omega)]
     rw[List.getLastD_cons]
     simp only[List.length_cons,ordersOf]
     congr 2
     omega
    ·rw[if_neg ho,if_neg ho,ih x n (by omega)]
     rfl
  have:=key b.Orders noOrder 0 (by omega)
  rw[show (((0:Nat)):Int)=0 from rfl] at this
  simp only[outM]
  unfold noOrder at this
  rw[this]
  simp[lastV,noOrder]
 ·intro i s hi
  simp only[S_q1g_b1,Scr.den]
  split <;> rfl
end Go.Proofs.YtclaojamgomjbaaGreatDoor
namespace Go.Proofs.YtclaojamgomjbaaGreatDoor
open Go Go.TA
theorem z18 {α:Type} (gs:List Prop) (x d:α) [Decidable (AllP gs)]:optD gs (some x) d=some (if AllP gs then x else d):=by
 unfold optD
 by_cases h:AllP gs
 ·rw[if_pos h,if_pos h]
 ·rw[if_neg h,if_neg h]
theorem z8b {α:Type} {gs:List Prop} {x:Option α} {y d:α} [Decidable (AllP gs)] (h:AllP gs→x=some y):optD gs x d=some (if AllP gs then y else d):=by
 by_cases hg:AllP gs
 ·rw[if_pos hg,z1e hg,h hg]
 ·rw[if_neg hg,z14 hg]
theorem z2n (a x d:Bool) [Decidable (AllP [a=false])]:(a||!(if AllP [a=false] then x else d))=(a||!x):=by
 cases a <;> simp[AllP]
theorem zk9 (a:Bool) (x d y:Int) [Decidable (AllP [a=false])]:(a||((if AllP [a=false] then x else d) != y))=(a||(x != y)):=by
 cases a <;> simp[AllP]
theorem zmj (a:Bool) (x d y z:Int) [Decidable (AllP [a=false])]:(a||decide ((if AllP [a=false] then x else d)>IntKind.i64.wrap ((if AllP [a=false] then y else z)+1)))=(a||decide (x>IntKind.i64.wrap (y+1))):=by
 cases a <;> simp[AllP]
theorem z32 (a x d:Bool) [Decidable (AllP [a=true])]:(a&&(if AllP [a=true] then x else d))=(a&&x):=by
 cases a <;> simp[AllP]
theorem zh7 (a:Bool) (x d y:Int) [Decidable (AllP [a=true])]:(a&&((if AllP [a=true] then x else d)==y))=(a&&(x==y)):=by
 cases a <;> simp[AllP]
theorem zka (a:Bool) (x d y:Int) [Decidable (AllP [a=true])]:(a&&decide ((if AllP [a=true] then x else d)≥y))=(a&&decide (x≥y)):=by
 cases a <;> simp[AllP]
theorem zkb (a:Bool) (x d y z:Int) [Decidable (AllP [a=true])]:(a&&decide ((if AllP [a=true] then x else d)≤IntKind.i64.wrap ((if AllP [a=true] then y else z)+1)))=(a&&decide (x≤IntKind.i64.wrap (y+1))):=by
 cases a <;> simp[AllP]
theorem zni {α:Type} (a:Bool) (x d:List α) [Decidable (AllP [a=true])]:(a&&decide (((if AllP [a=true] then x else d).length:Int)>0))=(a&&decide (x.length>0)):=by
 cases a <;> simp[AllP]
def RFld (r:TRe) (n:Int):Prop:=r.Number=n∧good r.Code=true∧(0≤r.Year∧r.Year≤99)∧dayP r.Day∧yr r.Day=r.Year∧amtP r.Amount∧(0≤r.Released∧r.Released≤r.Amount)
def rAt (b:TBo) (n:Int):TRe:=b.Reservations.getD (n-1).toNat default
def cAt (b:TBo) (n:Int):TCo:=b.Commitments.getD (n-1).toNat default
def vAt (b:TBo) (n:Int):TVe:=b.Verifications.getD (n-1).toNat default
def Small (b:TBo):Prop:=Few b∧∀ r∈b.Reservations,r.Code.length≤1000000
theorem z4k {i n:Nat} (hi:i<n) (hn:n≤1000000):IntKind.i64.wrap ((i:Int)+1)=(i:Int)+1:=wrapId (by omega) (by omega)
theorem resC {b:TBo} (hb:Small b) {i:Nat} (hi:i<b.Reservations.length):∃ C:Bool,(S_q14_b1 b i ()).den=(if C=true then some (.ret false) else some (.cont ()))∧(C=false↔RFld (b.Reservations.getD i default) (i+1)):=by
 have hw:=z4k hi hb.1.1
 have hc:=hb.2 _ (zm hi)
 simp only[S_q14_b1,Scr.den]
 generalize b.Reservations.getD i default=r at hc ⊢
 rw[hw,z3e (by omega)]
 open Classical in simp only[z2h,z1w,z1r,z18,obind,zl,z2n,zk9]
 refine⟨_,rfl,?_⟩
 simp only[RFld,Bool.or_eq_false_iff,bne_eq_false_iff_eq,Bool.not_eq_false',decide_eq_false_iff_not,decide_eq_true_eq]
 constructor
 ·rintro⟨⟨⟨⟨⟨⟨⟨⟨h1,h2⟩,h3⟩,h4⟩,h5⟩,h6⟩,h7⟩,h8⟩,h9⟩
  exact⟨h1,h2,by omega,h5,h6,h7,by omega⟩
 ·rintro⟨h1,h2,h3,h4,h5,h6,h7⟩
  exact⟨⟨⟨⟨⟨⟨⟨⟨h1,h2⟩,by omega⟩,by omega⟩,h4⟩,h5⟩,h6⟩,by omega⟩,by omega⟩
theorem resP {b:TBo} (hb:Small b) {i:Nat} (hi:i<b.Reservations.length):∃ C:Bool,F_q3c b i=some C∧(C=true↔RFld (b.Reservations.getD i default) (i+1)∧0≤leftV b (b.Reservations.getD i default)):=by
 have hw:=z4k hi hb.1.1
 have hc:=hb.2 _ (zm hi)
 simp only[F_q3c,S_q3c,Scr.den,Int.toNat_natCast]
 rw[za ⟨by omega,hi,trivial⟩]
 generalize b.Reservations.getD i default=r at hc ⊢
 rw[hw,z5h (by omega)]
 open Classical in simp only[zb0,z6i,z87,z48,zg3,z18,obind,zh,z32,zh7,zka,zni]
 refine⟨_,rfl,?_⟩
 simp only[z4t,RFld,Bool.and_eq_true,beq_iff_eq,decide_eq_true_eq,ge_iff_le,and_assoc]
theorem z2c {x:Int} {n:Nat} (h:1≤x∧x≤(n:Int)) (hn:n≤1000000):IntKind.i64.wrap (x-1)=x-1:=wrapId (by omega) (by omega)
def CFld (b:TBo) (c:TCo) (n:Int):Prop:=c.Number=n∧(1≤c.Reservation∧c.Reservation≤b.Reservations.length)∧dayP c.Day∧amtP c.Amount∧(0≤c.Released∧c.Released≤c.Amount)∧(1≤c.Payee∧c.Payee≤1000000)∧dayP c.Due∧(rAt b c.Reservation).Day≤c.Day∧yr c.Day=(rAt b c.Reservation).Year
theorem comC {b:TBo} (hb:Small b) {i:Nat} (hi:i<b.Commitments.length):(CFld b (b.Commitments.getD i default) (i+1)→(S_qb_b1 b i ()).den=some (.cont ()))∧(¬ CFld b (b.Commitments.getD i default) (i+1)→(S_qb_b1 b i ()).den=some (.ret false)):=by
 have hw:=z4k hi hb.1.2.1
 simp only[S_qb_b1,Scr.den]
 generalize b.Commitments.getD i default=c
 rw[hw]
 open Classical in simp only[z2h,z1w,z1r,z18,obind,zl,z2n,zk9]
 split
 ·rename_i h
  refine⟨fun hp=>?_,fun _=>rfl⟩
  exfalso
  obtain⟨h1,h2,h3,h4,h5,h6,h7,_⟩:=hp
  simp only[Bool.or_eq_true,bne_iff_ne,ne_eq,Bool.not_eq_true',decide_eq_false_iff_not,decide_eq_true_eq] at h
  rcases h with (((((((((h | h) | h) | h) | h) | h) | h) | h) | h) | h) <;> first | exact h h1 | exact h h3 | exact h h4 | exact h h7 | omega
 ·rename_i h
  simp only[Bool.or_eq_true,bne_iff_ne,ne_eq,Bool.not_eq_true',decide_eq_false_iff_not,decide_eq_true_eq,not_or,Classical.not_not] at h
  obtain⟨⟨⟨⟨⟨⟨⟨⟨⟨h1,h2⟩,h3⟩,h4⟩,h5⟩,h6⟩,h7⟩,h8⟩,h9⟩,h10⟩:=h
  rw[z2c (n:=b.Reservations.length) (by omega) hb.1.1,za ⟨by omega,by omega,trivial⟩]
  change (_→(if (_||_)=true then _ else _)=_)∧_
  have e:CFld b c (i+1)↔(rAt b c.Reservation).Day≤c.Day∧yr c.Day=(rAt b c.Reservation).Year :=
   ⟨fun h=>⟨h.2.2.2.2.2.2.2.1,h.2.2.2.2.2.2.2.2⟩,fun h=>⟨h1,by omega,h4,h5,by omega,by omega,h10,h.1,h.2⟩⟩
  rw[e]
  unfold rAt
  split
  ·rename_i h
   refine⟨fun hp=>?_,fun _=>rfl⟩
   exfalso
   simp only[Bool.or_eq_true,bne_iff_ne,ne_eq,decide_eq_true_eq] at h
   rcases h with h | h
   ·omega
   ·exact h hp.2
  ·rename_i h
   refine⟨fun _=>rfl,fun hp=>?_⟩
   exfalso
   simp only[Bool.or_eq_true,bne_iff_ne,ne_eq,decide_eq_true_eq,not_or,Classical.not_not] at h
   exact hp ⟨by omega,h.2⟩
theorem comP {b:TBo} (hb:Small b) {i:Nat} (hi:i<b.Commitments.length):∃ C:Bool,F_q3d b i=some C∧(C=true↔CFld b (b.Commitments.getD i default) (i+1)∧0≤restV b (b.Commitments.getD i default)):=by
 have hw:=z4k hi hb.1.2.1
 obtain⟨c,hc⟩:∃ c,b.Commitments.getD i default=c:=⟨_,rfl⟩
 simp only[F_q3d,S_q3d,Scr.den,Int.toNat_natCast]
 rw[za ⟨by omega,hi,trivial⟩]
 open Classical in simp only[hc,hw,zb0,z6i,z87,z48,znh,z18,obind,zh,zl,z2n]
 by_cases h:(c.Number != (i:Int)+1||!decide (1≤c.Reservation∧c.Reservation≤b.Reservations.length))=true
 ·rw[if_pos h]
  refine⟨false,rfl,?_⟩
  simp only[Bool.or_eq_true,bne_iff_ne,ne_eq,Bool.not_eq_true',decide_eq_false_iff_not] at h
  constructor
  ·intro h; cases h
  ·intro hp
   rcases h with h | h
   ·exact absurd hp.1.1 h
   ·exact absurd hp.1.2.1 h
 ·rw[if_neg h]
  simp only[Bool.or_eq_true,bne_iff_ne,ne_eq,Bool.not_eq_true',decide_eq_false_iff_not,not_or,Classical.not_not] at h
  rw[z2c (n:=b.Reservations.length) h.2 hb.1.1,za ⟨by omega,by omega,trivial⟩]
  open Classical in simp only[z32,zh7,zka]
  refine⟨_,rfl,?_⟩
  simp only[CFld,Bool.and_eq_true,beq_iff_eq,decide_eq_true_eq,ge_iff_le]
  constructor
  ·rintro⟨⟨⟨⟨⟨⟨⟨h1,h2⟩,h3⟩,h4⟩,h5⟩,h6⟩,h7⟩,h8⟩
   exact⟨⟨h.1,h.2,h1,h4,h5,h6,h7,h2,h3⟩,h8⟩
  ·rintro⟨⟨_,_,h1,h4,h5,h6,h7,h2,h3⟩,h8⟩
   exact⟨⟨⟨⟨⟨⟨⟨h1,h2⟩,h3⟩,h4⟩,h5⟩,h6⟩,h7⟩,h8⟩
end Go.Proofs.YtclaojamgomjbaaGreatDoor
namespace Go.Proofs.YtclaojamgomjbaaGreatDoor
open Go Go.TA
def RAll (b:TBo):Prop:=∀ i,i<b.Reservations.length→RFld (b.Reservations.getD i default) (i+1)
def CAll (b:TBo):Prop:=∀ i,i<b.Commitments.length→CFld b (b.Commitments.getD i default) (i+1)
def yearOf (b:TBo) (n:Int):Int:=(rAt b (cAt b n).Reservation).Year
theorem RAll.at {b:TBo} (h:RAll b) {n:Int} (hn:1≤n∧n≤b.Reservations.length):RFld (rAt b n) n:=by
 have:=h (n-1).toNat (by omega)
 rwa [show (((n-1).toNat:Nat):Int)+1=n by omega] at this
theorem CAll.at {b:TBo} (h:CAll b) {n:Int} (hn:1≤n∧n≤b.Commitments.length):CFld b (cAt b n) n:=by
 have:=h (n-1).toNat (by omega)
 rwa [show (((n-1).toNat:Nat):Int)+1=n by omega] at this
theorem znj {b:TBo} (hR:RAll b) (hC:CAll b) {n:Int} (hn:1≤n∧n≤b.Commitments.length):0≤yearOf b n∧yearOf b n≤99 :=
 (hR.at (hC.at hn).2.1).2.2.1
theorem z4d {b:TBo} (hb:Small b) (hC:CAll b) {n:Int} (hn:1≤n∧n≤b.Commitments.length):F_q1e b n=some (yearOf b n):=by
 have h:=(hC.at hn).2.1
 unfold cAt at h
 simp only[F_q1e,S_q1e,Scr.den]
 rw[z2c hn hb.1.2.1,z2c h hb.1.1,za ⟨by omega,by omega,by omega,by omega,trivial⟩]
 rfl
theorem zh8 {b:TBo} (hb:Small b) {c:TCo} (h:1≤c.Reservation∧c.Reservation≤b.Reservations.length):F_q2i b c=some (rAt b c.Reservation).Year:=by
 simp only[F_q2i,S_q2i,Scr.den]
 rw[z2c h hb.1.1,za ⟨by omega,by omega,trivial⟩]
 rfl
theorem z6j {b:TBo} (hR:RAll b) (hC:CAll b) {n:Int} (hn:1≤n∧n≤b.Commitments.length):IntKind.i64.wrap (yearOf b n+1)=yearOf b n+1:=by
 have:=znj hR hC hn
 exact wrapId (by omega) (by omega)
def VFld (b:TBo) (v:TVe) (n:Int):Prop:=v.Number=n∧(1≤v.Commitment∧v.Commitment≤b.Commitments.length)∧dayP v.Day∧amtP v.Amount∧(cAt b v.Commitment).Day≤v.Day∧yr v.Day≤yearOf b v.Commitment+1
theorem verC {b:TBo} (hb:Small b) (hR:RAll b) (hC:CAll b) {i:Nat} (hi:i<b.Verifications.length):(VFld b (b.Verifications.getD i default) (i+1)→(S_q3_b1 b i ()).den=some (.cont ()))∧(¬ VFld b (b.Verifications.getD i default) (i+1)→(S_q3_b1 b i ()).den=some (.ret false)):=by
 have hw:=z4k hi hb.1.2.2.1
 obtain⟨v,hv⟩:∃ v,b.Verifications.getD i default=v:=⟨_,rfl⟩
 open Classical in simp only[S_q3_b1,Scr.den,hv,hw,z2h,z1w,z1r,z18,obind,zl,z2n]
 by_cases hA:(v.Number != (i:Int)+1||decide (v.Commitment<1)||decide (v.Commitment>b.Commitments.length))=true
 ·rw[hA]
  simp only[Bool.true_or]
  rw[z14 (by simp[AllP]),obind,za (by simp[AllP]),if_pos trivial]
  refine⟨fun hp=>?_,fun _=>rfl⟩
  exfalso
  obtain⟨h1,h2,_⟩:=hp
  simp only[Bool.or_eq_true,bne_iff_ne,ne_eq,decide_eq_true_eq] at hA
  rcases hA with (h | h) | h
  ·exact h h1
  ·omega
  ·omega
 ·simp only[Bool.or_eq_true,bne_iff_ne,ne_eq,decide_eq_true_eq,not_or,Classical.not_not] at hA
  have hn:1≤v.Commitment∧v.Commitment≤b.Commitments.length:=by omega
  open Classical in rw[z8b (y:=yearOf b v.Commitment) fun _=>z4d hb hC hn]
  rw[z2c hn hb.1.2.1,obind,za ⟨fun _=>by omega,fun _=>by omega,trivial⟩]
  open Classical in simp only[zmj]
  rw[z6j hR hC hn]
  split
  ·rename_i h
   refine⟨fun hp=>?_,fun _=>rfl⟩
   exfalso
   obtain⟨h1,h2,h3,h4,h5,h6⟩:=hp
   unfold cAt at h5
   simp only[Bool.or_eq_true,bne_iff_ne,ne_eq,Bool.not_eq_true',decide_eq_false_iff_not,decide_eq_true_eq] at h
   rcases h with ((((((h | h) | h) | h) | h) | h) | h) <;> first | exact h h1 | exact h h3 | exact h h4 | omega
  ·rename_i h
   refine⟨fun _=>rfl,fun hp=>?_⟩
   exfalso
   simp only[Bool.or_eq_true,bne_iff_ne,ne_eq,Bool.not_eq_true',decide_eq_false_iff_not,decide_eq_true_eq,not_or,Classical.not_not] at h
   obtain⟨⟨⟨⟨⟨⟨h1,h2⟩,h3⟩,h4⟩,h5⟩,h6⟩,h7⟩:=h
   exact hp ⟨h1,hn,h4,h5,by unfold cAt; omega,by omega⟩
theorem verP {b:TBo} (hb:Small b) (hR:RAll b) (hC:CAll b) {i:Nat} (hi:i<b.Verifications.length):∃ C:Bool,F_q3e b i=some C∧(C=true↔VFld b (b.Verifications.getD i default) (i+1)):=by
 have hw:=z4k hi hb.1.2.2.1
 obtain⟨v,hv⟩:∃ v,b.Verifications.getD i default=v:=⟨_,rfl⟩
 simp only[F_q3e,S_q3e,Scr.den,Int.toNat_natCast]
 rw[za ⟨by omega,hi,trivial⟩]
 open Classical in simp only[hv,hw,zb0,z6i,z87,z48,z18,obind,zh,zl,z2n]
 by_cases h:(v.Number != (i:Int)+1||!decide (1≤v.Commitment∧v.Commitment≤b.Commitments.length))=true
 ·rw[if_pos h]
  refine⟨false,rfl,?_⟩
  simp only[Bool.or_eq_true,bne_iff_ne,ne_eq,Bool.not_eq_true',decide_eq_false_iff_not] at h
  constructor
  ·intro h; cases h
  ·intro hp
   rcases h with h | h
   ·exact absurd hp.1 h
   ·exact absurd hp.2.1 h
 ·rw[if_neg h]
  simp only[Bool.or_eq_true,bne_iff_ne,ne_eq,Bool.not_eq_true',decide_eq_false_iff_not,not_or,Classical.not_not] at h
  have hn:=h.2
  have hc:=(hC.at hn).2.1
  rw[z2c hn hb.1.2.1,za ⟨by omega,by omega,trivial⟩]
  change ∃ C,(optD _ (F_q2i b (cAt b v.Commitment)) _).bind _=_∧_
  open Classical in rw[z8b fun _=>zh8 hb hc]
  open Classical in simp only[obind,z32,zkb]
  refine⟨_,rfl,?_⟩
  have hy:=z6j hR hC hn
  unfold yearOf at hy
  rw[hy]
  simp only[VFld,Bool.and_eq_true,decide_eq_true_eq,ge_iff_le]
  constructor
  ·rintro⟨⟨⟨h1,h2⟩,h3⟩,h4⟩
   exact⟨h.1,h.2,h1,h4,h2,h3⟩
  ·rintro⟨_,_,h1,h4,h2,h3⟩
   exact⟨⟨⟨h1,h2⟩,h3⟩,h4⟩
def VAll (b:TBo):Prop:=∀ i,i<b.Verifications.length→VFld b (b.Verifications.getD i default) (i+1)
theorem VAll.at {b:TBo} (h:VAll b) {n:Int} (hn:1≤n∧n≤b.Verifications.length):VFld b (vAt b n) n:=by
 have:=h (n-1).toNat (by omega)
 rwa [show (((n-1).toNat:Nat):Int)+1=n by omega] at this
def OFld (b:TBo) (o:TOr) (bef:List TOr) (n:Int):Prop:=o.Number=n∧(1≤o.Verification∧o.Verification≤b.Verifications.length)∧dayP o.Day∧(vAt b o.Verification).Day≤o.Day∧yr o.Day≤yearOf b (vAt b o.Verification).Commitment+1∧o.Attempt=(ordersOf bef o.Verification).length+1∧(ordersOf bef o.Verification).any (fun x=>!x.Back||decide (x.Day>o.Day))=false
theorem zkc {b:TBo} {i:Nat} (hi:i<b.Orders.length) (hb:Small b):rangeM (fun j s=>(S_q3_b3 b i j s).den) (b.Orders.take i).length 0 1=some (if (ordersOf (b.Orders.take i) (b.Orders.getD i default).Verification).any (fun x=>!x.Back||decide (x.Day>(b.Orders.getD i default).Day))=true then .ret false else .next ((ordersOf (b.Orders.take i) (b.Orders.getD i default).Verification).length+1)):=by
 have hl:=hb.1.2.2.2
 have hlt:(b.Orders.take i).length≤1000000:=by rw[List.length_take]; omega
 simp only[S_q3_b3,Scr.den,zl]
 generalize b.Orders.take i=l at hlt ⊢
 generalize b.Orders.getD i default=o
 generalize hF:(fun (j:Nat) (s:Int)=>_)=F
 have key:∀ (k j n:Nat),j+k=l.length→n≤j+1→rangeM F k j (n:Int)=some (if (ordersOf (l.drop j) o.Verification).any (fun x=>!x.Back||decide (x.Day>o.Day))=true then .ret false else .next (((ordersOf (l.drop j) o.Verification).length+n:Nat):Int)):=by
  intro k
  induction k with
  | zero=>intro j n hk hn; rw[List.drop_of_length_le (by omega)]; simp[rangeM,ordersOf]
  | succ k ih =>
   intro j n hk hn
   have hj:j<l.length:=by omega
   have e:l.getD j default=l[j]:=by simp[List.getD_eq_getElem?_getD,List.getElem?_eq_getElem hj]
   have w1:IntKind.i64.wrap ((n:Int)+1)=((n+1:Nat):Int):=by rw[wrapId (by omega) (by omega)]; omega
   rw[List.drop_eq_getElem_cons hj]
   unfold ordersOf
   simp only[rangeM,List.filter_cons]
   rw[← congrFun (congrFun hF j) (n:Int)]
   simp only[e,w1]
   generalize l[j]=x
   by_cases hv:x.Verification=o.Verification
   ·have e1:(x.Verification != o.Verification)=false:=by simp[hv]
    have e2:(x.Verification==o.Verification)=true:=by simp[hv]
    simp only[e1,e2,Bool.false_eq_true,if_false,if_true]
    by_cases hx:(!x.Back||decide (x.Day>o.Day))=true
    ·rw[if_pos hx,if_pos (by rw[List.any_cons,hx]; rfl)]
    ·rw[if_neg hx]
     simp only
     rw[ih (j+1) (n+1) (by omega) (by omega)]
     rw[List.any_cons,Bool.eq_false_iff.mpr hx,Bool.false_or]
     unfold ordersOf
     simp only[List.length_cons]
     congr 3
     omega
   ·have e1:(x.Verification != o.Verification)=true:=by simp[hv]
    have e2:(x.Verification==o.Verification)=false:=by simp[hv]
    simp only[e1,e2,Bool.false_eq_true,if_false,if_true]
    rw[ih (j+1) n (by omega) (by omega)]
    rfl
 have:=key l.length 0 1 (by omega) (by omega)
 simpa using this
theorem ordC {b:TBo} (hb:Small b) (hR:RAll b) (hC:CAll b) (hV:VAll b) {i:Nat} (hi:i<b.Orders.length):(OFld b (b.Orders.getD i default) (b.Orders.take i) (i+1)→(S_q3_b4 b i ()).den=some (.cont ()))∧(¬ OFld b (b.Orders.getD i default) (b.Orders.take i) (i+1)→(S_q3_b4 b i ()).den=some (.ret false)):=by
 have hw:=z4k hi hb.1.2.2.2
 have hcnt:=zkc hi hb
 obtain⟨o,ho⟩:∃ v,b.Orders.getD i default=v:=⟨_,rfl⟩
 open Classical in simp only[S_q3_b4,Scr.den,hcnt,ho,hw,z2h,z1w,z18,obind,zl,z2n]
 split
 ·rename_i h
  refine⟨fun hp=>?_,fun _=>rfl⟩
  exfalso
  obtain⟨h1,h2,h3,_⟩:=hp
  simp only[Bool.or_eq_true,bne_iff_ne,ne_eq,Bool.not_eq_true',decide_eq_false_iff_not,decide_eq_true_eq] at h
  rcases h with ((h | h) | h) | h <;> first | exact h h1 | exact h h3 | omega
 ·rename_i h
  simp only[Bool.or_eq_true,bne_iff_ne,ne_eq,Bool.not_eq_true',decide_eq_false_iff_not,decide_eq_true_eq,not_or,Classical.not_not] at h
  obtain⟨⟨⟨h1,h2⟩,h3⟩,h4⟩:=h
  have hn:1≤o.Verification∧o.Verification≤b.Verifications.length:=by omega
  have hv:=(hV.at hn).2.1
  rw[z2c hn hb.1.2.2.1,za ⟨by omega,by omega,trivial⟩]
  change (_→(optD _ (F_q1e b (vAt b o.Verification).Commitment) _).bind _=_)∧(_→(optD _ (F_q1e b (vAt b o.Verification).Commitment) _).bind _=_)
  open Classical in rw[z8b fun _=>z4d hb hC hv]
  open Classical in simp only[obind,zmj]
  rw[z6j hR hC hv]
  have hle:i≤b.Orders.length:=by omega
  rw[za ⟨hle,trivial⟩]
  by_cases hG:(decide (o.Day<(b.Verifications.getD (o.Verification-1).toNat default).Day)||decide (yr o.Day>yearOf b (vAt b o.Verification).Commitment+1))=true
  ·rw[if_pos hG]
   refine⟨fun hp=>?_,fun _=>rfl⟩
   exfalso
   obtain⟨_,_,_,h5,h6,_⟩:=hp
   change (decide (o.Day<(vAt b o.Verification).Day)||_)=true at hG
   simp only[Bool.or_eq_true,decide_eq_true_eq] at hG
   omega
  ·rw[if_neg hG]
   change ¬ (decide (o.Day<(vAt b o.Verification).Day)||_)=true at hG
   simp only[Bool.or_eq_true,decide_eq_true_eq,not_or] at hG
   by_cases hx:(ordersOf (b.Orders.take i) o.Verification).any (fun x=>!x.Back||decide (x.Day>o.Day))=true
   ·rw[if_pos hx]
    refine⟨fun hp=>?_,fun _=>rfl⟩
    exfalso
    rw[hp.2.2.2.2.2.2] at hx
    cases hx
   ·rw[if_neg hx]
    simp only[outM]
    split
    ·rename_i ha
     refine⟨fun hp=>?_,fun _=>rfl⟩
     exfalso
     simp only[bne_iff_ne,ne_eq] at ha
     exact ha hp.2.2.2.2.2.1
    ·rename_i ha
     refine⟨fun _=>rfl,fun hp=>?_⟩
     exfalso
     simp only[bne_iff_ne,ne_eq,Classical.not_not] at ha
     exact hp ⟨h1,hn,h4,by omega,by omega,ha,Bool.eq_false_iff.mpr hx⟩
theorem ordP {b:TBo} (hb:Small b) (hR:RAll b) (hC:CAll b) (hV:VAll b) {i:Nat} (hi:i<b.Orders.length):∃ C:Bool,F_q3f b i=some C∧(C=true↔OFld b (b.Orders.getD i default) (b.Orders.take i) (i+1)):=by
 have hw:=z4k hi hb.1.2.2.2
 have hl:=hb.1.2.2.2
 obtain⟨o,ho⟩:∃ v,b.Orders.getD i default=v:=⟨_,rfl⟩
 have hlt:(b.Orders.take i).length≤1000000:=by rw[List.length_take]; omega
 have hle:i≤b.Orders.length:=by omega
 simp only[F_q3f,S_q3f,Scr.den,Int.toNat_natCast]
 rw[za ⟨by omega,hi,trivial⟩]
 open Classical in simp only[ho,hw,zb0,z6i,z48,z18,obind,zh,zl,z2n]
 by_cases h:(o.Number != (i:Int)+1||!decide (1≤o.Verification∧o.Verification≤b.Verifications.length))=true
 ·rw[if_pos h]
  refine⟨false,rfl,?_⟩
  simp only[Bool.or_eq_true,bne_iff_ne,ne_eq,Bool.not_eq_true',decide_eq_false_iff_not] at h
  constructor
  ·intro h; cases h
  ·intro hp
   rcases h with h | h
   ·exact absurd hp.1 h
   ·exact absurd hp.2.1 h
 ·rw[if_neg h]
  simp only[Bool.or_eq_true,bne_iff_ne,ne_eq,Bool.not_eq_true',decide_eq_false_iff_not,not_or,Classical.not_not] at h
  have hn:=h.2
  have hv:=(hV.at hn).2.1
  have hc:=(hC.at hv).2.1
  rw[z2c hn hb.1.2.2.1,za ⟨by omega,by omega,trivial⟩,zk8 hlt,obind,za ⟨hle,trivial⟩]
  simp only[z9d]
  have hp:IntKind.i64.wrap ((vAt b o.Verification).Commitment-1)=(vAt b o.Verification).Commitment-1:=z2c hv hb.1.2.1
  have hyr:F_q2i b (b.Commitments.getD ((vAt b o.Verification).Commitment-1).toNat default)=some (yearOf b (vAt b o.Verification).Commitment):=zh8 hb hc
  unfold vAt at hp hyr
  open Classical in rw[hp,hyr,z18,obind,z18,obind,za ⟨fun _=>by unfold vAt at hv; omega,fun _=>by unfold vAt at hv; omega,trivial⟩]
  open Classical in simp only[zkb]
  have hy:=z6j hR hC hv
  unfold vAt at hy
  rw[hy]
  have e3:∀ (a x d:Bool) [Decidable (AllP [a=true])],(a&&!(if AllP [a=true] then x else d))=(a&&!x):=fun a x d _=>by cases a <;> simp[AllP]
  rw[e3]
  refine⟨_,rfl,?_⟩
  have hlw:IntKind.i64.wrap (((ordersOf (b.Orders.take i) o.Verification).length:Int)+1)=((ordersOf (b.Orders.take i) o.Verification).length:Int)+1:=by
   have:(ordersOf (b.Orders.take i) o.Verification).length≤(b.Orders.take i).length:=List.length_filter_le _ _
   exact wrapId (by omega) (by omega)
  rw[hlw]
  simp only[OFld,Bool.and_eq_true,beq_iff_eq,decide_eq_true_eq,ge_iff_le,Bool.not_eq_true']
  constructor
  ·rintro⟨⟨⟨⟨h1,h2⟩,h3⟩,h4⟩,h5⟩
   exact⟨h.1,h.2,h1,h2,h3,h4,h5⟩
  ·rintro⟨_,_,h1,h2,h3,h4,h5⟩
   exact⟨⟨⟨⟨h1,h2⟩,h3⟩,h4⟩,h5⟩
theorem noC {P:Prop} {x:Option Bool} (h:P→False) (e:x=some false:=by rfl):∃ C:Bool,x=some C∧(C=true↔P):=⟨false,e,⟨fun h=>(Bool.false_ne_true h).elim,fun p=>(h p).elim⟩⟩
def Val (b:TBo):Prop:=RAll b∧CAll b∧(∀ r∈b.Reservations,0≤leftV b r)∧VAll b∧(∀ c∈b.Commitments,0≤restV b c)∧(∀ i,i<b.Orders.length→OFld b (b.Orders.getD i default) (b.Orders.take i) (i+1)) ∧
 b.Reservations.length≤200∧b.Commitments.length≤200∧b.Verifications.length≤200∧b.Orders.length≤200
def OAll (b:TBo):Prop:=∀ i,i<b.Orders.length→OFld b (b.Orders.getD i default) (b.Orders.take i) (i+1)
theorem z7m {b:TBo} (hb:Small b):∃ C,F_q14 b=some C∧(C=true↔RAll b):=by
 simp only[F_q14,S_q14,Scr.den]
 obtain⟨h1,h2⟩:=zu (body:=fun i s=>(S_q14_b1 b i s).den) (n:=b.Reservations.length) (c:=false) (fun i=>RFld (b.Reservations.getD i default) (i+1)) (fun i hi hp=>by
  obtain⟨C,e,hc⟩:=resC hb hi
  simp only[e,hc.mpr hp]; rfl) (fun i hi hp=>by
  obtain⟨C,e,hc⟩:=resC hb hi
  cases C with
  | true=>simp only[e]; rfl
  | false=>exact absurd (hc.mp rfl) hp)
 by_cases h:∀ j,j<b.Reservations.length→RFld (b.Reservations.getD j default) (j+1)
 ·rw[h1 h]; exact⟨true,rfl,fun _=>h,fun _=>rfl⟩
 ·rw[h2 h]; exact noC <| (fun h'=>absurd h' h)
theorem z8c {b:TBo} (hb:Small b) (hR:RAll b):∃ C,F_qb b=some C∧(C=true↔CAll b∧∀ r∈b.Reservations,0≤leftV b r):=by
 simp only[F_qb,S_qb,Scr.den]
 obtain⟨h1,h2⟩:=zu (body:=fun i s=>(S_qb_b1 b i s).den) (n:=b.Commitments.length) (c:=false) (fun i=>CFld b (b.Commitments.getD i default) (i+1)) (fun i hi hp=>(comC hb hi).1 hp) (fun i hi hp=>(comC hb hi).2 hp)
 by_cases h:∀ j,j<b.Commitments.length→CFld b (b.Commitments.getD j default) (j+1)
 ·rw[h1 h]
  simp only[outM]
  have eL:∀ i,i<b.Reservations.length→(S_qb_b2 b i ()).den=if leftV b (b.Reservations.getD i default)<0 then some (.ret false) else some (.cont ()):=fun i hi=>by
   simp only[S_qb_b2,Scr.den,z6d,obind]
   have:leftN b (b.Reservations.getD i default).Number=leftV b (b.Reservations.getD i default):=by
    unfold leftN
    have hf:b.Reservations.find? (fun r=>r.Number==(b.Reservations.getD i default).Number)=some (b.Reservations.getD i default):=by
     rw[List.find?_eq_some_iff_getElem]
     refine⟨by simp,i,hi,by simp[List.getD_eq_getElem?_getD,List.getElem?_eq_getElem hi],fun j hj=>?_⟩
     have e1:=(hR i hi).1
     have e2:=(hR j (by omega)).1
     have e3:b.Reservations.getD j default=b.Reservations[j]:=by simp[List.getD_eq_getElem?_getD,List.getElem?_eq_getElem (show j<b.Reservations.length by omega)]
     rw[e3] at e2
     rw[e1]
     simp only[Bool.not_eq_true',beq_eq_false_iff_ne,ne_eq]
     omega
    rw[hf]
   rw[this]
   by_cases hl:leftV b (b.Reservations.getD i default)<0 <;> simp
  obtain⟨h3,h4⟩:=zu (body:=fun i s=>(S_qb_b2 b i s).den) (n:=b.Reservations.length) (c:=false) (fun i=>0≤leftV b (b.Reservations.getD i default)) (fun i hi hp=>by
   simp only[eL i hi]; rw[if_neg (by omega)]) (fun i hi hp=>by
   simp only[eL i hi]; rw[if_pos (by omega)])
  by_cases h':∀ j,j<b.Reservations.length→0≤leftV b (b.Reservations.getD j default)
  ·rw[h3 h']
   refine⟨true,rfl,fun _=>⟨h,fun r hr=>?_⟩,fun _=>rfl⟩
   obtain⟨i,hi,e⟩:=z1h hr
   rw[← e]; exact h' i hi
  ·rw[h4 h']
   exact noC <| (fun hh=>absurd (fun j hj=>hh.2 _ (zm hj)) h')
 ·rw[h2 h]; exact noC <| (fun h'=>absurd h'.1 h)
theorem zde {b:TBo} (hb:Small b) (hR:RAll b) (hC:CAll b):∃ C,F_q3 b=some C∧(C=true↔VAll b∧(∀ c∈b.Commitments,0≤restV b c)∧OAll b):=by
 simp only[F_q3,S_q3,Scr.den]
 obtain⟨h1,h2⟩:=zu (body:=fun i s=>(S_q3_b1 b i s).den) (n:=b.Verifications.length) (c:=false) (fun i=>VFld b (b.Verifications.getD i default) (i+1)) (fun i hi hp=>(verC hb hR hC hi).1 hp) (fun i hi hp=>(verC hb hR hC hi).2 hp)
 by_cases h:∀ j,j<b.Verifications.length→VFld b (b.Verifications.getD j default) (j+1)
 ·rw[h1 h]
  simp only[outM]
  have eL:∀ i,i<b.Commitments.length→(S_q3_b2 b i ()).den=if restV b (b.Commitments.getD i default)<0 then some (.ret false) else some (.cont ()):=fun i hi=>by
   simp only[S_q3_b2,Scr.den,z6c,obind]
   by_cases hl:restV b (b.Commitments.getD i default)<0 <;> simp
  obtain⟨h3,h4⟩:=zu (body:=fun i s=>(S_q3_b2 b i s).den) (n:=b.Commitments.length) (c:=false) (fun i=>0≤restV b (b.Commitments.getD i default)) (fun i hi hp=>by
   simp only[eL i hi]; rw[if_neg (by omega)]) (fun i hi hp=>by
   simp only[eL i hi]; rw[if_pos (by omega)])
  by_cases h':∀ j,j<b.Commitments.length→0≤restV b (b.Commitments.getD j default)
  ·rw[h3 h']
   skip
   obtain⟨h5,h6⟩:=zu (body:=fun i s=>(S_q3_b4 b i s).den) (n:=b.Orders.length) (c:=false) (fun i=>OFld b (b.Orders.getD i default) (b.Orders.take i) (i+1)) (fun i hi hp=>(ordC hb hR hC h hi).1 hp) (fun i hi hp=>(ordC hb hR hC h hi).2 hp)
   by_cases ho:∀ j,j<b.Orders.length→OFld b (b.Orders.getD j default) (b.Orders.take j) (j+1)
   ·rw[h5 ho]
    refine⟨true,rfl,fun _=>⟨h,fun r hr=>?_,ho⟩,fun _=>rfl⟩
    obtain⟨i,hi,e⟩:=z1h hr
    rw[← e]; exact h' i hi
   ·rw[h6 ho]
    exact noC <| (fun hh=>absurd hh.2.2 ho)
  ·rw[h4 h']
   exact noC <| (fun hh=>absurd (fun j hj=>hh.2.1 _ (zm hj)) h')
 ·rw[h2 h]; exact noC <| (fun h'=>absurd h'.1 h)
open Classical in
theorem z1y {b:TBo} (hb:Small b):F_q16 b=some (decide (Val b)):=by
 simp only[F_q16,S_q16,Scr.den,zl,zh]
 by_cases hl:b.Reservations.length≤200∧b.Commitments.length≤200∧b.Verifications.length≤200∧b.Orders.length≤200
 ·rw[if_neg (by simp only[Bool.or_eq_true,decide_eq_true_eq]; omega)]
  obtain⟨C1,e1,c1⟩:=z7m hb
  rw[e1,obind]
  by_cases hR:RAll b
  ·obtain⟨C2,e2,c2⟩:=z8c hb hR
   rw[c1.mpr hR,z1e (by simp[AllP]),e2,obind]
   by_cases hC:CAll b∧∀ r∈b.Reservations,0≤leftV b r
   ·obtain⟨C3,e3,c3⟩:=zde hb hR hC.1
    rw[c2.mpr hC,z1e (by simp[AllP]),e3,obind]
    congr 1
    rw[Bool.eq_iff_iff,decide_eq_true_eq]
    simp only[Bool.and_self,Bool.true_and]
    rw[c3]
    exact⟨fun h=>⟨hR,hC.1,hC.2,h.1,h.2.1,h.2.2,hl⟩,fun h=>⟨h.2.2.2.1,h.2.2.2.2.1,h.2.2.2.2.2.1⟩⟩
   ·have:C2=false:=Bool.eq_false_iff.mpr fun h=>hC (c2.mp h)
    rw[this,z14 (by simp[AllP]),obind]
    rw[decide_eq_false (fun h:Val b=>hC ⟨h.2.1,h.2.2.1⟩)]
    rfl
  ·have:C1=false:=Bool.eq_false_iff.mpr fun h=>hR (c1.mp h)
   rw[this,z14 (by simp[AllP]),obind,z14 (by simp[AllP]),obind]
   rw[decide_eq_false (fun h:Val b=>hR h.1)]
   rfl
 ·rw[if_pos (by simp only[Bool.or_eq_true,decide_eq_true_eq]; omega)]
  rw[decide_eq_false (fun h:Val b=>hl h.2.2.2.2.2.2)]
theorem zb2 {n:Nat} (hn:n≤1000000) {body:Nat→Unit→Option (Step Unit Bool)} {F:Int→Option Bool} (hF:∀ (i:Nat) s,body i s=(F i).bind fun r=>if (!r)=true then some (.ret false) else some (.cont ())) (p:Nat→Prop) (h:∀ i,i<n→∃ C,F i=some C∧(C=true↔p i)) :
  ∃ C,guardP (AllP [((n:Int)).toNat<2 ^ 63]) (outM (rangeM body ((n:Int)).toNat 0 ()) (fun _=>some (decide ((n:Int)≤200))) (fun x=>some (id x)))=some C∧(C=true↔(∀ i,i<n→p i)∧n≤200):=by
 rw[Int.toNat_natCast,za ⟨by omega,trivial⟩]
 obtain⟨h1,h2⟩:=zu (body:=body) (n:=n) (c:=false) p (fun i hi hp=>by
  obtain⟨C,e,hc⟩:=h i hi
  rw[hF,e,hc.mpr hp]; rfl) (fun i hi hp=>by
  obtain⟨C,e,hc⟩:=h i hi
  rw[hF,e,Bool.eq_false_iff.mpr fun h=>hp (hc.mp h)]; rfl)
 by_cases hp:∀ i,i<n→p i
 ·rw[h1 hp]
  refine⟨_,rfl,?_⟩
  rw[decide_eq_true_eq]
  exact⟨fun h=>⟨hp,by omega⟩,fun h=>by omega⟩
 ·rw[h2 hp]
  exact noC <| (fun h=>absurd h.1 hp)
open Classical in
theorem zlx {b:TBo} (hb:Small b):F_q42 b=some (decide (Val b)):=by
 simp only[F_q42,S_q42,Scr.den,zh]
 obtain⟨C1,e1,c1⟩:=zb2 hb.1.1 (body:=fun i s=>(S_q2g_b1 b i s).den) (F:=F_q3c b) (fun i s=>rfl) _ (fun i hi=>resP hb hi)
 have e1:F_q2g b (b.Reservations.length:Int)=some C1:=e1
 rw[e1,obind]
 by_cases hR:(∀ i,i<b.Reservations.length→RFld (b.Reservations.getD i default) (i+1)∧0≤leftV b (b.Reservations.getD i default))∧b.Reservations.length≤200
 ·have hRA:RAll b:=fun i hi=>(hR.1 i hi).1
  obtain⟨C2,e2,c2⟩:=zb2 hb.1.2.1 (body:=fun i s=>(S_q2h_b1 b i s).den) (F:=F_q3d b) (fun i s=>rfl) _ (fun i hi=>comP hb hi)
  have e2:F_q2h b (b.Commitments.length:Int)=some C2:=e2
  rw[c1.mpr hR,z1e (by simp[AllP]),e2,obind]
  by_cases hC:(∀ i,i<b.Commitments.length→CFld b (b.Commitments.getD i default) (i+1)∧0≤restV b (b.Commitments.getD i default))∧b.Commitments.length≤200
  ·have hCA:CAll b:=fun i hi=>(hC.1 i hi).1
   obtain⟨C3,e3,c3⟩:=zb2 hb.1.2.2.1 (body:=fun i s=>(S_q2j_b1 b i s).den) (F:=F_q3e b) (fun i s=>rfl) _ (fun i hi=>verP hb hRA hCA hi)
   have e3:F_q2j b (b.Verifications.length:Int)=some C3:=e3
   rw[c2.mpr hC,z1e (by simp[AllP]),e3,obind]
   by_cases hV:VAll b∧b.Verifications.length≤200
   ·obtain⟨C4,e4,c4⟩:=zb2 hb.1.2.2.2 (body:=fun i s=>(S_q2k_b1 b i s).den) (F:=F_q3f b) (fun i s=>rfl) _ (fun i hi=>ordP hb hRA hCA hV.1 hi)
    have e4:F_q2k b (b.Orders.length:Int)=some C4:=e4
    rw[c3.mpr hV,z1e (by simp[AllP]),e4,obind]
    congr 1
    rw[Bool.eq_iff_iff,decide_eq_true_eq]
    simp only[Bool.and_self,Bool.true_and]
    rw[c4]
    refine⟨fun h=>⟨hRA,hCA,fun r hr=>?_,hV.1,fun r hr=>?_,h.1,hR.2,hC.2,hV.2,h.2⟩,fun h=>⟨h.2.2.2.2.2.1,h.2.2.2.2.2.2.2.2.2⟩⟩
    ·obtain⟨i,hi,e⟩:=z1h hr
     rw[← e]; exact (hR.1 i hi).2
    ·obtain⟨i,hi,e⟩:=z1h hr
     rw[← e]; exact (hC.1 i hi).2
   ·have:C3=false:=Bool.eq_false_iff.mpr fun h=>hV (c3.mp h)
    rw[this,z14 (by simp[AllP]),obind]
    rw[decide_eq_false (fun h:Val b=>hV ⟨h.2.2.2.1,h.2.2.2.2.2.2.2.2.1⟩)]
    rfl
  ·have:C2=false:=Bool.eq_false_iff.mpr fun h=>hC (c2.mp h)
   rw[this,z14 (by simp[AllP]),obind,z14 (by simp[AllP]),obind]
   rw[decide_eq_false (fun h:Val b=>hC ⟨fun i hi=>⟨h.2.1 i hi,h.2.2.2.2.1 _ (zm hi)⟩,h.2.2.2.2.2.2.2.1⟩)]
   rfl
 ·have:C1=false:=Bool.eq_false_iff.mpr fun h=>hR (c1.mp h)
  rw[this,z14 (by simp[AllP]),obind,z14 (by simp[AllP]),obind,z14 (by simp[AllP]),obind]
  rw[decide_eq_false (fun h:Val b=>hR ⟨fun i hi=>⟨h.1 i hi,h.2.2.1 _ (zm hi)⟩,h.2.2.2.2.2.2.1⟩)]
  rfl
end Go.Proofs.YtclaojamgomjbaaGreatDoor
namespace Go.Proofs.YtclaojamgomjbaaGreatDoor
open Go Go.TA
theorem st {α:Type} {c:Bool} {P:Prop} {_:Decidable P} {x y:Option α} {a b:α} (h:c=true↔P) (hx:P→x=some a) (hy:¬ P→y=some b):(if c=true then x else y)=some (if P then a else b):=by
 by_cases hp:P
 ·rw[if_pos (h.mpr hp),if_pos hp,hx hp]
 ·rw[if_neg (fun hc=>hp (h.mp hc)),if_neg hp,hy hp]
def nb:TBo:=⟨[],[],[],[]⟩
def withR (b:TBo) (l:List TRe):TBo:=⟨l,b.Commitments,b.Verifications,b.Orders⟩
def withC (b:TBo) (l:List TCo):TBo:=⟨b.Reservations,l,b.Verifications,b.Orders⟩
def withV (b:TBo) (l:List TVe):TBo:=⟨b.Reservations,b.Commitments,l,b.Orders⟩
def withO (b:TBo) (l:List TOr):TBo:=⟨b.Reservations,b.Commitments,b.Verifications,l⟩
section
open Classical
noncomputable def reserveS (b:TBo) (code:List UInt8) (y d n:Int):TBo×Int :=
 if ¬ Val b then (nb,1) else
 if good code=false then (nb,5) else
 if ¬ ((0≤y∧y≤99)∧dayP d∧amtP n) then (nb,2) else
 if yr d≠y then (nb,16) else
 if (b.Reservations.length:Int)=200 then (nb,3) else
 (withR b (b.Reservations++[⟨b.Reservations.length+1,code,y,d,n,0⟩]),0)
noncomputable def commitS (b:TBo) (r d n p u:Int):TBo×Int :=
 if ¬ Val b then (nb,1) else
 if ¬ (1≤r∧r≤b.Reservations.length) then (nb,6) else
 if ¬ (dayP d∧amtP n∧(1≤p∧p≤1000000)∧dayP u) then (nb,2) else
 if yr d≠(rAt b r).Year then (nb,16) else
 if d<(rAt b r).Day then (nb,8) else
 if leftV b (rAt b r)<n then (nb,15) else
 if (b.Commitments.length:Int)=200 then (nb,3) else
 (withC b (b.Commitments++[⟨b.Commitments.length+1,r,d,n,0,p,u⟩]),0)
noncomputable def verifyS (b:TBo) (c d n:Int):TBo×Int :=
 if ¬ Val b then (nb,1) else
 if ¬ (1≤c∧c≤b.Commitments.length) then (nb,6) else
 if ¬ (dayP d∧amtP n) then (nb,2) else
 if yearOf b c+1<yr d then (nb,16) else
 if d<(cAt b c).Day then (nb,8) else
 if restV b (cAt b c)<n then (nb,15) else
 if (b.Verifications.length:Int)=200 then (nb,3) else
 (withV b (b.Verifications++[⟨b.Verifications.length+1,c,d,n⟩]),0)
noncomputable def orderS (b:TBo) (v d:Int):TBo×Int :=
 if ¬ Val b then (nb,1) else
 if ¬ (1≤v∧v≤b.Verifications.length) then (nb,6) else
 if ¬ dayP d then (nb,2) else
 if yearOf b (vAt b v).Commitment+1<yr d then (nb,16) else
 if (ordersOf b.Orders v).length>0∧(lastV b v).Back=false then (nb,20) else
 if d<(vAt b v).Day∨((ordersOf b.Orders v).length>0∧d<(lastV b v).Day) then (nb,8) else
 if (b.Orders.length:Int)=200 then (nb,3) else
 (withO b (b.Orders++[⟨b.Orders.length+1,v,(ordersOf b.Orders v).length+1,d,false⟩]),0)
noncomputable def releaseS (b:TBo) (r n:Int):TBo×Int :=
 if ¬ Val b then (nb,1) else
 if ¬ (1≤r∧r≤b.Reservations.length) then (nb,6) else
 if ¬ amtP n then (nb,2) else
 if leftN b r<n then (nb,15) else
 (withR b (b.Reservations.set (r-1).toNat ⟨(rAt b r).Number,(rAt b r).Code,(rAt b r).Year,(rAt b r).Day,(rAt b r).Amount,IntKind.i64.wrap ((rAt b r).Released+n)⟩),0)
noncomputable def dropS (b:TBo) (c n:Int):TBo×Int :=
 if ¬ Val b then (nb,1) else
 if ¬ (1≤c∧c≤b.Commitments.length) then (nb,6) else
 if ¬ amtP n then (nb,2) else
 if restV b (cAt b c)<n then (nb,15) else
 (withC b (b.Commitments.set (c-1).toNat ⟨(cAt b c).Number,(cAt b c).Reservation,(cAt b c).Day,(cAt b c).Amount,IntKind.i64.wrap ((cAt b c).Released+n),(cAt b c).Payee,(cAt b c).Due⟩),0)
noncomputable def backS (b:TBo) (v:Int):TBo×Int :=
 if ¬ Val b then (nb,1) else
 if ¬ (1≤v∧v≤b.Verifications.length) then (nb,6) else
 if (ordersOf b.Orders v).length=0∨(lastV b v).Back=true then (nb,9) else
 (withO b (b.Orders.set ((lastV b v).Number-1).toNat ⟨(lastV b v).Number,(lastV b v).Verification,(lastV b v).Attempt,(lastV b v).Day,true⟩),0)
end
theorem zes {b:TBo} (hR:RAll b) {n:Int} (hn:1≤n∧n≤b.Reservations.length):leftN b n=leftV b (rAt b n):=by
 unfold leftN
 have hi:(n-1).toNat<b.Reservations.length:=by omega
 have hf:b.Reservations.find? (fun r=>r.Number==n)=some (rAt b n):=by
  rw[List.find?_eq_some_iff_getElem]
  refine⟨by simpa using (hR.at hn).1,(n-1).toNat,hi,by unfold rAt; rw[List.getD_eq_getElem?_getD,List.getElem?_eq_getElem hi]; rfl,fun j hj=>?_⟩
  have e2:=(hR j (by omega)).1
  have e3:b.Reservations.getD j default=b.Reservations[j]:=by simp[List.getD_eq_getElem?_getD,List.getElem?_eq_getElem (show j<b.Reservations.length by omega)]
  rw[e3] at e2
  simp only[Bool.not_eq_true',beq_eq_false_iff_ne,ne_eq]
  omega
 rw[hf]
theorem zbu {b:TBo} (hb:Small b) {code:List UInt8} (hc:code.length≤1000000) (y d n:Int):F_q3m b code y d n=some (reserveS b code y d n):=by
 have h1:=hb.1.1
 have h2:=hb.1
 have hw:IntKind.i64.wrap ((b.Reservations.length:Int)+1)=b.Reservations.length+1:=wrapId (by omega) (by omega)
 open Classical in simp only[F_q3m,S_q3m,Scr.den,z1y hb,z3e (show code.length<4611686018427387904 by omega),z2h,z1r,z1w,z18,obind,zl,z2n,z25 hb.1,hw]
 unfold reserveS
 refine st (by (simp only[Bool.not_eq_true',decide_eq_false_iff_not])) (fun _=>rfl) fun hV=>?_
 refine st (by (simp only[Bool.not_eq_true'])) (fun _=>rfl) fun hg=>?_
 refine st (by (simp only[Bool.or_eq_true,Bool.not_eq_true',decide_eq_true_eq,decide_eq_false_iff_not,gt_iff_lt] <;> (try unfold dayP) <;> (try unfold amtP) <;> omega)) (fun _=>rfl) fun _=>?_
 refine st (by (simp only[bne_iff_ne,ne_eq] <;> (try unfold dayP) <;> (try unfold amtP) <;> omega)) (fun _=>rfl) fun _=>?_
 refine st (by (simp only[beq_iff_eq] <;> (try unfold dayP) <;> (try unfold amtP) <;> omega)) (fun _=>rfl) fun _=>?_
 obtain⟨_,h3,h4,h5⟩:=h2
 simp only[List.length_append,List.length_cons,List.length_nil]
 rw[za ⟨by omega,trivial⟩,za ⟨by omega,trivial⟩,za ⟨by omega,trivial⟩,za ⟨by omega,trivial⟩,za ⟨by omega,trivial⟩]
 rfl
theorem zdf {b:TBo} (hb:Small b) (r d n p u:Int):F_q3n b r d n p u=some (commitS b r d n p u):=by
 have h2:=hb.1
 obtain⟨h1,h3,h4,h5⟩:=h2
 have hw:IntKind.i64.wrap ((b.Commitments.length:Int)+1)=b.Commitments.length+1:=wrapId (by omega) (by omega)
 open Classical in simp only[F_q3n,S_q3n,Scr.den,z1y hb,z2h,z1r,z1w,z6d,z18,obind,zl,z2n,z25 hb.1,hw]
 unfold commitS
 refine st (by (simp only[Bool.not_eq_true',decide_eq_false_iff_not])) (fun _=>rfl) fun hV=>?_
 refine st (by (simp only[Bool.or_eq_true,decide_eq_true_eq,gt_iff_lt] <;> (try unfold dayP) <;> (try unfold amtP) <;> omega)) (fun _=>rfl) fun hn=>?_
 refine st (by (simp only[Bool.or_eq_true,Bool.not_eq_true',decide_eq_true_eq,decide_eq_false_iff_not,gt_iff_lt] <;> (try unfold dayP) <;> (try unfold amtP) <;> omega)) (fun _=>rfl) fun _=>?_
 have hn:=Classical.not_not.mp hn
 have hV:=Classical.not_not.mp hV
 rw[z2c hn h1,za ⟨by omega,by omega,trivial⟩,zes hV.1 hn]
 refine st (by unfold rAt; (simp only[bne_iff_ne,ne_eq] <;> (try unfold dayP) <;> (try unfold amtP) <;> omega)) (fun _=>rfl) fun _=>?_
 refine st (by unfold rAt; (simp only[decide_eq_true_eq] <;> (try unfold dayP) <;> (try unfold amtP) <;> omega)) (fun _=>rfl) fun _=>?_
 refine st (by (simp only[decide_eq_true_eq,gt_iff_lt] <;> (try unfold dayP) <;> (try unfold amtP) <;> omega)) (fun _=>rfl) fun _=>?_
 refine st (by (simp only[beq_iff_eq] <;> (try unfold dayP) <;> (try unfold amtP) <;> omega)) (fun _=>rfl) fun _=>?_
 simp only[List.length_append,List.length_cons,List.length_nil]
 rw[za ⟨by omega,trivial⟩,za ⟨by omega,trivial⟩,za ⟨by omega,trivial⟩,za ⟨by omega,trivial⟩,za ⟨by omega,trivial⟩]
 rfl
theorem zdg {b:TBo} (hb:Small b) (c d n:Int):F_q3o b c d n=some (verifyS b c d n):=by
 have h2:=hb.1
 obtain⟨h1,h3,h4,h5⟩:=h2
 have hw:IntKind.i64.wrap ((b.Verifications.length:Int)+1)=b.Verifications.length+1:=wrapId (by omega) (by omega)
 open Classical in simp only[F_q3o,S_q3o,Scr.den,z1y hb,z2h,z1r,z1w,z6c,z18,obind,zl,z2n,z25 hb.1,hw]
 unfold verifyS
 refine st (by (simp only[Bool.not_eq_true',decide_eq_false_iff_not])) (fun _=>rfl) fun hV=>?_
 refine st (by (simp only[Bool.or_eq_true,decide_eq_true_eq,gt_iff_lt] <;> (try unfold dayP) <;> (try unfold amtP) <;> omega)) (fun _=>rfl) fun hn=>?_
 refine st (by (simp only[Bool.or_eq_true,Bool.not_eq_true',decide_eq_false_iff_not] <;> (try unfold dayP) <;> (try unfold amtP) <;> omega)) (fun _=>rfl) fun _=>?_
 have hn:=Classical.not_not.mp hn
 have hV:=Classical.not_not.mp hV
 rw[z4d hb hV.2.1 hn,obind,z2c hn h3,z6j hV.1 hV.2.1 hn]
 refine st (by (simp only[decide_eq_true_eq,gt_iff_lt] <;> (try unfold dayP) <;> (try unfold amtP) <;> omega)) (fun _=>rfl) fun _=>?_
 rw[za ⟨by omega,by omega,trivial⟩]
 refine st (by unfold cAt; (simp only[decide_eq_true_eq] <;> (try unfold dayP) <;> (try unfold amtP) <;> omega)) (fun _=>rfl) fun _=>?_
 refine st (by unfold cAt; (simp only[decide_eq_true_eq,gt_iff_lt] <;> (try unfold dayP) <;> (try unfold amtP) <;> omega)) (fun _=>rfl) fun _=>?_
 refine st (by (simp only[beq_iff_eq] <;> (try unfold dayP) <;> (try unfold amtP) <;> omega)) (fun _=>rfl) fun _=>?_
 simp only[List.length_append,List.length_cons,List.length_nil]
 rw[za ⟨by omega,trivial⟩,za ⟨by omega,trivial⟩,za ⟨by omega,trivial⟩,za ⟨by omega,trivial⟩,za ⟨by omega,trivial⟩]
 rfl
theorem zet {b:TBo} (hb:Small b) (v d:Int):F_q3p b v d=some (orderS b v d):=by
 have h2:=hb.1
 obtain⟨h1,h3,h4,h5⟩:=h2
 have hw:IntKind.i64.wrap ((b.Orders.length:Int)+1)=b.Orders.length+1:=wrapId (by omega) (by omega)
 have hol:(ordersOf b.Orders v).length≤b.Orders.length:=List.length_filter_le _ _
 have hw2:IntKind.i64.wrap (((ordersOf b.Orders v).length:Int)+1)=(ordersOf b.Orders v).length+1:=wrapId (by omega) (by omega)
 open Classical in simp only[F_q3p,S_q3p,Scr.den,z1y hb,z2h,z1w,zh6 h5,obind,zl,zh,z25 hb.1,hw,hw2]
 unfold orderS
 refine st (by (simp only[Bool.not_eq_true',decide_eq_false_iff_not])) (fun _=>rfl) fun hV=>?_
 refine st (by (simp only[Bool.or_eq_true,decide_eq_true_eq,gt_iff_lt] <;> (try unfold dayP) <;> (try unfold amtP) <;> omega)) (fun _=>rfl) fun hn=>?_
 refine st (by (simp only[Bool.not_eq_true',decide_eq_false_iff_not] <;> (try unfold dayP) <;> (try unfold amtP) <;> omega)) (fun _=>rfl) fun _=>?_
 have hn:=Classical.not_not.mp hn
 have hV:=Classical.not_not.mp hV
 have hv:=(hV.2.2.2.1.at hn).2.1
 have hy:F_q1e b (b.Verifications.getD (v-1).toNat default).Commitment=some (yearOf b (vAt b v).Commitment):=z4d hb hV.2.1 hv
 rw[z2c hn h4,za ⟨by omega,by omega,trivial⟩,hy,obind,z6j hV.1 hV.2.1 hv]
 refine st (by (simp only[decide_eq_true_eq,gt_iff_lt] <;> (try unfold dayP) <;> (try unfold amtP) <;> omega)) (fun _=>rfl) fun _=>?_
 refine st (by simp) (fun _=>rfl) fun _=>?_
 refine st (by unfold vAt; (simp only[Bool.or_eq_true,Bool.and_eq_true,decide_eq_true_eq,gt_iff_lt] <;> (try unfold dayP) <;> (try unfold amtP) <;> omega)) (fun _=>rfl) fun _=>?_
 refine st (by (simp only[beq_iff_eq] <;> (try unfold dayP) <;> (try unfold amtP) <;> omega)) (fun _=>rfl) fun _=>?_
 simp only[List.length_append,List.length_cons,List.length_nil]
 rw[za ⟨by omega,trivial⟩,za ⟨by omega,trivial⟩,za ⟨by omega,trivial⟩,za ⟨by omega,trivial⟩,za ⟨by omega,trivial⟩]
 rfl
theorem zbv {b:TBo} (hb:Small b) (r n:Int):F_q3q b r n=some (releaseS b r n):=by
 have h2:=hb.1
 obtain⟨h1,h3,h4,h5⟩:=h2
 open Classical in simp only[F_q3q,S_q3q,Scr.den,z1y hb,z1r,z6d,obind,zl,z25 hb.1,Nat.zero_add]
 unfold releaseS
 refine st (by (simp only[Bool.not_eq_true',decide_eq_false_iff_not])) (fun _=>rfl) fun hV=>?_
 refine st (by (simp only[Bool.or_eq_true,decide_eq_true_eq,gt_iff_lt] <;> (try unfold dayP) <;> (try unfold amtP) <;> omega)) (fun _=>rfl) fun hn=>?_
 refine st (by (simp only[Bool.not_eq_true',decide_eq_false_iff_not] <;> (try unfold dayP) <;> (try unfold amtP) <;> omega)) (fun _=>rfl) fun _=>?_
 refine st (by (simp only[decide_eq_true_eq,gt_iff_lt] <;> (try unfold dayP) <;> (try unfold amtP) <;> omega)) (fun _=>rfl) fun _=>?_
 have hn:=Classical.not_not.mp hn
 rw[z2c hn h1]
 simp only[List.length_set]
 rw[za ⟨by omega,trivial⟩,za ⟨by omega,trivial⟩,za ⟨by omega,trivial⟩,za ⟨by omega,by omega,by omega,trivial⟩,za ⟨by omega,trivial⟩]
 rfl
theorem zg5 {b:TBo} (hb:Small b) (c n:Int):F_q3r b c n=some (dropS b c n):=by
 have h2:=hb.1
 obtain⟨h1,h3,h4,h5⟩:=h2
 open Classical in simp only[F_q3r,S_q3r,Scr.den,z1y hb,z1r,z6c,obind,zl,z25 hb.1,Nat.zero_add]
 unfold dropS
 refine st (by (simp only[Bool.not_eq_true',decide_eq_false_iff_not])) (fun _=>rfl) fun hV=>?_
 refine st (by (simp only[Bool.or_eq_true,decide_eq_true_eq,gt_iff_lt] <;> (try unfold dayP) <;> (try unfold amtP) <;> omega)) (fun _=>rfl) fun hn=>?_
 refine st (by (simp only[Bool.not_eq_true',decide_eq_false_iff_not] <;> (try unfold dayP) <;> (try unfold amtP) <;> omega)) (fun _=>rfl) fun _=>?_
 have hn:=Classical.not_not.mp hn
 rw[z2c hn h3,za ⟨by omega,by omega,trivial⟩]
 refine st (by unfold cAt; (simp only[decide_eq_true_eq,gt_iff_lt] <;> (try unfold dayP) <;> (try unfold amtP) <;> omega)) (fun _=>rfl) fun _=>?_
 simp only[List.length_set]
 rw[za ⟨by omega,trivial⟩,za ⟨by omega,trivial⟩,za ⟨by omega,trivial⟩,za ⟨by omega,by omega,trivial⟩,za ⟨by omega,trivial⟩]
 rfl
theorem zbw {b:TBo} {v:Int} (h:0<(ordersOf b.Orders v).length):∃ i,i<b.Orders.length∧b.Orders.getD i default=lastV b v∧(lastV b v).Verification=v∧ordersOf (b.Orders.drop (i+1)) v=[]:=by
 have key:∀ l:List TOr,0<(ordersOf l v).length→∃ i,i<l.length∧l.getD i default=(ordersOf l v).getLastD noOrder∧((ordersOf l v).getLastD noOrder).Verification=v∧ordersOf (l.drop (i+1)) v=[]:=by
  intro l
  induction l with
  | nil=>intro h; simp[ordersOf] at h
  | cons o l ih =>
   intro h
   by_cases h':0<(ordersOf l v).length
   ·obtain⟨i,h1,h2,h3,h4⟩:=ih h'
    have e:(ordersOf (o :: l) v).getLastD noOrder=(ordersOf l v).getLastD noOrder:=by
     unfold ordersOf at h' ⊢
     rw[List.filter_cons]
     split
     ·rw[List.getLastD_cons,List.getLastD_eq_getLast?,List.getLastD_eq_getLast?]
      rw[List.getLast?_eq_getElem?,List.getElem?_eq_getElem (by omega)]
      rfl
     ·rfl
    exact⟨i+1,by simp; omega,by rw[List.getD_cons_succ,e]; exact h2,by rw[e]; exact h3,by rw[List.drop_succ_cons]; exact h4⟩
   ·have e:ordersOf l v=[]:=List.eq_nil_of_length_eq_zero (by omega)
    have e2:ordersOf (o :: l) v=if (o.Verification==v)=true then [o] else []:=by
     unfold ordersOf at e ⊢
     rw[List.filter_cons,e]
    rw[e2] at h ⊢
    by_cases ho:(o.Verification==v)=true
    ·rw[if_pos ho]
     exact⟨0,by simp,rfl,eq_of_beq ho,by simpa using e⟩
    ·rw[if_neg ho] at h; simp at h
 exact key b.Orders h
theorem z5j {l:List TOr} {v:Int} {x:TOr}:x∈ordersOf l v↔x∈l∧x.Verification=v:=by
 unfold ordersOf; rw[List.mem_filter,beq_iff_eq]
theorem zg6 {b:TBo} (hO:OAll b) {i j:Nat} (hij:i<j) (hj:j<b.Orders.length) (hv:(b.Orders.getD i default).Verification=(b.Orders.getD j default).Verification):(b.Orders.getD i default).Back=true∧(b.Orders.getD i default).Day≤(b.Orders.getD j default).Day:=by
 have h:=(hO j hj).2.2.2.2.2.2
 have hm:b.Orders.getD i default∈ordersOf (b.Orders.take j) (b.Orders.getD j default).Verification:=by
  rw[z5j]
  refine⟨?_,hv⟩
  have e:b.Orders.getD i default=(b.Orders.take j).getD i default:=by
   simp only[List.getD_eq_getElem?_getD,List.getElem?_take]
   rw[if_pos hij]
  rw[e]
  exact zm (by rw[List.length_take]; omega)
 have:=List.any_eq_false.mp h _ hm
 simp only[Bool.or_eq_true,Bool.not_eq_true',decide_eq_true_eq,not_or] at this
 exact⟨by simpa using this.1,by omega⟩
theorem zg7 {b:TBo} (hb:Small b) (v:Int):F_q3s b v=some (backS b v):=by
 have h2:=hb.1
 obtain⟨h1,h3,h4,h5⟩:=h2
 open Classical in simp only[F_q3s,S_q3s,Scr.den,z1y hb,zh6 h5,obind,zl,z25 hb.1,Nat.zero_add]
 unfold backS
 refine st (by (simp only[Bool.not_eq_true',decide_eq_false_iff_not])) (fun _=>rfl) fun hV=>?_
 refine st (by (simp only[Bool.or_eq_true,decide_eq_true_eq,gt_iff_lt] <;> (try unfold dayP) <;> (try unfold amtP) <;> omega)) (fun _=>rfl) fun hn=>?_
 refine st (by simp) (fun _=>rfl) fun hl=>?_
 have hV:=Classical.not_not.mp hV
 obtain⟨i,hi,he,_,_⟩:=zbw (b:=b) (v:=v) (by omega)
 have hnum:=(hV.2.2.2.2.2.1 i hi).1
 rw[he] at hnum
 have w:IntKind.i64.wrap ((lastV b v).Number-1)=i:=by rw[wrapId (by omega) (by omega)]; omega
 rw[w]
 simp only[List.length_set,Int.toNat_natCast,he]
 rw[za ⟨by omega,trivial⟩,za ⟨by omega,trivial⟩,za ⟨by omega,trivial⟩,za ⟨by omega,by omega,by omega,trivial⟩,za ⟨by omega,trivial⟩]
 rw[show ((lastV b v).Number-1).toNat=i by omega]
 rfl
end Go.Proofs.YtclaojamgomjbaaGreatDoor
namespace Go.Proofs.YtclaojamgomjbaaGreatDoor
open Go Go.TA
theorem z2s {α:Type} [Inhabited α] (l:List α) (x:α) (i:Nat) (hi:i<l.length):(l++[x]).getD i default=l.getD i default:=by
 simp only[List.getD_eq_getElem?_getD]
 rw[List.getElem?_append_left hi]
theorem z3i {α:Type} [Inhabited α] (l:List α) (x:α):(l++[x]).getD l.length default=x:=by
 simp[List.getD_eq_getElem?_getD]
theorem z4a {α:Type} [Inhabited α] (l:List α) (x:α) (k i:Nat) (hk:k<l.length):(l.set k x).getD i default=if i=k then x else l.getD i default:=by
 simp only[List.getD_eq_getElem?_getD,List.getElem?_set]
 by_cases h:k=i
 ·subst h; simp[hk]
 ·rw[if_neg h,if_neg (fun e=>h e.symm)]
theorem zi9 {α:Type} {l:List α} {p:α→Bool} {f:α→Int} {c:Int} (h:∀ x∈l,0≤f x∧f x≤c) (hl:l.length≤200) (hc:0≤c):0≤sm l p f∧sm l p f≤200 * c:=by
 have h1:=zcq (p:=p) fun x hx=>(h x hx).1
 have h2:=zp9 (p:=p) (fun x hx=>(h x hx).2) hc
 have h3:(l.length:Int) * c≤200 * c:=Int.mul_le_mul_of_nonneg_right (by omega) hc
 omega
theorem CAll.mem {b:TBo} (h:CAll b) {c:TCo} (hc:c∈b.Commitments):CFld b c c.Number∧c=cAt b c.Number∧1≤c.Number∧c.Number≤b.Commitments.length:=by
 obtain⟨i,hi,e⟩:=z1h hc
 have h1:=h i hi
 rw[e] at h1
 have hn:=h1.1
 rw[hn]
 refine⟨h1,?_,by omega,by omega⟩
 unfold cAt
 rw[← e]
 congr 1
 omega
theorem RAll.mem {b:TBo} (h:RAll b) {r:TRe} (hr:r∈b.Reservations):RFld r r.Number∧r=rAt b r.Number∧1≤r.Number∧r.Number≤b.Reservations.length:=by
 obtain⟨i,hi,e⟩:=z1h hr
 have h1:=h i hi
 rw[e] at h1
 have hn:=h1.1
 rw[hn]
 refine⟨h1,?_,by omega,by omega⟩
 unfold rAt
 rw[← e]
 congr 1
 omega
theorem VAll.mem {b:TBo} (h:VAll b) {v:TVe} (hv:v∈b.Verifications):VFld b v v.Number∧v=vAt b v.Number∧1≤v.Number∧v.Number≤b.Verifications.length:=by
 obtain⟨i,hi,e⟩:=z1h hv
 have h1:=h i hi
 rw[e] at h1
 have hn:=h1.1
 rw[hn]
 refine⟨h1,?_,by omega,by omega⟩
 unfold vAt
 rw[← e]
 congr 1
 omega
theorem zeu {b:TBo} (h:Val b) (n:Int):0≤cmt b n∧cmt b n≤200000000000000:=by
 have:=zi9 (l:=b.Commitments) (p:=fun c=>c.Reservation==n) (f:=(·.Amount)) (c:=1000000000000) (fun c hc=>by
  have:=(h.2.1.mem hc).1.2.2.2.1
  unfold amtP at this
  omega) h.2.2.2.2.2.2.2.1 (by omega)
 exact this
theorem zev {b:TBo} (h:Val b) (n:Int):0≤ver b n∧ver b n≤200000000000000:=by
 have:=zi9 (l:=b.Verifications) (p:=fun c=>c.Commitment==n) (f:=(·.Amount)) (c:=1000000000000) (fun c hc=>by
  have:=(h.2.2.2.1.mem hc).1.2.2.2.1
  unfold amtP at this
  omega) h.2.2.2.2.2.2.2.2.1 (by omega)
 exact this
theorem z78 {b:TBo} (h:Val b) {r:TRe} (hr:r∈b.Reservations):leftV b r=r.Amount-r.Released-cmt b r.Number∧0≤leftV b r:=by
 have h1:=zeu h r.Number
 have h2:=(h.1.mem hr).1
 have h3:=h2.2.2.2.2.2.1
 have h4:=h2.2.2.2.2.2.2
 unfold amtP at h3
 exact⟨wrapId (by omega) (by omega),h.2.2.1 r hr⟩
theorem zew {b:TBo} (h:Val b) {c:TCo} (hc:c∈b.Commitments):restV b c=c.Amount-c.Released-ver b c.Number∧0≤restV b c:=by
 have h1:=zev h c.Number
 have h2:=(h.2.1.mem hc).1
 have h3:=h2.2.2.2.1
 have h4:=h2.2.2.2.2.1
 unfold amtP at h3
 exact⟨wrapId (by omega) (by omega),h.2.2.2.2.1 c hc⟩
theorem zbx {b:TBo} {n:Int} (hn:1≤n∧n≤b.Reservations.length):rAt b n∈b.Reservations:=zm (by omega)
theorem znk {b:TBo} {n:Int} (hn:1≤n∧n≤b.Commitments.length):cAt b n∈b.Commitments:=zm (by omega)
theorem valR {b:TBo} (h:Val b) {l:List TRe} (hl:b.Reservations.length≤l.length) (h200:l.length≤200) (hR:∀ i,i<l.length→RFld (l.getD i default) (i+1)) (hs:∀ i,i<b.Reservations.length→(l.getD i default).Day=(b.Reservations.getD i default).Day∧(l.getD i default).Year=(b.Reservations.getD i default).Year) (hL:∀ r∈l,0≤leftV b r):Val (withR b l):=by
 have hr:∀ n:Int,1≤n∧n≤b.Reservations.length→(rAt (withR b l) n).Day=(rAt b n).Day∧(rAt (withR b l) n).Year=(rAt b n).Year:=fun n hn=>hs (n-1).toNat (by omega)
 have hy:∀ n:Int,1≤n∧n≤b.Commitments.length→yearOf (withR b l) n=yearOf b n:=fun n hn=>(hr _ (h.2.1.at hn).2.1).2
 refine⟨hR,fun i hi=>?_,hL,fun i hi=>?_,h.2.2.2.2.1,fun i hi=>?_,h200,h.2.2.2.2.2.2.2⟩
 ·change CFld (withR b l) (b.Commitments.getD i default) _
  obtain⟨a1,a2,a3,a4,a5,a6,a7,a8,a9⟩:=h.2.1 i hi
  obtain⟨b1,b2⟩:=hr _ a2
  exact⟨a1,⟨a2.1,Int.le_trans a2.2 (by simpa [withR] using hl)⟩,a3,a4,a5,a6,a7,by rw[b1]; exact a8,by rw[b2]; exact a9⟩
 ·change VFld (withR b l) (b.Verifications.getD i default) _
  obtain⟨a1,a2,a3,a4,a5,a6⟩:=h.2.2.2.1 i hi
  exact⟨a1,a2,a3,a4,a5,by rw[hy _ a2]; exact a6⟩
 ·change OFld (withR b l) (b.Orders.getD i default) (b.Orders.take i) _
  obtain⟨a1,a2,a3,a4,a5,a6⟩:=h.2.2.2.2.2.1 i hi
  exact⟨a1,a2,a3,a4,by rw[show vAt (withR b l)=vAt b from rfl,hy _ (h.2.2.2.1.at a2).2.1]; exact a5,a6⟩
theorem valC {b:TBo} (h:Val b) {l:List TCo} (hl:b.Commitments.length≤l.length) (h200:l.length≤200) (hC:∀ i,i<l.length→CFld b (l.getD i default) (i+1)) (hs:∀ i,i<b.Commitments.length→(l.getD i default).Day=(b.Commitments.getD i default).Day∧(l.getD i default).Reservation=(b.Commitments.getD i default).Reservation) (hL:∀ r∈b.Reservations,0≤leftV (withC b l) r) (hV:∀ c∈l,0≤restV b c):Val (withC b l):=by
 have hr:∀ n:Int,1≤n∧n≤b.Commitments.length→(cAt (withC b l) n).Day=(cAt b n).Day∧(cAt (withC b l) n).Reservation=(cAt b n).Reservation:=fun n hn=>hs (n-1).toNat (by omega)
 have hy:∀ n:Int,1≤n∧n≤b.Commitments.length→yearOf (withC b l) n=yearOf b n:=fun n hn=>by
  unfold yearOf
  rw[(hr n hn).2]
  rfl
 refine⟨h.1,hC,hL,fun i hi=>?_,hV,fun i hi=>?_,h.2.2.2.2.2.2.1,h200,h.2.2.2.2.2.2.2.2⟩
 ·change VFld (withC b l) (b.Verifications.getD i default) _
  obtain⟨a1,a2,a3,a4,a5,a6⟩:=h.2.2.2.1 i hi
  exact⟨a1,⟨a2.1,Int.le_trans a2.2 (by simpa [withC] using hl)⟩,a3,a4,by rw[(hr _ a2).1]; exact a5,by rw[hy _ a2]; exact a6⟩
 ·change OFld (withC b l) (b.Orders.getD i default) (b.Orders.take i) _
  obtain⟨a1,a2,a3,a4,a5,a6⟩:=h.2.2.2.2.2.1 i hi
  exact⟨a1,a2,a3,a4,by rw[show vAt (withC b l)=vAt b from rfl,hy _ (h.2.2.2.1.at a2).2.1]; exact a5,a6⟩
theorem valV {b:TBo} (h:Val b) {l:List TVe} (hl:b.Verifications.length≤l.length) (h200:l.length≤200) (hV:∀ i,i<l.length→VFld b (l.getD i default) (i+1)) (hs:∀ i,i<b.Verifications.length→l.getD i default=b.Verifications.getD i default) (hL:∀ c∈b.Commitments,0≤restV (withV b l) c):Val (withV b l):=by
 have hr:∀ n:Int,1≤n∧n≤b.Verifications.length→vAt (withV b l) n=vAt b n:=fun n hn=>hs (n-1).toNat (by omega)
 refine⟨h.1,h.2.1,h.2.2.1,hV,hL,fun i hi=>?_,h.2.2.2.2.2.2.1,h.2.2.2.2.2.2.2.1,h200,h.2.2.2.2.2.2.2.2.2⟩
 change OFld (withV b l) (b.Orders.getD i default) (b.Orders.take i) _
 obtain⟨a1,a2,a3,a4,a5,a6⟩:=h.2.2.2.2.2.1 i hi
 exact⟨a1,⟨a2.1,Int.le_trans a2.2 (by simpa [withV] using hl)⟩,a3,by rw[hr _ a2]; exact a4,by rw[hr _ a2]; exact a5,a6⟩
theorem valO {b:TBo} (h:Val b) {l:List TOr} (h200:l.length≤200) (hO:∀ i,i<l.length→OFld b (l.getD i default) (l.take i) (i+1)):Val (withO b l) :=
 ⟨h.1,h.2.1,h.2.2.1,h.2.2.2.1,h.2.2.2.2.1,hO,h.2.2.2.2.2.2.1,h.2.2.2.2.2.2.2.1,h.2.2.2.2.2.2.2.2.1,h200⟩
theorem zex {b:TBo} (h:Val b) {n:Int} (hn:(b.Reservations.length:Int)<n):cmt b n=0:=by
 unfold cmt
 rw[z74 (q:=fun _=>false) (g:=fun _=>0) fun c hc=>by
  have:=(h.2.1.mem hc).1.2.1
  rw[if_neg (by simp; omega)]; rfl]
 have:∀ l:List TCo,sm l (fun _=>false) (fun _=>0)=0:=fun l=>by induction l with
  | nil=>rfl
  | cons x l ih=>rw[z17,ih]; rfl
 exact this _
theorem zly {b:TBo} (h:Val b) {n:Int} (hn:(b.Commitments.length:Int)<n):ver b n=0:=by
 unfold ver
 rw[z74 (q:=fun _=>false) (g:=fun _=>0) fun c hc=>by
  have:=(h.2.2.2.1.mem hc).1.2.1
  rw[if_neg (by simp; omega)]; rfl]
 have:∀ l:List TVe,sm l (fun _=>false) (fun _=>0)=0:=fun l=>by induction l with
  | nil=>rfl
  | cons x l ih=>rw[z17,ih]; rfl
 exact this _
theorem zg8 {b:TBo} (h:Val b) {code:List UInt8} {y d n:Int} (hg:good code=true) (hy:0≤y∧y≤99) (hd:dayP d) (hn:amtP n) (hyr:yr d=y) (hl:(b.Reservations.length:Int)≠200):Val (withR b (b.Reservations++[⟨b.Reservations.length+1,code,y,d,n,0⟩])):=by
 have h200:=h.2.2.2.2.2.2.1
 have hn':=hn
 unfold amtP at hn'
 refine valR h (by simp) (by simp; omega) (fun i hi=>?_) (fun i hi=>by rw[z2s _ _ _ hi]; exact⟨rfl,rfl⟩) fun r hr=>?_
 ·by_cases hi':i<b.Reservations.length
  ·rw[z2s _ _ _ hi']; exact h.1 i hi'
  ·have:i=b.Reservations.length:=by simp at hi; omega
   subst this
   rw[z3i]
   exact⟨rfl,hg,hy,hd,hyr,hn,by simp only; omega⟩
 ·rw[List.mem_append,List.mem_singleton] at hr
  rcases hr with hr | rfl
  ·exact h.2.2.1 r hr
  ·unfold leftV
   simp only
   rw[zex h (by omega),wrapId (by omega) (by omega)]
   omega
theorem zg9 {b:TBo} (h:Val b) {r n:Int} (hr:1≤r∧r≤b.Reservations.length) (hn:amtP n) (hL:n≤leftN b r):Val (withR b (b.Reservations.set (r-1).toNat ⟨(rAt b r).Number,(rAt b r).Code,(rAt b r).Year,(rAt b r).Day,(rAt b r).Amount,IntKind.i64.wrap ((rAt b r).Released+n)⟩)):=by
 have h200:=h.2.2.2.2.2.2.1
 have hm:=zbx hr
 obtain⟨f1,f2,f3,f4,f5,f6,f7⟩:=h.1.at hr
 obtain⟨l1,l2⟩:=z78 h hm
 have hc:=zeu h (rAt b r).Number
 rw[zes h.1 hr] at hL
 unfold amtP at hn f6
 have hw:IntKind.i64.wrap ((rAt b r).Released+n)=(rAt b r).Released+n:=wrapId (by omega) (by omega)
 rw[hw]
 have hk:(r-1).toNat<b.Reservations.length:=by omega
 refine valR h (by simp) (by simp; omega) (fun i hi=>?_) (fun i hi=>?_) fun x hx=>?_
 ·rw[z4a _ _ _ _ hk]
  split
  ·rename_i e
   refine⟨by simp only; omega,f2,f3,f4,f5,f6,by simp only; omega⟩
  ·exact h.1 i (by simpa using hi)
 ·rw[z4a _ _ _ _ hk]
  split
  ·rename_i e
   subst e
   exact⟨rfl,rfl⟩
  ·exact⟨rfl,rfl⟩
 ·rcases List.mem_or_eq_of_mem_set hx with hx | rfl
  ·exact h.2.2.1 x hx
  ·unfold leftV
   simp only
   rw[wrapId (by omega) (by omega)]
   omega
theorem zia {b:TBo} (h:Val b) {r d n p u:Int} (hr:1≤r∧r≤b.Reservations.length) (hd:dayP d) (hn:amtP n) (hp:1≤p∧p≤1000000) (hu:dayP u) (hy:yr d=(rAt b r).Year) (hdr:(rAt b r).Day≤d) (hL:n≤leftV b (rAt b r)) (hl:(b.Commitments.length:Int)≠200):Val (withC b (b.Commitments++[⟨b.Commitments.length+1,r,d,n,0,p,u⟩])):=by
 have h200:=h.2.2.2.2.2.2.2.1
 have hn':=hn
 unfold amtP at hn'
 have hrm:=zbx hr
 obtain⟨l1,l2⟩:=z78 h hrm
 refine valC h (by simp) (by simp; omega) (fun i hi=>?_) (fun i hi=>by rw[z2s _ _ _ hi]; exact⟨rfl,rfl⟩) (fun x hx=>?_) fun c hc=>?_
 ·by_cases hi':i<b.Commitments.length
  ·rw[z2s _ _ _ hi']; exact h.2.1 i hi'
  ·have:i=b.Commitments.length:=by simp at hi; omega
   subst this
   rw[z3i]
   exact⟨rfl,hr,hd,hn,by simp only; omega,hp,hu,hdr,hy⟩
 ·obtain⟨x1,x2⟩:=z78 h hx
  unfold leftV
  have e:cmt (withC b (b.Commitments++[⟨b.Commitments.length+1,r,d,n,0,p,u⟩])) x.Number=cmt b x.Number+if (r==x.Number)=true then n else 0:=by
   unfold cmt withC
   simp only
   rw[z5z,z17,zaz]
   simp
  have hc:=zeu h x.Number
  have hf:=(h.1.mem hx)
  have hf6:=hf.1.2.2.2.2.2.1
  have hf7:=hf.1.2.2.2.2.2.2
  unfold amtP at hf6
  rw[e]
  split
  ·rename_i er
   have er:=eq_of_beq er
   have:x=rAt b r:=by rw[er]; exact hf.2.1
   rw[← this] at hL
   rw[wrapId (by omega) (by omega)]
   omega
  ·rw[wrapId (by omega) (by omega)]
   omega
 ·rw[List.mem_append,List.mem_singleton] at hc
  rcases hc with hc | rfl
  ·exact h.2.2.2.2.1 c hc
  ·unfold restV
   simp only
   rw[zly h (by omega),wrapId (by omega) (by omega)]
   omega
theorem zlz {b:TBo} (h:Val b) {c n:Int} (hc:1≤c∧c≤b.Commitments.length) (hn:amtP n) (hL:n≤restV b (cAt b c)):Val (withC b (b.Commitments.set (c-1).toNat ⟨(cAt b c).Number,(cAt b c).Reservation,(cAt b c).Day,(cAt b c).Amount,IntKind.i64.wrap ((cAt b c).Released+n),(cAt b c).Payee,(cAt b c).Due⟩)):=by
 have h200:=h.2.2.2.2.2.2.2.1
 have hm:=znk hc
 obtain⟨f1,f2,f3,f4,f5,f6,f7,f8,f9⟩:=h.2.1.at hc
 obtain⟨l1,l2⟩:=zew h hm
 have hv:=zev h (cAt b c).Number
 unfold amtP at hn
 have f4':=f4
 unfold amtP at f4'
 have hw:IntKind.i64.wrap ((cAt b c).Released+n)=(cAt b c).Released+n:=wrapId (by omega) (by omega)
 rw[hw]
 have hk:(c-1).toNat<b.Commitments.length:=by omega
 refine valC h (by simp) (by simp; omega) (fun i hi=>?_) (fun i hi=>?_) (fun x hx=>?_) fun x hx=>?_
 ·rw[z4a _ _ _ _ hk]
  split
  ·rename_i e
   exact⟨by simp only; omega,f2,f3,f4,by simp only; omega,f6,f7,f8,f9⟩
  ·exact h.2.1 i (by simpa using hi)
 ·rw[z4a _ _ _ _ hk]
  split
  ·rename_i e
   subst e
   exact⟨rfl,rfl⟩
  ·exact⟨rfl,rfl⟩
 ·have e:∀ m,cmt (withC b (b.Commitments.set (c-1).toNat ⟨(cAt b c).Number,(cAt b c).Reservation,(cAt b c).Day,(cAt b c).Amount,(cAt b c).Released+n,(cAt b c).Payee,(cAt b c).Due⟩)) m=cmt b m:=fun m=>by
   unfold cmt withC
   simp only
   rw[zen hk _ _ _ default]
   change _-(if ((cAt b c).Reservation==m)=true then (cAt b c).Amount else 0)+(if ((cAt b c).Reservation==m)=true then (cAt b c).Amount else 0)=_
   omega
  unfold leftV
  rw[e]
  exact h.2.2.1 x hx
 ·rcases List.mem_or_eq_of_mem_set hx with hx | rfl
  ·exact h.2.2.2.2.1 x hx
  ·unfold restV
   simp only
   rw[wrapId (by omega) (by omega)]
   omega
theorem zib {b:TBo} (h:Val b) {c d n:Int} (hc:1≤c∧c≤b.Commitments.length) (hd:dayP d) (hn:amtP n) (hy:yr d≤yearOf b c+1) (hdc:(cAt b c).Day≤d) (hL:n≤restV b (cAt b c)) (hl:(b.Verifications.length:Int)≠200):Val (withV b (b.Verifications++[⟨b.Verifications.length+1,c,d,n⟩])):=by
 have h200:=h.2.2.2.2.2.2.2.2.1
 have hn':=hn
 unfold amtP at hn'
 refine valV h (by simp) (by simp; omega) (fun i hi=>?_) (fun i hi=>z2s _ _ _ hi) fun x hx=>?_
 ·by_cases hi':i<b.Verifications.length
  ·rw[z2s _ _ _ hi']; exact h.2.2.2.1 i hi'
  ·have:i=b.Verifications.length:=by simp at hi; omega
   subst this
   rw[z3i]
   exact⟨rfl,hc,hd,hn,hdc,hy⟩
 ·obtain⟨x1,x2⟩:=zew h hx
  unfold restV
  have e:ver (withV b (b.Verifications++[⟨b.Verifications.length+1,c,d,n⟩])) x.Number=ver b x.Number+if (c==x.Number)=true then n else 0:=by
   unfold ver withV
   simp only
   rw[z5z,z17,zaz]
   simp
  have hv:=zev h x.Number
  have hf:=(h.2.1.mem hx)
  have hf6:=hf.1.2.2.2.1
  have hf7:=hf.1.2.2.2.2.1
  unfold amtP at hf6
  rw[e]
  split
  ·rename_i er
   have er:=eq_of_beq er
   have:x=cAt b c:=by rw[er]; exact hf.2.1
   rw[← this] at hL
   rw[wrapId (by omega) (by omega)]
   omega
  ·rw[wrapId (by omega) (by omega)]
   omega
theorem zkd {b:TBo} (h:Val b) {v d:Int} (hv:1≤v∧v≤b.Verifications.length) (hd:dayP d) (hy:yr d≤yearOf b (vAt b v).Commitment+1) (hdv:(vAt b v).Day≤d) (hb:0<(ordersOf b.Orders v).length→(lastV b v).Back=true∧(lastV b v).Day≤d) (hl:(b.Orders.length:Int)≠200):Val (withO b (b.Orders++[⟨b.Orders.length+1,v,(ordersOf b.Orders v).length+1,d,false⟩])):=by
 have h200:=h.2.2.2.2.2.2.2.2.2
 refine valO h (by simp; omega) fun i hi=>?_
 by_cases hi':i<b.Orders.length
 ·rw[z2s _ _ _ hi',List.take_append_of_le_length (by omega)]; exact h.2.2.2.2.2.1 i hi'
 ·have:i=b.Orders.length:=by simp at hi; omega
  subst this
  rw[z3i,List.take_left]
  refine⟨rfl,hv,hd,hdv,hy,rfl,?_⟩
  rw[List.any_eq_false]
  intro x hx
  obtain⟨hx1,hx2⟩:=z5j.mp hx
  obtain⟨j,hj,he⟩:=z1h hx1
  obtain⟨k,hk,hke,hkv,hkd⟩:=zbw (b:=b) (v:=v) (List.length_pos_of_mem hx)
  obtain⟨hb1,hb2⟩:=hb (List.length_pos_of_mem hx)
  simp only at hx2
  have:x.Back=true∧x.Day≤d:=by
   rcases Nat.lt_trichotomy j k with hjk | hjk | hjk
   ·have:=zg6 h.2.2.2.2.2.1 hjk hk (by rw[he,hke,hx2,hkv])
    rw[he,hke] at this
    exact⟨this.1,by omega⟩
   ·subst hjk
    rw[← he,hke]; exact⟨hb1,hb2⟩
   ·exfalso
    have hm:x∈ordersOf (b.Orders.drop (k+1)) v:=by
     rw[z5j]
     refine⟨?_,hx2⟩
     have e:x=(b.Orders.drop (k+1)).getD (j-(k+1)) default:=by
      rw[← he]
      simp only[List.getD_eq_getElem?_getD,List.getElem?_drop]
      rw[show k+1+(j-(k+1))=j by omega]
     rw[e]
     exact zm (by rw[List.length_drop]; omega)
    rw[hkd] at hm; cases hm
  simp only[this.1,Bool.not_true,Bool.false_or,decide_eq_true_eq]
  omega
theorem zke (l:List TOr) (i:Nat) (y:TOr) (hi:i<l.length) (hy:y.Verification=(l.getD i default).Verification∧y.Day=(l.getD i default).Day∧y.Back=true) (v d:Int) :
  (ordersOf (l.set i y) v).length=(ordersOf l v).length∧((ordersOf l v).any (fun x=>!x.Back||decide (x.Day>d))=false→(ordersOf (l.set i y) v).any (fun x=>!x.Back||decide (x.Day>d))=false):=by
 induction l generalizing i with
 | nil=>simp at hi
 | cons x l ih =>
  unfold ordersOf at ih ⊢
  cases i with
  | zero =>
   rw[List.set_cons_zero,List.filter_cons,List.filter_cons]
   rw[List.getD_cons_zero] at hy
   rw[hy.1]
   split
   ·simp only[List.length_cons,List.any_cons,hy.2.1,hy.2.2,Bool.not_true,Bool.false_or,Bool.or_eq_false_iff]
    exact⟨trivial,fun h=>⟨h.1.2,h.2⟩⟩
   ·exact⟨rfl,fun h=>h⟩
  | succ i =>
   rw[List.getD_cons_succ] at hy
   have:=ih i (by simpa using hi) hy
   rw[List.set_cons_succ,List.filter_cons,List.filter_cons]
   split
   ·simp only[List.length_cons,List.any_cons,Bool.or_eq_false_iff]
    exact⟨by rw[this.1],fun h=>⟨h.1,this.2 h.2⟩⟩
   ·exact this
theorem zm0 {b:TBo} (h:Val b) {v:Int} (hl:0<(ordersOf b.Orders v).length):Val (withO b (b.Orders.set ((lastV b v).Number-1).toNat ⟨(lastV b v).Number,(lastV b v).Verification,(lastV b v).Attempt,(lastV b v).Day,true⟩)):=by
 have h200:=h.2.2.2.2.2.2.2.2.2
 obtain⟨i,hi,he,hv,hd⟩:=zbw hl
 have hf:=h.2.2.2.2.2.1 i hi
 rw[he] at hf
 rw[show ((lastV b v).Number-1).toNat=i by have:=hf.1; omega]
 refine valO h (by simp; omega) fun j hj=>?_
 rw[List.length_set] at hj
 have hj':=h.2.2.2.2.2.1 j hj
 have key:∀ u d:Int,(ordersOf ((b.Orders.set i ⟨(lastV b v).Number,(lastV b v).Verification,(lastV b v).Attempt,(lastV b v).Day,true⟩).take j) u).length=(ordersOf (b.Orders.take j) u).length∧((ordersOf (b.Orders.take j) u).any (fun x=>!x.Back||decide (x.Day>d))=false→(ordersOf ((b.Orders.set i ⟨(lastV b v).Number,(lastV b v).Verification,(lastV b v).Attempt,(lastV b v).Day,true⟩).take j) u).any (fun x=>!x.Back||decide (x.Day>d))=false):=fun u d=>by
  rw[List.take_set]
  by_cases hij:i<j
  ·have e:(b.Orders.take j).getD i default=lastV b v:=by
    rw[← he]
    simp only[List.getD_eq_getElem?_getD,List.getElem?_take]
    rw[if_pos hij]
   exact zke _ i _ (by rw[List.length_take]; omega) (by rw[e]; exact⟨rfl,rfl,rfl⟩) u d
  ·rw[List.set_eq_of_length_le (by rw[List.length_take]; omega)]
   exact⟨rfl,fun h=>h⟩
 rw[z4a _ _ _ _ hi]
 split
 ·rename_i e
  subst e
  rw[he] at hj'
  obtain⟨a1,a2,a3,a4,a5,a6,a7⟩:=hj'
  exact⟨a1,a2,a3,a4,a5,by rw[(key _ 0).1]; exact a6,(key _ _).2 a7⟩
 ·obtain⟨a1,a2,a3,a4,a5,a6,a7⟩:=hj'
  exact⟨a1,a2,a3,a4,a5,by rw[(key _ 0).1]; exact a6,(key _ _).2 a7⟩
end Go.Proofs.YtclaojamgomjbaaGreatDoor
namespace Go.Proofs.YtclaojamgomjbaaGreatDoor
open Go Go.TA
def TapeOk (s:TTape):Prop:=0≤s.at_∧s.l.length≤500∧s.at_≤s.l.length
theorem zm1 (t:List Int):∃ s,F_q3k t=some s∧TapeOk s:=by
 simp only[F_q3k,S_q3k,Scr.den]
 refine⟨_,zcn ⟨?_,?_,trivial⟩ rfl,by simp,?_,by simp⟩
 ·split <;> omega
 ·split <;> omega
 ·simp only[List.length_take]
  split <;> omega
theorem z10 {n:Int} {s:TTape} (hs:TapeOk s) (h1:1≤n) (hn:n≤4611686018427387904):∃ v s',F_q0 n s=some (v,s')∧TapeOk s'∧0≤v∧v<n:=by
 obtain⟨a1,a2,a3⟩:=hs
 simp only[F_q0,S_q0,Scr.den]
 by_cases hc:s.at_≥(s.l.length:Int)
 ·rw[if_pos (by simp[hc])]
  exact⟨0,s,rfl,⟨a1,a2,a3⟩,by omega,by omega⟩
 ·rw[if_neg (by simp; omega)]
  have e1:IntKind.i64.wrap (s.at_+1)=s.at_+1:=wrapId (by omega) (by omega)
  rw[e1,za ⟨by omega,by omega,by omega,trivial⟩]
  generalize s.l.getD s.at_.toNat default=x
  have t1:x.tmod n<n:=Int.tmod_lt_of_pos x (by omega)
  have t2:-n<x.tmod n:=Int.lt_tmod_of_pos x (by omega)
  have e3:IntKind.i64.wrap (x.tmod n+n)=x.tmod n+n:=wrapId (by omega) (by omega)
  rw[e3]
  have ht:TapeOk ⟨s.l,s.at_+1⟩:=⟨by simp only; omega,a2,by simp only; omega⟩
  split
  ·rename_i h
   simp only[decide_eq_true_eq] at h
   exact⟨_,_,rfl,ht,by omega,by omega⟩
  ·rename_i h
   simp only[decide_eq_true_eq] at h
   exact⟨_,_,rfl,ht,by omega,by omega⟩
theorem z12 {lo hi:Int} {s:TTape} (hs:TapeOk s) (h0:-1000000000000000≤lo) (h1:lo≤hi) (h2:hi≤1000000000000000):∃ v s',F_q6 lo hi s=some (v,s')∧TapeOk s'∧lo≤v∧v≤hi:=by
 simp only[F_q6,S_q6,Scr.den]
 rw[wrapId (n:=hi-lo) (by omega) (by omega),wrapId (n:=hi-lo+1) (by omega) (by omega)]
 obtain⟨v,s',h3,h4,h5,h6⟩:=z10 (n:=hi-lo+1) hs (by omega) (by omega)
 refine⟨lo+v,s',?_,h4,by omega,by omega⟩
 rw[h3,obind]
 simp only
 rw[wrapId (n:=lo+v) (by omega) (by omega)]
theorem zr {l:List Int} {s:TTape} (hs:TapeOk s) (h0:1≤l.length) (h1:l.length≤100):∃ v s',F_q4 l s=some (v,s')∧TapeOk s'∧v∈l:=by
 simp only[F_q4,S_q4,Scr.den]
 obtain⟨v,s',h3,h4,h5,h6⟩:=z10 (n:=(l.length:Int)) hs (by omega) (by omega)
 refine⟨_,s',?_,h4,zm (show v.toNat<l.length by omega)⟩
 rw[h3,obind,za ⟨by simpa using h5,by simp only; omega,trivial⟩]
theorem z8d {s:TTape} (hs:TapeOk s):∃ c s',F_q37 s=some (c,s')∧TapeOk s'∧c.length≤60∧good c=true:=by
 simp only[F_q37,S_q37,Scr.den]
 obtain⟨v,s',h3,h4,h5,h6⟩:=z10 (n:=3) hs (by omega) (by omega)
 have h:∀ c∈([[49],[49,46,50],[50]]:List (List UInt8)),c.length≤60∧good c=true:=by decide
 refine⟨_,s',?_,h4,h _ (zm (show v.toNat<3 by omega))⟩
 rw[h3,obind,za ⟨by simpa using h5,by simp only; omega,trivial⟩]
def Cd (b:TBo):Prop:=∀ r∈b.Reservations,r.Code.length≤60∧r.Amount≤500
def VB (b:TBo):Prop:=Val b∧Cd b
theorem VB.small {b:TBo} (h:VB b):Small b:=by
 obtain⟨⟨_,_,_,_,_,_,h1,h2,h3,h4⟩,hc⟩:=h
 exact⟨⟨by omega,by omega,by omega,by omega⟩,fun r hr=>by have:=(hc r hr).1; omega⟩
theorem zkf:Val nb:=by
 refine⟨fun i hi=>?_,fun i hi=>?_,fun r hr=>?_,fun i hi=>?_,fun r hr=>?_,fun i hi=>?_,by decide,by decide,by decide,by decide⟩
 ·exact absurd hi (Nat.not_lt_zero _)
 ·exact absurd hi (Nat.not_lt_zero _)
 ·cases hr
 ·exact absurd hi (Nat.not_lt_zero _)
 ·cases hr
 ·exact absurd hi (Nat.not_lt_zero _)
end Go.Proofs.YtclaojamgomjbaaGreatDoor
namespace Go.Proofs.YtclaojamgomjbaaGreatDoor
open Go Go.TA
def mt (b:TBo) (code:List UInt8) (y n:Int):Bool:=(rAt b n).Code==code&&(rAt b n).Year==y
theorem zpa:IntKind.i64.wrap 0=0:=wrapId (by omega) (by omega)
def eV:TVe:=⟨1,1,4340,50⟩
theorem znl (b:TBo) (c:TCo) (m:Int):rel (withC b (b.Commitments++[c])) m=rel b m+if (c.Reservation==m)=true then c.Released else 0:=by
 unfold rel withC
 simp only
 rw[z5z,z17,zaz]
 simp
theorem zm2 (b:TBo) (c:TCo) (h0:c.Released=0) (code:List UInt8) (y:Int):usedV (withC b (b.Commitments++[c])) code y=usedV b code y:=by
 unfold usedV
 congr 1
 change sm b.Reservations _ _=sm b.Reservations _ _
 refine z74 fun r _=>?_
 simp only[znl,h0]
 simp
end Go.Proofs.YtclaojamgomjbaaGreatDoor
namespace Go.Proofs.YtclaojamgomjbaaGreatDoor
open Go Go.TA
theorem znm {α:Type} (l:List α) (p:α→Bool):sm l p (fun _=>0)=0:=by
 induction l with
 | nil=>rfl
 | cons x l ih=>rw[z17,ih]; split <;> rfl
theorem zkg {α:Type} [Inhabited α] {num:α→Int} {q:Int→Bool} {p:α→Bool} (a:Int):∀ (l:List α) (i:Nat),i<l.length→(∀ j,j<l.length→j≠i→num (l.getD j default)≠num (l.getD i default))→p (l.getD i default)=q (num (l.getD i default)) →
  sm l p (fun x=>if (num (l.getD i default)==num x)=true then a else 0)=if q (num (l.getD i default))=true then a else 0
 | [],i,hi,_,_=>by simp at hi
 | x :: l,0,hi,hd,hp=>by
  rw[List.getD_cons_zero] at hp hd ⊢
  rw[z17,hp]
  have:sm l p (fun y=>if (num x==num y)=true then a else 0)=sm l p (fun _=>0):=z74 fun y hy=>by
   obtain⟨j,hj,e⟩:=z1h hy
   have:=hd (j+1) (by simp; omega) (by omega)
   rw[List.getD_cons_succ,e] at this
   have e2:(num x==num y)=false:=by simpa using fun h=>this h.symm
   rw[e2]; simp
  rw[this,znm]
  simp
 | x :: l,i+1,hi,hd,hp=>by
  rw[List.getD_cons_succ] at hp hd ⊢
  rw[z17,zkg a l i (by simpa using hi) (fun j hj hji=>by
   have:=hd (j+1) (by simp; omega) (by omega)
   rwa [List.getD_cons_succ] at this) hp]
  have:=hd 0 (by simp) (by omega)
  rw[List.getD_cons_zero] at this
  have e2:(num (l.getD i default)==num x)=false:=by simpa using fun h=>this h.symm
  rw[e2]; simp
theorem zop {b:TBo} (h:Val b) (code:List UInt8) (y:Int) {r:TRe} (hr:r∈b.Reservations):mt b code y r.Number=(r.Code==code&&r.Year==y):=by
 unfold mt
 rw[← (h.1.mem hr).2.1]
theorem zj {P:Prop} {_:Decidable P} {a b:TBo×Int} (h:(if P then a else b).2=0) (ha:a.2≠0):(if P then a else b)=b∧¬ P:=by
 by_cases hp:P
 ·rw[if_pos hp] at h; exact absurd h ha
 ·exact⟨if_neg hp,hp⟩
theorem zey {b:TBo} {r d n p u:Int} (h0:(commitS b r d n p u).2=0) (code:List UInt8) (y:Int):usedV (commitS b r d n p u).1 code y=usedV b code y:=by
 unfold commitS at h0 ⊢
 obtain⟨e,_⟩:=zj h0 (by decide); rw[e] at h0 ⊢; clear e
 obtain⟨e,_⟩:=zj h0 (by decide); rw[e] at h0 ⊢; clear e
 obtain⟨e,_⟩:=zj h0 (by decide); rw[e] at h0 ⊢; clear e
 obtain⟨e,_⟩:=zj h0 (by decide); rw[e] at h0 ⊢; clear e
 obtain⟨e,_⟩:=zj h0 (by decide); rw[e] at h0 ⊢; clear e
 obtain⟨e,_⟩:=zj h0 (by decide); rw[e] at h0 ⊢; clear e
 obtain⟨e,_⟩:=zj h0 (by decide); rw[e] at h0 ⊢; clear e
 exact zm2 _ _ rfl _ _
theorem zez {b:TBo} {c d n:Int} (h0:(verifyS b c d n).2=0) (code:List UInt8) (y:Int):usedV (verifyS b c d n).1 code y=usedV b code y:=by
 unfold verifyS at h0 ⊢
 obtain⟨e,_⟩:=zj h0 (by decide); rw[e] at h0 ⊢; clear e
 obtain⟨e,_⟩:=zj h0 (by decide); rw[e] at h0 ⊢; clear e
 obtain⟨e,_⟩:=zj h0 (by decide); rw[e] at h0 ⊢; clear e
 obtain⟨e,_⟩:=zj h0 (by decide); rw[e] at h0 ⊢; clear e
 obtain⟨e,_⟩:=zj h0 (by decide); rw[e] at h0 ⊢; clear e
 obtain⟨e,_⟩:=zj h0 (by decide); rw[e] at h0 ⊢; clear e
 obtain⟨e,_⟩:=zj h0 (by decide); rw[e] at h0 ⊢; clear e
 rfl
theorem zga {b:TBo} {v d:Int} (h0:(orderS b v d).2=0) (code:List UInt8) (y:Int):usedV (orderS b v d).1 code y=usedV b code y:=by
 unfold orderS at h0 ⊢
 obtain⟨e,_⟩:=zj h0 (by decide); rw[e] at h0 ⊢; clear e
 obtain⟨e,_⟩:=zj h0 (by decide); rw[e] at h0 ⊢; clear e
 obtain⟨e,_⟩:=zj h0 (by decide); rw[e] at h0 ⊢; clear e
 obtain⟨e,_⟩:=zj h0 (by decide); rw[e] at h0 ⊢; clear e
 obtain⟨e,_⟩:=zj h0 (by decide); rw[e] at h0 ⊢; clear e
 obtain⟨e,_⟩:=zj h0 (by decide); rw[e] at h0 ⊢; clear e
 obtain⟨e,_⟩:=zj h0 (by decide); rw[e] at h0 ⊢; clear e
 rfl
end Go.Proofs.YtclaojamgomjbaaGreatDoor
namespace Go.Proofs.YtclaojamgomjbaaGreatDoor
open Go Go.TA
theorem zh9 {α:Type} {p:α→Bool} {f:α→Int} {l:List α} (h:∀ x∈l,p x=false):sm l p f=0:=by
 induction l with
 | nil=>rfl
 | cons x l ih=>rw[z17,h x (by simp),ih fun y hy=>h y (by simp[hy])]; rfl
end Go.Proofs.YtclaojamgomjbaaGreatDoor
namespace Go.Proofs.YtclaojamgomjbaaGreatDoor
open Go Go.TA
def SmN (k:Nat) (b:TBo):Prop:=(b.Reservations.length≤k∧b.Commitments.length≤k∧b.Verifications.length≤k∧b.Orders.length≤k)∧∀ r∈b.Reservations,r.Code.length≤1000
theorem SmN.small {k:Nat} {b:TBo} (h:SmN k b) (hk:k≤1000):Small b:=by
 obtain⟨⟨h1,h2,h3,h4⟩,hc⟩:=h
 exact⟨⟨by omega,by omega,by omega,by omega⟩,fun r hr=>by have:=hc r hr; omega⟩
theorem VB.smN {b:TBo} (h:VB b):SmN 200 b:=by
 obtain⟨⟨_,_,_,_,_,_,h1,h2,h3,h4⟩,hc⟩:=h
 exact⟨⟨h1,h2,h3,h4⟩,fun r hr=>by have:=(hc r hr).1; omega⟩
theorem z3x {s:TTape} (hs:TapeOk s):∃ c s',F_q2u s=some (c,s')∧TapeOk s'∧c.length≤1000:=by
 simp only[F_q2u,S_q2u,Scr.den]
 obtain⟨v,s',h3,h4,h5,h6⟩:=z10 (n:=12) hs (by omega) (by omega)
 have h:∀ c∈([[],[48],[48,49],[49,46],[46,49],[49,46,46,50],[49,48,48],[49,46,50,46,51,46,52,46,53],[120],[49,32],[57,57,46,57,57,46,57,57,46,57,57],[52]]:List (List UInt8)),c.length≤1000:=by decide
 refine⟨_,s',?_,h4,h _ (zm (show v.toNat<12 by omega))⟩
 rw[h3,obind,za ⟨by simpa using h5,by simp only; omega,trivial⟩]
theorem zm3 {s:TTape} (hs:TapeOk s):∃ c s',F_q4g [] s=some (c,s')∧TapeOk s'∧c.length≤1000:=by
 simp only[F_q4g,S_q4g,Scr.den]
 rw[z14 (by simp[AllP]),obind,if_pos (by simp)]
 obtain⟨c,s',h1,h2,h3⟩:=z3x hs
 simp only[h1,obind]
 exact⟨_,_,rfl,h2,h3⟩
theorem zad {b:TBo} {k:Nat} (h:SmN k b) {i:Nat} (hi:i<b.Reservations.length) {x:TRe} (hx:x.Code=(b.Reservations.getD i default).Code):∀ r∈b.Reservations.set i x,r.Code.length≤1000:=fun r hr=>by
 rcases List.mem_or_eq_of_mem_set hr with hr | rfl
 ·exact h.2 r hr
 ·rw[hx]; exact h.2 _ (zm hi)
theorem zf0 (b:TBo):∃ C,F_q1c b=some C∧(C=true→SmN 40 b):=by
 simp only[F_q1c,S_q1c,Scr.den,zh]
 obtain⟨h1,h2⟩:=zu (body:=fun i s=>(S_q1c_b1 b i s).den) (n:=b.Reservations.length) (c:=false) (fun i=>(b.Reservations.getD i default).Code.length≤60) (fun i hi hp=>by
  simp only[S_q1c_b1,Scr.den]; rw[if_neg (by rw[decide_eq_true_eq]; omega)]) (fun i hi hp=>by
  simp only[S_q1c_b1,Scr.den]; rw[if_pos (by rw[decide_eq_true_eq]; omega)])
 by_cases h:∀ j,j<b.Reservations.length→(b.Reservations.getD j default).Code.length≤60
 ·rw[h1 h]
  refine⟨_,rfl,fun hc=>?_⟩
  simp only[Bool.and_eq_true,decide_eq_true_eq] at hc
  refine⟨by omega,fun r hr=>?_⟩
  obtain⟨i,hi,e⟩:=z1h hr
  have:=h i hi
  rw[e] at this
  omega
 ·rw[h2 h]
  exact⟨false,rfl,fun h=>by cases h⟩
end Go.Proofs.YtclaojamgomjbaaGreatDoor
namespace Go.Proofs.YtclaojamgomjbaaGreatDoor
open Go Go.TA
theorem z4e (b:TBo) (code:List UInt8) (y:Int):F_qe b code y=some (usedV b code y):=by
 simp only[F_qe,S_qe,Scr.den]
 rw[z1v b.Reservations (fun (s:Int) r=>if (r.Code==code&&r.Year==y)=true then IntKind.i64.wrap (s+(r.Amount-r.Released-rel b r.Number)) else s)]
 ·have:=z84 b.Reservations (fun r=>r.Code==code&&r.Year==y) (fun r=>r.Amount-r.Released-rel b r.Number) 0
  rw[zpa] at this
  simp only[outM,this]
  simp[usedV]
 ·intro i s hi
  simp only[S_qe_b2,Scr.den,zl]
  obtain⟨r,hr⟩:∃ r,b.Reservations.getD i default=r:=⟨_,rfl⟩
  simp only[hr]
  cases hp:(r.Code==code&&r.Year==y)
  ·rw[if_pos (by
    cases h1:r.Code==code
    ·rfl
    ·rw[h1] at hp; simpa [bne] using hp)]
   rfl
  ·simp only[Bool.and_eq_true] at hp
   rw[if_neg (by simp only[bne,hp.1,hp.2]; decide),zcp]
   rw[z1v b.Commitments (fun (s:Int) c=>if (c.Reservation==r.Number)=true then IntKind.i64.wrap (s-c.Released) else s)]
   ·have:=z86 b.Commitments (fun c=>c.Reservation==r.Number) (·.Released) (s+(r.Amount-r.Released))
    simp only[outM,this,if_true]
    unfold rel
    congr 3
    omega
   ·intro j s hj
    simp only[S_qe_b1,Scr.den,hr]
    split <;> rfl
end Go.Proofs.YtclaojamgomjbaaGreatDoor
namespace Go.Proofs.YtclaojamgomjbaaGreatDoor
open Go Go.TA
theorem z6k {a b:List UInt8} (ha:good a=true) (hb:good b=true):F_qv a b=some (lexC (parts a) (parts b)):=by
 have h1:=(z2p ha).2
 have h2:=(z2p hb).2
 simp only[F_qv,S_qv,Scr.den,z8a ha,z8a hb,obind,zl]
 rw[if_neg (by simp only[Bool.or_eq_true,beq_iff_eq]; omega)]
 generalize parts a=x at h1
 generalize parts b=y at h2
 generalize hF:(fun s=>(S_qv_b1 x y s).den)=F
 have key:∀ (k i:Nat),i+k=x.length→i≤y.length→outM (iterM F (i:Int)) (fun _=>if decide ((x.length:Int)<(y.length:Int))=true then some (-1) else if decide ((x.length:Int)>(y.length:Int))=true then some 1 else some 0) (fun r=>some (id r))=some (lexC (x.drop i) (y.drop i)):=by
  intro k
  induction k with
  | zero =>
   intro i hk hy
   rw[z16,← congrFun hF]
   simp only[S_qv_b1,Scr.den,zh]
   rw[if_neg (by simp only[Bool.and_eq_true,decide_eq_true_eq]; omega),List.drop_of_length_le (by omega)]
   simp only[outM]
   by_cases h:y.length≤i
   ·rw[List.drop_of_length_le h,if_neg (by simp; omega),if_neg (by simp; omega)]; rfl
   ·rw[List.drop_eq_getElem_cons (by omega:i<y.length),if_pos (by simp; omega)]; rfl
  | succ k ih =>
   intro i hk hy
   have hi:i<x.length:=by omega
   rw[z16,← congrFun hF,List.drop_eq_getElem_cons hi]
   simp only[S_qv_b1,Scr.den,zh]
   by_cases h:y.length≤i
   ·rw[if_neg (by simp only[Bool.and_eq_true,decide_eq_true_eq]; omega),List.drop_of_length_le h]
    simp only[outM]
    rw[if_neg (by simp; omega),if_pos (by simp; omega)]; rfl
   ·have hj:i<y.length:=by omega
    have w1:IntKind.i64.wrap ((i:Int)+1)=((i+1:Nat):Int):=by rw[wrapId (by omega) (by omega)]; omega
    rw[if_pos (by simp only[Bool.and_eq_true,decide_eq_true_eq]; omega),za ⟨by omega,by omega,by omega,trivial⟩,List.drop_eq_getElem_cons hj]
    simp only[Int.toNat_natCast,z8y hi,z8y hj,lexC]
    by_cases h1:x[i]<y[i]
    ·rw[if_pos (decide_eq_true h1),if_pos h1]; rfl
    ·rw[if_neg (by simpa using h1),if_neg h1]
     by_cases h2:x[i]>y[i]
     ·rw[if_pos (decide_eq_true h2),if_pos h2]; rfl
     ·rw[if_neg (by simpa using h2),if_neg h2,w1]
      exact ih (i+1) (by omega) (by omega)
 have:=key x.length 0 (by omega) (by omega)
 simpa using this
def RtOk (r:TRi):Prop:=good r.Code=true∧(0≤r.Year∧r.Year≤99)∧(0≤r.Granted∧r.Granted≤1000000000000000)∧(0≤r.Asked∧r.Asked≤1000000000000000)∧(0≤r.Returned∧r.Returned≤r.Granted)
instance (r:TRi):Decidable (RtOk r):=inferInstanceAs (Decidable (_∧_))
theorem z61 (n a b:Int):F_q31 n a b=some (decide (a≤n∧n≤b)):=by
 simp only[F_q31,S_q31,Scr.den,zh,ge_iff_le,Bool.decide_and]
theorem zb3 (n:Int):F_q3g n=some (decide (0≤n∧n≤1000000000000000)):=by
 simp only[F_q3g,S_q3g,Scr.den,z61,obind]
theorem zb4 {r:TRi} (h:r.Code.length≤1000000):F_q43 r=some (decide (RtOk r)):=by
 open Classical in simp only[F_q43,S_q43,F_q4n,S_q4n,Scr.den,z5h (show r.Code.length≤1099511627776 by omega),z61,zb3,z18,obind,zh,z32]
 refine congrArg some ?_
 have e:decide (((parts r.Code).length:Int)>0)=good r.Code:=by rw[← z4t]; rw[Bool.eq_iff_iff]; simp
 rw[e,Bool.eq_iff_iff]
 simp only[RtOk,Bool.and_eq_true,decide_eq_true_eq,and_assoc]
theorem z5k {r:TRi} (h:r.Code.length≤1000000):F_q2w r=some (decide (RtOk r)):=by
 open Classical in simp only[F_q2w,S_q2w,F_q1s,S_q1s,Scr.den,z3e (show r.Code.length<4611686018427387904 by omega),z18,obind,zh,z32]
 refine congrArg some ?_
 rw[Bool.eq_iff_iff]
 simp only[RtOk,Bool.and_eq_true,decide_eq_true_eq,and_assoc,ge_iff_le]
theorem z1o {α ρ:Type} [Inhabited α] (l:List α) (p:α→Bool) (v:Nat→ρ) {body:Nat→Unit→Option (Step Unit ρ)} (hs:∀ i,i<l.length→body i ()=some (if p (l.getD i default)=true then .ret (v i) else .cont ())) :
  rangeM body l.length 0 ()=some (if l.any p=true then .ret (v (l.findIdx p)) else .next ()):=by
 have key:∀ (k i:Nat),i+k=l.length→rangeM body k i ()=some (if (l.drop i).any p=true then .ret (v (i+(l.drop i).findIdx p)) else .next ()):=by
  intro k
  induction k with
  | zero=>intro i hk; rw[List.drop_of_length_le (by omega)]; rfl
  | succ k ih =>
   intro i hk
   have hi:i<l.length:=by omega
   have e:l.getD i default=l[i]:=by simp[List.getD_eq_getElem?_getD,List.getElem?_eq_getElem hi]
   rw[List.drop_eq_getElem_cons hi]
   simp only[rangeM,hs i hi,e,List.any_cons,List.findIdx_cons]
   cases hp:p l[i] with
   | true=>simp
   | false =>
    simp only[Bool.false_eq_true,if_false,Bool.false_or,cond_false]
    rw[ih (i+1) (by omega),show i+1+(l.drop (i+1)).findIdx p=i+((l.drop (i+1)).findIdx p+1) by omega]
 have:=key l.length 0 (by omega)
 simpa using this
def isR (c:List UInt8) (y:Int) (r:TRi):Bool:=r.Code==c&&r.Year==y
theorem zha {c:List UInt8} {y:Int} {r:TRi}:isR c y r=true↔r.Code=c∧r.Year=y:=by simp[isR]
def hasR (l:List TRi) (c:List UInt8) (y:Int):Bool:=l.any (isR c y)
def rix (l:List TRi) (c:List UInt8) (y:Int):Nat:=l.findIdx (isR c y)
def rightV (l:List TRi) (c:List UInt8) (y:Int):TRi:=if hasR l c y=true then l.getD (rix l c y) default else ⟨c,y,0,0,0⟩
def unusedV (o:TOf) (c:List UInt8) (y:Int):Int:=IntKind.i64.wrap (IntKind.i64.wrap ((rightV o.Rights c y).Granted-(rightV o.Rights c y).Returned)-usedV o.Book c y)
theorem z4l {l:List TRi} {c:List UInt8} {y:Int} (h:hasR l c y=true):rix l c y<l.length∧(l.getD (rix l c y) default).Code=c∧(l.getD (rix l c y) default).Year=y:=by
 have hlt:rix l c y<l.length:=by
  unfold rix
  rw[List.findIdx_lt_length]
  simpa [hasR] using h
 refine⟨hlt,?_⟩
 have:=List.findIdx_getElem (xs:=l) (p:=isR c y) (w:=hlt)
 rw[zha] at this
 rw[show l.getD (rix l c y) default=l[rix l c y] by simp[List.getD_eq_getElem?_getD,List.getElem?_eq_getElem hlt]]
 exact this
theorem zhb (o:TOf) (c:List UInt8) (y:Int):F_q3h o c y=some (if hasR o.Rights c y=true then (rix o.Rights c y:Int) else -1):=by
 simp only[F_q3h,S_q3h,F_q2c,S_q2c,Scr.den]
 rw[z1o o.Rights (isR c y) (fun i=>(i:Int))]
 ·unfold hasR
  by_cases h:o.Rights.any (isR c y)=true
  ·rw[if_pos h,if_pos h]; rfl
  ·rw[if_neg h,if_neg h]; rfl
 ·intro i hi
  simp only[S_q2c_b1,F_q4p,S_q4p,Scr.den,obind,zh]
  unfold isR
  split <;> rfl
theorem zdo (o:TOf) (c:List UInt8) (y:Int):F_qu o c y=some (if hasR o.Rights c y=true then (rix o.Rights c y:Int) else -1):=by
 simp only[F_qu,S_qu,Scr.den]
 rw[z1o o.Rights (isR c y) (fun i=>(i:Int))]
 ·unfold hasR
  by_cases h:o.Rights.any (isR c y)=true
  ·rw[if_pos h,if_pos h]; rfl
  ·rw[if_neg h,if_neg h]; rfl
 ·intro i hi
  simp only[S_qu_b1,Scr.den,zh]
  unfold isR
  split <;> rfl
theorem zoq (o:TOf) (c:List UInt8) (y:Int):F_q48 o c y=some (hasR o.Rights c y):=by
 simp only[F_q48,S_q48,Scr.den,zhb,obind]
 cases h:hasR o.Rights c y
 ·simp
 ·simp
theorem zm4 (o:TOf) (c:List UInt8) (y:Int):F_q49 o c y=some (rightV o.Rights c y):=by
 simp only[F_q49,S_q49,Scr.den,zhb,obind,rightV]
 by_cases h:hasR o.Rights c y=true
 ·have:=(z4l h).1
  simp only[if_pos h,Int.toNat_natCast]
  rw[if_pos (by simp),za ⟨by omega,by omega,trivial⟩]
 ·simp only[if_neg h]
  rw[if_neg (by decide)]
theorem z8e (o:TOf) (c:List UInt8) (y:Int):F_q35 o c y=some (rightV o.Rights c y):=by
 simp only[F_q35,S_q35,Scr.den,zdo,obind,rightV]
 by_cases h:hasR o.Rights c y=true
 ·have:=(z4l h).1
  simp only[if_pos h,Int.toNat_natCast]
  rw[if_pos (by simp),za ⟨by omega,by omega,trivial⟩]
 ·simp only[if_neg h]
  rw[if_neg (by decide)]
theorem zkh (o:TOf) (c:List UInt8) (y:Int):F_q4a o c y=some (unusedV o c y):=by
 simp only[F_q4a,S_q4a,Scr.den,zm4,zbs,obind,unusedV]
theorem z7i (o:TOf) (c:List UInt8) (y:Int):F_q36 o c y=some (unusedV o c y):=by
 simp only[F_q36,S_q36,Scr.den,z8e,z4e,obind,unusedV]
end Go.Proofs.YtclaojamgomjbaaGreatDoor
namespace Go.Proofs.YtclaojamgomjbaaGreatDoor
open Go Go.TA
def SmO (o:TOf):Prop:=Small o.Book∧o.Rights.length≤1000000∧∀ r∈o.Rights,r.Code.length≤1000000
def Srt (l:List TRi):Prop:=∀ i,i<l.length→i=0∨cmpR (l.getD (i-1) default) (l.getD i default)<0
def VO (o:TOf):Prop:=(1≤o.Number∧o.Number≤6)∧o.Rights.length≤60∧Val o.Book∧(∀ r∈o.Rights,RtOk r)∧Srt o.Rights∧∀ x∈o.Book.Reservations,hasR o.Rights x.Code x.Year=true∧0≤unusedV o x.Code x.Year
theorem z8z {a b:TRi} (h:good a.Code=true∨good b.Code=true):cmpR a b<0↔lexC (parts a.Code) (parts b.Code)<0∨(lexC (parts a.Code) (parts b.Code)=0∧a.Year<b.Year):=by
 unfold cmpR
 rw[z60 h]
 generalize lexC (parts a.Code) (parts b.Code)=c
 by_cases hc:c=0
 ·rw[if_neg (by simpa using hc)]
  unfold cmpI
  by_cases h1:a.Year<b.Year
  ·rw[if_pos h1]; simp[hc,h1]
  ·rw[if_neg h1]
   split <;> simp[hc,h1]
 ·rw[if_pos hc]; simp[hc]
theorem z90 {a b:TRi} (ha:good a.Code=true) (hb:good b.Code=true):cmpR a b=0↔a.Code=b.Code∧a.Year=b.Year:=by
 unfold cmpR
 rw[z60 (.inl ha)]
 by_cases hc:lexC (parts a.Code) (parts b.Code)=0
 ·rw[if_neg (by simpa using hc)]
  have e:=zct ha hb (z55 hc)
  unfold cmpI
  by_cases h1:a.Year<b.Year
  ·rw[if_pos h1]; simp; omega
  ·rw[if_neg h1]
   by_cases h2:a.Year>b.Year
   ·rw[if_pos h2]; simp; omega
   ·rw[if_neg h2]; simp[e]; omega
 ·rw[if_pos hc]
  constructor
  ·intro h; exact absurd h hc
  ·rintro⟨h1,_⟩
   exact absurd (by rw[h1]; exact zcr _) hc
theorem zic {a b c:TRi} (ha:good a.Code=true) (hb:good b.Code=true) (h:cmpR a b<0) (h':cmpR b c<0):cmpR a c<0:=by
 rw[z8z (.inl ha)] at h ⊢
 rw[z8z (.inl hb)] at h'
 rcases h with h | ⟨h,h2⟩
 ·rcases h' with h' | ⟨h',_⟩
  ·exact .inl (zb1 h h')
  ·rw[← z55 h']; exact .inl h
 ·rcases h' with h' | ⟨h',h3⟩
  ·rw[z55 h]; exact .inl h'
  ·rw[z55 h]; exact .inr ⟨h',by omega⟩
theorem zcu {a b:TRi} (ha:good a.Code=true):cmpR b a=-cmpR a b:=by
 unfold cmpR
 rw[z60 (.inl ha),z60 (.inr ha),zcs (parts a.Code) (parts b.Code)]
 by_cases h:lexC (parts a.Code) (parts b.Code)=0
 ·rw[if_neg (by omega),if_neg (by omega)]
  unfold cmpI
  by_cases h1:a.Year<b.Year
  ·rw[if_neg (by omega),if_pos (by omega),if_pos h1]; rfl
  ·by_cases h2:b.Year<a.Year
   ·rw[if_pos h2,if_neg h1,if_pos (by omega)]
   ·rw[if_neg h2,if_neg (by omega),if_neg h1,if_neg (by omega)]; rfl
 ·rw[if_pos (by omega),if_pos h]
theorem Srt.lt {l:List TRi} (h:Srt l) (hg:∀ r∈l,RtOk r):∀ {i j:Nat},i<j→j<l.length→cmpR (l.getD i default) (l.getD j default)<0:=by
 intro i j hij
 induction j with
 | zero=>omega
 | succ j ih =>
  intro hj
  have h1:=(h (j+1) hj).resolve_left (by omega)
  rw[show j+1-1=j by omega] at h1
  by_cases e:i=j
  ·subst e; exact h1
  ·exact zic (hg _ (zm (by omega))).1 (hg _ (zm (by omega))).1 (ih (by omega) (by omega)) h1
theorem zgb {ρ:Type} {body:Nat→Unit→Option (Step Unit ρ)} {n:Nat} {c:ρ} (p:Nat→Prop) (hy:∀ i,i<n→(∀ j,j<i→p j)→p i→body i ()=some (.cont ())) (hn:∀ i,i<n→(∀ j,j<i→p j)→¬ p i→body i ()=some (.ret c)) :
  ((∀ j,j<n→p j)→rangeM body n 0 ()=some (.next ()))∧((¬ ∀ j,j<n→p j)→rangeM body n 0 ()=some (.ret c)):=by
 have key:∀ (k i:Nat),i+k=n→(∀ j,j<i→p j)→((∀ j,j<n→p j)→rangeM body k i ()=some (.next ()))∧((¬ ∀ j,j<n→p j)→rangeM body k i ()=some (.ret c)):=by
  intro k
  induction k with
  | zero =>
   intro i hk hp
   exact⟨fun _=>rfl,fun h=>absurd (fun j hj=>hp j (by omega)) h⟩
  | succ k ih =>
   intro i hk hp
   by_cases hpi:p i
   ·have hp':∀ j,j<i+1→p j:=fun j hj=>by
     rcases Nat.lt_or_ge j i with h | h
     ·exact hp j h
     ·obtain rfl:j=i:=by omega
      exact hpi
    have:=ih (i+1) (by omega) hp'
    simp only[rangeM,hy i (by omega) hp hpi]
    exact this
   ·simp only[rangeM,hn i (by omega) hp hpi]
    exact⟨fun h=>absurd (h i (by omega)) hpi,fun _=>trivial⟩
 exact key n 0 (by omega) (fun j hj=>by omega)
theorem zf1 (i:Nat) (hi:i<9223372036854775808):(IntKind.i64.wrap ((i:Int)-1)).toNat=i-1:=by rw[wrapId (by omega) (by omega)]; omega
theorem z62 {o:TOf} (hs:SmO o) {i:Nat} (hi:i<o.Rights.length) :
  (S_qg_b1 o i ()).den=if RtOk (o.Rights.getD i default)∧(i=0∨cmpR (o.Rights.getD (i-1) default) (o.Rights.getD i default)<0) then some (.cont ()) else some (.ret false):=by
 have h1:=hs.2.2 _ (zm hi)
 have h2:=hs.2.2 _ (zm (l:=o.Rights) (i:=i-1) (by omega))
 have hl:=hs.2.1
 simp only[S_qg_b1,Scr.den,zf1 i (show i<9223372036854775808 by omega)]
 generalize o.Rights.getD i default=r at h1 ⊢
 generalize o.Rights.getD (i-1) default=r' at h2 ⊢
 simp only[zb4 h1,zac h2 h1,obind,zh,zl]
 by_cases hR:RtOk r
 ·by_cases h0:i=0
  ·subst h0
   rw[z14 (by simp[AllP]),obind,za ⟨fun h=>by simp[AllP] at h,fun h=>by simp[AllP] at h,trivial⟩,if_neg (by simp[hR]),if_pos ⟨hR,.inl rfl⟩]
  ·rw[z1e (by exact⟨by simp; omega,by simp[hR],trivial⟩),obind,za ⟨fun _=>by rw[wrapId (by omega) (by omega)]; omega,fun _=>by omega,trivial⟩]
   by_cases hc:cmpR r' r<0
   ·rw[if_neg (by intro h; simp[hR] at h; exact absurd hc (Int.not_lt.2 h.2)),if_pos ⟨hR,.inr hc⟩]
   ·rw[if_pos (by simp[hR]; exact⟨by omega,Int.not_lt.1 hc⟩),if_neg (fun h=>h.2.elim h0 hc)]
 ·rw[z14 (by simp[AllP,hR]),obind,za ⟨fun h=>by simp[AllP,hR] at h,fun h=>by simp[AllP,hR] at h,trivial⟩,if_pos (by simp[hR]),if_neg (fun h=>hR h.1)]
theorem z63 (o:TOf) (i:Nat) :
  (S_qg_b2 o i ()).den=if hasR o.Rights (o.Book.Reservations.getD i default).Code (o.Book.Reservations.getD i default).Year=true∧0≤unusedV o (o.Book.Reservations.getD i default).Code (o.Book.Reservations.getD i default).Year then some (.cont ()) else some (.ret false):=by
 simp only[S_qg_b2,Scr.den,zoq,zkh,obind,zl]
 generalize o.Book.Reservations.getD i default=r
 by_cases hh:hasR o.Rights r.Code r.Year=true
 ·rw[z1e (by exact⟨by simp[hh],trivial⟩),obind]
  by_cases hu:0≤unusedV o r.Code r.Year
  ·rw[if_neg (by intro h; simp[hh] at h; exact absurd hu (Int.not_le.2 h)),if_pos ⟨hh,hu⟩]
  ·rw[if_pos (by simp[hh]; exact Int.not_le.1 hu),if_neg (fun h=>hu h.2)]
 ·rw[z14 (by simp[AllP,hh]),obind,if_pos (by simp[hh]),if_neg (fun h=>hh h.1)]
theorem z39 {α:Type} [Inhabited α] {l:List α} {p:α→Prop} (h:∀ i,i<l.length→p (l.getD i default)):∀ x∈l,p x:=fun x hx=>by
 obtain⟨i,hi,rfl⟩:=List.getElem_of_mem hx
 have:=h i hi
 rwa [show l.getD i default=l[i] by simp[List.getD_eq_getElem?_getD,List.getElem?_eq_getElem hi]] at this
open Classical in
theorem z6l {o:TOf} (hs:SmO o):F_qg o=some (decide (VO o)):=by
 simp only[F_qg,S_qg,Scr.den,zlx hs.1,z18,obind,zl,z2n]
 by_cases h0:(1≤o.Number∧o.Number≤6)∧o.Rights.length≤60∧Val o.Book
 ·obtain⟨⟨a1,a2⟩,a3,a4⟩:=h0
  rw[if_neg (by simp[a4]; omega)]
  by_cases h1:∀ j,j<o.Rights.length→RtOk (o.Rights.getD j default)∧(j=0∨cmpR (o.Rights.getD (j-1) default) (o.Rights.getD j default)<0)
  ·rw[(zu _ (fun i hi h=>by rw[z62 hs hi,if_pos h]) (fun i hi h=>by rw[z62 hs hi,if_neg h])).1 h1]
   simp only[outM]
   by_cases h2:∀ j,j<o.Book.Reservations.length→hasR o.Rights (o.Book.Reservations.getD j default).Code (o.Book.Reservations.getD j default).Year=true∧0≤unusedV o (o.Book.Reservations.getD j default).Code (o.Book.Reservations.getD j default).Year
   ·rw[(zu _ (fun i hi h=>by rw[z63 o i,if_pos h]) (fun i hi h=>by rw[z63 o i,if_neg h])).1 h2]
    simp only
    rw[decide_eq_true ⟨⟨a1,a2⟩,a3,a4,z39 fun i hi=>(h1 i hi).1,fun i hi=>(h1 i hi).2,z39 h2⟩]
   ·rw[(zu _ (fun i hi h=>by rw[z63 o i,if_pos h]) (fun i hi h=>by rw[z63 o i,if_neg h])).2 h2]
    simp only
    rw[decide_eq_false (fun h=>h2 fun j hj=>h.2.2.2.2.2 _ (zm hj))]; rfl
  ·rw[(zu _ (fun i hi h=>by rw[z62 hs hi,if_pos h]) (fun i hi h=>by rw[z62 hs hi,if_neg h])).2 h1]
   simp only[outM]
   rw[decide_eq_false (fun h=>h1 fun j hj=>⟨h.2.2.2.1 _ (zm hj),h.2.2.2.2.1 j hj⟩)]; rfl
 ·rw[if_pos,decide_eq_false (fun h=>h0 ⟨h.1,h.2.1,h.2.2.1⟩)]
  simp only[Bool.or_eq_true,decide_eq_true_eq,Bool.not_eq_true',decide_eq_false_iff_not]
  by_cases hv:Val o.Book
  ·left
   have:¬ ((1≤o.Number∧o.Number≤6)∧o.Rights.length≤60):=fun h=>h0 ⟨h.1,h.2,hv⟩
   omega
  ·exact .inr hv
theorem zki {b:TBo} {c:List UInt8} {y:Int} (h:∀ x∈b.Reservations,¬ (x.Code=c∧x.Year=y)):usedV b c y=0:=by
 unfold usedV
 rw[zh9 fun x hx=>by
  have:=h x hx
  simp only[Bool.and_eq_false_iff,beq_eq_false_iff_ne,ne_eq]
  by_cases h1:x.Code=c
  ·exact .inr fun h2=>this ⟨h1,h2⟩
  ·exact .inl h1]
 exact wrapId (by omega) (by omega)
theorem z3a {l:List TRi} {c:List UInt8} {y:Int}:hasR l c y=true↔∃ r∈l,r.Code=c∧r.Year=y:=by
 simp only[hasR,List.any_eq_true,zha]
theorem z27 {l:List TRi} {c:List UInt8} {y:Int} (h:hasR l c y=true):rightV l c y∈l∧(rightV l c y).Code=c∧(rightV l c y).Year=y:=by
 unfold rightV
 rw[if_pos h]
 obtain⟨h1,h2,h3⟩:=z4l h
 exact⟨zm h1,h2,h3⟩
theorem zkj {o:TOf} (hR:∀ r∈o.Rights,RtOk r):(∀ x∈o.Book.Reservations,hasR o.Rights x.Code x.Year=true∧0≤unusedV o x.Code x.Year) ↔
  (∀ r∈o.Rights,0≤unusedV o r.Code r.Year)∧∀ x∈o.Book.Reservations,hasR o.Rights x.Code x.Year=true:=by
 constructor
 ·intro h
  refine⟨fun r hr=>?_,fun x hx=>(h x hx).1⟩
  by_cases hx:∃ x∈o.Book.Reservations,x.Code=r.Code∧x.Year=r.Year
  ·obtain⟨x,hx,e1,e2⟩:=hx
   rw[← e1,← e2]; exact (h x hx).2
  ·unfold unusedV
   rw[zki fun x hx' e=>hx ⟨x,hx',e⟩]
   obtain⟨h1,h2,h3⟩:=z27 (z3a.2 ⟨r,hr,rfl,rfl⟩:hasR o.Rights r.Code r.Year=true)
   have h4:=hR _ h1
   unfold RtOk at h4
   rw[wrapId (n:=(rightV o.Rights r.Code r.Year).Granted-(rightV o.Rights r.Code r.Year).Returned) (by omega) (by omega),wrapId (by omega) (by omega)]
   omega
 ·rintro⟨h1,h2⟩ x hx
  refine⟨h2 x hx,?_⟩
  obtain⟨k1,k2,k3⟩:=z27 (h2 x hx)
  have:=h1 _ k1
  rwa [k2,k3] at this
end Go.Proofs.YtclaojamgomjbaaGreatDoor
namespace Go.Proofs.YtclaojamgomjbaaGreatDoor
open Go Go.TA
theorem ltr {c y y':Int} (h:c<0∨(c=0∧y<y')):¬ (c>0∨c=0∧y≥y'):=by omega
theorem ltr' {c y y':Int} (h:¬ (c<0∨(c=0∧y<y'))):c>0∨c=0∧y≥y':=by omega
theorem zhc {o:TOf} (hs:SmO o) {i:Nat} (hi:i<o.Rights.length) (hp:∀ j,j<i→RtOk (o.Rights.getD j default)) :
  (S_q9_b1 o i ()).den=if RtOk (o.Rights.getD i default)∧0≤unusedV o (o.Rights.getD i default).Code (o.Rights.getD i default).Year∧(i=0∨cmpR (o.Rights.getD (i-1) default) (o.Rights.getD i default)<0) then some (.cont ()) else some (.ret false):=by
 have h1:=hs.2.2 _ (zm hi)
 have hl:=hs.2.1
 have hq:i≠0→RtOk (o.Rights.getD (i-1) default):=fun h=>hp _ (by omega)
 have hw:i≠0→IntKind.i64.wrap ((i:Int)-1)=(i:Int)-1:=fun _=>wrapId (by omega) (by omega)
 simp only[S_q9_b1,Scr.den,zf1 i (show i<9223372036854775808 by omega)]
 generalize o.Rights.getD i default=r at h1 ⊢
 generalize o.Rights.getD (i-1) default=r' at hq ⊢
 simp only[z5k h1,z7i,obind,zl,zh]
 by_cases hR:RtOk r
 ·rw[z1e (by exact⟨by simp[hR],trivial⟩),obind]
  by_cases hu:0≤unusedV o r.Code r.Year
  ·rw[if_neg (by simp[hR]; exact hu)]
   by_cases h0:i=0
   ·subst h0
    rw[if_neg (by simp),if_pos ⟨hR,hu,.inl rfl⟩]
   ·rw[if_pos (by simp; omega),z6k (hq h0).1 hR.1,obind,hw h0,za ⟨by omega,by omega,trivial⟩,za ⟨fun _=>by omega,fun _=>by omega,trivial⟩]
    have hc:=z8z (a:=r') (b:=r) (.inr hR.1)
    by_cases hc':cmpR r' r<0
    ·rw[if_neg (by
      have:=hc.1 hc'
      simp only[Bool.or_eq_true,Bool.and_eq_true,decide_eq_true_eq,beq_iff_eq]
      exact ltr this),if_pos ⟨hR,hu,.inr hc'⟩]
    ·rw[if_pos (by
      simp only[Bool.or_eq_true,Bool.and_eq_true,decide_eq_true_eq,beq_iff_eq]
      exact ltr' fun h=>hc' (hc.2 h)),if_neg (fun h=>h.2.2.elim h0 hc')]
  ·rw[if_pos (by simp[hR]; exact Int.not_le.1 hu),if_neg (fun h=>hu h.2.1)]
 ·rw[z14 (by simp[AllP,hR]),obind,if_pos (by simp[hR]),if_neg (fun h=>hR h.1)]
theorem z91 (o:TOf) (i:Nat) :
  (S_q9_b2 o i ()).den=if hasR o.Rights (o.Book.Reservations.getD i default).Code (o.Book.Reservations.getD i default).Year=true then some (.cont ()) else some (.ret false):=by
 simp only[S_q9_b2,Scr.den,zdo,obind]
 generalize o.Book.Reservations.getD i default=r
 by_cases hh:hasR o.Rights r.Code r.Year=true
 ·rw[if_pos hh,if_pos hh,if_neg (by simp)]
 ·rw[if_neg hh,if_neg hh,if_pos (by decide)]
open Classical in
theorem z5l {o:TOf} (hs:SmO o):F_q9 o=some (decide (VO o)):=by
 simp only[F_q9,S_q9,Scr.den,z1y hs.1,z18,obind,zl,z2n]
 by_cases h0:(1≤o.Number∧o.Number≤6)∧o.Rights.length≤60∧Val o.Book
 ·obtain⟨⟨a1,a2⟩,a3,a4⟩:=h0
  rw[if_neg (by simp[a4]; omega)]
  obtain⟨r1,r2⟩:=zgb (body:=fun i s=>(S_q9_b1 o i s).den) (n:=o.Rights.length) (c:=false) (fun j=>RtOk (o.Rights.getD j default)∧0≤unusedV o (o.Rights.getD j default).Code (o.Rights.getD j default).Year∧(j=0∨cmpR (o.Rights.getD (j-1) default) (o.Rights.getD j default)<0))
   (fun i hi hp h=>by rw[zhc hs hi (fun j hj=>(hp j hj).1),if_pos h]) (fun i hi hp h=>by rw[zhc hs hi (fun j hj=>(hp j hj).1),if_neg h])
  by_cases h1:∀ j,j<o.Rights.length→RtOk (o.Rights.getD j default)∧0≤unusedV o (o.Rights.getD j default).Code (o.Rights.getD j default).Year∧(j=0∨cmpR (o.Rights.getD (j-1) default) (o.Rights.getD j default)<0)
  ·rw[r1 h1]
   simp only[outM]
   have hR:∀ r∈o.Rights,RtOk r:=z39 fun i hi=>(h1 i hi).1
   by_cases h2:∀ j,j<o.Book.Reservations.length→hasR o.Rights (o.Book.Reservations.getD j default).Code (o.Book.Reservations.getD j default).Year=true
   ·rw[(zu _ (fun i hi h=>by rw[z91 o i,if_pos h]) (fun i hi h=>by rw[z91 o i,if_neg h])).1 h2]
    simp only
    rw[decide_eq_true ⟨⟨a1,a2⟩,a3,a4,hR,fun i hi=>(h1 i hi).2.2,(zkj hR).2 ⟨z39 fun i hi=>(h1 i hi).2.1,z39 h2⟩⟩]
   ·rw[(zu _ (fun i hi h=>by rw[z91 o i,if_pos h]) (fun i hi h=>by rw[z91 o i,if_neg h])).2 h2]
    simp only
    rw[decide_eq_false (fun h=>h2 fun j hj=>(h.2.2.2.2.2 _ (zm hj)).1)]; rfl
  ·rw[r2 h1]
   simp only[outM]
   rw[decide_eq_false (fun h=>h1 fun j hj=>⟨h.2.2.2.1 _ (zm hj),((zkj h.2.2.2.1).1 h.2.2.2.2.2).1 _ (zm hj),h.2.2.2.2.1 j hj⟩)]; rfl
 ·rw[if_pos,decide_eq_false (fun h=>h0 ⟨h.1,h.2.1,h.2.2.1⟩)]
  simp only[Bool.or_eq_true,decide_eq_true_eq,Bool.not_eq_true',decide_eq_false_iff_not]
  by_cases hv:Val o.Book
  ·left
   have:¬ ((1≤o.Number∧o.Number≤6)∧o.Rights.length≤60):=fun h=>h0 ⟨h.1,h.2,hv⟩
   omega
  ·exact .inr hv
def noR:TRi:=⟨[],0,0,0,0⟩
def tot (n:Int):Prop:=0≤n∧n≤1000000000000000
instance (n:Int):Decidable (tot n):=inferInstanceAs (Decidable (_∧_))
def learnS (r:TRi) (m:TMe):TRi×Int :=
 if ¬ (RtOk r∧m.From=0∧m.Code=r.Code∧m.Year=r.Year) then (noR,1) else
 if ¬ (tot m.Granted∧tot m.Asked) then (noR,2) else
 (⟨r.Code,r.Year,if m.Granted>r.Granted then m.Granted else r.Granted,if m.Asked>r.Asked then m.Asked else r.Asked,r.Returned⟩,0)
def returnS (r:TRi) (u n:Int):TRi×Int :=
 if ¬ (RtOk r∧(0≤u∧u≤IntKind.i64.wrap (r.Granted-r.Returned))) then (noR,1) else
 if ¬ (1≤n∧n≤1000000000000000) then (noR,2) else
 if n>IntKind.i64.wrap (IntKind.i64.wrap (r.Granted-r.Returned)-u) then (noR,15) else
 (⟨r.Code,r.Year,r.Granted,r.Asked,IntKind.i64.wrap (r.Returned+n)⟩,0)
theorem zf2 (n:Int):F_q1s n=some (decide (tot n)):=by
 simp only[F_q1s,S_q1s,Scr.den,zh,ge_iff_le]
 refine congrArg some ?_
 rw[Bool.eq_iff_iff,decide_eq_true_eq]; simp[tot]
theorem zf3 {r:TRi} (h:r.Code.length≤1000000) (m:TMe):F_q2x r m=some (learnS r m):=by
 open Classical in simp only[F_q2x,S_q2x,Scr.den,z5k h,zf2,z18,obind,zl,z2n]
 unfold learnS
 refine st (by by_cases hR:RtOk r <;> by_cases h2:m.From=0 <;> by_cases h3:m.Code=r.Code <;> by_cases h4:m.Year=r.Year <;> simp[hR,h2,h3,h4]) (fun _=>rfl) fun _=>?_
 refine st (by by_cases h2:tot m.Granted <;> by_cases h3:tot m.Asked <;> simp[h2,h3]) (fun _=>rfl) fun _=>rfl
theorem zdh {r:TRi} (h:r.Code.length≤1000000) (u n:Int):F_q3t r u n=some (returnS r u n):=by
 open Classical in simp only[F_q3t,S_q3t,Scr.den,z5k h,obind,zl]
 unfold returnS
 refine st (by
   simp only[Bool.or_eq_true,Bool.not_eq_true',decide_eq_false_iff_not,decide_eq_true_eq,gt_iff_lt]
   constructor
   ·rintro ((h | h) | h) <;> intro k
    ·exact h k.1
    ·omega
    ·omega
   ·intro h; by_cases hR:RtOk r
    ·by_cases hu:u<0
     ·exact .inl (.inr hu)
     ·exact .inr (by have:¬ (0≤u∧u≤_):=fun k=>h ⟨hR,k⟩; omega)
    ·exact .inl (.inl hR)) (fun _=>rfl) fun _=>?_
 refine st (by simp only[Bool.or_eq_true,decide_eq_true_eq]; omega) (fun _=>rfl) fun _=>?_
 refine st (by simp only[decide_eq_true_eq]) (fun _=>rfl) fun _=>rfl
end Go.Proofs.YtclaojamgomjbaaGreatDoor
namespace Go.Proofs.YtclaojamgomjbaaGreatDoor
open Go Go.TA
def posR (l:List TRi) (r:TRi):Nat:=l.findIdx (fun x=>decide (0≤cmpR x r))
def putL (l:List TRi) (r:TRi):List TRi:=if hasR l r.Code r.Year=true then l.set (rix l r.Code r.Year) r else insL l (posR l r) r
theorem z1j {α:Type} [Inhabited α] {l:List α} {i:Nat} (hi:i<l.length):l.getD i default=l[i]:=by simp[List.getD_eq_getElem?_getD,List.getElem?_eq_getElem hi]
theorem z92 (l:List TRi) (r:TRi):posR l r≤l.length:=List.findIdx_le_length
theorem zhd {l:List TRi} {r:TRi} {i:Nat} (hi:i<posR l r):cmpR (l.getD i default) r<0:=by
 have hl:i<l.length:=Nat.lt_of_lt_of_le hi (z92 l r)
 have:=List.not_of_lt_findIdx hi
 rw[z1j hl]
 simpa using this
theorem zhe {l:List TRi} {r:TRi} (hi:posR l r<l.length):0≤cmpR (l.getD (posR l r) default) r:=by
 have:=List.findIdx_getElem (xs:=l) (p:=fun x=>decide (0≤cmpR x r)) (w:=hi)
 rw[z1j hi]
 exact of_decide_eq_true this
theorem znn {i j:Nat} (h:i+j<4611686018427387904):IntKind.i64.wrap ((IntKind.u64.wrap (IntKind.i64.wrap ((i:Int)+(j:Int)))).fdiv (2 ^ (min (1:Int).toNat IntKind.u64.bits)))=(((i+j) / 2:Nat):Int):=by
 rw[wrapId (n:=(i:Int)+(j:Int)) (by omega) (by omega)]
 have e:IntKind.u64.wrap ((i:Int)+(j:Int))=(i:Int)+(j:Int):=by
  simp only[IntKind.wrap,IntKind.bits,IntKind.signed]
  simp
  omega
 rw[e]
 have e2:(2:Int) ^ (min (1:Int).toNat IntKind.u64.bits)=2:=by decide
 rw[e2,Int.fdiv_eq_ediv_of_nonneg _ (by omega),wrapId (by omega) (by omega)]
 omega
theorem RtOk.len {r:TRi} (h:RtOk r):r.Code.length≤1000000:=by have:=z5i h.1; omega
theorem zf4 (l:List TRi) (r:TRi):(putL l r).length≤l.length+1:=by
 unfold putL
 split
 ·rw[List.length_set]; omega
 ·rw[z1a]; omega
end Go.Proofs.YtclaojamgomjbaaGreatDoor
namespace Go.Proofs.YtclaojamgomjbaaGreatDoor
open Go Go.TA
def noO:TOf:=⟨0,[],nb⟩
def msgOf (p:TOp):TMe:=⟨0,0,p.Code,p.Year,p.Granted,p.AskedBack,0,0⟩
def hearS (o:TOf) (p:TOp):TOf×Int :=
 if ¬ good p.Code=true then (noO,5) else
 if p.Year<0∨p.Year>99 then (noO,2) else
 if hasR o.Rights p.Code p.Year=false∧(o.Rights.length:Int)=60 then (noO,3) else
 if (learnS (rightV o.Rights p.Code p.Year) (msgOf p)).2≠0 then (noO,(learnS (rightV o.Rights p.Code p.Year) (msgOf p)).2) else
 (⟨o.Number,putL o.Rights (learnS (rightV o.Rights p.Code p.Year) (msgOf p)).1,o.Book⟩,0)
def giveS (o:TOf) (p:TOp):TOf×Int :=
 if ¬ hasR o.Rights p.Code p.Year=true then (noO,6) else
 if (returnS (rightV o.Rights p.Code p.Year) (usedV o.Book p.Code p.Year) p.Amount).2≠0 then (noO,(returnS (rightV o.Rights p.Code p.Year) (usedV o.Book p.Code p.Year) p.Amount).2) else
 (⟨o.Number,putL o.Rights (returnS (rightV o.Rights p.Code p.Year) (usedV o.Book p.Code p.Year) p.Amount).1,o.Book⟩,0)
noncomputable def bookS (b:TBo) (p:TOp):TBo×Int :=
 if p.Kind=1 then reserveS b p.Code p.Year p.Day p.Amount else
 if p.Kind=2 then commitS b p.Of p.Day p.Amount p.Payee p.Due else
 if p.Kind=3 then verifyS b p.Of p.Day p.Amount else
 if p.Kind=4 then orderS b p.Of p.Day else
 if p.Kind=5 then releaseS b p.Of p.Amount else
 if p.Kind=6 then dropS b p.Of p.Amount else backS b p.Of
noncomputable def stepS (o:TOf) (p:TOp):TOf×Int :=
 if p.Kind=8 then hearS o p else
 if p.Kind=7 then giveS o p else
 if (bookS o.Book p).2≠0 then (noO,(bookS o.Book p).2) else
 if p.Kind=1∧p.Amount>unusedV o p.Code p.Year then (noO,15) else
 (⟨o.Number,o.Rights,(bookS o.Book p).1⟩,0)
open Classical in
noncomputable def doS (o:TOf) (p:TOp):TOf×Int :=
 if ¬ VO o∨p.Kind<1∨p.Kind>9 then (noO,1) else stepS o p
theorem VO.srt {o:TOf} (h:VO o):Srt o.Rights:=h.2.2.2.2.1
theorem VO.ok {o:TOf} (h:VO o):∀ x∈o.Rights,RtOk x:=h.2.2.2.1
theorem VO.val {o:TOf} (h:VO o):Val o.Book:=h.2.2.1
theorem VO.len {o:TOf} (h:VO o):o.Rights.length≤60:=h.2.1
theorem z3q (l:List TRi) (c:List UInt8) (y:Int):(rightV l c y).Code=c∧(rightV l c y).Year=y:=by
 by_cases h:hasR l c y=true
 ·exact (z27 h).2
 ·unfold rightV; rw[if_neg h]; exact⟨rfl,rfl⟩
theorem zid {l:List TRi} (_hg:∀ x∈l,RtOk x) {c:List UInt8} (hc:c.length≤1000000) (y:Int):(rightV l c y).Code.length≤1000000:=by
 rw[(z3q l c y).1]; exact hc
theorem zcv {r:TRi} {m:TMe} (h:(learnS r m).2=0):RtOk r∧tot m.Granted∧tot m.Asked∧(learnS r m).1=⟨r.Code,r.Year,if m.Granted>r.Granted then m.Granted else r.Granted,if m.Asked>r.Asked then m.Asked else r.Asked,r.Returned⟩∧RtOk (learnS r m).1:=by
 unfold learnS at h ⊢
 split at h
 ·cases h
 ·rename_i h1
  split at h
  ·cases h
  ·rename_i h2
   have h1:=Classical.not_not.mp h1
   have h2:=Classical.not_not.mp h2
   rw[if_neg (fun k=>k h1),if_neg (fun k=>k h2)]
   refine⟨h1.1,h2.1,h2.2,rfl,?_⟩
   have h3:=h1.1
   unfold RtOk tot at *
   refine⟨h3.1,h3.2.1,?_,?_,?_⟩
   ·simp only; split <;> omega
   ·simp only; split <;> omega
   ·simp only; split <;> omega
theorem zb5 {r:TRi} {u n:Int} (h:(returnS r u n).2=0):RtOk r∧(0≤u∧u≤r.Granted-r.Returned)∧1≤n∧n≤r.Granted-r.Returned-u∧(returnS r u n).1=⟨r.Code,r.Year,r.Granted,r.Asked,r.Returned+n⟩∧RtOk (returnS r u n).1:=by
 unfold returnS at h ⊢
 split at h
 ·cases h
 ·rename_i h1
  split at h
  ·cases h
  ·rename_i h2
   split at h
   ·cases h
   ·rename_i h3
    have h1:=Classical.not_not.mp h1
    have h2:=Classical.not_not.mp h2
    have h4:=h1.1
    unfold RtOk at h4
    have w1:IntKind.i64.wrap (r.Granted-r.Returned)=r.Granted-r.Returned:=wrapId (by omega) (by omega)
    rw[if_neg (fun k=>k h1),if_neg (fun k=>k h2),if_neg h3]
    obtain⟨h5,h6,h7⟩:=h1
    rw[w1] at h7 h3
    rw[wrapId (n:=r.Granted-r.Returned-u) (by omega) (by omega)] at h3
    rw[wrapId (n:=r.Returned+n) (by omega) (by omega)]
    refine⟨h5,⟨h6,h7⟩,h2.1,by omega,rfl,h4.1,h4.2.1,h4.2.2.1,h4.2.2.2.1,?_⟩
    simp only; omega
theorem zm5 (l:List TRi) (p:Nat) (hp:p≤l.length) (z r:TRi) :
  (copyL (l++[z]) (0+(p+1)) (min ((l++[z]).length-p) ((l++[z]).length-(p+1))) (fun i=>(l++[z]).getD ((0+p)+i) default)).set (0+p) r=insL l p r:=by
 refine List.ext_getElem (by simp[copyL,insL]; omega) fun i h1 h2=>?_
 have hi:i<l.length+1:=by rw[z1a] at h2; exact h2
 rw[← z1j h2,z45 hp,List.getElem_set]
 by_cases e:i<p
 ·rw[if_neg (by omega),if_pos e]
  simp only[copyL,List.getElem_map,List.getElem_range]
  rw[if_neg (by omega),List.getD_eq_getElem?_getD,List.getD_eq_getElem?_getD,List.getElem?_append_left (by omega)]
 ·by_cases e2:i=p
  ·rw[if_pos (by omega),if_neg e,if_pos e2]
  ·rw[if_neg (by omega),if_neg e,if_neg e2]
   simp only[copyL,List.getElem_map,List.getElem_range,List.length_append,List.length_singleton]
   rw[if_pos (by omega),show 0+p+(i-(0+(p+1)))=i-1 by omega,List.getD_eq_getElem?_getD,List.getD_eq_getElem?_getD,List.getElem?_append_left (by omega)]
theorem zkk {o:TOf} (hv:VO o) {q:R_q2x} (hr:RtOk q.1) (hn:hasR o.Rights q.1.Code q.1.Year=false) :
  iterM (fun s=>(S_q17_b1 o q s).den) 0=some (.next (posR o.Rights q.1:Int)):=by
 have hl:=hv.len
 have hp:=z92 o.Rights q.1
 obtain⟨s,e,hJ⟩:=z1b (step:=fun s=>(S_q17_b1 o q s).den) (fun s=>(61-s).toNat) (fun s=>0≤s∧s≤(posR o.Rights q.1:Int)) (fun s=>s=(posR o.Rights q.1:Int)) (fun s hI=>by
  obtain⟨i,rfl⟩:=Int.eq_ofNat_of_zero_le hI.1
  have hi:i≤posR o.Rights q.1:=by omega
  simp only[S_q17_b1,Scr.den,Int.toNat_natCast,Nat.zero_add,zl,zh]
  by_cases h:i<o.Rights.length
  ·have hg:=hv.ok _ (zm h)
   rw[if_pos (by simp; omega),z6k hg.1 hr.1,obind,za ⟨by omega,h,h,trivial⟩,za ⟨fun _=>by omega,fun _=>h,fun _=>h,trivial⟩]
   have hc:=z8z (a:=o.Rights.getD i default) (b:=q.1) (.inl hg.1)
   have hne:cmpR (o.Rights.getD i default) q.1≠0:=fun h0=>by
    obtain⟨k1,k2⟩:=(z90 hg.1 hr.1).1 h0
    have:hasR o.Rights q.1.Code q.1.Year=true:=z3a.2 ⟨_,zm h,k1,k2⟩
    rw[hn] at this; cases this
   by_cases hip:i<posR o.Rights q.1
   ·left
    have hlt:=hc.1 (zhd hip)
    rw[if_neg (by
     simp only[Bool.or_eq_true,Bool.and_eq_true,decide_eq_true_eq,beq_iff_eq]
     exact fun k=>ltr hlt (k.imp id fun k=>⟨k.1,by omega⟩)),wrapId (by omega) (by omega)]
    exact⟨_,rfl,⟨by omega,by omega⟩,by omega⟩
   ·right
    have hge:0≤cmpR (o.Rights.getD i default) q.1:=by
     have:i=posR o.Rights q.1:=by omega
     subst this; exact zhe h
    rw[if_pos (by
     have k1:¬ _:=fun k=>absurd (hc.2 k) (by omega)
     have k2:¬ (lexC (parts (o.Rights.getD i default).Code) (parts q.1.Code)=0∧(o.Rights.getD i default).Year=q.1.Year):=fun k=>hne ((z90 hg.1 hr.1).2 ⟨zct hg.1 hr.1 (z55 k.1),k.2⟩)
     simp only[Bool.or_eq_true,Bool.and_eq_true,decide_eq_true_eq,beq_iff_eq]
     rcases ltr' k1 with k | ⟨k,k'⟩
     ·exact .inl k
     ·exact .inr ⟨k,by have:¬ _:=fun e=>k2 ⟨k,e⟩; omega⟩)]
    exact⟨_,rfl,by omega⟩
  ·right
   rw[if_neg (by simpa using h)]
   exact⟨_,rfl,by omega⟩) _ 0 (Nat.lt_succ_self _) ⟨by omega,by omega⟩
 rw[e,hJ]
theorem zgc {o:TOf} (hv:VO o) {p:TOp} (hc:p.Code.length≤1000000):F_q17 o p=some (hearS o p):=by
 have hl:=hv.len
 have hr:=zid hv.ok hc p.Year
 simp only[F_q17,S_q17,Scr.den,z3e (show p.Code.length<4611686018427387904 by omega),zdo,z8e,zf3 hr,obind,zl,zh]
 unfold hearS
 refine st (by simp) (fun _=>rfl) fun _=>?_
 refine st (by simp) (fun _=>rfl) fun _=>?_
 refine st (by cases hh:hasR o.Rights p.Code p.Year <;> simp <;> (try exact fun h1=>absurd h1 (Int.not_lt.2 (Int.natCast_nonneg _)))) (fun _=>rfl) fun _=>?_
 refine st (by simp only[bne_iff_ne,ne_eq]; exact Iff.rfl) (fun _=>rfl) fun h=>?_
 have h:=Classical.not_not.mp h
 have h1:=zcv h
 rw[show (⟨0,0,p.Code,p.Year,p.Granted,p.AskedBack,0,0⟩:TMe)=msgOf p from rfl,za ⟨by omega,trivial⟩]
 have hcy:(learnS (rightV o.Rights p.Code p.Year) (msgOf p)).1.Code=p.Code∧(learnS (rightV o.Rights p.Code p.Year) (msgOf p)).1.Year=p.Year:=by rw[h1.2.2.2.1]; exact z3q _ _ _
 generalize hq:learnS (rightV o.Rights p.Code p.Year) (msgOf p)=q at h h1 hcy ⊢
 have hlen:=zf4 o.Rights q.1
 have hp:=z92 o.Rights q.1
 unfold putL at hlen ⊢
 rw[hcy.1,hcy.2] at hlen ⊢
 by_cases hh:hasR o.Rights p.Code p.Year=true
 ·have h3:=(z4l hh).1
  rw[if_pos hh] at hlen
  simp only[if_pos hh]
  rw[if_neg (by simp)]
  simp only[outM,Int.toNat_natCast,Nat.zero_add]
  rw[za ⟨by omega,h3,h3,trivial⟩,za ⟨by rw[List.length_set]; omega,trivial⟩]
 ·rw[if_neg hh] at hlen
  simp only[if_neg hh]
  have hn:hasR o.Rights q.1.Code q.1.Year=false:=by rw[hcy.1,hcy.2]; simpa using hh
  have hw:(IntKind.i64.wrap ((posR o.Rights q.1:Int)+1)).toNat=posR o.Rights q.1+1:=by rw[wrapId (by omega) (by omega)]; omega
  have hw':IntKind.i64.wrap ((posR o.Rights q.1:Int)+1)=(posR o.Rights q.1:Int)+1:=wrapId (by omega) (by omega)
  rw[if_pos (by decide),zkk hv h1.2.2.2.2 hn]
  simp only[outM,Int.toNat_natCast,hw]
  rw[za ⟨by omega,trivial⟩,za ⟨by rw[hw']; omega,by rw[List.length_append,List.length_singleton]; omega,by omega,by rw[List.length_append,List.length_singleton]; omega,trivial⟩]
  simp only[Int.toNat_natCast]
  rw[zm5 o.Rights (posR o.Rights q.1) hp]
  rw[z1a] at hlen
  rw[za ⟨by omega,by rw[z1d,List.length_append,List.length_singleton]; omega,by rw[z1d,List.length_append,List.length_singleton]; omega,trivial⟩,za ⟨by rw[z1a]; omega,trivial⟩]
theorem z64 {o:TOf} (hs:SmO o) {p:TOp} (hc:p.Code.length≤1000000):F_q2e o p=some (doS o p):=by
 simp only[F_q2e,S_q2e,Scr.den,z5l hs,zbu hs.1 hc,zdf hs.1,zdg hs.1,zet hs.1,zbv hs.1,zg5 hs.1,zg7 hs.1,z7i,z4e,zdo,obind,zh]
 by_cases hv:VO o
 ·rw[if_neg (by simp[hv])]
  have hl:=hv.len
  have fin:∀ x:TBo×Int,outM (some (Out.next (x.1,x.2))) (fun (s:TBo×Int)=>if (s.2 != 0)=true then some (noO,s.2) else some ((⟨o.Number,o.Rights,s.1⟩:TOf),(0:Int))) some=some (if x.2≠0 then (noO,x.2) else (⟨o.Number,o.Rights,x.1⟩,0)):=fun x=>by
   simp only[outM]
   by_cases h:x.2=0 <;> simp[h]
  have hd:∀ {k:Int},p.Kind=k→1≤k→k≤9→doS o p=stepS o p:=fun h h1 h2=>by
   unfold doS; rw[if_neg (fun k=>k.elim (fun k=>k hv) fun k=>by omega)]
  by_cases c1:p.Kind=1
  ·rw[if_pos (by simpa using c1),hd c1 (by omega) (by omega)]
   unfold stepS bookS
   rw[if_neg (by omega),if_neg (by omega),if_pos c1]
   generalize reserveS o.Book p.Code p.Year p.Day p.Amount=x
   by_cases hx:x.2=0
   ·rw[z1e (by exact⟨by simp[hx],trivial⟩),obind]
    by_cases hu:p.Amount>unusedV o p.Code p.Year
    ·rw[if_pos (by simp[hx]; exact hu),if_neg (by simp[hx]),if_pos ⟨c1,hu⟩]
     exact fin (x.1,15)
    ·rw[if_neg (by simp[hx]; exact Int.not_lt.1 hu),if_neg (by simp[hx]),if_neg (fun k=>hu k.2)]
     rw[show (⟨o.Number,o.Rights,x.1⟩,(0:Int))=if x.2≠0 then (noO,x.2) else (⟨o.Number,o.Rights,x.1⟩,0) by rw[if_neg (by simp[hx])]]
     exact fin x
   ·rw[z14 (by simp[AllP,hx]),obind,if_neg (by simp[hx]),if_pos hx]
    rw[show (noO,x.2)=if x.2≠0 then (noO,x.2) else (⟨o.Number,o.Rights,x.1⟩,0) by rw[if_pos hx]]
    exact fin x
  rw[if_neg (by simpa using c1)]
  have hb:∀ {k:Int} (x:TBo×Int),p.Kind=k→2≤k→k≤9→k≠7→k≠8→bookS o.Book p=x→outM (some (Out.next (x.1,x.2))) (fun (s:TBo×Int)=>if (s.2 != 0)=true then some (noO,s.2) else some ((⟨o.Number,o.Rights,s.1⟩:TOf),(0:Int))) some=some (doS o p):=fun x hk h1 h2 h3 h4 e=>by
   have h5:stepS o p=if x.2≠0 then (noO,x.2) else (⟨o.Number,o.Rights,x.1⟩,0):=by
    unfold stepS
    rw[if_neg (show ¬ p.Kind=8 by omega),if_neg (show ¬ p.Kind=7 by omega),e,if_neg (fun k:p.Kind=1∧_=>c1 k.1)]
   rw[hd hk (by omega) h2,fin,h5]
  by_cases c2:p.Kind=2
  ·rw[if_pos (by simpa using c2)]
   exact hb _ c2 (by omega) (by omega) (by omega) (by omega) (by unfold bookS; rw[if_neg c1,if_pos c2])
  rw[if_neg (by simpa using c2)]
  by_cases c3:p.Kind=3
  ·rw[if_pos (by simpa using c3)]
   exact hb _ c3 (by omega) (by omega) (by omega) (by omega) (by unfold bookS; rw[if_neg c1,if_neg c2,if_pos c3])
  rw[if_neg (by simpa using c3)]
  by_cases c4:p.Kind=4
  ·rw[if_pos (by simpa using c4)]
   exact hb _ c4 (by omega) (by omega) (by omega) (by omega) (by unfold bookS; rw[if_neg c1,if_neg c2,if_neg c3,if_pos c4])
  rw[if_neg (by simpa using c4)]
  by_cases c5:p.Kind=5
  ·rw[if_pos (by simpa using c5)]
   exact hb _ c5 (by omega) (by omega) (by omega) (by omega) (by unfold bookS; rw[if_neg c1,if_neg c2,if_neg c3,if_neg c4,if_pos c5])
  rw[if_neg (by simpa using c5)]
  by_cases c6:p.Kind=6
  ·rw[if_pos (by simpa using c6)]
   exact hb _ c6 (by omega) (by omega) (by omega) (by omega) (by unfold bookS; rw[if_neg c1,if_neg c2,if_neg c3,if_neg c4,if_neg c5,if_pos c6])
  rw[if_neg (by simpa using c6)]
  by_cases c9:p.Kind=9
  ·rw[if_pos (by simpa using c9)]
   exact hb _ c9 (by omega) (by omega) (by omega) (by omega) (by unfold bookS; rw[if_neg c1,if_neg c2,if_neg c3,if_neg c4,if_neg c5,if_neg c6])
  rw[if_neg (by simpa using c9)]
  by_cases c8:p.Kind=8
  ·rw[if_pos (by simpa using c8),zgc hv hc,hd c8 (by omega) (by omega)]
   unfold stepS
   rw[if_pos c8]
   rfl
  rw[if_neg (by simpa using c8)]
  by_cases c7:p.Kind=7
  ·rw[if_pos (by simpa using c7),hd c7 (by omega) (by omega)]
   unfold stepS giveS
   rw[if_neg c8,if_pos c7]
   by_cases hh:hasR o.Rights p.Code p.Year=true
   ·have h3:=(z4l hh).1
    have hg:=hv.ok _ (zm h3)
    have hrt:o.Rights.getD (rix o.Rights p.Code p.Year) default=rightV o.Rights p.Code p.Year:=by unfold rightV; rw[if_pos hh]
    simp only[if_pos hh,Int.toNat_natCast,Nat.zero_add,zdh hg.len,obind]
    rw[if_neg (by simp),za ⟨by omega,h3,trivial⟩,hrt,if_neg (show ¬ ¬ hasR o.Rights p.Code p.Year=true from fun k=>k hh)]
    by_cases hx:(returnS (rightV o.Rights p.Code p.Year) (usedV o.Book p.Code p.Year) p.Amount).2=0
    ·have h1:=zb5 hx
     have hcy:(returnS (rightV o.Rights p.Code p.Year) (usedV o.Book p.Code p.Year) p.Amount).1.Code=p.Code∧(returnS (rightV o.Rights p.Code p.Year) (usedV o.Book p.Code p.Year) p.Amount).1.Year=p.Year:=by rw[h1.2.2.2.2.1]; exact z3q _ _ _
     rw[if_neg (by simp[hx]),za ⟨by omega,trivial⟩,za ⟨h3,trivial⟩,za ⟨by rw[List.length_set]; omega,trivial⟩,if_neg (by simp[hx])]
     unfold putL
     rw[hcy.1,hcy.2,if_pos hh]
     rfl
    ·rw[if_pos (by simpa using hx),if_pos hx]
     rfl
   ·simp only[if_neg hh]
    rw[if_pos (by decide),if_pos hh]
    rfl
  rw[if_neg (by simpa using c7)]
  have:doS o p=(noO,1):=by
   unfold doS
   split
   ·rfl
   ·rename_i h
    exact absurd (by omega) h
  rw[this]
  rfl
 ·rw[if_pos (by simp[hv])]
  unfold doS
  rw[if_pos (.inl hv)]
  rfl
end Go.Proofs.YtclaojamgomjbaaGreatDoor
