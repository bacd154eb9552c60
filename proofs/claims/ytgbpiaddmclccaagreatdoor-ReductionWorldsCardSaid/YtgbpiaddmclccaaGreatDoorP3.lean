/- A part of the proof: plain laws of what the functions compute. No condition. -/
import Derived.Test.YtgbpiaddmclccaaGreatDoorP2
import Derived.Test.YtgbpiaddmclccaaGreatDoorT9
import Derived.Lib.ItoaLen
namespace Go.Proofs.YtgbpiaddmclccaaGreatDoor.J13
open Go Go.TA
open Go.IntKind (i64)
variable {t:TTr} {i:Nat}
theorem z9x (h:Small t) (hi:i<t.E.length):(t.E.getD i dF).B.length<=1000000:=h _ (z7 hi)
theorem wrapPred (h0:0<i) (h:i<9223372036854775808):i64.wrap ((i:Int)-1)=((i-1:Nat):Int):=by rw[wrapId om om]; omega
theorem Valid_eq (hs:Small t):F_qs t=some (decide (TOk t)):=by
 simp only[F_qs,S_qs,Scr.den,z13,obind,z8]
 by_cases h1:(1<=t.P/\t.P<=6)/\t.E.length<=60
 ·rw[y5 (by simp only[yc,yi,yf,y7]; omega)]
  have step:∀ i,i<t.E.length->(S_qs_b1 t i ()).den=some (if PotOk t.P (t.E.getD i dF)/\(0<i->cmpP (t.E.getD (i-1) dF) (t.E.getD i dF)<0) then .cont () else .ret false):=fun i hi=>by
   simp only[S_qs_b1,Scr.den,zry (z9x hs hi) h1.1.2,obind,z8,za]
   by_cases h0:0<i
   ·rw[wrapPred h0 om,yb,zef (z9x hs om) (z9x hs hi)]
    have hgu:∀ a:Prop,AllP [a->(0:Int)<=((i-1:Nat):Int),a->i-1<t.E.length]:=fun a=>⟨fun _=>om,fun _=>om,trivial⟩
    have e0:decide ((i:Int)>0)=true:=y9 om
    by_cases h2:PotOk t.P (t.E.getD i dF)
    ·rw[zg (by simp only[AllP,e0,y9 h2,y27,y16])]
     simp only[obind]
     rw[z6 (hgu _)]
     simp only[e0,y9 h2,y27,y3n,y49,y7]
     by_cases h3:cmpP (t.E.getD (i-1) dF) (t.E.getD i dF)<0
     ·rw[y5 (y4j.2 h3),y6 ⟨h2,fun _=>h3⟩]
     ·rw[y6 (y2v.1 h3),y5 fun h=>h3 (h.2 h0)]
    ·rw[zj (by simp only[AllP,ya h2,y4f,Bool.true_eq_false,and_false,y59,yk])]
     simp only[obind]
     rw[z6 (hgu _)]
     simp only[ya h2,y4f,Bool.true_or,y17]
     rw[y5 fun h=>h2 h.1]
   ·have hi0:i=0:=om
    subst hi0
    have e0:decide (((0:Nat):Int)>0)=false:=rfl
    rw[zj (by simp only[AllP,e0,yo,y59,yk])]
    simp only[obind,e0,Bool.false_and,Bool.or_false]
    rw[z6 (by simp only[AllP,yo,y59,false_implies,y16])]
    by_cases h2:PotOk t.P (t.E.getD 0 dF)
    ·rw[y5 (by simp only[y9 h2,y27,yo,yk]),y6 ⟨h2,fun h=>absurd h om⟩]
    ·rw[y6 (by simp only[ya h2,y4f]),y5 fun h=>h2 h.1]
  have ra:=zl (ρ:=Bool) (n:=t.E.length) (c:=false) (body:=fun i s=>(S_qs_b1 t i s).den) (fun i=>PotOk t.P (t.E.getD i dF)/\(0<i->cmpP (t.E.getD (i-1) dF) (t.E.getD i dF)<0))
   (fun i hi hp=>by rw[step i hi,y6 hp]) (fun i hi hp=>by rw[step i hi,y5 hp])
  by_cases h4:PotsOk t.P t.E
  ·rw[ra.1 h4,y9 (show TOk t from ⟨h1.1,h1.2,h4⟩)]; rfl
  ·rw[ra.2 h4,ya fun h:TOk t=>h4 h.2.2]; rfl
 ·rw[y6 (by simp only[yc,yi,yf,y7]; omega),ya fun h:TOk t=>h1 ⟨h.1,h.2.1⟩]
variable {b:TPo}
theorem zpq {a:TPo} (ha:good a.B=true):cmpP a b<0↔lexC (parts a.B) (parts b.B)<0\/(lexC (parts a.B) (parts b.B)=0/\a.D<b.D):=by
 unfold cmpP
 rw[z2t (.inl ha)]
 unfold cmpI
 split
 ·omega
 ·split
  ·omega
  ·split <;> omega
theorem chk (c y y':Int):((decide (c>0)||(c==0&&decide (y>=y')))=true)↔¬ (c<0\/(c=0/\y<y')):=by
 simp only[yc,yg,y7,y12]; omega
theorem r13_Valid_eq (hs:Small t):F_q15 t=some (decide (TOk t)):=by
 simp only[F_q15,S_q15,Scr.den,z8]
 by_cases h1:(1<=t.P/\t.P<=6)/\t.E.length<=60
 ·rw[y5 (by simp only[yc,y7]; omega)]
  have step:∀ i,i<t.E.length->(0<i->PotOk t.P (t.E.getD (i-1) dF))->(S_q15_b1 t i ()).den =
    some (if PotOk t.P (t.E.getD i dF)/\(0<i->cmpP (t.E.getD (i-1) dF) (t.E.getD i dF)<0) then .cont () else .ret false):=fun i hi hp=>by
   simp only[S_q15_b1,Scr.den,zn6 (z9x hs hi) h1.1.2,obind,za,z8]
   by_cases h2:PotOk t.P (t.E.getD i dF)
   ·rw[y5 (by simp only[y9 h2,y27,yo,yk])]
    by_cases h0:0<i
    ·have hp:=hp h0
     rw[y6 (y9 om),wrapPred h0 om,yb,z45 hp.1 h2.1]
     simp only[obind]
     rw[Ge,z6 (by simp only[AllP,y16]; exact⟨fun _=>om,fun _=>om⟩)]
     have hc:=zpq (a:=t.E.getD (i-1) dF) (b:=t.E.getD i dF) hp.1
     by_cases h3:cmpP (t.E.getD (i-1) dF) (t.E.getD i dF)<0
     ·rw[y5 fun h=>(chk _ _ _).1 h (hc.1 h3),y6 ⟨h2,fun _=>h3⟩]
     ·rw[y6 ((chk _ _ _).2 fun h=>h3 (hc.2 h)),y5 fun h=>h3 (h.2 h0)]
    ·rw[y5 (by simp only[y7]; omega),y6 ⟨h2,fun h=>absurd h h0⟩]
   ·rw[y6 (by simp only[ya h2,y4f]),y5 fun h=>h2 h.1]
  have key:∀ (k i:Nat),i+k=t.E.length->(∀ j,j<i->PotOk t.P (t.E.getD j dF)/\(0<j->cmpP (t.E.getD (j-1) dF) (t.E.getD j dF)<0))->rangeM (fun i s=>(S_q15_b1 t i s).den) k i ()=some (if PotsOk t.P t.E then .next () else .ret false):=by
   intro k
   induction k with
   | zero =>
    intro i hk hj
    rw[y6 (show PotsOk t.P t.E from fun j h=>hj j om)]
    rfl
   | succ k ih =>
    intro i hk hj
    have hi:i<t.E.length:=om
    simp only[rangeM,step i hi fun h0=>(hj (i-1) om).1]
    by_cases h2:PotOk t.P (t.E.getD i dF)/\(0<i->cmpP (t.E.getD (i-1) dF) (t.E.getD i dF)<0)
    ·rw[y6 h2]
     exact ih (i+1) om fun j hj'=>by
      by_cases e:j=i
      ·subst e; exact h2
      ·exact hj j om
    ·rw[y5 h2,y5 fun hp:PotsOk t.P t.E=>h2 (hp i hi)]
  rw[key t.E.length 0 om (fun j h=>absurd h om)]
  by_cases h4:PotsOk t.P t.E
  ·rw[y6 h4,y9 (show TOk t from ⟨h1.1,h1.2,h4⟩)]; rfl
  ·rw[y5 h4,ya fun h:TOk t=>h4 h.2.2]; rfl
 ·rw[y6 (by simp only[yc,y7]; omega),ya fun h:TOk t=>h1 ⟨h.1,h.2.1⟩]
def isP (c:Y8) (y:Int) (p:TPo):Bool:=p.B==c&&p.D==y
variable {p:TPo} {c:Y8} {y:Int}
theorem zfs:isP c y p=true↔p.B=c/\p.D=y:=by simp[isP]
def hasP (l:List TPo) (c:Y8) (y:Int):Bool:=l.any (isP c y)
def pix (l:List TPo) (c:Y8) (y:Int):Nat:=l.findIdx (isP c y)
theorem pix_lt {l:List TPo} (h:hasP l c y=true):pix l c y<l.length/\(l.getD (pix l c y) dF).B=c/\(l.getD (pix l c y) dF).D=y:=by
 unfold hasP at h
 obtain⟨x,hx,hp⟩:=y43.1 h
 have hlt:l.findIdx (isP c y)<l.length:=y44 ⟨x,hx,hp⟩
 have h1:=y3i (w:=hlt)
 have e:l.getD (l.findIdx (isP c y)) dF=l[l.findIdx (isP c y)]:=by simp[List.getD_eq_getElem?_getD,List.getElem?_eq_getElem hlt]
 exact⟨hlt,by unfold pix; rw[e]; exact zfs.1 h1⟩
theorem z5r (t:TTr) (c:Y8) (y:Int):F_q3j t c y=some (if hasP t.E c y=true then (pix t.E c y:Int) else -1):=by
 simp only[F_q3j,S_q3j,F_q38,S_q38,Scr.den]
 rw[z3s t.E (isP c y) (fun i=>(i:Int))]
 ·unfold hasP
  by_cases h:t.E.any (isP c y)=true
  ·rw[y6 h,y6 h]; rfl
  ·rw[y5 h,y5 h]; rfl
 ·intro i hi
  simp only[S_q38_b1,F_q79,S_q79,Scr.den,obind,za]
  unfold isP
  split <;> rfl
theorem at_eq (t:TTr) (c:Y8) (y:Int):F_q1y t c y=some (if hasP t.E c y=true then (pix t.E c y:Int) else -1):=by
 simp only[F_q1y,S_q1y,Scr.den]
 rw[z3s t.E (isP c y) (fun i=>(i:Int))]
 ·unfold hasP
  by_cases h:t.E.any (isP c y)=true
  ·rw[y6 h,y6 h]; rfl
  ·rw[y5 h,y5 h]; rfl
 ·intro i hi
  simp only[S_q1y_b1,Scr.den,za]
  unfold isP
  split <;> rfl
def outV (p:TPo):Int:=(p.A.take (min p.A.length p.G.length)).sum-(p.G.take (min p.A.length p.G.length)).sum
theorem Out_eq (p:TPo):F_q39 p=some (i64.wrap (outV p)):=by
 have e:(if (p.G.length:Int)<(p.A.length:Int) then (p.G.length:Int) else (p.A.length:Int))=((min p.A.length p.G.length:Nat):Int):=by split <;> omega
 simp only[F_q39,S_q39,Scr.den,e,yb,zjj,obind]
 rw[Ge,z33,z4q]
 rfl
theorem r13_Out_eq (hl:p.A.length<4611686018427387904):F_qu p=some (i64.wrap (outV p)):=by
 simp only[F_qu,S_qu,Scr.den]
 let m:=min p.A.length p.G.length
 let S:Nat->Int:=fun k=>(p.A.take k).sum-(p.G.take k).sum
 have hS:∀ k,k<m->S (k+1)=S k+(p.A.getD k dF-p.G.getD k dF):=fun k hk=>by
  have h1:k<p.A.length:=om
  have h2:k<p.G.length:=om
  simp only[S]
  rw[y45 h1,y45 h2,y3j,y3j,z20 h1,z20 h2]
  simp only[y21,y4u]
  omega
 have stepT:∀ (i:Nat) (s:Int),i<m->(S_qu_b1 p (s,(i:Int))).den=some (.cont (i64.wrap (s+(p.A.getD i dF-p.G.getD i dF)),((i+1:Nat):Int))):=fun i s hi=>by
  simp only[S_qu_b1,Scr.den,za]
  rw[y6 (by simp only[yg,y7]; omega),z6 (by simp only[AllP,yb,y16]; omega)]
  simp only[yb]
  rw[zb0,wrapId (n:=(i:Int)+1) om om]
  rfl
 have stepF:∀ s:Int,(S_qu_b1 p (s,(m:Int))).den=some (.brk (s,(m:Int))):=fun s=>by
  simp only[S_qu_b1,Scr.den,za]
  rw[y5 (by simp only[yg,y7]; omega)]
 have key:∀ (k i:Nat),i+k=m->iterM (fun s=>(S_qu_b1 p s).den) (i64.wrap (S i),(i:Int))=some (.next (i64.wrap (S m),(m:Int))):=by
  intro k
  induction k with
  | zero =>
   intro i hk
   obtain rfl:i=m:=om
   rw[z2j]
   simp only[stepF]
  | succ k ih =>
   intro i hk
   rw[z2j]
   simp only[stepT i _ (show i<m from om)]
   rw[z6b,<- hS i om]
   exact ih (i+1) om
 have h0:=key m 0 om
 rw[show S 0=0 by simp[S],z81] at h0
 rw[show ((0:Int),(0:Int))=(0,((0:Nat):Int)) from rfl,h0]
 rfl
theorem zu5 (p:TPo):F_q6o p=some (i64.wrap (p.T-outV p)):=by
 simp only[F_q6o,S_q6o,Scr.den,Out_eq,obind,z4q]
theorem zky (hl:p.A.length<4611686018427387904):F_q5u p=some (i64.wrap (p.T-outV p)):=by
 simp only[F_q5u,S_q5u,Scr.den,r13_Out_eq hl,obind,z4q]
theorem maxw (n:Int):(if 0>n then 0 else n)=max n 0:=by split <;> omega
theorem Shortfall_eq (p:TPo):F_q3a p=some (max (i64.wrap (outV p-p.T)) 0):=by
 simp only[F_q3a,S_q3a,Scr.den,Out_eq,obind,z33]
 congr 1
 exact maxw _
variable {l:List Int}
theorem clone_eq (h:l.length<=1000000):F_q1o l=some l:=by
 simp only[F_q1o,S_q1o,Scr.den]
 rw[Ge]
theorem z6s (h:l.length<=1000000):F_q3k l=some l:=by
 simp only[F_q3k,S_q3k,Scr.den]
 rw[Ge]
def PSmall (p:TPo):Prop:=p.A.length<=1000000/\p.G.length<=1000000/\p.F.length<=1000000/\p.M.length<=1000000
variable {n:Int}
theorem PotOk.small (h:PotOk n p) (hn:n<=6):PSmall p:=by
 obtain⟨_,_,_,⟨⟨h1,_⟩,⟨h2,_⟩,⟨h3,_⟩,⟨h4,_⟩⟩,_⟩:=h
 exact⟨om,om,om,om⟩
theorem z2a (h:PSmall p):F_q3i p=some p:=by
 obtain⟨h1,h2,h3,h4⟩:=h
 simp only[F_q3i,S_q3i,Scr.den,clone_eq h1,clone_eq h2,clone_eq h3,clone_eq h4,obind]
theorem zkz (h:PSmall p):F_q5h p=some (p.B,p.D,p.T,p.A,p.G,p.F,p.M):=by
 obtain⟨h1,h2,h3,h4⟩:=h
 simp only[F_q5h,S_q5h,Scr.den,z6s h1,z6s h2,z6s h3,z6s h4,obind]
def TSmall (t:TTr):Prop:=t.E.length<=1000000/\∀ i,i<t.E.length->PSmall (t.E.getD i dF)
variable {ρ:Type}
theorem z6h {body:Nat->Int×List TPo->Option (Step (Int×List TPo) ρ)} (hs:∀ i (l:List TPo),i<t.E.length->l.length=i->body i (t.P,l)=some (.cont (t.P,l++[t.E.getD i dF]))) :
  rangeM body t.E.length 0 (t.P,[])=some (.next (t.P,t.E)):=by
 obtain⟨s,h1,h2⟩:=zr (ρ:=ρ) (body:=body) (n:=t.E.length) (fun i s=>s=(t.P,t.E.take i)) (s0:=(t.P,[])) sj (fun i s hi hI=>by
  subst hI
  refine⟨_,hs i _ hi sk,?_⟩
  rw[y45 hi]
  simp[List.getD_eq_getElem?_getD,List.getElem?_eq_getElem hi])
 rw[h1,h2,y46]
theorem zn7 (h:TSmall t):F_q2w t=some (t.P,t.E):=by
 simp only[F_q2w,S_q2w,Scr.den]
 rw[z6h (fun i l hi hl=>by
  simp only[S_q2w_b1,Scr.den,z2a (h.2 i hi),obind]
  rw[z6 (by have:=h.1; simp only[AllP,y16,yn,y1k]; omega)])]
 rfl
variable {i0:Nat}
theorem z9y (h:TSmall t) (hi0:i0<t.E.length) (hpos:0<(t.E.getD i0 dF).A.length/\0<(t.E.getD i0 dF).G.length/\0<(t.E.getD i0 dF).F.length/\0<(t.E.getD i0 dF).M.length) :
  F_q1p t i0=some (t.P,t.E):=by
 simp only[F_q1p,S_q1p,Scr.den]
 rw[z6h (fun i l hi hl=>by
  obtain⟨q1,q2,q3,q4⟩:=h.2 i hi
  simp only[S_q1p_b1,Scr.den,zkz (h.2 i hi),obind]
  rw[z6 (by have:=h.1; simp only[AllP,y16]; omega),z6 (by
   simp only[AllP,y16]
   exact⟨fun e=>by rw[hl] at e; subst e; exact hpos,om,om,om,om⟩)])]
 simp only[outM]
 rw[z6 (by simp only[AllP,y16]; exact hi0)]
theorem zeg (h:TSmall t):F_q2m t=some (t.P,t.E):=by
 simp only[F_q2m,S_q2m,Scr.den]
 rw[z6h (fun i l hi hl=>by
  obtain⟨q1,q2,q3,q4⟩:=h.2 i hi
  simp only[S_q2m_b1,Scr.den]
  iterate 4 rw[z6 (by have:=h.1; simp only[AllP,y16]; omega)]
  rw[z6 (by have:=h.1; simp only[AllP,y16,yn,y1k]; omega)])]
 rfl
theorem z58 (h:TSmall t) (hi0:i0<t.E.length) (hpos:0<(t.E.getD i0 dF).A.length/\0<(t.E.getD i0 dF).G.length/\0<(t.E.getD i0 dF).F.length/\0<(t.E.getD i0 dF).M.length) :
  F_q1j t i0=some (t.P,t.E):=by
 simp only[F_q1j,S_q1j,Scr.den]
 rw[z6h (fun i l hi hl=>by
  obtain⟨q1,q2,q3,q4⟩:=h.2 i hi
  simp only[S_q1j_b1,Scr.den]
  iterate 5 rw[z6 (by have:=h.1; simp only[AllP,y16]; omega)]
  rw[z6 (by
   simp only[AllP,y16]
   exact⟨fun e=>by rw[hl] at e; subst e; exact hpos,om,om,om,om⟩)])]
 simp only[outM]
 rw[z6 (by simp only[AllP,y16]; exact hi0)]
def addN (G a:List Int) (i:Nat):List Int:=(List.range G.length).map fun j=>if j<i then G.getD j dF+a.getD j dF else G.getD j dF
variable {a G:List Int}
theorem addN_length:(addN G a i).length=G.length:=by simp[addN]
variable {j:Nat}
theorem addN_get (hj:j<G.length):(addN G a i).getD j dF=if j<i then G.getD j dF+a.getD j dF else G.getD j dF:=by
 simp only[addN]
 rw[y8 (l:=List.map _ _),y26,y4n hj,y1r,y42]
theorem z9z {l':List Int} (h:l.length=l'.length) (he:∀ j,j<l.length->l.getD j dF=l'.getD j dF):l=l':=by
 apply y33 h
 intro j h1 h2
 have:=he j h1
 rw[z20 h1,z20 h2] at this
 exact this
theorem zpr:addN G a 0=G:=z9z addN_length fun j hj=>by
 rw[addN_get (by simpa [addN_length] using hj),y5 om]
variable {x:Int}
theorem getD_set_int (hj:j<l.length):(l.set i x).getD j dF=if j=i then x else l.getD j dF:=by
 rw[y8,y4x]
 by_cases h:i=j
 ·subst h; simp[hj]
 ·rw[y5 h,y5 fun e=>h e.symm,y8]
theorem zps (hi:i<G.length):(addN G a i).set i ((addN G a i).getD i dF+a.getD i dF)=addN G a (i+1):=by
 refine z9z (by simp[addN_length]) fun j hj=>?_
 have hj':j<G.length:=by simpa [addN_length] using hj
 rw[getD_set_int (by rw[addN_length]; exact hj'),addN_get hj',addN_get hi,addN_get hj',y5 (y53 i)]
 by_cases h:j=i
 ·subst h; rw[y6 rfl,y6 om]
 ·rw[y5 h]
  by_cases h2:j<i
  ·rw[y6 h2,y6 om]
  ·rw[y5 h2,y5 om]
theorem zjn {body:Nat->List Int->Option (Step (List Int) ρ)} (hl:a.length=G.length) (hs:∀ i (s:List Int),i<G.length->s.length=G.length->body i s=some (.cont (s.set (0+i) (i64.wrap (s.getD (0+i) dF+a.getD i dF))))) (hG:∀ x∈G,tot x) (ha:∀ x∈a,tot x):rangeM body a.length 0 G=some (.next (addN G a a.length)):=by
 obtain⟨s,h1,h2⟩:=zr (ρ:=ρ) (body:=body) (n:=a.length) (fun i s=>s=addN G a i) (s0:=G) zpr.symm (fun i s hi hI=>by
  subst hI
  have hi':i<G.length:=om
  refine⟨_,hs i _ hi' addN_length,?_⟩
  have t1:=hG _ (z7 hi')
  have t2:=ha _ (z7 hi)
  unfold tot at t1 t2
  rw[yl,wrapId (by rw[addN_get hi',y5 (y53 i)]; omega) (by rw[addN_get hi',y5 (y53 i)]; omega),zps hi'])
 rw[h1,h2]
def giveV (total:Int) (p:TPo) (a:List Int):Int×List Int :=
 if total-outV p<a.sum then (15,p.A) else if 1000000000000000<p.A.sum+a.sum then (3,p.A) else (0,addN p.A a a.length)
theorem z4v (h:PotOk n p) (hn:n<=6):-6000000000000000<=outV p/\outV p<=6000000000000000:=by
 obtain⟨_,_,_,⟨h1,h2,_,_⟩,_⟩:=h
 have b1:=z4u (l:=p.A.take (min p.A.length p.G.length)) fun x hx=>h1.2 x (y35 hx)
 have b2:=z4u (l:=p.G.take (min p.A.length p.G.length)) fun x hx=>h2.2 x (y35 hx)
 have l1:=h1.1
 have l2:=h2.1
 simp only[y1h] at b1 b2
 unfold outV
 have e1:(min (min p.A.length p.G.length) p.A.length:Nat)<=6:=om
 have e2:(min (min p.A.length p.G.length) p.G.length:Nat)<=6:=om
 omega
theorem zfn (h:PotOk n p) (hn:n<=6) (ha:∀ x∈a,tot x) (hl:a.length=p.A.length) {l:List TPo} (hi:i<l.length) :
  F_q1l a i l p.B p.D p.T p.A p.G p.F p.M=some (giveV p.T p a):=by
 have ho:=z4v h hn
 obtain⟨_,_,ht,⟨h1,h2,h3,h4⟩,_,hsum⟩:=h
 have l1:=h1.1; have l2:=h2.1; have l3:=h3.1; have l4:=h4.1
 have s1:=z4u ha
 have s2:=z4u h1.2
 simp only[F_q1l,S_q1l,Scr.den,zjj,obind,zu5]
 rw[z6 ⟨om,om,om,om⟩]
 simp only[obind]
 rw[z6 (by simp only[AllP,y16]; exact hi),wrapId (n:=a.sum) om om,wrapId (n:=p.T-_) (by show _<=p.T-outV p; omega) (by show p.T-outV p<_; omega)]
 unfold giveV
 by_cases c1:p.T-outV p<a.sum
 ·rw[y6 (y9 c1),y6 c1]
 ·rw[y5 (by rw[ya c1]; simp),y5 c1,z6 om,wrapId (n:=p.A.sum) om om]
  simp only[obind]
  rw[wrapId (n:=p.A.sum+a.sum) om om]
  by_cases c2:1000000000000000<p.A.sum+a.sum
  ·rw[y6 (y9 c2),y6 c2]
  ·rw[y5 (by rw[ya c2]; simp),y5 c2]
   rw[zjn (ρ:=R_q1l) (G:=p.A) (a:=a) (body:=fun i' s=>(S_q1l_b1 a i l p.A i' s).den) hl (fun j s hj hs=>by
    simp only[S_q1l_b1,Scr.den]
    rw[Ge]) h1.2 ha]
   rfl
abbrev zT:TTr:=⟨0,[]⟩
def withG (p:TPo) (g:List Int):TPo:=⟨p.B,p.D,p.T,g,p.G,p.F,p.M⟩
def oneHot (n k:Nat) (x:Int):List Int:=(List.replicate n (0:Int)).set k x
def potAt (t:TTr) (c:Y8) (y:Int):TPo:=t.E.getD (pix t.E c y) dF
def putP (t:TTr) (c:Y8) (y:Int) (p:TPo):TTr:=⟨t.P,t.E.set (pix t.E c y) p⟩
def grantM (t:TTr) (k:Int) (c:Y8) (y x:Int):TTr×Int :=
 if ¬ TOk t then (zT,1) else if ¬ hasP t.E c y=true then (zT,6) else if ¬ (1<=k/\k<=t.P) then (zT,6) else if ¬ (1<=x/\x<=1000000000000000) then (zT,2) else
  if (giveV (potAt t c y).T (potAt t c y) (oneHot (potAt t c y).A.length (k-1).toNat x)).1≠0 then (zT,(giveV (potAt t c y).T (potAt t c y) (oneHot (potAt t c y).A.length (k-1).toNat x)).1)
  else (putP t c y (withG (potAt t c y) (giveV (potAt t c y).T (potAt t c y) (oneHot (potAt t c y).A.length (k-1).toNat x)).2),0)
variable {k:Nat}
theorem oneHot_tot {n:Nat} (hx:1<=x/\x<=1000000000000000):∀ y∈oneHot n k x,tot y:=fun y hy=>by
 rcases y20 hy with h | h
 ·rw[List.eq_of_mem_replicate h]; exact⟨om,om⟩
 ·subst h; exact⟨om,om⟩
theorem oneHot_length {n:Nat}:(oneHot n k x).length=n:=by simp[oneHot]
theorem TOk.potAt {t:TTr} (h:TOk t) {c:Y8} {y:Int} (hp:hasP t.E c y=true):PotOk t.P (potAt t c y):=(h.2.2 _ (pix_lt hp).1).1
theorem TOk.small (h:TOk t):TSmall t:=⟨by have:=h.2.1; omega,fun i hi=>(h.2.2 i hi).1.small h.1.2⟩
theorem TOk.pos (h:TOk t) (hp:hasP t.E c y=true) :
  0<(t.E.getD (pix t.E c y) dF).A.length/\0<(t.E.getD (pix t.E c y) dF).G.length/\0<(t.E.getD (pix t.E c y) dF).F.length/\0<(t.E.getD (pix t.E c y) dF).M.length:=by
 obtain⟨_,_,_,⟨⟨h1,_⟩,⟨h2,_⟩,⟨h3,_⟩,⟨h4,_⟩⟩,_⟩:=h.potAt hp
 have:=h.1
 exact⟨by show 0<(Go.Proofs.YtgbpiaddmclccaaGreatDoor.J13.potAt t c y).A.length; omega,by show 0<(Go.Proofs.YtgbpiaddmclccaaGreatDoor.J13.potAt t c y).G.length; omega,by show 0<(Go.Proofs.YtgbpiaddmclccaaGreatDoor.J13.potAt t c y).F.length; omega,by show 0<(Go.Proofs.YtgbpiaddmclccaaGreatDoor.J13.potAt t c y).M.length; omega⟩
theorem zpt {total:Int}:(giveV total p a).2.length=p.A.length:=by
 unfold giveV
 split
 ·rfl
 ·split
  ·rfl
  ·exact addN_length
theorem zpu (h:PotOk n p) (hn:n<=6) {l:List TPo} (hi:i<l.length) (k x:Int) :
  F_q53 i l p.B p.D p.T k x p.A p.G p.F p.M =
   some (if ¬ (1<=k/\k<=n) then (6,p.A) else if ¬ (1<=x/\x<=1000000000000000) then (2,p.A) else giveV p.T p (oneHot p.A.length (k-1).toNat x)):=by
 have l1:=h.2.2.2.1.1.1
 simp only[F_q53,S_q53,Scr.den,z13,obind,l1]
 rw[z6 (by simp only[AllP,y16]; exact hi)]
 by_cases c1:1<=k/\k<=n
 ·rw[y5 (show ¬ (!decide (1<=k/\k<=n))=true by rw[y9 c1]; simp),y5 (show ¬ ¬ (1<=k/\k<=n) from fun h=>h c1)]
  by_cases c2:1<=x/\x<=1000000000000000
  ·have e1:i64.wrap (k-1)=(((k-1).toNat:Nat):Int):=by rw[wrapId om om]; omega
   have e2:n.toNat=p.A.length:=om
   rw[y5 (show ¬ (!decide (1<=x/\x<=1000000000000000))=true by rw[y9 c2]; simp),y5 (show ¬ ¬ (1<=x/\x<=1000000000000000) from fun h=>h c2),e1,e2,yb,Ge,z6 (by simp only[AllP,y16,y1o]; omega),
    z6 (by simp only[AllP,y16,yh,y1o]; omega),yl]
   show (F_q1l (oneHot p.A.length (k-1).toNat x) i l p.B p.D p.T p.A p.G p.F p.M).bind _=_
   rw[zfn h hn (oneHot_tot c2) oneHot_length hi]
   rfl
  ·rw[y6 (show (!decide (1<=x/\x<=1000000000000000))=true by rw[ya c2]; simp),y6 c2]
 ·rw[y6 (show (!decide (1<=k/\k<=n))=true by rw[ya c1]; simp),y6 c1]
theorem Grant_eq (hs:Small t) (k:Int) (c:Y8) (y x:Int):F_q6p t k c y x=some (grantM t k c y x):=by
 simp only[F_q6p,S_q6p,Scr.den,F_q7n,S_q7n,Valid_eq hs,z5r,obind]
 unfold grantM
 by_cases h1:TOk t
 ·rw[y5 (show ¬ (!decide (TOk t))=true by rw[y9 h1]; simp),y5 (show ¬ ¬ TOk t from fun h=>h h1)]
  by_cases h2:hasP t.E c y=true
  ·have hlt:=(pix_lt h2).1
   have hp:=h1.potAt h2
   have l0:=h1.2.1
   rw[y6 (show hasP t.E c y=true from h2),y5 (show ¬ ¬ hasP t.E c y=true from fun h=>h h2),y5 (show ¬ decide (((pix t.E c y:Nat):Int)<0)=true by rw[y7]; omega),yb,z9y h1.small hlt (h1.pos h2)]
   simp only[obind]
   show ((F_q53 (pix t.E c y) t.E (potAt t c y).B (potAt t c y).D (potAt t c y).T k x (potAt t c y).A (potAt t c y).G (potAt t c y).F (potAt t c y).M).bind _).bind _=_
   rw[zpu hp h1.1.2 hlt]
   simp only[obind]
   rw[z6 (by simp only[AllP,y16]; exact⟨om,hlt⟩)]
   by_cases h3:1<=k/\k<=t.P
   ·simp only[show ¬ ¬ (1<=k/\k<=t.P) from fun h=>h h3,yx]
    by_cases h4:1<=x/\x<=1000000000000000
    ·simp only[show ¬ ¬ (1<=x/\x<=1000000000000000) from fun h=>h h4,yx]
     have hlen:=zpt (total:=(potAt t c y).T) (p:=potAt t c y) (a:=oneHot (potAt t c y).A.length (k-1).toNat x)
     generalize giveV (potAt t c y).T (potAt t c y) (oneHot (potAt t c y).A.length (k-1).toNat x)=gv at hlen
     by_cases h5:gv.1=0
     ·rw[y5 (show ¬ (gv.1 != 0)=true by simp[h5]),y5 (show ¬ gv.1≠0 from fun h=>h h5)]
      obtain⟨q1,q2,q3,q4⟩:=hp.small h1.1.2
      rw[z6 (by simp only[AllP,y16]; exact hlen),z6 (by simp only[AllP,y16]; exact⟨by rw[hlen]; omega,y2c q2 om,y2c q3 om,y2c q4 om⟩),Gf]
      rfl
     ·rw[y6 (show (gv.1 != 0)=true by simp[h5]),y6 (show gv.1≠0 from h5)]; rfl
    ·simp only[h4,yk,y17]; rfl
   ·simp only[h3,yk,y17]; rfl
  ·simp only[h2,y5,yk,y17,yo]; rfl
 ·rw[y6 (show (!decide (TOk t))=true by rw[ya h1]; simp),y6 (show ¬ TOk t from h1)]; rfl
def withA (p:TPo) (a:List Int):TPo:=⟨p.B,p.D,p.T,p.A,p.G,a,p.M⟩
def withH (p:TPo) (h u:List Int):TPo:=⟨p.B,p.D,p.T,p.A,h,p.F,u⟩
def nth (l:List Int) (k:Int):Int:=l.getD (k-1).toNat dF
def upd (l:List Int) (k x:Int):List Int:=l.set (k-1).toNat x
def askM (t:TTr) (k:Int) (c:Y8) (y x:Int):TTr×Int :=
 if ¬ TOk t then (zT,1) else if ¬ hasP t.E c y=true then (zT,6) else if ¬ (1<=k/\k<=t.P) then (zT,6) else if ¬ (1<=x/\x<=1000000000000000) then (zT,2) else
  if nth (potAt t c y).A k<nth (potAt t c y).F k+x then (zT,15)
  else (putP t c y (withA (potAt t c y) (upd (potAt t c y).F k (nth (potAt t c y).F k+x))),0)
def hearM (t:TTr) (m:TMe):TTr×Int :=
 if m.To≠0 then (zT,1) else if ¬ TOk t then (zT,1) else if ¬ hasP t.E m.B m.D=true then (zT,6) else if ¬ (1<=m.Aa/\m.Aa<=t.P) then (zT,6) else
  if ¬ ((0<=m.Q/\m.Q<=nth (potAt t m.B m.D).A m.Aa)/\tot m.M) then (zT,2)
  else (putP t m.B m.D (withH (potAt t m.B m.D) (upd (potAt t m.B m.D).G m.Aa (max (nth (potAt t m.B m.D).G m.Aa) m.Q)) (upd (potAt t m.B m.D).M m.Aa m.M)),0)
theorem nth_tot (h:rowOk n l) {k:Int} (hk:1<=k/\k<=n):tot (nth l k):=by
 have:=h.1
 exact h.2 _ (z7 om)
theorem wrapK {k:Int} (hk:1<=k/\k<=6):i64.wrap (k-1)=(((k-1).toNat:Nat):Int):=by rw[wrapId om om]; omega
theorem zu6 (h:PotOk n p) (hn:n<=6) {l:List TPo} (hi:i<l.length) (k x:Int) :
  F_q4h i l p.B p.D p.T k x p.A p.G p.F p.M =
   some (if ¬ (1<=k/\k<=n) then (6,p.F) else if ¬ (1<=x/\x<=1000000000000000) then (2,p.F) else if nth p.A k<nth p.F k+x then (15,p.F) else (0,upd p.F k (nth p.F k+x))):=by
 have l1:=h.2.2.2.1.1.1
 have l3:=h.2.2.2.1.2.2.1.1
 simp only[F_q4h,S_q4h,Scr.den,z13,obind,l3]
 rw[z6 (by simp only[AllP,y16]; exact hi)]
 by_cases c1:1<=k/\k<=n
 ·rw[y5 (show ¬ (!decide (1<=k/\k<=n))=true by rw[y9 c1]; simp),y5 (show ¬ ¬ (1<=k/\k<=n) from fun h=>h c1)]
  by_cases c2:1<=x/\x<=1000000000000000
  ·have t1:=nth_tot h.2.2.2.1.2.2.1 c1
   unfold tot at t1
   rw[y5 (show ¬ (!decide (1<=x/\x<=1000000000000000))=true by rw[y9 c2]; simp),y5 (show ¬ ¬ (1<=x/\x<=1000000000000000) from fun h=>h c2),wrapK (k:=k) om,yb,yl,
    Ge]
   rw[show p.F.getD (k-1).toNat dF=nth p.F k from rfl,show p.A.getD (k-1).toNat dF=nth p.A k from rfl,wrapId (n:=nth p.F k+x) om om]
   by_cases c3:nth p.A k<nth p.F k+x
   ·rw[y6 (show decide (nth p.F k+x>nth p.A k)=true from y9 c3),y6 c3]
   ·rw[y5 (show ¬ decide (nth p.F k+x>nth p.A k)=true by rw[y7]; exact c3),y5 c3]
    rfl
  ·rw[y6 (show (!decide (1<=x/\x<=1000000000000000))=true by rw[ya c2]; simp),y6 c2]
 ·rw[y6 (show (!decide (1<=k/\k<=n))=true by rw[ya c1]; simp),y6 c1]
theorem upd_length {k:Int}:(upd l k x).length=l.length:=by simp[upd]
theorem Ask_eq (hs:Small t) (k:Int) (c:Y8) (y x:Int):F_q4i t k c y x=some (askM t k c y x):=by
 simp only[F_q4i,S_q4i,Scr.den,F_q7a,S_q7a,Valid_eq hs,z5r,obind]
 unfold askM
 by_cases h1:TOk t
 ·rw[y5 (show ¬ (!decide (TOk t))=true by rw[y9 h1]; simp),y5 (show ¬ ¬ TOk t from fun h=>h h1)]
  by_cases h2:hasP t.E c y=true
  ·have hlt:=(pix_lt h2).1
   have hp:=h1.potAt h2
   have l0:=h1.2.1
   rw[y6 (show hasP t.E c y=true from h2),y5 (show ¬ ¬ hasP t.E c y=true from fun h=>h h2),y5 (show ¬ decide (((pix t.E c y:Nat):Int)<0)=true by rw[y7]; omega),yb,z9y h1.small hlt (h1.pos h2)]
   simp only[obind]
   show ((F_q4h (pix t.E c y) t.E (potAt t c y).B (potAt t c y).D (potAt t c y).T k x (potAt t c y).A (potAt t c y).G (potAt t c y).F (potAt t c y).M).bind _).bind _=_
   rw[zu6 hp h1.1.2 hlt]
   simp only[obind]
   rw[z6 (by simp only[AllP,y16]; exact⟨om,hlt⟩)]
   obtain⟨q1,q2,q3,q4⟩:=hp.small h1.1.2
   by_cases h3:1<=k/\k<=t.P
   ·simp only[show ¬ ¬ (1<=k/\k<=t.P) from fun h=>h h3,yx]
    by_cases h4:1<=x/\x<=1000000000000000
    ·simp only[show ¬ ¬ (1<=x/\x<=1000000000000000) from fun h=>h h4,yx]
     by_cases h5:nth (potAt t c y).A k<nth (potAt t c y).F k+x
     ·simp only[h5,y17]; rfl
     ·simp only[h5,yx]
      rw[y5 sj,z6 (by simp only[AllP,y16]; exact upd_length),z6 (by simp only[AllP,y16]; exact⟨y2c q1 om,y2c q2 om,by rw[upd_length]; exact y2c q3 om,y2c q4 om⟩),Gf]
      rfl
    ·simp only[h4,yk,y17]; rfl
   ·simp only[h3,yk,y17]; rfl
  ·simp only[h2,y5,yk,y17,yo]; rfl
 ·rw[y6 (show (!decide (TOk t))=true by rw[ya h1]; simp),y6 (show ¬ TOk t from h1)]; rfl
theorem maxE (a b:Int):(if a>b then a else b)=max b a:=by split <;> omega
theorem zs0 (h:PotOk n p) (hn:n<=6) {l:List TPo} (hi:i<l.length) (m:TMe) :
  F_q56 i l p.B p.D p.T m p.A p.G p.F p.M =
   some (if ¬ (1<=m.Aa/\m.Aa<=n) then (6,p.G,p.M) else if ¬ ((0<=m.Q/\m.Q<=nth p.A m.Aa)/\tot m.M) then (2,p.G,p.M) else
    (0,upd p.G m.Aa (max (nth p.G m.Aa) m.Q),upd p.M m.Aa m.M)):=by
 have l1:=h.2.2.2.1.1.1
 have l2:=h.2.2.2.1.2.1.1
 have l4:=h.2.2.2.1.2.2.2.1
 simp only[F_q56,S_q56,Scr.den,z13,zcr,obind,l2,z8]
 rw[z6 (by simp only[AllP,y16]; exact hi)]
 by_cases c1:1<=m.Aa/\m.Aa<=n
 ·rw[y5 (show ¬ (!decide (1<=m.Aa/\m.Aa<=n))=true by rw[y9 c1]; simp),y5 (show ¬ ¬ (1<=m.Aa/\m.Aa<=n) from fun h=>h c1),wrapK (k:=m.Aa) om,yb,yl]
  rw[show p.A.getD (m.Aa-1).toNat dF=nth p.A m.Aa from rfl,show p.G.getD (m.Aa-1).toNat dF=nth p.G m.Aa from rfl]
  by_cases c2:0<=m.Q/\m.Q<=nth p.A m.Aa
  ·rw[zg (by rw[y9 c2]; exact⟨rfl,trivial⟩)]
   simp only[obind]
   rw[Ge]
   by_cases c3:tot m.M
   ·rw[y5 (by rw[y9 c2,y9 c3]; simp),y5 (show ¬ ¬ ((0<=m.Q/\m.Q<=nth p.A m.Aa)/\tot m.M) from fun h=>h ⟨c2,c3⟩),Ge,maxE]
    rfl
   ·rw[y6 (by rw[ya c3]; simp),y6 fun h=>c3 h.2]
  ·rw[zj (by rw[ya c2]; simp[AllP])]
   simp only[obind]
   rw[Ge,y6 (by rw[ya c2]; simp),y6 fun h=>c2 h.1]
 ·rw[y6 (show (!decide (1<=m.Aa/\m.Aa<=n))=true by rw[ya c1]; simp),y6 c1]
theorem Hear_eq (hs:Small t) (m:TMe):F_q6x t m=some (hearM t m):=by
 simp only[F_q6x,S_q6x,Scr.den,F_q7p,S_q7p,Valid_eq hs,z5r,obind]
 unfold hearM
 by_cases h0:m.To=0
 ·rw[y5 (show ¬ (m.To != 0)=true by simp[h0]),y5 (show ¬ m.To≠0 from fun h=>h h0)]
  by_cases h1:TOk t
  ·rw[y5 (show ¬ (!decide (TOk t))=true by rw[y9 h1]; simp),y5 (show ¬ ¬ TOk t from fun h=>h h1)]
   by_cases h2:hasP t.E m.B m.D=true
   ·have hlt:=(pix_lt h2).1
    have hp:=h1.potAt h2
    have l0:=h1.2.1
    rw[y6 (show hasP t.E m.B m.D=true from h2),y5 (show ¬ ¬ hasP t.E m.B m.D=true from fun h=>h h2),y5 (show ¬ decide (((pix t.E m.B m.D:Nat):Int)<0)=true by rw[y7]; omega),yb,z9y h1.small hlt (h1.pos h2)]
    simp only[obind]
    show ((F_q56 (pix t.E m.B m.D) t.E (potAt t m.B m.D).B (potAt t m.B m.D).D (potAt t m.B m.D).T m (potAt t m.B m.D).A (potAt t m.B m.D).G (potAt t m.B m.D).F (potAt t m.B m.D).M).bind _).bind _=_
    rw[zs0 hp h1.1.2 hlt]
    simp only[obind]
    rw[z6 (by simp only[AllP,y16]; exact⟨om,hlt⟩)]
    obtain⟨q1,q2,q3,q4⟩:=hp.small h1.1.2
    by_cases h3:1<=m.Aa/\m.Aa<=t.P
    ·simp only[show ¬ ¬ (1<=m.Aa/\m.Aa<=t.P) from fun h=>h h3,yx]
     by_cases h4:(0<=m.Q/\m.Q<=nth (potAt t m.B m.D).A m.Aa)/\tot m.M
     ·simp only[show ¬ ¬ ((0<=m.Q/\m.Q<=nth (potAt t m.B m.D).A m.Aa)/\tot m.M) from fun h=>h h4,yx]
      rw[y5 sj,z6 (by simp only[AllP,y16]; exact⟨upd_length,upd_length⟩),z6 (by simp only[AllP,y16]; exact⟨y2c q1 om,by rw[upd_length]; exact y2c q2 om,y2c q3 om,by rw[upd_length]; exact y2c q4 om⟩),Gf]
      rfl
     ·simp only[h4,yk,y17]; rfl
    ·simp only[h3,yk,y17]; rfl
   ·simp only[h2,y5,yk,y17,yo]; rfl
  ·rw[y6 (show (!decide (TOk t))=true by rw[ya h1]; simp),y6 (show ¬ TOk t from h1)]; rfl
 ·rw[y6 (show (m.To != 0)=true by simp[h0]),y6 (show m.To≠0 from h0)]
def potM (t:TTr) (c:Y8) (y:Int):TPo×Bool:=if hasP t.E c y=true then (potAt t c y,true) else (⟨[],0,0,[],[],[],[]⟩,false)
theorem Pot_eq (hs:TSmall t) (c:Y8) (y:Int):F_q2e t c y=some (potM t c y):=by
 simp only[F_q2e,S_q2e,Scr.den,z5r,obind]
 unfold potM
 by_cases h2:hasP t.E c y=true
 ·have hlt:=(pix_lt h2).1
  have l0:=hs.1
  rw[y6 (show hasP t.E c y=true from h2),y6 (show hasP t.E c y=true from h2),y5 (show ¬ decide (((pix t.E c y:Nat):Int)<0)=true by rw[y7]; omega),yb,z2a (hs.2 _ hlt)]
  simp only[obind]
  rw[z6 (by simp only[AllP,y16]; exact⟨om,hlt⟩)]
  rfl
 ·rw[y5 h2,y5 h2]; rfl
def tellM (t:TTr) (k:Int) (c:Y8) (y:Int):TMe×Int :=
 if ¬ TOk t then (⟨0,0,[],0,0,0,0,0⟩,1) else if ¬ (hasP t.E c y=true/\1<=k/\k<=t.P) then (⟨0,0,[],0,0,0,0,0⟩,6)
 else (⟨0,k,c,y,nth (potAt t c y).A k,nth (potAt t c y).F k,0,0⟩,0)
theorem Tell_eq (hs:Small t) (k:Int) (c:Y8) (y:Int):F_q4j t k c y=some (tellM t k c y):=by
 simp only[F_q4j,S_q4j,Scr.den,Valid_eq hs,obind,z8]
 unfold tellM
 by_cases h1:TOk t
 ·rw[y5 (show ¬ (!decide (TOk t))=true by rw[y9 h1]; simp),y5 (show ¬ ¬ TOk t from fun h=>h h1),Pot_eq h1.small]
  simp only[obind,z13]
  unfold potM
  by_cases h2:hasP t.E c y=true
  ·rw[y6 h2]
   rw[zg (gs:=[(!true)=false]) ⟨rfl,trivial⟩]
   simp only[obind,y27,y3n]
   obtain⟨_,_,_,⟨g1,_,g3,_⟩,_⟩:=h1.potAt h2
   have e1:=g1.1
   have e3:=g3.1
   have e0:=h1.1
   by_cases h3:1<=k/\k<=t.P
   ·rw[y5 (by rw[y9 h3]; simp),y5 (show ¬ ¬ (hasP t.E c y=true/\1<=k/\k<=t.P) from fun h=>h ⟨h2,h3⟩),wrapK (k:=k) om,yb,Ge]
    rfl
   ·rw[y6 (by rw[ya h3]; rfl),y6 fun h=>h3 h.2]
  ·rw[y5 h2,Gh]
   simp only[obind]
   rw[y6 (by rfl),y6 fun h=>h2 h.1]
 ·rw[y6 (show (!decide (TOk t))=true by rw[ya h1]; simp),y6 h1]
def findM (t:TTr) (k:Int) (c:Y8) (y:Int):Int×Int :=
 if ¬ TOk t then (0,1) else if ¬ (hasP t.E c y=true/\1<=k/\k<=t.P) then (0,6) else ((pix t.E c y:Int),0)
theorem r13_find_eq (hs:Small t) (k:Int) (c:Y8) (y:Int):F_q2n t k c y=some (findM t k c y):=by
 simp only[F_q2n,S_q2n,Scr.den,r13_Valid_eq hs,at_eq,obind,z8]
 unfold findM
 by_cases h1:TOk t
 ·rw[y5 (show ¬ (!decide (TOk t))=true by rw[y9 h1]; simp),y5 (show ¬ ¬ TOk t from fun h=>h h1)]
  by_cases h2:hasP t.E c y=true
  ·rw[y6 (show hasP t.E c y=true from h2)]
   by_cases h3:1<=k/\k<=t.P
   ·have hb:(decide (((pix t.E c y:Nat):Int)<0)||decide (k<1)||decide (k>t.P))=false:=by
     simp only[y37,yf]; omega
    rw[y5 (by rw[hb]; simp),y5 (show ¬ ¬ (hasP t.E c y=true/\1<=k/\k<=t.P) from fun h=>h ⟨h2,h3⟩)]
   ·rw[y6 (by simp only[yc,y7]; omega),y6 fun h=>h3 h.2]
  ·rw[y5 (show ¬ hasP t.E c y=true from h2),y6 (by rfl),y6 fun h=>h2 h.1]
 ·rw[y6 (show (!decide (TOk t))=true by rw[ya h1]; simp),y6 h1]
theorem r13_Ask_eq (hs:Small t) (k:Int) (c:Y8) (y x:Int):F_q4o t k c y x=some (askM t k c y x):=by
 simp only[F_q4o,S_q4o,Scr.den,r13_find_eq hs,obind,z8]
 unfold askM findM
 by_cases h1:TOk t
 ·simp only[show ¬ ¬ TOk t from fun h=>h h1,yx]
  by_cases h2:hasP t.E c y=true
  ·have hlt:=(pix_lt h2).1
   have hp:=h1.potAt h2
   have l0:=h1.2.1
   obtain⟨q1,q2,q3,q4⟩:=hp.small h1.1.2
   have l1:=hp.2.2.2.1.1.1
   have l3:=hp.2.2.2.1.2.2.1.1
   have e0:=h1.1
   simp only[show ¬ ¬ hasP t.E c y=true from fun h=>h h2,yx]
   by_cases h3:1<=k/\k<=t.P
   ·simp only[show ¬ ¬ (1<=k/\k<=t.P) from fun h=>h h3,show ¬ ¬ (hasP t.E c y=true/\1<=k/\k<=t.P) from fun h=>h ⟨h2,h3⟩,yx]
    rw[y5 (show ¬ ((0:Int) != 0)=true from sj)]
    by_cases h4:1<=x/\x<=1000000000000000
    ·have t1:=nth_tot hp.2.2.2.1.2.2.1 h3
     unfold tot at t1
     rw[y5 (by simp only[yc,y7]; omega)]
     simp only[show ¬ ¬ (1<=x/\x<=1000000000000000) from fun h=>h h4,yx,wrapK (k:=k) om,yb]
     rw[z58 h1.small hlt (h1.pos h2)]
     simp only[obind,show t.E.getD (pix t.E c y) dF=potAt t c y from rfl,yl,show (potAt t c y).F.getD (k-1).toNat dF=nth (potAt t c y).F k from rfl,show (potAt t c y).A.getD (k-1).toNat dF=nth (potAt t c y).A k from rfl]
     rw[Ge,wrapId (n:=nth (potAt t c y).F k+x) om om]
     by_cases h5:nth (potAt t c y).A k<nth (potAt t c y).F k+x
     ·rw[y6 (show decide (nth (potAt t c y).F k+x>nth (potAt t c y).A k)=true from y9 h5),y6 h5]
     ·rw[y5 (show ¬ decide (nth (potAt t c y).F k+x>nth (potAt t c y).A k)=true by rw[y7]; exact h5),y5 h5]
      rw[Ge,z6 (by simp only[AllP,y16,yh]),Gf,Gf]
      rfl
    ·rw[y6 (by simp only[yc,y7]; omega)]
     simp only[h4,yk,y17]
   ·simp only[h3,and_false,yk,y17]; rfl
  ·simp only[h2,y59,yk,y17,yo]; rfl
 ·simp only[h1,yk,y17]; rfl
theorem r13_Hear_eq (hs:Small t) (m:TMe):F_q61 t m=some (hearM t m):=by
 simp only[F_q61,S_q61,Scr.den,r13_Valid_eq hs,r13_find_eq hs,obind,z8]
 unfold hearM findM
 by_cases h0:m.To=0
 ·rw[y5 (show ¬ m.To≠0 from fun h=>h h0)]
  by_cases h1:TOk t
  ·rw[y5 (by rw[y9 h1]; simp[h0])]
   simp only[show ¬ ¬ TOk t from fun h=>h h1,yx]
   by_cases h2:hasP t.E m.B m.D=true
   ·have hlt:=(pix_lt h2).1
    have hp:=h1.potAt h2
    have l0:=h1.2.1
    obtain⟨q1,q2,q3,q4⟩:=hp.small h1.1.2
    have l1:=hp.2.2.2.1.1.1
    have l2:=hp.2.2.2.1.2.1.1
    have l4:=hp.2.2.2.1.2.2.2.1
    have e0:=h1.1
    simp only[show ¬ ¬ hasP t.E m.B m.D=true from fun h=>h h2,yx]
    by_cases h3:1<=m.Aa/\m.Aa<=t.P
    ·simp only[show ¬ ¬ (1<=m.Aa/\m.Aa<=t.P) from fun h=>h h3,show ¬ ¬ (hasP t.E m.B m.D=true/\1<=m.Aa/\m.Aa<=t.P) from fun h=>h ⟨h2,h3⟩,yx]
     rw[y5 (show ¬ ((0:Int) != 0)=true from sj)]
     simp only[wrapK (k:=m.Aa) om,yb,z3u,show t.E.getD (pix t.E m.B m.D) dF=potAt t m.B m.D from rfl,show (potAt t m.B m.D).A.getD (m.Aa-1).toNat dF=nth (potAt t m.B m.D).A m.Aa from rfl]
     have hgu:∀ a:Prop,AllP [a->(0:Int)<=((pix t.E m.B m.D:Nat):Int),a->pix t.E m.B m.D<t.E.length,a->(0:Int)<=(((m.Aa-1).toNat:Nat):Int),a->(m.Aa-1).toNat<(potAt t m.B m.D).A.length] :=
      fun a=>⟨fun _=>om,fun _=>hlt,fun _=>om,fun _=>om,trivial⟩
     by_cases h4:0<=m.Q/\m.Q<=nth (potAt t m.B m.D).A m.Aa
     ·rw[zg (by rw[ya (show ¬ m.Q<0 from om),ya (show ¬ m.Q>nth (potAt t m.B m.D).A m.Aa from om)]; exact⟨rfl,trivial⟩)]
      simp only[obind]
      rw[z6 (hgu _)]
      by_cases h5:tot m.M
      ·rw[y5 (by rw[ya (show ¬ m.Q<0 from om),ya (show ¬ m.Q>nth (potAt t m.B m.D).A m.Aa from om),y9 h5]; simp),y5 (show ¬ ¬ ((0<=m.Q/\m.Q<=nth (potAt t m.B m.D).A m.Aa)/\tot m.M) from fun h=>h ⟨h4,h5⟩)]
       rw[z58 h1.small hlt (h1.pos h2)]
       simp only[obind,show t.E.getD (pix t.E m.B m.D) dF=potAt t m.B m.D from rfl,yl,show (potAt t m.B m.D).G.getD (m.Aa-1).toNat dF=nth (potAt t m.B m.D).G m.Aa from rfl,maxE]
       rw[Ge,Ge,z6 (by simp only[AllP,yh,and_self]),Gf,Gf]
       rfl
      ·rw[y6 (by rw[ya h5]; simp),y6 (show ¬ ((0<=m.Q/\m.Q<=nth (potAt t m.B m.D).A m.Aa)/\tot m.M) from fun h=>h5 h.2)]
     ·have hb:(decide (m.Q<0)||decide (m.Q>nth (potAt t m.B m.D).A m.Aa))=true:=by
       simp only[yc,y7]; omega
      rw[zj (by rw[hb]; simp[AllP])]
      simp only[obind]
      rw[z6 (hgu _),y6 (by rw[hb]; rfl),y6 (show ¬ ((0<=m.Q/\m.Q<=nth (potAt t m.B m.D).A m.Aa)/\tot m.M) from fun h=>h4 h.1)]
    ·simp only[h3,and_false,yk,y17]; rfl
   ·simp only[h2,y59,yk,y17,yo]; rfl
  ·rw[y6 (by rw[ya h1]; rfl)]
   simp only[h1,yk,y17]
 ·rw[y6 (by simp[h0]),y6 (show m.To≠0 from h0)]
def divideM (t:TTr) (c:Y8) (y:Int) (a:List Int):TTr×Int :=
 if ¬ TOk t then (zT,1) else if ¬ hasP t.E c y=true then (zT,6) else if ¬ (a.length:Int)=t.P then (zT,6) else if ¬ rowT a=true then (zT,2) else
  if (giveV (potAt t c y).T (potAt t c y) a).1≠0 then (zT,(giveV (potAt t c y).T (potAt t c y) a).1)
  else (putP t c y (withG (potAt t c y) (giveV (potAt t c y).T (potAt t c y) a).2),0)
theorem zjo:∀ (a b:List Int) (u v:Int),a.length=b.length ->
  (a.zip b).foldl (fun (s:Int×Int) x=>(i64.wrap (s.1+x.1),i64.wrap (s.2+x.2))) (i64.wrap u,i64.wrap v)=(i64.wrap (u+a.sum),i64.wrap (v+b.sum))
 | [],[],u,v,_=>sj
 | x :: a,y :: b,u,v,h=>by
  simp only[List.zip_cons_cons,y2y,z6b,y21]
  rw[zjo a b (u+x) (v+y) (by simpa using h),y5q,y5q]
 | [],_ :: _,_,_,h=>by simp at h
 | _ :: _,[],_,_,h=>by simp at h
theorem zs1 {b:List Int} (h:a.length=b.length) (hi:i<a.length):(a.zip b).getD i dF=(a.getD i dF,b.getD i dF):=by
 rw[y8,yd sk,List.getElem_zip,z20 hi,z20 om]
 rfl
theorem zhs (hs:Small t) (c:Y8) (y:Int) (a:List Int):F_qm t c y a=some (divideM t c y a):=by
 simp only[F_qm,S_qm,Scr.den,r13_find_eq hs,obind]
 unfold divideM
 by_cases h1:TOk t
 ·simp only[findM,show ¬ ¬ TOk t from fun h=>h h1,yx]
  by_cases h2:hasP t.E c y=true
  ·have hlt:=(pix_lt h2).1
   have hp:=h1.potAt h2
   have l0:=h1.2.1
   obtain⟨q1,q2,q3,q4⟩:=hp.small h1.1.2
   have l1:=hp.2.2.2.1.1.1
   have e0:=h1.1
   have ho:=z4v hp h1.1.2
   have ht:=hp.2.2.1
   simp only[show ¬ ¬ hasP t.E c y=true from fun h=>h h2,show ¬ ¬ (hasP t.E c y=true/\(1:Int)<=1/\1<=t.P) from fun h=>h ⟨h2,om,om⟩,yx]
   rw[y5 (show ¬ ((0:Int) != 0)=true from sj)]
   by_cases h3:(a.length:Int)=t.P
   ·rw[y5 (show ¬ ((a.length:Int) != t.P)=true by simp[h3]),y5 (show ¬ ¬ (a.length:Int)=t.P from fun h=>h h3)]
    simp only[yb]
    have hl:a.length=(potAt t c y).A.length:=om
    have hz:(a.zip (potAt t c y).A).length=a.length:=sk
    have hch:=zee (ρ:=R_qm) (body:=fun i s=>(S_qm_b1 t a ((pix t.E c y:Int),0) i s).den) (a.zip (potAt t c y).A) (fun i=>tot (a.getD i dF))
     (fun (s:Int×Int) x=>(i64.wrap (s.1+x.1),i64.wrap (s.2+x.2))) (c:=(zT,2)) (s0:=(0,0)) (fun i s hi=>by
      rw[hz] at hi
      simp only[S_qm_b1,Scr.den,z3u,obind,yb,show t.E.getD (pix t.E c y) dF=potAt t c y from rfl,zs1 hl hi]
      by_cases c1:tot (a.getD i dF)
      ·rw[y5 (by rw[y9 c1]; simp),y6 c1,Ge]
      ·rw[y6 (by rw[ya c1]; rfl),y5 c1])
    rw[hz] at hch
    rw[hch]
    by_cases h4:rowT a=true
    ·have ha:=z5t.1 h4
     have s1:=z4u ha
     have s2:=z4u hp.2.2.2.1.1.2
     have hf:=zjo a (potAt t c y).A 0 0 hl
     rw[z81,Int.zero_add,Int.zero_add,wrapId (n:=a.sum) om om,wrapId (n:=(potAt t c y).A.sum) om om] at hf
     rw[y6 (z3j.2 ha),hf,y5 (show ¬ ¬ rowT a=true from fun h=>h h4)]
     simp only[outM,show t.E.getD (pix t.E c y) dF=potAt t c y from rfl]
     rw[zky om]
     simp only[obind]
     rw[Ge,wrapId (n:=(potAt t c y).T-outV (potAt t c y)) om om,wrapId (n:=a.sum+(potAt t c y).A.sum) om om]
     unfold giveV
     by_cases c1:(potAt t c y).T-outV (potAt t c y)<a.sum
     ·rw[y6 (show decide (a.sum>(potAt t c y).T-outV (potAt t c y))=true from y9 c1),y6 c1]
      rfl
     ·rw[y5 (show ¬ decide (a.sum>(potAt t c y).T-outV (potAt t c y))=true by rw[y7]; exact c1),y5 c1]
      by_cases c2:1000000000000000<(potAt t c y).A.sum+a.sum
      ·rw[y6 (y9 om),y6 c2]
       rfl
      ·rw[y5 (by rw[y7]; omega),y5 c2,z58 h1.small hlt (h1.pos h2)]
       simp only[obind,show t.E.getD (pix t.E c y) dF=potAt t c y from rfl]
       rw[zjn (ρ:=R_qm) (G:=(potAt t c y).A) (a:=a) (body:=fun i s=>(S_qm_b2 a ((pix t.E c y:Int),0) (t.P,t.E) i s).den) hl (fun j s hj hs'=>by
        simp only[S_qm_b2,Scr.den,yb,show t.E.getD (pix t.E c y) dF=potAt t c y from rfl]
        rw[Ge]) hp.2.2.2.1.1.2 ha]
       simp only
       rw[z6 (by simp only[AllP,y16]; exact addN_length),z6 (by simp only[AllP,y16]; exact⟨by rw[addN_length]; omega,om,om,om⟩),Gf]
       rfl
    ·rw[y5 fun h=>h4 (z5t.2 (z3j.1 h)),y6 (show ¬ rowT a=true from h4)]
     rfl
   ·rw[y6 (show ((a.length:Int) != t.P)=true by simp[h3]),y6 (show ¬ (a.length:Int)=t.P from h3)]
  ·simp only[h2,y59,yk,y17,yo]; rfl
 ·simp only[findM,h1,yk,y17]; rfl
theorem r13_Grant_eq (hs:Small t) (k:Int) (c:Y8) (y x:Int):F_q5v t k c y x=some (grantM t k c y x):=by
 simp only[F_q5v,S_q5v,Scr.den,r13_find_eq hs,obind,z8]
 unfold grantM
 by_cases h1:TOk t
 ·simp only[findM,show ¬ ¬ TOk t from fun h=>h h1,yx]
  by_cases h2:hasP t.E c y=true
  ·have hp:=h1.potAt h2
   have l1:=hp.2.2.2.1.1.1
   have e0:=h1.1
   simp only[show ¬ ¬ hasP t.E c y=true from fun h=>h h2,yx]
   by_cases h3:1<=k/\k<=t.P
   ·simp only[show ¬ ¬ (1<=k/\k<=t.P) from fun h=>h h3,show ¬ ¬ (hasP t.E c y=true/\1<=k/\k<=t.P) from fun h=>h ⟨h2,h3⟩,yx]
    rw[y5 (show ¬ ((0:Int) != 0)=true from sj)]
    by_cases h4:1<=x/\x<=1000000000000000
    ·rw[y5 (by simp only[yc,y7]; omega)]
     simp only[show ¬ ¬ (1<=x/\x<=1000000000000000) from fun h=>h h4,yx,wrapK (k:=k) om,yb,yl]
     have e2:t.P.toNat=(potAt t c y).A.length:=om
     rw[e2,Ge,z6 (by simp only[AllP,y16,y1o]; omega),z6 (by simp only[AllP,y16,yh,y1o]; omega)]
     show (F_qm t c y (oneHot (potAt t c y).A.length (k-1).toNat x)).bind _=_
     rw[zhs hs]
     unfold divideM
     simp only[show ¬ ¬ TOk t from fun h=>h h1,show ¬ ¬ hasP t.E c y=true from fun h=>h h2,show ¬ ¬ (((oneHot (potAt t c y).A.length (k-1).toNat x).length:Int)=t.P) from fun h=>h (by rw[oneHot_length]; exact l1),
      show ¬ ¬ rowT (oneHot (potAt t c y).A.length (k-1).toNat x)=true from fun h=>h (z5t.2 (oneHot_tot h4)),yx]
     rfl
    ·rw[y6 (by simp only[yc,y7]; omega)]
     simp only[h4,yk,y17]
   ·simp only[h3,and_false,yk,y17]; rfl
  ·simp only[h2,y59,yk,y17,yo]; rfl
 ·simp only[findM,h1,yk,y17]; rfl
def PGood (p:TPo):Prop:=good p.B=true/\True
theorem has_iff {l:List TPo}:hasP l c y=true↔∃ x∈l,x.B=c/\x.D=y:=by
 unfold hasP
 rw[y43]
 exact⟨fun⟨x,h1,h2⟩=>⟨x,h1,zfs.1 h2⟩,fun⟨x,h1,h2⟩=>⟨x,h1,zfs.2 h2⟩⟩
def Srt (l:List TPo):Prop:=∀ i,i<l.length->i=0\/cmpP (l.getD (i-1) dF) (l.getD i dF)<0
theorem zc2 {a:TPo} (h:good a.B=true\/good b.B=true):cmpP a b<0↔lexC (parts a.B) (parts b.B)<0\/(lexC (parts a.B) (parts b.B)=0/\a.D<b.D):=by
 unfold cmpP
 rw[z2t h]
 generalize lexC (parts a.B) (parts b.B)=c
 by_cases hc:c=0
 ·rw[y5 (by simpa using hc)]
  unfold cmpI
  by_cases h1:a.D<b.D
  ·rw[y6 h1]; simp[hc,h1]
  ·rw[y5 h1]
   split <;> simp[hc,h1]
 ·rw[y6 hc]; simp[hc]
theorem cmpP_eq {a:TPo} (ha:good a.B=true) (hb:good b.B=true):cmpP a b=0↔a.B=b.B/\a.D=b.D:=by
 unfold cmpP
 rw[z2t (.inl ha)]
 by_cases hc:lexC (parts a.B) (parts b.B)=0
 ·rw[y5 (by simpa using hc)]
  have e:=z7y ha hb (z30 hc)
  unfold cmpI
  by_cases h1:a.D<b.D
  ·rw[y6 h1]; simp; omega
  ·rw[y5 h1]
   by_cases h2:a.D>b.D
   ·rw[y6 h2]; simp; omega
   ·rw[y5 h2]; simp[e]; omega
 ·rw[y6 hc]
  constructor
  ·intro h; exact absurd h hc
  ·rintro⟨h1,_⟩
   exact absurd (by rw[h1]; exact zb6 _) hc
theorem zeh {a c:TPo} (ha:good a.B=true) (hb:good b.B=true) (h:cmpP a b<0) (h':cmpP b c<0):cmpP a c<0:=by
 rw[zc2 (.inl ha)] at h |-
 rw[zc2 (.inl hb)] at h'
 rcases h with h | ⟨h,h2⟩
 ·rcases h' with h' | ⟨h',_⟩
  ·exact .inl (z9p h h')
  ·rw[<- z30 h']; exact .inl h
 ·rcases h' with h' | ⟨h',h3⟩
  ·rw[z30 h]; exact .inl h'
  ·rw[z30 h]; exact .inr ⟨h',om⟩
theorem zpv {a:TPo} (ha:good a.B=true):cmpP b a=-cmpP a b:=by
 unfold cmpP
 rw[z2t (.inl ha),z2t (.inr ha),zb7 (parts a.B) (parts b.B)]
 by_cases h:lexC (parts a.B) (parts b.B)=0
 ·rw[y5 om,y5 om]
  unfold cmpI
  by_cases h1:a.D<b.D
  ·rw[y5 om,y6 om,y6 h1]; rfl
  ·by_cases h2:b.D<a.D
   ·rw[y6 h2,y5 h1,y6 om]
   ·rw[y5 h2,y5 om,y5 h1,y5 om]; rfl
 ·rw[y6 om,y6 h]
theorem Srt.lt {l:List TPo} (h:Srt l) (hg:∀ r∈l,PGood r):∀ {i j:Nat},i<j->j<l.length->cmpP (l.getD i dF) (l.getD j dF)<0:=by
 intro i j hij
 induction j with
 | zero=>omega
 | succ j ih =>
  intro hj
  have h1:=(h (j+1) hj).resolve_left om
  rw[show j+1-1=j from om] at h1
  by_cases e:i=j
  ·subst e; exact h1
  ·exact zeh (hg _ (z7 om)).1 (hg _ (z7 om)).1 (ih om om) h1
def posP (l:List TPo) (r:TPo):Nat:=l.findIdx (fun x=>decide (0<=cmpP x r))
theorem z16 {α:Type} [Inhabited α] {l:List α} (hi:i<l.length):l.getD i dF=l[i]:=by simp[List.getD_eq_getElem?_getD,List.getElem?_eq_getElem hi]
theorem posP_le (l:List TPo) (r:TPo):posP l r<=l.length:=List.findIdx_le_length
variable {r:TPo}
theorem zc3 {l:List TPo} (hi:i<posP l r):cmpP (l.getD i dF) r<0:=by
 have hl:i<l.length:=y1a hi (posP_le l r)
 have:=y51 hi
 rw[z16 hl]
 simpa using this
theorem zc4 {l:List TPo} (hi:posP l r<l.length):0<=cmpP (l.getD (posP l r) dF) r:=by
 have:=y3i (xs:=l) (p:=fun x=>decide (0<=cmpP x r)) (w:=hi)
 rw[z16 hi]
 exact y1x this
theorem zu7 {l:List TPo} (hS:Srt l) (hg:∀ x∈l,PGood x) (hi:i<l.length) (hp:posP l r<=i):0<=cmpP (l.getD i dF) r:=by
 have h0:=zc4 (l:=l) (r:=r) om
 by_cases e:posP l r=i
 ·rwa [e] at h0
 ·have h1:=hS.lt hg (show posP l r<i from om) hi
  by_cases h:cmpP (l.getD i dF) r<0
  ·have:=zeh (hg _ (z7 om)).1 (hg _ (z7 hi)).1 h1 h
   omega
  ·omega
theorem zfl (h:i+j<4611686018427387904):i64.wrap ((IntKind.u64.wrap (i64.wrap ((i:Int)+(j:Int)))).fdiv (2 ^ (min (1:Int).toNat IntKind.u64.bits)))=(((i+j) / 2:Nat):Int):=by
 rw[wrapId (n:=(i:Int)+(j:Int)) om om]
 have e:IntKind.u64.wrap ((i:Int)+(j:Int))=(i:Int)+(j:Int):=by
  simp only[IntKind.wrap,IntKind.bits,IntKind.signed]
  simp
  omega
 rw[e]
 have e2:(2:Int) ^ (min (1:Int).toNat IntKind.u64.bits)=2:=dk
 rw[e2,Int.fdiv_eq_ediv_of_nonneg _ om,wrapId om om]
 omega
theorem PGood.len (h:PGood r):r.B.length<=1000000:=by have:=z3q h.1; omega
theorem zdh {l:List TPo} (hg:∀ x∈l,PGood x) (k:Nat):(l.getD k dF).B.length<=1000000:=by
 by_cases h:k<l.length
 ·exact (hg _ (z7 h)).len
 ·rw[y8,yj om]; exact y1e _
theorem z9s {l:List TPo} (hl:l.length<=1000000) (hS:Srt l) (hg:∀ x∈l,PGood x) (hr:PGood r) :
  F_q2d r l=some ((posP l r:Int),decide (posP l r<l.length)&&(cmpP (l.getD (posP l r) dF) r==0)):=by
 have hc:∀ k,F_q3h (l.getD k dF) r=some (cmpP (l.getD k dF) r):=fun k=>zef (zdh hg k) hr.len
 have hp:=posP_le l r
 simp only[F_q2d,S_q2d,Scr.den]
 obtain⟨s,e,hJ⟩:=z1n (step:=fun s=>(S_q2d_b1 r l s).den) (fun s=>(s.2-s.1).toNat) (fun s=>∃ i j:Nat,s=((i:Int),(j:Int))/\i<=posP l r/\posP l r<=j/\j<=l.length) (fun s=>s.1=(posP l r:Int)) (fun s hI=>by
  obtain⟨i,j,rfl,h1,h2,h3⟩:=hI
  simp only[S_q2d_b1,Scr.den,zfl (show i+j<4611686018427387904 from om),hc,obind,yb]
  by_cases hij:i<j
  ·left
   rw[y6 (by simpa using hij),Gc,yl]
   by_cases hlt:cmpP (l.getD ((i+j) / 2) dF) r<0
   ·rw[y6 (by simpa using hlt),wrapId om om]
    have:(i+j) / 2<posP l r:=by
     by_cases h:(i+j) / 2<posP l r
     ·exact h
     ·have:=zu7 (r:=r) hS hg (show (i+j) / 2<l.length from om) om
      omega
    exact⟨_,rfl,⟨(i+j) / 2+1,j,sj,om,h2,h3⟩,by simp only; omega⟩
   ·rw[y5 (by simpa using hlt)]
    have:posP l r<=(i+j) / 2:=by
     by_cases h:posP l r<=(i+j) / 2
     ·exact h
     ·have:=zc3 (show (i+j) / 2<posP l r from om)
      omega
    exact⟨_,rfl,⟨i,(i+j) / 2,rfl,h1,this,om⟩,by simp only; omega⟩
  ·right
   rw[y5 (by simpa using hij)]
   exact⟨_,rfl,by simp only; omega⟩) _ (0,(l.length:Int)) (y2u _) ⟨0,l.length,rfl,om,hp,om⟩
 rw[e]
 simp only[outM,hJ,yb,hc,za,yl]
 by_cases h:posP l r<l.length
 ·rw[zg (by exact⟨sk,trivial⟩),obind,z6 ⟨fun _=>om,fun _=>h,fun _=>h,trivial⟩]
  simp[h]
 ·rw[zj (by simp[AllP]; omega),obind,z6 ⟨fun _=>om,fun h'=>absurd h (by simp[AllP] at h'; omega),fun h'=>absurd h (by simp[AllP] at h'; omega),trivial⟩]
  simp[h]
theorem zfm {l:List TPo} (hS:Srt l) (hg:∀ x∈l,PGood x) (hr:PGood r) :
  (decide (posP l r<l.length)&&(cmpP (l.getD (posP l r) dF) r==0))=hasP l r.B r.D/\(hasP l r.B r.D=true->pix l r.B r.D=posP l r):=by
 have key:hasP l r.B r.D=true->pix l r.B r.D=posP l r:=fun h=>by
  obtain⟨h1,h2,h3⟩:=pix_lt h
  have h4:=hg _ (z7 h1)
  have h5:cmpP (l.getD (pix l r.B r.D) dF) r=0:=(cmpP_eq h4.1 hr.1).2 ⟨h2,h3⟩
  rcases y3k (pix l r.B r.D) (posP l r) with h | h | h
  ·have:=zc3 h; omega
  ·exact h
  ·have h6:=hS.lt hg h h1
   have h7:=zc4 (l:=l) (r:=r) om
   have h8:=hg _ (z7 (show posP l r<l.length from om))
   have:cmpP (l.getD (posP l r) dF) r<0:=by
    rw[zc2 (.inl h8.1)] at h6 |-
    rw[h2,h3] at h6
    exact h6
   omega
 refine⟨?_,key⟩
 rw[y1s]
 simp only[yg,y7,y12]
 constructor
 ·rintro⟨h1,h2⟩
  obtain⟨h3,h4⟩:=(cmpP_eq (hg _ (z7 h1)).1 hr.1).1 h2
  exact has_iff.2 ⟨_,z7 h1,h3,h4⟩
 ·intro h
  obtain⟨h1,h2,h3⟩:=pix_lt h
  rw[key h] at h1 h2 h3
  exact⟨h1,(cmpP_eq (hg _ (z7 h1)).1 hr.1).2 ⟨h2,h3⟩⟩
theorem zdi (l:List TPo) (p:Nat) (hp:p<=l.length) (z r:TPo) :
  (copyL (l++[z]) (0+(p+1)) (min ((l++[z]).length-p) ((l++[z]).length-(p+1))) (fun i=>(l++[z]).getD ((0+p)+i) dF)).set (0+p) r=insL l p r:=by
 refine y33 (by simp[copyL,insL]; omega) fun i h1 h2=>?_
 have hi:i<l.length+1:=by rw[zq] at h2; exact h2
 rw[<- z16 h2,z1s hp,y4k]
 by_cases e:i<p
 ·rw[y5 om,y6 e]
  simp only[copyL,y3s,y3g]
  rw[y5 om,y8,y8,ym om]
 ·by_cases e2:i=p
  ·rw[y6 om,y5 e,y6 e2]
  ·rw[y5 om,y5 e,y5 e2]
   simp only[copyL,y3s,y3g,yp,y1t]
   rw[y6 om,show 0+p+(i-(0+(p+1)))=i-1 from om,y8,y8,ym om]
def withT (p:TPo) (x:Int):TPo:=⟨p.B,p.D,x,p.A,p.G,p.F,p.M⟩
def zeros (n:Int):List Int:=List.replicate n.toNat (0:Int)
def newP (n:Int) (c:Y8) (y x:Int):TPo:=⟨c,y,x,zeros n,zeros n,zeros n,zeros n⟩
def setM (t:TTr) (c:Y8) (y x:Int):TTr×Int :=
 if ¬ TOk t then (zT,1) else if ¬ good c=true then (zT,5) else if ¬ ((0<=y/\y<=99)/\-1000000000000000<=x/\x<=1000000000000000) then (zT,2) else
  if hasP t.E c y=true then (putP t c y (withT (potAt t c y) x),0) else if t.E.length=60 then (zT,3)
  else (⟨t.P,insL t.E (posP t.E (newP t.P c y x)) (newP t.P c y x)⟩,0)
variable {z:TPo}
theorem insL_at {l:List TPo} {p:Nat} (hp:p<=l.length):(insL l p z).getD p dF=z:=by
 rw[z1s hp,y5 (y53 p),y6 rfl]
theorem zs2 {l:List TPo} {p:Nat} (hp:p<=l.length):(insL l p z).set p r=insL l p r:=by
 refine y33 (by simp[zq]) fun i h1 h2=>?_
 have hi:i<l.length+1:=by rw[zq] at h2; exact h2
 rw[y4k]
 by_cases e:p=i
 ·subst e; rw[y6 rfl,<- z16 h2,insL_at hp]
 ·rw[y5 e,<- z16 h2,<- z16 (by rw[zq]; omega),z1s hp,z1s hp]
  split
  ·rfl
  ·rw[y5 fun h=>e h.symm,y5 fun h=>e h.symm]
theorem TOk.srt (h:TOk t):Srt t.E:=fun i hi=>by
 rcases y3v i with h0 | h0
 ·exact .inl h0
 ·exact .inr ((h.2.2 i hi).2 h0)
theorem TOk.good (h:TOk t):∀ p∈t.E,PGood p:=fun p hp=>by
 obtain⟨i,hi,rfl⟩:=z11 hp
 exact⟨(h.2.2 i hi).1.1,trivial⟩
theorem Set_eq (hs:Small t) (hc:c.length<=1000000) (y x:Int):F_q4g t c y x=some (setM t c y x):=by
 simp only[F_q4g,S_q4g,Scr.den,Valid_eq hs,z3c (l:=c) om,zjk hc,z13,obind,z8]
 unfold setM
 by_cases h1:TOk t
 ·rw[y5 (show ¬ (!decide (TOk t))=true by rw[y9 h1]; simp),y5 (show ¬ ¬ TOk t from fun h=>h h1)]
  have hg:=z3b c
  by_cases h2:good c=true
  ·rw[h2,y7] at hg
   rw[y5 (show ¬ (((parts c).length:Int)==0)=true by simp only[y12]; omega),y5 (show ¬ ¬ good c=true from fun h=>h h2)]
   by_cases h3:0<=y/\y<=99
   ·rw[h2,y9 h3,zg (by exact⟨rfl,trivial⟩)]
    simp only[obind]
    by_cases h4:-1000000000000000<=x/\x<=1000000000000000
    ·rw[y5 (by rw[y9 h4]; simp),y5 (show ¬ ¬ ((0<=y/\y<=99)/\-1000000000000000<=x/\x<=1000000000000000) from fun h=>h ⟨h3,h4⟩)]
     have l0:=h1.2.1
     have e0:=h1.1
     have hr:PGood (⟨c,y,0,[],[],[],[]⟩:TPo):=⟨h2,trivial⟩
     obtain⟨k1,k2⟩:=zfm h1.srt h1.good hr
     have hp:=posP_le t.E (⟨c,y,0,[],[],[],[]⟩:TPo)
     rw[zn7 h1.small]
     simp only[obind,z9s (show t.E.length<=1000000 from om) h1.srt h1.good hr,k1,yb,yl]
     by_cases h5:hasP t.E c y=true
     ·have hlt:=(pix_lt h5).1
      have e:=k2 h5
      rw[y5 (show ¬ (!hasP t.E c y)=true by rw[h5]; simp),y6 (show hasP t.E c y=true from h5)]
      simp only[outM]
      rw[<- e,z6 (by simp only[AllP,y16]; exact⟨om,hlt,hlt⟩),Gf]
      rfl
     ·rw[y6 (show (!hasP t.E c y)=true by simpa using h5),y5 (show ¬ hasP t.E c y=true from h5)]
      by_cases h6:t.E.length=60
      ·rw[y6 (show ((t.E.length:Int)==60)=true from sk),y6 h6]
       rfl
      ·rw[y5 (show ¬ ((t.E.length:Int)==60)=true from sk),y5 h6]
       have hz:PSmall (newP t.P c y 0):=by
        have:(zeros t.P).length<=1000000:=by simp[zeros]; omega
        exact⟨this,this,this,this⟩
       rw[Ge,z6 (by simp only[AllP,y16,y1o]; omega)]
       show outM ((F_q3i (newP t.P c y 0)).bind _) _ _=_
       rw[z2a hz]
       simp only[obind,F_q7t,yb]
       rw[z6 ⟨om,hp,om⟩]
       simp only[obind,outM]
       rw[z6 (by simp only[AllP,y16,zq]; omega),z6 (by simp only[AllP,y16,yh,zq]; omega),insL_at hp,zs2 hp]
       rfl
    ·rw[y6 (by rw[ya h4]; simp),y6 (show ¬ ((0<=y/\y<=99)/\-1000000000000000<=x/\x<=1000000000000000) from fun h=>h4 h.2)]
   ·rw[h2,ya h3,Gh]
    simp only[obind]
    rw[y6 (by rfl),y6 (show ¬ ((0<=y/\y<=99)/\-1000000000000000<=x/\x<=1000000000000000) from fun h=>h3 h.1)]
  ·rw[y57] at h2
   rw[h2,yf] at hg
   rw[y6 (show (((parts c).length:Int)==0)=true by simp only[y12]; omega),y6 (show ¬ good c=true by simp[h2])]
 ·rw[y6 (show (!decide (TOk t))=true by rw[ya h1]; simp),y6 (show ¬ TOk t from h1)]
theorem zvo (c y y':Int):((decide (c>0)||(c==0&&decide (y>y')))=true)↔¬ (c<0\/(c=0/\y<=y')):=by
 simp only[yc,yg,y7,y12]; omega
theorem zpw (h1:TOk t) (hc:good c=true) (hn:¬ hasP t.E c y=true) :
  iterM (fun s=>(S_q1i_b1 c y (t.P,t.E) s).den) 0=some (.next (posP t.E (newP t.P c y x):Int)):=by
 have hl:=h1.2.1
 have hp:=posP_le t.E (newP t.P c y x)
 obtain⟨s,e,hJ⟩:=z1n (step:=fun s=>(S_q1i_b1 c y (t.P,t.E) s).den) (fun s=>(61-s).toNat) (fun s=>0<=s/\s<=(posP t.E (newP t.P c y x):Int)) (fun s=>s=(posP t.E (newP t.P c y x):Int)) (fun s hI=>by
  obtain⟨i,rfl⟩:=Int.eq_ofNat_of_zero_le hI.1
  have hi:i<=posP t.E (newP t.P c y x):=om
  simp only[S_q1i_b1,Scr.den,yb,yl,z8,za]
  by_cases h:i<t.E.length
  ·have hg:=(h1.good _ (z7 h)).1
   rw[y6 sk,z45 hg hc,obind,z6 ⟨om,h,h,trivial⟩,z6 ⟨fun _=>om,fun _=>h,fun _=>h,trivial⟩]
   have hcm:cmpP (t.E.getD i dF) (newP t.P c y x)<0↔lexC (parts (t.E.getD i dF).B) (parts c)<0\/(lexC (parts (t.E.getD i dF).B) (parts c)=0/\(t.E.getD i dF).D<y):=zc2 (a:=t.E.getD i dF) (b:=newP t.P c y x) (.inl hg)
   have hne:¬ (lexC (parts (t.E.getD i dF).B) (parts c)=0/\(t.E.getD i dF).D=y):=fun k =>
    hn (has_iff.2 ⟨_,z7 h,z7y hg hc (z30 k.1),k.2⟩)
   by_cases hip:i<posP t.E (newP t.P c y x)
   ·left
    have hlt:=hcm.1 (zc3 hip)
    rw[y5 fun k=>(zvo _ _ _).1 k (hlt.imp id fun k=>⟨k.1,Int.le_of_lt k.2⟩),wrapId om om]
    exact⟨_,rfl,⟨om,om⟩,om⟩
   ·right
    have hge:¬ cmpP (t.E.getD i dF) (newP t.P c y x)<0:=by
     have:i=posP t.E (newP t.P c y x):=om
     subst this; exact y2v.2 (zc4 h)
    rw[y6 ((zvo _ _ _).2 fun k=>hge (hcm.2 (k.imp id fun k=>⟨k.1,Int.lt_iff_le_and_ne.2 ⟨k.2,fun e=>hne ⟨k.1,e⟩⟩⟩)))]
    exact⟨_,rfl,om⟩
  ·right
   rw[y5 (by simpa using h)]
   exact⟨_,rfl,om⟩) _ 0 (y2u _) ⟨om,om⟩
 rw[e,hJ]
theorem r13_Set_eq (hs:Small t) (hc:c.length<=1000000) (y x:Int):F_q1i t c y x=some (setM t c y x):=by
 simp only[F_q1i,S_q1i,Scr.den,r13_Valid_eq hs,z2w (l:=c) om,at_eq,obind,z8]
 unfold setM
 by_cases h1:TOk t
 ·rw[y5 (show ¬ (!decide (TOk t))=true by rw[y9 h1]; simp),y5 (show ¬ ¬ TOk t from fun h=>h h1)]
  by_cases h2:good c=true
  ·rw[y5 (show ¬ (!good c)=true by rw[h2]; simp),y5 (show ¬ ¬ good c=true from fun h=>h h2)]
   by_cases h3:(0<=y/\y<=99)/\-1000000000000000<=x/\x<=1000000000000000
   ·have hb:(decide (y<0)||decide (y>99)||decide (x < -1000000000000000)||decide (x>1000000000000000))=false:=by
     simp only[y37,yf]; omega
    rw[y5 (by rw[hb]; simp),y5 (show ¬ ¬ ((0<=y/\y<=99)/\-1000000000000000<=x/\x<=1000000000000000) from fun h=>h h3),zeg h1.small]
    simp only[obind]
    have l0:=h1.2.1
    have e0:=h1.1
    by_cases h5:hasP t.E c y=true
    ·have hlt:=(pix_lt h5).1
     simp only[h5,y17,yb,yl]
     rw[y6 (y9 (y1z _)),z6 (by simp only[AllP,y16]; exact⟨om,hlt,hlt⟩),Gf]
     rfl
    ·simp only[h5,yx,yo]
     rw[y5 dk]
     by_cases h6:t.E.length=60
     ·rw[y6 (show ((t.E.length:Int)==60)=true from sk),y6 h6]
     ·rw[y5 (show ¬ ((t.E.length:Int)==60)=true from sk),y5 h6,Ge,zpw (x:=x) h1 h2 h5]
      have hp:=posP_le t.E (newP t.P c y x)
      simp only[outM,yb]
      have hw:i64.wrap ((posP t.E (newP t.P c y x):Int)+1)=((posP t.E (newP t.P c y x)+1:Nat):Int):=by rw[wrapId om om]; rfl
      rw[hw]
      simp only[yb]
      rw[Ge,z6 (by simp only[AllP,y16,yp,y1t]; omega),z6 (by simp only[AllP,y16,zp,yp,y1t]; omega),
       z6 (by simp only[AllP,y16,yh,zp,yp,y1t]; omega)]
      show some ((⟨t.P,(copyL (t.E++[_]) _ _ _).set _ (newP t.P c y x)⟩:TTr),(0:Int))=_
      rw[zdi t.E _ hp _ (newP t.P c y x)]
   ·have hb:(decide (y<0)||decide (y>99)||decide (x < -1000000000000000)||decide (x>1000000000000000))=true:=by
     simp only[yc,y7]; omega
    rw[y6 hb,y6 (show ¬ ((0<=y/\y<=99)/\-1000000000000000<=x/\x<=1000000000000000) from h3)]
  ·rw[y6 (show (!good c)=true by simpa using h2),y6 (show ¬ good c=true from h2)]
 ·rw[y6 (show (!decide (TOk t))=true by rw[ya h1]; simp),y6 (show ¬ TOk t from h1)]
theorem zgs {l:List TPo} {x:TPo} (hj:j<l.length):(l.set i x).getD j dF=if j=i then x else l.getD j dF:=by
 rw[y8,y4x]
 by_cases h:i=j
 ·subst h; simp[hj]
 ·rw[y5 h,y5 fun e=>h e.symm,y8]
theorem zpx {a a' b':TPo} (h1:a.B=a'.B) (h2:a.D=a'.D) (h3:b.B=b'.B) (h4:b.D=b'.D):cmpP a b=cmpP a' b':=by
 simp only[cmpP,h1,h2,h3,h4]
theorem z6g (h:TOk t) (hp:hasP t.E c y=true) (hk:PotOk t.P p) (hc:p.B=c) (hy:p.D=y):TOk (putP t c y p):=by
 obtain⟨k1,k2,k3⟩:=pix_lt hp
 refine⟨h.1,by simpa [putP] using h.2.1,fun i hi=>?_⟩
 have hi':i<t.E.length:=by simpa [putP] using hi
 have same:∀ j,j<t.E.length->((t.E.set (pix t.E c y) p).getD j dF).B=(t.E.getD j dF).B/\((t.E.set (pix t.E c y) p).getD j dF).D=(t.E.getD j dF).D:=fun j hj=>by
  rw[zgs hj]
  by_cases e:j=pix t.E c y
  ·subst e; rw[y6 rfl]; exact⟨hc.trans k2.symm,hy.trans k3.symm⟩
  ·rw[y5 e]; exact⟨rfl,rfl⟩
 constructor
 ·show PotOk t.P ((t.E.set (pix t.E c y) p).getD i dF)
  rw[zgs hi']
  split
  ·exact hk
  ·exact (h.2.2 i hi').1
 ·intro h0
  show cmpP ((t.E.set (pix t.E c y) p).getD (i-1) dF) ((t.E.set (pix t.E c y) p).getD i dF)<0
  rw[zpx (same (i-1) om).1 (same (i-1) om).2 (same i hi').1 (same i hi').2]
  exact (h.2.2 i hi').2 h0
theorem potAt_cy (hp:hasP t.E c y=true):(potAt t c y).B=c/\(potAt t c y).D=y:=(pix_lt hp).2
theorem zs3:tot 0:=⟨om,om⟩
theorem zpy (h:0<=n):rowOk n (zeros n):=⟨by simp[zeros]; omega,fun x hx=>by rw[List.eq_of_mem_replicate hx]; exact zs3⟩
theorem zft (h:rowOk n l) {k:Int} (hx:tot x):rowOk n (upd l k x) :=
 ⟨by rw[upd_length]; exact h.1,fun z hz=>by
  rcases y20 hz with h1 | h1
  ·exact h.2 z h1
  ·subst h1; exact hx⟩
theorem upd_get {k:Int} (hj:j<l.length):(upd l k x).getD j dF=if j=(k-1).toNat then x else l.getD j dF:=getD_set_int hj
theorem ask_ok {k:Int} (h:(askM t k c y x).2=0):TOk t/\TOk (askM t k c y x).1:=by
 unfold askM at h |-
 by_cases h1:TOk t
 ·simp only[show ¬ ¬ TOk t from fun h=>h h1,yx] at h |-
  by_cases h2:hasP t.E c y=true
  ·simp only[show ¬ ¬ hasP t.E c y=true from fun h=>h h2,yx] at h |-
   by_cases h3:1<=k/\k<=t.P
   ·simp only[show ¬ ¬ (1<=k/\k<=t.P) from fun h=>h h3,yx] at h |-
    by_cases h4:1<=x/\x<=1000000000000000
    ·simp only[show ¬ ¬ (1<=x/\x<=1000000000000000) from fun h=>h h4,yx] at h |-
     by_cases h5:nth (potAt t c y).A k<nth (potAt t c y).F k+x
     ·rw[y6 h5] at h; cases h
     ·rw[y5 h5]
      have hp:=h1.potAt h2
      have hcy:=potAt_cy h2
      obtain⟨g1,g2,g3,⟨r1,r2,r3,r4⟩,⟨o1,o2⟩,g6⟩:=hp
      have a1:=nth_tot r3 h3
      have a2:=nth_tot r1 h3
      unfold tot at a1 a2
      refine⟨h1,z6g h1 h2 (p:=withA (potAt t c y) (upd (potAt t c y).F k (nth (potAt t c y).F k+x))) ⟨g1,g2,g3,⟨r1,r2,zft r3 ⟨om,om⟩,r4⟩,⟨o1,fun i hi=>?_⟩,g6⟩ hcy.1 hcy.2⟩
      have hi':i<(potAt t c y).F.length:=by have:=r1.1; have:=r3.1; have:i<(potAt t c y).A.length:=hi; omega
      show (upd (potAt t c y).F k (nth (potAt t c y).F k+x)).getD i dF<=(potAt t c y).A.getD i dF
      rw[upd_get hi']
      split
      ·rename_i e
       subst e
       exact y2v.1 h5
      ·exact o2 i hi
    ·simp only[h4,yk,y17] at h; cases h
   ·simp only[h3,yk,y17] at h; cases h
  ·simp only[h2,yk,y17,yo] at h; cases h
 ·simp only[h1,yk,y17] at h; cases h
theorem hear_ok {m:TMe} (h:(hearM t m).2=0):TOk t/\TOk (hearM t m).1:=by
 unfold hearM at h |-
 by_cases h0:m.To=0
 ·simp only[show ¬ m.To≠0 from fun h=>h h0,yx] at h |-
  by_cases h1:TOk t
  ·simp only[show ¬ ¬ TOk t from fun h=>h h1,yx] at h |-
   by_cases h2:hasP t.E m.B m.D=true
   ·simp only[show ¬ ¬ hasP t.E m.B m.D=true from fun h=>h h2,yx] at h |-
    by_cases h3:1<=m.Aa/\m.Aa<=t.P
    ·simp only[show ¬ ¬ (1<=m.Aa/\m.Aa<=t.P) from fun h=>h h3,yx] at h |-
     by_cases h4:(0<=m.Q/\m.Q<=nth (potAt t m.B m.D).A m.Aa)/\tot m.M
     ·simp only[show ¬ ¬ ((0<=m.Q/\m.Q<=nth (potAt t m.B m.D).A m.Aa)/\tot m.M) from fun h=>h h4,yx] at h |-
      have hp:=h1.potAt h2
      have hcy:=potAt_cy h2
      obtain⟨g1,g2,g3,⟨r1,r2,r3,r4⟩,⟨o1,o2⟩,g6⟩:=hp
      have a1:=nth_tot r2 h3
      have a2:=nth_tot r1 h3
      have l1:=r1.1
      have l2:=r2.1
      unfold tot at a1 a2
      have hle:nth (potAt t m.B m.D).G m.Aa<=nth (potAt t m.B m.D).A m.Aa:=o1 _ om
      refine⟨h1,z6g h1 h2 (p:=withH (potAt t m.B m.D) (upd (potAt t m.B m.D).G m.Aa (max (nth (potAt t m.B m.D).G m.Aa) m.Q)) (upd (potAt t m.B m.D).M m.Aa m.M))
       ⟨g1,g2,g3,⟨r1,zft r2 ⟨om,om⟩,r3,zft r4 h4.2⟩,⟨fun i hi=>?_,o2⟩,g6⟩ hcy.1 hcy.2⟩
      have hi':i<(potAt t m.B m.D).G.length:=by have:i<(potAt t m.B m.D).A.length:=hi; omega
      show (upd (potAt t m.B m.D).G m.Aa _).getD i dF<=(potAt t m.B m.D).A.getD i dF
      rw[upd_get hi']
      split
      ·rename_i e
       subst e
       show max (nth (potAt t m.B m.D).G m.Aa) m.Q<=nth (potAt t m.B m.D).A m.Aa
       omega
      ·exact o1 i hi
     ·simp only[h4,yk,y17] at h; cases h
    ·simp only[h3,yk,y17] at h; cases h
   ·simp only[h2,yk,y17,yo] at h; cases h
  ·simp only[h1,yk,y17] at h; cases h
 ·rw[y6 (show m.To≠0 from h0)] at h; cases h
theorem ins_ok (h:TOk t) (hr:PotOk t.P r) (hn:¬ hasP t.E r.B r.D=true) (hl:t.E.length≠60):TOk ⟨t.P,insL t.E (posP t.E r) r⟩:=by
 have hp:=posP_le t.E r
 have l0:=h.2.1
 refine⟨h.1,by show (insL t.E (posP t.E r) r).length<=60; rw[zq]; omega,fun i hi=>?_⟩
 have hi':i<t.E.length+1:=by have:i<(insL t.E (posP t.E r) r).length:=hi; rwa [zq] at this
 show PotOk t.P ((insL t.E (posP t.E r) r).getD i dF)/\(0<i->cmpP ((insL t.E (posP t.E r) r).getD (i-1) dF) ((insL t.E (posP t.E r) r).getD i dF)<0)
 rw[z1s hp,z1s hp]
 by_cases c1:i<posP t.E r
 ·rw[y6 c1,y6 (show i-1<posP t.E r from om)]
  exact h.2.2 i om
 ·by_cases c2:i=posP t.E r
  ·rw[y5 c1,y6 c2]
   refine⟨hr,fun h0=>?_⟩
   rw[y6 (show i-1<posP t.E r from om)]
   exact zc3 om
  ·rw[y5 c1,y5 c2]
   have hi2:i-1<t.E.length:=om
   refine⟨(h.2.2 (i-1) hi2).1,fun h0=>?_⟩
   by_cases c3:i-1=posP t.E r
   ·rw[y5 (show ¬ i-1<posP t.E r from om),y6 c3]
    have hg:=(h.good _ (z7 hi2)).1
    have h1:0<=cmpP (t.E.getD (i-1) dF) r:=by rw[c3]; exact zc4 om
    have h2:cmpP (t.E.getD (i-1) dF) r≠0:=fun e=>hn (has_iff.2 ⟨_,z7 hi2,(cmpP_eq hg hr.1).1 e⟩)
    rw[zpv hg]
    omega
   ·rw[y5 (show ¬ i-1<posP t.E r from om),y5 c3]
    exact (h.2.2 (i-1) hi2).2 om
theorem zu8 (hn:1<=n) (hc:good c=true) (hy:0<=y/\y<=99) (hx:-1000000000000000<=x/\x<=1000000000000000):PotOk n (newP n c y x):=by
 have hz:=zpy (n:=n) om
 refine⟨hc,hy,hx,⟨hz,hz,hz,hz⟩,⟨fun i _=>y18 _,fun i _=>y18 _⟩,?_⟩
 have:=z4u (l:=zeros n) hz.2
 have e:(zeros n).sum=0:=by simp[zeros]
 show (zeros n).sum<=_
 omega
theorem set_ok (h:(setM t c y x).2=0):TOk t/\TOk (setM t c y x).1:=by
 unfold setM at h |-
 by_cases h1:TOk t
 ·simp only[show ¬ ¬ TOk t from fun h=>h h1,yx] at h |-
  by_cases h2:good c=true
  ·simp only[show ¬ ¬ good c=true from fun h=>h h2,yx] at h |-
   by_cases h3:(0<=y/\y<=99)/\-1000000000000000<=x/\x<=1000000000000000
   ·simp only[show ¬ ¬ ((0<=y/\y<=99)/\-1000000000000000<=x/\x<=1000000000000000) from fun h=>h h3,yx] at h |-
    by_cases h5:hasP t.E c y=true
    ·rw[y6 h5]
     have hcy:=potAt_cy h5
     obtain⟨g1,g2,g3,g4,g5,g6⟩:=h1.potAt h5
     exact⟨h1,z6g h1 h5 (p:=withT (potAt t c y) x) ⟨g1,g2,h3.2,g4,g5,g6⟩ hcy.1 hcy.2⟩
    ·rw[y5 h5] at h |-
     by_cases h6:t.E.length=60
     ·rw[y6 h6] at h; cases h
     ·rw[y5 h6]
      exact⟨h1,ins_ok h1 (zu8 h1.1.1 h2 h3.1 h3.2) h5 h6⟩
   ·rw[y6 h3] at h; cases h
  ·rw[y6 (show ¬ good c=true from h2)] at h; cases h
 ·rw[y6 h1] at h; cases h
theorem zs4 (hl:a.length=G.length):(addN G a a.length).sum=G.sum+a.sum:=by
 have e:addN G a a.length=List.zipWith (· + ·) G a:=z9z (by simp[addN_length]; omega) fun j hj=>by
  have hj':j<G.length:=by simpa [addN_length] using hj
  rw[addN_get hj',y6 om,z20 (show j<(List.zipWith (· + ·) G a).length by rw[List.length_zipWith]; omega),List.getElem_zipWith,z20 hj',z20 om]
 rw[e]
 clear e
 induction G generalizing a with
 | nil=>cases a with | nil=>rfl | cons _ _=>simp at hl
 | cons x G ih=>cases a with
  | nil=>simp at hl
  | cons z a =>
   simp only[List.zipWith_cons_cons,y21]
   rw[ih (by simpa using hl)]
   omega
theorem zn8 (h:∀ x∈l,0<=x):∀ x∈l,x<=l.sum:=by
 induction l with
 | nil=>simp
 | cons z l ih =>
  have h0:0<=l.sum:=by
   clear ih
   induction l with
   | nil=>simp
   | cons w l ih2 =>
    have:=h w sj
    have:=ih2 fun x hx=>h x (by rcases y14.1 hx with e | e <;> simp[e])
    simp only[y21]; omega
  intro x hx
  have hz:=h z sj
  simp only[y21]
  rcases y14.1 hx with rfl | hx
  ·omega
  ·have:=ih (fun y hy=>h y (by simp[hy])) x hx
   omega
theorem give_ok (h:PotOk n p) (ha:∀ x∈a,tot x) (hl:a.length=p.A.length) (h0:(giveV p.T p a).1=0) :
  (giveV p.T p a).2=addN p.A a a.length/\PotOk n (withG p (giveV p.T p a).2)/\a.sum<=p.T-outV p:=by
 unfold giveV at h0 |-
 by_cases c1:p.T-outV p<a.sum
 ·rw[y6 c1] at h0; cases h0
 ·rw[y5 c1] at h0 |-
  by_cases c2:1000000000000000<p.A.sum+a.sum
  ·rw[y6 c2] at h0; cases h0
  ·rw[y5 c2]
   obtain⟨g1,g2,g3,⟨r1,r2,r3,r4⟩,⟨o1,o2⟩,g6⟩:=h
   have hs:=zs4 (G:=p.A) hl
   have hge:∀ j,j<p.A.length->p.A.getD j dF<=(addN p.A a a.length).getD j dF/\0<=(addN p.A a a.length).getD j dF:=fun j hj=>by
    have t1:=r1.2 _ (z7 hj)
    have t2:=ha _ (z7 (show j<a.length from om))
    unfold tot at t1 t2
    rw[addN_get hj,y6 om]
    omega
   have hpos:∀ x∈addN p.A a a.length,0<=x:=fun x hx=>by
    obtain⟨j,hj,rfl⟩:=z11 hx
    exact (hge j (by rwa [addN_length] at hj)).2
   refine⟨rfl,⟨g1,g2,g3,⟨⟨by show ((addN p.A a a.length).length:Int)=n; rw[addN_length]; exact r1.1,fun x hx=>⟨hpos x hx,?_⟩⟩,r2,r3,r4⟩,⟨fun i hi=>?_,fun i hi=>?_⟩,?_⟩,om⟩
   ·have:=zn8 hpos x hx
    omega
   ·have hi':i<p.A.length:=by have:i<(addN p.A a a.length).length:=hi; rwa [addN_length] at this
    exact y3e (o1 i hi') (hge i hi').1
   ·have hi':i<p.A.length:=by have:i<(addN p.A a a.length).length:=hi; rwa [addN_length] at this
    exact y3e (o2 i hi') (hge i hi').1
   ·show (addN p.A a a.length).sum<=_
    omega
theorem grant_ok {k:Int} (h:(grantM t k c y x).2=0):TOk t/\TOk (grantM t k c y x).1:=by
 unfold grantM at h |-
 by_cases h1:TOk t
 ·simp only[show ¬ ¬ TOk t from fun h=>h h1,yx] at h |-
  by_cases h2:hasP t.E c y=true
  ·simp only[show ¬ ¬ hasP t.E c y=true from fun h=>h h2,yx] at h |-
   by_cases h3:1<=k/\k<=t.P
   ·simp only[show ¬ ¬ (1<=k/\k<=t.P) from fun h=>h h3,yx] at h |-
    by_cases h4:1<=x/\x<=1000000000000000
    ·simp only[show ¬ ¬ (1<=x/\x<=1000000000000000) from fun h=>h h4,yx] at h |-
     by_cases h5:(giveV (potAt t c y).T (potAt t c y) (oneHot (potAt t c y).A.length (k-1).toNat x)).1=0
     ·rw[y5 (show ¬ _≠_ from fun h=>h h5)]
      have hcy:=potAt_cy h2
      exact⟨h1,z6g h1 h2 (give_ok (h1.potAt h2) (oneHot_tot h4) oneHot_length h5).2.1 hcy.1 hcy.2⟩
     ·rw[y6 h5] at h; exact absurd h h5
    ·simp only[h4,yk,y17] at h; cases h
   ·simp only[h3,yk,y17] at h; cases h
  ·simp only[h2,yk,y17,yo] at h; cases h
 ·simp only[h1,yk,y17] at h; cases h
instance (r:TRi):Decidable (RtOk r):=inferInstanceAs (Decidable (_/\_))
def TapeOk (s:TTape):Prop:=0<=s.at_/\s.l.length<=500/\s.at_<=s.l.length
theorem z1c {s:TTape} (hs:TapeOk s) (h1:1<=n) (hn:n<=4611686018427387904):∃ v s',F_q2 n s=some (v,s')/\TapeOk s'/\0<=v/\v<n:=by
 obtain⟨a1,a2,a3⟩:=hs
 simp only[F_q2,S_q2,Scr.den]
 by_cases hc:s.at_>=(s.l.length:Int)
 ·rw[y6 (by simp[hc])]
  exact⟨0,s,rfl,⟨a1,a2,a3⟩,om,om⟩
 ·rw[y5 sk]
  have e1:i64.wrap (s.at_+1)=s.at_+1:=wrapId om om
  rw[e1,Gc]
  generalize s.l.getD s.at_.toNat dF=x
  have t1:x.tmod n<n:=Int.tmod_lt_of_pos x om
  have t2:-n<x.tmod n:=Int.lt_tmod_of_pos x om
  have e3:i64.wrap (x.tmod n+n)=x.tmod n+n:=wrapId om om
  rw[e3]
  have ht:TapeOk ⟨s.l,s.at_+1⟩:=⟨by simp only; omega,a2,by simp only; omega⟩
  split
  ·rename_i h
   simp only[y7] at h
   exact⟨_,_,rfl,ht,om,om⟩
  ·rename_i h
   simp only[y7] at h
   exact⟨_,_,rfl,ht,om,om⟩
theorem z15 {s:TTape} (hs:TapeOk s) (h0:1<=l.length) (h1:l.length<=100):∃ v s',F_q8 l s=some (v,s')/\TapeOk s'/\v∈l:=by
 simp only[F_q8,S_q8,Scr.den]
 obtain⟨v,s',h3,h4,h5,h6⟩:=z1c (n:=(l.length:Int)) hs om om
 refine⟨_,s',?_,h4,z7 (show v.toNat<l.length from om)⟩
 rw[h3,obind,z6 ⟨by simpa using h5,by simp only; omega,trivial⟩]
def xP (n:Int) (g h a u:List Int):TPo:=⟨[49],12,n,g,h,a,u⟩
def xT (p:TPo):TTr:=⟨2,[p]⟩
def xR (g a r:Int):TRi:=⟨[49],12,g,a,r⟩
theorem a1:setM ⟨2,[]⟩ [49] 12 100=(xT (xP 100 [0,0] [0,0] [0,0] [0,0]),0):=kj
theorem a2:divideM (xT (xP 100 [0,0] [0,0] [0,0] [0,0])) [49] 12 [60,40]=(xT (xP 100 [60,40] [0,0] [0,0] [0,0]),0):=kj
theorem a3:setM (xT (xP 100 [60,40] [0,0] [0,0] [0,0])) [49] 12 90=(xT (xP 90 [60,40] [0,0] [0,0] [0,0]),0):=kj
theorem a4:potM (xT (xP 90 [60,40] [0,0] [0,0] [0,0])) [49] 12=(xP 90 [60,40] [0,0] [0,0] [0,0],true):=kj
theorem a5:askM (xT (xP 90 [60,40] [0,0] [0,0] [0,0])) 1 [49] 12 10=(xT (xP 90 [60,40] [0,0] [10,0] [0,0]),0):=kj
theorem a6:tellM (xT (xP 90 [60,40] [0,0] [10,0] [0,0])) 1 [49] 12=(⟨0,1,[49],12,60,10,0,0⟩,0):=kj
theorem a7:learnS (xR 0 0 0) ⟨0,1,[49],12,60,10,0,0⟩=(xR 60 10 0,0):=kj
theorem a8:wantedS (xR 60 10 0) 20=10:=kj
theorem a9:returnS (xR 60 10 0) 20 10=(xR 60 10 10,0):=kj
theorem xs (p:TPo) (h:p.B=[49]):Small (xT p):=fun q hq=>by
 obtain rfl:q=p:=by simpa [xT] using hq
 rw[h]; simp
theorem zu9 (h:PotOk n p):outV p=p.A.sum-p.G.sum:=by
 have l1:=h.2.2.2.1.1.1
 have l2:=h.2.2.2.1.2.1.1
 unfold outV
 rw[show min p.A.length p.G.length=p.A.length from om,y46,y22 om]
theorem z6t:∀ {a b:List Int},a.length=b.length->leRow a b->a.sum<=b.sum
 | [],[],_,_=>sj
 | x :: a,y :: b,hl,h=>by
  have h0:=h 0 sj
  have:=z6t (a:=a) (b:=b) (by simpa using hl) fun i hi=>by
   have:=h (i+1) sk
   simpa using this
  simp only[y21]
  have e1:(x :: a).getD 0 dF=x:=rfl
  have e2:(y :: b).getD 0 dF=y:=rfl
  rw[e1,e2] at h0
  omega
 | [],_ :: _,hl,_=>by simp at hl
 | _ :: _,[],hl,_=>by simp at hl
theorem z8c (h:PotOk n p):0<=outV p:=by
 rw[zu9 h]
 have l1:=h.2.2.2.1.1.1
 have l2:=h.2.2.2.1.2.1.1
 have:=z6t (a:=p.G) (b:=p.A) om h.2.2.2.2.1.1
 omega
theorem zm1 (hk:k<l.length) (x:Int):(l.set k x).sum=l.sum-l.getD k dF+x:=by
 induction l generalizing k with
 | nil=>simp at hk
 | cons z l ih =>
  cases k with
  | zero=>simp[List.sum_cons]; omega
  | succ k =>
   rw[y3u,y21,ih (by simpa using hk),y21]
   have:(z :: l).getD (k+1) dF=l.getD k dF:=rfl
   rw[this]; omega
theorem zjp (h0:0<l.length) (h1:l.length<=1000000):∃ m:Int,F_q2g l=some m/\m∈l/\∀ x∈l,x<=m:=by
 simp only[F_q2g,S_q2g,Scr.den]
 rw[z6 (by simp only[AllP,y16,yf]; omega),Ge]
 obtain⟨r,e,hJ⟩:=z1n (step:=fun s=>(S_q2g_b1 l s).den) (fun s:Int×Int=>((l.length:Int)-s.2).toNat)
  (fun s=>∃ i:Nat,s.2=i/\1<=i/\i<=l.length/\s.1∈l/\∀ j,j<i->l.getD j dF<=s.1) (fun s=>s.1∈l/\∀ x∈l,x<=s.1) (fun st hI=>by
  obtain⟨m,z⟩:=st
  obtain⟨i,hz,k1,k2,k3,k4⟩:=hI
  simp only at hz k3 k4
  subst hz
  simp only[S_q2g_b1,Scr.den]
  by_cases hc:i<l.length
  ·left
   rw[y6 (show decide ((i:Int)<(l.length:Int))=true from y9 om),yb,yl,Ge,wrapId (n:=(i:Int)+1) om om]
   refine⟨_,rfl,⟨i+1,rfl,om,om,?_,fun j hj=>?_⟩,by show ((l.length:Int)-((i:Int)+1)).toNat<((l.length:Int)-i).toNat; omega⟩
   ·show (if l.getD i dF>m then l.getD i dF else m)∈l
    split
    ·exact z7 hc
    ·exact k3
   ·show l.getD j dF<=(if l.getD i dF>m then l.getD i dF else m)
    by_cases e:j=i
    ·subst e; split <;> omega
    ·have:=k4 j om; split <;> omega
  ·right
   rw[y5 (show ¬ decide ((i:Int)<(l.length:Int))=true by rw[y7]; omega)]
   refine⟨_,rfl,k3,fun x hx=>?_⟩
   obtain⟨j,hj,rfl⟩:=z11 hx
   exact k4 j om) _ (l.getD (0+0) dF,1) (y2u _) ⟨1,rfl,ye _,h0,z7 h0,fun j hj=>by
    obtain rfl:j=0:=om
    exact y18 _⟩
 rw[e]
 exact⟨_,rfl,hJ⟩
variable {m:Int}
theorem zn9 (hm:m∈l) (h1:l.length<=1000000):∃ i:Nat,F_q17 m l=some (i:Int)/\i<l.length/\l.getD i dF=m:=by
 simp only[F_q17,S_q17,Scr.den]
 rw[Ge,z3s l (fun x=>m==x) (fun i=>(i:Int)) (fun i hi=>by
  simp only[S_q17_b1,Scr.den,yl]
  rw[z6 (by simp only[AllP,y16]; exact hi)]
  split <;> rfl)]
 have hany:(l.any fun x=>m==x)=true:=y43.2 ⟨m,hm,sj⟩
 have hlt:l.findIdx (fun x=>m==x)<l.length:=y44 ⟨m,hm,sj⟩
 rw[y6 hany]
 refine⟨_,rfl,hlt,?_⟩
 have:=y3i (w:=hlt)
 simp only[y12] at this
 rw[z20 hlt]
 exact this.symm
def Gr (I:List Int) (R:Int) (idle out:List Int) (rest:Int):Prop :=
 (idle.length=I.length/\out.length=I.length) /\
 (∀ k,k<I.length->(out.getD k dF=0/\idle.getD k dF=I.getD k dF)\/(idle.getD k dF=0/\(0<=out.getD k dF/\out.getD k dF<=I.getD k dF)/\(0<rest->out.getD k dF=I.getD k dF))) /\
 (∀ k,k<I.length->0<out.getD k dF->∀ j,j<I.length->I.getD k dF<I.getD j dF->out.getD j dF=I.getD j dF/\idle.getD j dF=0) /\
 R=rest+out.sum/\(0<=rest\/rest=R)
def PlanOk (I:List Int) (R:Int) (out:List Int):Prop :=
 out.length=I.length/\(∀ k,k<I.length->0<=out.getD k dF/\out.getD k dF<=I.getD k dF)/\out.sum=max 0 (min R I.sum) /\
 ∀ k,k<I.length->0<out.getD k dF->∀ j,j<I.length->I.getD k dF<I.getD j dF->out.getD j dF=I.getD j dF
theorem z59 (h:∀ k,k<l.length->0<=l.getD k dF):0<=l.sum:=by
 have:=z6t (a:=List.replicate l.length (0:Int)) (b:=l) sj fun i hi=>by
  have:=h i hi
  simpa [List.getD_eq_getElem?_getD,hi] using this
 simpa using this
variable {I idle out:List Int} {R rest:Int}
theorem Gr.done (h:Gr I R idle out rest) (hI:∀ k,k<I.length->0<=I.getD k dF) (he:rest<=0\/∀ k,k<I.length->idle.getD k dF<=0):PlanOk I R out:=by
 obtain⟨⟨l1,l2⟩,h1,h2,h3,h4⟩:=h
 have hb:∀ k,k<I.length->0<=out.getD k dF/\out.getD k dF<=I.getD k dF:=fun k hk=>by
  rcases h1 k hk with ⟨a,b⟩ | ⟨a,b,c⟩
  ·have:=hI k hk; omega
  ·exact b
 have hI0:=z59 hI
 have ho0:=z59 (l:=out) fun k hk=>(hb k om).1
 have hle:=z6t (a:=out) (b:=I) l2 fun k hk=>(hb k hk).2
 refine⟨l2,hb,?_,fun k hk hp j hj hlt=>(h2 k hk hp j hj hlt).1⟩
 by_cases hr:rest<=0
 ·rcases h4 with h4 | h4 <;> omega
 ·have hid:∀ k,k<I.length->idle.getD k dF<=0:=by
   rcases he with he | he
   ·exact absurd he hr
   ·exact he
  have:out=I:=z9z l2 fun k hk=>by
   have hk':k<I.length:=om
   rcases h1 k hk' with ⟨a,b⟩ | ⟨a,b,c⟩
   ·have:=hid k hk'; have:=hI k hk'; omega
   ·exact c om
  rw[this] at h3 |-
  omega
theorem Gr.step (h:Gr I R idle out rest) (hI:∀ k,k<I.length->0<=I.getD k dF) (hr:0<rest) (hi:i<I.length) (hm:idle.getD i dF=m) (h0:0<m) (hmax:∀ k,k<I.length->idle.getD k dF<=m):Gr I R (idle.set i 0) (out.set i (min m rest)) (rest-min m rest):=by
 obtain⟨⟨l1,l2⟩,h1,h2,h3,h4⟩:=h
 have hii:out.getD i dF=0/\idle.getD i dF=I.getD i dF:=by
  rcases h1 i hi with h | ⟨a,_⟩
  ·exact h
  ·omega
 have gi:∀ k,k<I.length->(idle.set i 0).getD k dF=if k=i then 0 else idle.getD k dF:=fun k hk=>getD_set_int om
 have go:∀ k,k<I.length->(out.set i (min m rest)).getD k dF=if k=i then min m rest else out.getD k dF:=fun k hk=>getD_set_int om
 refine⟨⟨by simpa using l1,by simpa using l2⟩,fun k hk=>?_,fun k hk hp j hj hlt=>?_,?_,?_⟩
 ·rw[gi k hk,go k hk]
  by_cases e:k=i
  ·subst e
   rw[y6 rfl,y6 rfl]
   exact .inr ⟨rfl,om,fun _=>om⟩
  ·rw[y5 e,y5 e]
   rcases h1 k hk with h | ⟨a,b,c⟩
   ·exact .inl h
   ·exact .inr ⟨a,b,fun _=>c hr⟩
 ·rw[go k hk] at hp
  rw[go j hj,gi j hj]
  by_cases e:k=i
  ·subst e
   by_cases e2:j=k
   ·subst e2; omega
   ·rw[y5 e2,y5 e2]
    have:=hmax j hj
    rcases h1 j hj with ⟨a,b⟩ | ⟨a,b,c⟩
    ·omega
    ·exact⟨c hr,a⟩
  ·rw[y5 e] at hp
   have:=h2 k hk hp j hj hlt
   by_cases e2:j=i
   ·subst e2; omega
   ·rw[y5 e2,y5 e2]; exact this
 ·rw[zm1 om]; omega
 ·left; omega
theorem zua (n:Int):F_q5e n=some (!decide (tot n)):=by
 simp only[F_q5e,S_q5e,Scr.den,z8]
 congr 1
 by_cases h:tot n
 ·have h':=h
  unfold tot at h'
  rw[y9 h,ya om,ya om]
  rfl
 ·rw[ya h]
  unfold tot at h
  simp only[y4f,yc,y7]
  omega
theorem zna (l:List Int):F_q5f l=some (!rowT l):=by
 have h:F_q2x l=some (if rowT l=true then -1 else ((l.findIdx fun x=>!decide (tot x):Nat):Int)):=by
  simp only[F_q2x,S_q2x,Scr.den]
  rw[z3s l (fun x=>!decide (tot x)) (fun i=>(i:Int)) (fun i hi=>by
   simp only[S_q2x_b1,Scr.den,zua,obind]
   split <;> rfl)]
  have e:(l.any fun x=>!decide (tot x))=!rowT l:=by rw[rowT,List.all_eq_not_any_not,Bool.not_not]
  rw[e]
  cases rowT l <;> rfl
 simp only[F_q5f,S_q5f,Scr.den,h,obind]
 congr 1
 cases rowT l with
 | true=>rfl
 | false=>simp
theorem zm2 (hp:PotOk n p):F_q2f p=some true:=by
 obtain⟨_,_,ht,⟨r1,r2,r3,r4⟩,_⟩:=hp
 have l1:=r1.1; have l2:=r2.1; have l3:=r3.1; have l4:=r4.1
 have one:∀ i (l:List Int),([p.A,p.G,p.F,p.M]:List (List Int)).getD i dF=l->rowOk n l->(S_q2f_b1 p i ()).den=some (.cont ()):=fun i l hl hr=>by
  have hlen:=hr.1
  simp only[S_q2f_b1,Scr.den,hl,z8,zna]
  have e:((l.length:Int) != (p.A.length:Int))=false:=sk
  rw[e,Gg]
  simp only[obind,z5t.2 hr.2]
  rfl
 simp only[F_q2f,S_q2f,Scr.den,za]
 rw[show (4:Nat)=0+1+1+1+1 from rfl]
 simp only[rangeM,one 0 p.A rfl r1,one (0+1) p.G rfl r2,one (0+1+1) p.F rfl r3,one (0+1+1+1) p.M rfl r4,outM]
 congr 1
 simp only[yg,y7]
 omega
def unusedV (p:TPo) (k:Nat):Int:=max (p.A.getD k dF-p.G.getD k dF-p.M.getD k dF) 0
def openV (p:TPo) (k:Nat):Int:=max (min (unusedV p k) (p.F.getD k dF-p.G.getD k dF)) 0
def idleV (p:TPo) (k:Nat):Int:=unusedV p k-openV p k
theorem max18 (x:Int):(if 0>x then 0 else x)=max x 0:=by split <;> omega
theorem max18' (x:Int):(if x>0 then x else 0)=max x 0:=by split <;> omega
theorem zei (x y:Int):(if x<y then x else y)=min y x:=by split <;> omega
theorem at18 (hp:PotOk n p) (hk:k<p.A.length) :
  (tot (p.A.getD k dF)/\tot (p.G.getD k dF)/\tot (p.F.getD k dF)/\tot (p.M.getD k dF))/\(k<p.G.length/\k<p.F.length/\k<p.M.length):=by
 obtain⟨_,_,ht,⟨r1,r2,r3,r4⟩,_⟩:=hp
 have l1:=r1.1; have l2:=r2.1; have l3:=r3.1; have l4:=r4.1
 exact⟨⟨r1.2 _ (z7 hk),r2.2 _ (z7 om),r3.2 _ (z7 om),r4.2 _ (z7 om)⟩,om,om,om⟩
theorem z8t (hp:PotOk n p) (hk:k<p.A.length):(0<=openV p k/\openV p k<=1000000000000000)/\(0<=idleV p k/\idleV p k<=1000000000000000):=by
 obtain⟨⟨a,b,c,d⟩,_⟩:=at18 hp hk
 unfold tot at a b c d
 unfold idleV openV unusedV
 omega
theorem zpz (hp:PotOk n p) (hk:k<p.A.length):F_q5g p (k:Int)=some (openV p k,idleV p k):=by
 obtain⟨⟨a,b,c,d⟩,q1,q2,q3⟩:=at18 hp hk
 simp only[F_q5g,S_q5g,Scr.den,yb]
 rw[Ge,Ge]
 unfold idleV openV unusedV
 generalize p.A.getD k dF=g at *
 generalize p.G.getD k dF=h at *
 generalize p.F.getD k dF=s at *
 generalize p.M.getD k dF=u at *
 unfold tot at a b c d
 rw[wrapId (n:=g-h) om om,wrapId (n:=s-h) om om,wrapId (n:=g-h-u) om om]
 simp only[max18,zei]
 rw[wrapId (n:=max (g-h-u) 0-max (min (max (g-h-u) 0) (s-h)) 0) om om]
def idles (p:TPo) (n:Nat):List Int:=(List.range n).map (idleV p)
def opens (p:TPo) (n:Nat):List Int:=(List.range n).map (openV p)
theorem z6u {n:Nat}:idles p (n+1)=idles p n++[idleV p n]:=by simp[idles,List.range_succ]
theorem z6v {n:Nat}:opens p (n+1)=opens p n++[openV p n]:=by simp[opens,List.range_succ]
theorem idles_length {n:Nat}:(idles p n).length=n:=by simp[idles]
theorem idles_at {n:Nat} (hk:k<n):(idles p n).getD k dF=idleV p k:=by simp[idles,List.getD_eq_getElem?_getD,hk]
theorem z5u {n:Int} {p:TPo} (hp:PotOk n p):∀ {i:Nat},i<=p.A.length->0<=(opens p i).sum/\(opens p i).sum<=i * 1000000000000000/\0<=(idles p i).sum/\(idles p i).sum<=i * 1000000000000000
 | 0,_=>by simp[opens,idles]
 | i+1,hi=>by
  have:=z5u hp (i:=i) om
  have:=z8t hp (k:=i) om
  rw[z6v,z6u,y3j,y3j]
  simp only[y21,y4u]
  omega
def shortV (p:TPo):Int:=max (outV p-p.T) 0
theorem zgt (hp:PotOk n p) (hn:n<=6):∃ out,F_q6 p=some out/\PlanOk (idles p p.A.length) (shortV p-(opens p p.A.length).sum) out:=by
 have hb:=z4v hp hn
 have ho:=z8c hp
 have ht:=hp.2.2.1
 have l1:=hp.2.2.2.1.1.1
 have hop:=z5u hp (ye _)
 have hs0:0<=shortV p/\shortV p<=7000000000000000:=by unfold shortV; omega
 simp only[F_q6,S_q6,Scr.den,zm2 hp,obind,Shortfall_eq]
 rw[y5 dk,Ge,show max (i64.wrap (outV p-p.T)) 0=shortV p by rw[wrapId (n:=outV p-p.T) om om]; rfl]
 obtain⟨r,e,h1⟩:=zr (body:=fun i s=>(S_q6_b1 p i s).den) (n:=p.A.length) (fun i s=>s=(idles p i,shortV p-(opens p i).sum)) (s0:=(([]:List Int),shortV p)) (by simp[idles,opens]) (fun i s hi hI=>by
  subst hI
  have hbb:=z5u hp (i:=i) om
  have hb2:=z8t hp hi
  simp only[S_q6_b1,Scr.den,zpz hp hi,obind,idles_length]
  rw[Ge,wrapId (n:=shortV p-(opens p i).sum-openV p i) om om]
  refine⟨_,rfl,?_⟩
  rw[z6u,z6v,y3j]
  simp only[y21,y4u]
  exact Prod.ext rfl (by show _-_-_=_-(_+(_+0)); omega))
 subst h1
 rw[e]
 simp only[outM,idles_length]
 have hI:∀ k,k<(idles p p.A.length).length->0<=(idles p p.A.length).getD k dF/\(idles p p.A.length).getD k dF<=1000000000000000:=fun k hk=>by
  rw[idles_length] at hk
  rw[idles_at hk]
  exact (z8t hp hk).2
 generalize hR:shortV p-(opens p p.A.length).sum=R
 generalize hii:idles p p.A.length=I at hI
 have hlI:I.length=p.A.length:=by rw[<- hii,idles_length]
 rw[Ge,yb]
 obtain⟨r,e2,hJ⟩:=z1n (step:=fun s=>(S_q6_b2 p s).den) (fun s:List Int×List Int×Int=>s.1.sum.toNat) (fun s=>Gr I R s.1 s.2.1 s.2.2) (fun s=>PlanOk I R s.2.1) (fun st hG=>by
  obtain⟨idle,out,rest⟩:=st
  simp only at hG
  have hG':=hG
  obtain⟨⟨k1,k2⟩,k3,k4,k5,k6⟩:=hG'
  have hid:∀ k,k<idle.length->0<=idle.getD k dF/\idle.getD k dF<=1000000000000000:=fun k hk=>by
   have:=hI k om
   rcases k3 k om with h | h <;> omega
  simp only[S_q6_b2,Scr.den,za]
  by_cases hc:0<rest/\0<idle.length
  ·rw[y6 (by simp only[yg,y7]; omega)]
   obtain⟨m,e3,hm,hmax⟩:=zjp hc.2 om
   rw[e3]
   simp only[obind]
   by_cases h0:m=0
   ·right
    rw[y6 (by simpa using h0)]
    refine⟨_,rfl,hG.done (fun k hk=>(hI k hk).1) (.inr fun k hk=>?_)⟩
    have:=hmax _ (z7 (show k<idle.length from om))
    omega
   ·left
    obtain⟨i,e4,hi,hmi⟩:=zn9 hm om
    have him:=hid i hi
    have hm0:0<m:=om
    rw[y5 (by simpa using h0),e4]
    simp only[obind,yb,yl,yh]
    rw[Ge,Ge,zei,getD_set_int om,y6 rfl]
    have hst:=hG.step (fun k hk=>(hI k hk).1) hc.1 (show i<I.length from om) hmi hm0 (fun k hk=>hmax _ (z7 om))
    have hsum0:=z59 (l:=idle) fun k hk=>(hid k hk).1
    have hsum1:=z59 (l:=idle.set i 0) fun k hk=>by
     rw[getD_set_int (by simpa using hk)]
     split
     ·exact y18 _
     ·exact (hid k (by simpa using hk)).1
    have hset:=zm1 hi 0
    have hos:=z59 (l:=out) fun k hk=>by
     rcases k3 k om with h | h <;> omega
    rw[wrapId (n:=rest-min m rest) om om]
    exact⟨_,rfl,hst,by show (idle.set i 0).sum.toNat<idle.sum.toNat; omega⟩
  ·right
   rw[y5 (by simp only[yg,y7]; omega)]
   refine⟨_,rfl,hG.done (fun k hk=>(hI k hk).1) ?_⟩
   by_cases hr:0<rest
   ·exact .inr fun k hk=>om
   ·exact .inl om) _ (I,List.replicate p.A.length (0:Int),R) (y2u _) ⟨⟨rfl,by simp[hlI]⟩,fun k hk=>.inl ⟨by simp[List.getD_eq_getElem?_getD,<- hlI,hk],rfl⟩,fun k hk hp=>by
    rw[show (List.replicate p.A.length (0:Int)).getD k dF=0 by simp[List.getD_eq_getElem?_getD,<- hlI,hk]] at hp
    omega,sj,.inr rfl⟩
 rw[e2]
 simp only[outM]
 have:=hJ.1
 rw[Ge]
 exact⟨_,rfl,hJ⟩
theorem zl0 (hm:m∈l) (h1:l.length<=1000000):∃ i:Nat,F_q17 m l=some (i:Int)/\i<l.length/\l.getD i dF=m/\∀ j,j<i->l.getD j dF≠m:=by
 simp only[F_q17,S_q17,Scr.den]
 rw[Ge,z3s l (fun x=>m==x) (fun i=>(i:Int)) (fun i hi=>by
  simp only[S_q17_b1,Scr.den,yl]
  rw[z6 (by simp only[AllP,y16]; exact hi)]
  split <;> rfl)]
 have hany:(l.any fun x=>m==x)=true:=y43.2 ⟨m,hm,sj⟩
 have hlt:l.findIdx (fun x=>m==x)<l.length:=y44 ⟨m,hm,sj⟩
 rw[y6 hany]
 refine⟨_,rfl,hlt,?_,fun j hj e=>?_⟩
 ·have:=y3i (w:=hlt)
  simp only[y12] at this
  rw[z20 hlt]
  exact this.symm
 ·have h2:=y51 hj
  have h3:j<l.length:=om
  rw[z20 h3] at e
  simp[e] at h2
def Best (l:List Int) (i:Nat):Prop:=i<l.length/\0<l.getD i dF/\(∀ j,j<l.length->l.getD j dF<=l.getD i dF)/\∀ j,j<i->l.getD j dF<l.getD i dF
theorem Best.uniq (h:Best l i) (h':Best l k):i=k:=by
 obtain⟨a1,a2,a3,a4⟩:=h
 obtain⟨b1,b2,b3,b4⟩:=h'
 rcases y3k i k with c | c | c
 ·have:=b4 i c; have:=a3 k b1; omega
 ·exact c
 ·have:=a4 k c; have:=b3 i a1; omega
abbrev StG:=List Int×List Int×Int
def takeI (s:StG) (i:Nat):StG:=(s.1.set i 0,s.2.1.set i (min (s.1.getD i dF) s.2.2),s.2.2-min (s.1.getD i dF) s.2.2)
open Classical in
noncomputable def nextG (s:StG):Option StG:=if h:0<s.2.2/\∃ i,Best s.1 i then some (takeI s (Classical.choose h.2)) else none
variable {s:StG}
theorem za0 (hr:0<s.2.2) (hb:Best s.1 i):nextG s=some (takeI s i):=by
 unfold nextG
 have h:0<s.2.2/\∃ i,Best s.1 i:=⟨hr,i,hb⟩
 rw[y48 h,(Classical.choose_spec h.2).uniq hb]
theorem z5a (h:¬ (0<s.2.2/\∃ i,Best s.1 i)):nextG s=none:=dif_neg h
noncomputable def stepsG:Nat->StG->StG
 | 0,s=>s
 | k+1,s=>match nextG s with
  | none=>s
  | some t=>stepsG k t
theorem z8d (h:nextG s=none):∀ k,stepsG k s=s
 | 0=>rfl
 | k+1=>by simp only[stepsG,h]
theorem z8e {t:StG} (h:nextG s=some t) (k:Nat):stepsG (k+1) s=stepsG k t:=by simp only[stepsG,h]
def cntP:List Int->Nat
 | []=>0
 | x :: l=>(if 0<x then 1 else 0)+cntP l
theorem zm3:∀ l:List Int,cntP l<=l.length
 | []=>ye _
 | x :: l=>by
  have:=zm3 l
  simp only[cntP,yn]
  split <;> omega
theorem zjq:∀ {l:List Int} {i:Nat},i<l.length->0<l.getD i dF->cntP (l.set i 0)+1=cntP l
 | x :: l,0,_,h=>by
  have h:0<x:=h
  simp only[y4b,cntP,y6 h]
  simp
  omega
 | x :: l,i+1,hi,h=>by
  have:=zjq (l:=l) (i:=i) (by simpa using hi) (by simpa using h)
  simp only[y3u,cntP]
  omega
def IvG (n:Nat) (s:StG):Prop:=(s.1.length=n/\s.2.1.length=n)/\(∀ k,k<n->0<=s.1.getD k dF/\s.1.getD k dF<=1000000000000000)/\-10000000000000000<=s.2.2/\s.2.2<=10000000000000000
theorem zfu {n:Nat} (h:IvG n s) (hr:0<s.2.2) (hb:Best s.1 i):IvG n (takeI s i):=by
 obtain⟨⟨h1,h2⟩,h3,h4,h5⟩:=h
 have h6:=hb.2.1
 refine⟨⟨by show (s.1.set _ _).length=n; rw[yh]; exact h1,by show (s.2.1.set _ _).length=n; rw[yh]; exact h2⟩,fun k hk=>?_,?_,?_⟩
 ·show 0<=(s.1.set i 0).getD k dF/\(s.1.set i 0).getD k dF<=_
  rw[getD_set_int om]
  split
  ·exact⟨y18 _,dk⟩
  ·exact h3 k hk
 ·show _<=s.2.2-min _ _; omega
 ·show s.2.2-min _ _<=_; omega
theorem zub (hi:i<l.length) (h0:0<l.getD i dF) (hx:∀ j,j<l.length->l.getD j dF<=l.getD i dF) (hf:∀ j,j<i->l.getD j dF≠l.getD i dF):Best l i :=
 ⟨hi,h0,hx,fun j hj=>by have:=hx j om; have:=hf j hj; omega⟩
theorem zq0 {n:Nat} (h:IvG n s) (hn:n<=1000):(S_q6_b2 p s).den=some (match nextG s with | some t=>.cont t | none=>.brk s):=by
 obtain⟨idle,out,rest⟩:=s
 have hiv:=h
 obtain⟨⟨h1,h2⟩,h3,h4,h5⟩:=h
 simp only at h1 h2 h3 h4 h5
 simp only[S_q6_b2,Scr.den,za]
 by_cases hc:0<rest/\0<idle.length
 ·rw[y6 (by simp only[yg,y7]; omega)]
  obtain⟨m,e3,hm,hmax⟩:=zjp hc.2 om
  rw[e3]
  simp only[obind]
  by_cases h0:m=0
  ·rw[y6 (by simpa using h0),z5a (fun k=>by
    obtain⟨_,i,hb⟩:=k
    have q1:=hmax _ (z7 hb.1)
    have q2:=hb.2.1
    simp only at q1 q2
    omega)]
  ·obtain⟨i,e4,hi,hmi,hf⟩:=zl0 hm om
   have hm1:=h3 i om
   have hb:Best idle i:=zub hi om (fun j hj=>by rw[hmi]; exact hmax _ (z7 hj)) (fun j hj=>by rw[hmi]; exact hf j hj)
   rw[y5 (by simpa using h0),e4]
   simp only[obind,yb,yl,yh]
   rw[Ge,Ge,zei,getD_set_int om,y6 rfl,wrapId (n:=rest-min m rest) om om,za0 (s:=(idle,out,rest)) hc.1 hb]
   simp only[takeI,hmi]
 ·rw[y5 (by simp only[yg,y7]; omega),z5a (fun k=>by
   obtain⟨k1,i,hb⟩:=k
   exact hc ⟨k1,by have:=hb.1; simp only at this; omega⟩)]
theorem zq1 {n:Nat} (h:IvG n s) (hn:n<=1000):∃ b:Int,rangeM (fun i z=>(S_q9_b2 s i z).den) s.1.length 0 (-1:Int)=some (.next b)/\((b=-1/\∀ j,j<s.1.length->s.1.getD j dF<=0)\/∃ i:Nat,b=i/\Best s.1 i):=by
 obtain⟨idle,out,rest⟩:=s
 obtain⟨⟨h1,h2⟩,h3,h4,h5⟩:=h
 simp only at h1 h2 h3 h4 h5
 obtain⟨b,e,hb⟩:=zr (body:=fun i z=>(S_q9_b2 (idle,out,rest) i z).den) (n:=idle.length) (fun t b=>(b=-1/\∀ j,j<t->idle.getD j dF<=0)\/∃ i:Nat,b=i/\i<t/\0<idle.getD i dF/\(∀ j,j<t->idle.getD j dF<=idle.getD i dF)/\∀ j,j<i->idle.getD j dF<idle.getD i dF) (s0:=(-1:Int)) (.inl ⟨rfl,fun j hj=>om⟩) (fun t b ht hI=>by
  simp only[S_q9_b2,Scr.den,yl,za,z8]
  rcases hI with ⟨rfl,hz⟩ | ⟨i,rfl,hi,hp,hx,hf⟩
  ·rw[z6 ⟨ht,trivial⟩,z6 ⟨fun h=>(by simp[AllP] at h),fun h=>(by simp[AllP] at h),fun h=>(by simp[AllP] at h),trivial⟩]
   by_cases c:0<idle.getD t dF
   ·rw[y6 (by simp only[yg,yc,y7]; exact⟨c,.inl dk⟩)]
    refine⟨_,rfl,.inr ⟨t,rfl,om,c,fun j hj=>?_,fun j hj=>?_⟩⟩
    ·by_cases e:j=t
     ·rw[e]; exact y18 _
     ·have:=hz j om; omega
    ·have:=hz j hj; omega
   ·rw[y5 (by simp only[yg,y7]; exact fun k=>c k.1)]
    refine⟨_,rfl,.inl ⟨rfl,fun j hj=>?_⟩⟩
    by_cases e:j=t
    ·rw[e]; omega
    ·exact hz j om
  ·rw[z6 ⟨ht,trivial⟩,yb,z6 ⟨fun _=>om,fun _=>om,fun _=>om,trivial⟩]
   by_cases c:idle.getD i dF<idle.getD t dF
   ·rw[y6 (by simp only[yg,yc,y7]; exact⟨om,.inr c⟩)]
    refine⟨_,rfl,.inr ⟨t,rfl,om,om,fun j hj=>?_,fun j hj=>?_⟩⟩
    ·by_cases e:j=t
     ·rw[e]; exact y18 _
     ·have:=hx j om; omega
    ·have:=hx j hj; omega
   ·rw[y5 (by simp only[yg,yc,y7]; exact fun k=>k.2.elim (fun z=>om) c)]
    refine⟨_,rfl,.inr ⟨i,rfl,om,hp,fun j hj=>?_,hf⟩⟩
    by_cases e:j=t
    ·rw[e]; omega
    ·exact hx j om)
 refine⟨b,e,?_⟩
 rcases hb with hb | ⟨i,rfl,q1,q2,q3,q4⟩
 ·exact .inl hb
 ·exact .inr ⟨i,rfl,q1,q2,q3,q4⟩
theorem zht {n:Nat} (h:IvG n s) (hn:n<=1000) (t:Nat):(S_q9_b3 p t s).den=some (match nextG s with | some t=>.cont t | none=>.brk s):=by
 obtain⟨b,e,hb⟩:=zq1 h hn
 obtain⟨idle,out,rest⟩:=s
 obtain⟨⟨h1,h2⟩,h3,h4,h5⟩:=h
 simp only at h1 h2 h3 h4 h5 e hb
 simp only[S_q9_b3,Scr.den,z8]
 rw[Ga,e]
 simp only[outM]
 rcases hb with ⟨rfl,hz⟩ | ⟨i,rfl,hb⟩
 ·rw[y6 sj,z5a (fun k=>by
   obtain⟨_,i,hb⟩:=k
   have:=hz i hb.1
   have:=hb.2.1
   simp only at this
   omega)]
 ·have hi:=hb.1
  have hp:=hb.2.1
  have hm1:=h3 i om
  by_cases hr:0<rest
  ·rw[y5 (by simp only[yc,y7]; omega),za0 (s:=(idle,out,rest)) hr hb]
   simp only[yb,yl,yh]
   rw[Ge,Ge,zei,Int.min_comm,getD_set_int om,y6 rfl,wrapId (n:=rest-min (idle.getD i dF) rest) om om]
   rfl
  ·rw[y6 (by simp only[yc,y7]; exact .inl om),z5a (fun k=>hr k.1)]
theorem za1 (s:StG):(nextG s=none)\/∃ i,0<s.2.2/\Best s.1 i/\nextG s=some (takeI s i):=by
 by_cases h:0<s.2.2/\∃ i,Best s.1 i
 ·obtain⟨h1,i,h2⟩:=h
  exact .inr ⟨i,h1,h2,za0 h1 h2⟩
 ·exact .inl (z5a h)
theorem zm4 {ρ:Type} {body:Nat->StG->Option (Step StG ρ)} {n:Nat} (hb:∀ t s,IvG n s->body t s=some (match nextG s with | some t=>.cont t | none=>.brk s)):∀ (k t:Nat) (s:StG),IvG n s->rangeM body k t s=some (.next (stepsG k s))
 | 0,_,_,_=>rfl
 | k+1,t,s,h=>by
  rcases za1 s with e | ⟨i,h1,h2,e⟩
  ·simp only[rangeM,hb t s h,e,z8d e]
  ·simp only[rangeM,hb t s h,e,z8e e]
   exact zm4 hb k (t+1) _ (zfu h h1 h2)
theorem zvp {step:StG->Option (Step StG ρ)} {n:Nat} (hb:∀ s,IvG n s->step s=some (match nextG s with | some t=>.cont t | none=>.brk s)) (h:IvG n s):iterM step s=some (.next (stepsG n s)):=by
 obtain⟨r,e,hr⟩:=z1n (step:=step) (fun t:StG=>cntP t.1) (fun t=>IvG n t/\∃ k,cntP t.1<=k/\stepsG k t=stepsG n s) (fun t=>t=stepsG n s) (fun t hI=>by
  obtain⟨i1,k,i2,i3⟩:=hI
  rcases za1 t with e | ⟨i,h1,h2,e⟩
  ·exact .inr ⟨t,by rw[hb t i1,e],by rw[<- i3,z8d e]⟩
  ·have hc:=zjq h2.1 h2.2.1
   cases k with
   | zero=>omega
   | succ k =>
    rw[z8e e] at i3
    exact .inl ⟨takeI t i,by rw[hb t i1,e],⟨zfu i1 h1 h2,k,by show cntP (t.1.set i 0)<=k; omega,i3⟩,by show cntP (t.1.set i 0)<cntP t.1; omega⟩) (cntP s.1+1) s (y2u _) ⟨h,n,by have:=zm3 s.1; rw[h.1.1] at this; exact this,rfl⟩
 rw[e,hr]
theorem zaf (hp:PotOk n p) (hk:k<p.A.length):F_q58 p (k:Int)=some (unusedV p k):=by
 obtain⟨⟨a,b,c,d⟩,q1,q2,q3⟩:=at18 hp hk
 unfold tot at a b c d
 simp only[F_q58,S_q58,Scr.den,yb]
 rw[Ge,wrapId (n:=p.A.getD k dF-p.G.getD k dF) om om,wrapId (n:=p.A.getD k dF-p.G.getD k dF-p.M.getD k dF) om om,max18']
 rfl
theorem zl1 (hp:PotOk n p) (hk:k<p.A.length):F_q59 p (k:Int)=some (openV p k):=by
 obtain⟨⟨a,b,c,d⟩,q1,q2,q3⟩:=at18 hp hk
 unfold tot at a b c d
 simp only[F_q59,S_q59,Scr.den,zaf hp hk,obind,yb]
 rw[Ge,wrapId (n:=p.F.getD k dF-p.G.getD k dF) om om,max18',zei]
 have key:∀ a g h u:Int,min (max (a-h) 0) (max (g-h-u) 0)=max (min (max (g-h-u) 0) (a-h)) 0:=fun a g h u=>om
 exact y15 some (key _ _ _ _)
theorem zjr (hp:PotOk n p) (hn:n<=6):F_q11 p=some true:=by
 have hp':=hp
 obtain⟨_,_,ht,⟨r1,r2,r3,r4⟩,_⟩:=hp'
 have l1:=r1.1; have l2:=r2.1; have l3:=r3.1; have l4:=r4.1
 have e2:p.G.length=p.A.length:=om
 have e3:p.F.length=p.A.length:=om
 have e4:p.M.length=p.A.length:=om
 simp only[F_q11,S_q11,Scr.den,z8,e2,e3,e4]
 rw[y5 (by simp only[y5s,y3n,yc,y7]; omega)]
 obtain⟨r,e,_⟩:=z1n (step:=fun s=>(S_q11_b2 p s).den) (fun s:Int=>((p.A.length:Int)-s).toNat) (fun s=>∃ i:Nat,s=i/\i<=p.A.length) (fun _=>True) (fun s hI=>by
  obtain⟨i,rfl,hi⟩:=hI
  simp only[S_q11_b2,Scr.den]
  by_cases c:i<p.A.length
  ·left
   obtain⟨⟨t1,t2,t3,t4⟩,q1,q2,q3⟩:=at18 hp c
   unfold tot at t1 t2 t3 t4
   rw[y6 (y9 om),yb,Ge]
   obtain⟨x,ex,_⟩:=zr (body:=fun j s=>(S_q11_b1 p (i:Int) j s).den) (n:=4) (fun _ _=>True) (s0:=()) trivial (fun j s hj _=>⟨(),by
    simp only[S_q11_b1,Scr.den,z8,yb]
    have:j=0\/j=1\/j=2\/j=3:=om
    rcases this with rfl | rfl | rfl | rfl <;> simp only[y47,y3d] <;> rw[y5 (by simp only[yc,y7]; omega)],trivial⟩)
   rw[ex]
   simp only[outM]
   rw[wrapId (n:=(i:Int)+1) om om]
   exact⟨_,rfl,⟨i+1,om,om⟩,by show ((p.A.length:Int)-((i:Int)+1)).toNat<((p.A.length:Int)-i).toNat; omega⟩
  ·right
   rw[y5 (by rw[y7]; omega)]
   exact⟨_,rfl,trivial⟩) (((p.A.length:Int)-0).toNat+1) (0:Int) (y2u _) ⟨0,rfl,y1e _⟩
 rw[e]
 rfl
theorem zl2 (hp:PotOk n p) (hn:n<=6):F_q36 p=some (shortV p):=by
 have hb:=z4v hp hn
 have ht:=hp.2.2.1
 have l1:=hp.2.2.2.1.1.1
 simp only[F_q36,S_q36,Scr.den]
 rw[r13_Out_eq om,wrapId (n:=outV p) om om]
 simp only[obind]
 rw[wrapId (n:=outV p-p.T) om om,max18']
 rfl
abbrev s0G (p:TPo):StG:=(idles p p.A.length,List.replicate p.A.length 0,shortV p-(opens p p.A.length).sum)
theorem zwk (hp:PotOk n p) (hn:n<=6):IvG p.A.length (s0G p):=by
 have hb:=z4v hp hn
 have ho:=z8c hp
 have ht:=hp.2.2.1
 have l1:=hp.2.2.2.1.1.1
 have hop:=z5u hp (ye _)
 have hs0:0<=shortV p/\shortV p<=7000000000000000:=by unfold shortV; omega
 refine⟨⟨idles_length,y1o⟩,fun k hk=>?_,?_,?_⟩
 ·show 0<=(idles p _).getD k dF/\_
  rw[idles_at hk]
  exact (z8t hp hk).2
 ·show _<=shortV p-(opens p p.A.length).sum; omega
 ·show shortV p-(opens p p.A.length).sum<=_; omega
theorem zjs {n:Nat}:∀ (k:Nat) {s:StG},IvG n s->IvG n (stepsG k s)
 | 0,_,h=>h
 | k+1,s,h=>by
  rcases za1 s with e | ⟨i,h1,h2,e⟩
  ·rw[z8d e]; exact h
  ·rw[z8e e]; exact zjs k (zfu h h1 h2)
theorem Plan_both (hp:PotOk n p) (hn:n<=6):∃ out,F_q6 p=some out/\F_q9 p=some out/\PlanOk (idles p p.A.length) (shortV p-(opens p p.A.length).sum) out:=by
 have hb:=z4v hp hn
 have ho:=z8c hp
 have ht:=hp.2.2.1
 have l1:=hp.2.2.2.1.1.1
 have hop:=z5u hp (ye _)
 have hs0:0<=shortV p/\shortV p<=7000000000000000:=by unfold shortV; omega
 have h0:=zwk hp hn
 have hz:=zjs p.A.length h0
 have hzl:=hz.1.2
 obtain⟨out,e,ok⟩:=zgt hp hn
 have e1:F_q6 p=some (stepsG p.A.length (s0G p)).2.1:=by
  simp only[F_q6,S_q6,Scr.den,zm2 hp,obind,Shortfall_eq]
  rw[y5 dk,Ge,show max (i64.wrap (outV p-p.T)) 0=shortV p by rw[wrapId (n:=outV p-p.T) om om]; rfl]
  obtain⟨r,e,h1⟩:=zr (body:=fun i s=>(S_q6_b1 p i s).den) (n:=p.A.length) (fun i s=>s=(idles p i,shortV p-(opens p i).sum)) (s0:=(([]:List Int),shortV p)) (by simp[idles,opens]) (fun i s hi hI=>by
   subst hI
   have hbb:=z5u hp (i:=i) om
   have hb2:=z8t hp hi
   simp only[S_q6_b1,Scr.den,zpz hp hi,obind,idles_length]
   rw[Ge,wrapId (n:=shortV p-(opens p i).sum-openV p i) om om]
   refine⟨_,rfl,?_⟩
   rw[z6u,z6v,y3j]
   simp only[y21,y4u]
   exact Prod.ext rfl (by show _-_-_=_-(_+(_+0)); omega))
  subst h1
  rw[e]
  simp only[outM,idles_length]
  rw[Ge,yb,zvp (fun s h=>zq0 h om) h0]
  simp only[outM]
  rw[Ge]
 rw[e1] at e
 obtain rfl:=yw e
 refine⟨_,e1,?_,ok⟩
 simp only[F_q9,S_q9,Scr.den,zjr hp hn,zl2 hp hn,obind]
 rw[y5 dk,Ge]
 obtain⟨r,e,h1⟩:=zr (body:=fun i s=>(S_q9_b1 p i s).den) (n:=p.A.length) (fun i s=>s=(idles p i,List.replicate i (0:Int),shortV p-(opens p i).sum)) (s0:=(([]:List Int),([]:List Int),shortV p)) (by simp[idles,opens]) (fun i s hi hI=>by
  subst hI
  have hbb:=z5u hp (i:=i) om
  have hb2:=z8t hp hi
  simp only[S_q9_b1,Scr.den,zl1 hp hi,zaf hp hi,obind,idles_length,y1o]
  rw[Ge,Ge,wrapId (n:=shortV p-(opens p i).sum-openV p i) om om,wrapId (n:=unusedV p i-openV p i) (by have:=hb2.2; unfold idleV at this; omega) (by have:=hb2.2; unfold idleV at this; omega)]
  refine⟨_,rfl,?_⟩
  rw[z6u,z6v,y3j,List.replicate_succ']
  simp only[y21,y4u]
  exact Prod.ext rfl (Prod.ext rfl (by show _-_-_=_-(_+(_+0)); omega)))
 subst h1
 rw[e]
 simp only[outM]
 rw[zm4 (fun t s h=>zht h om t) _ _ _ h0]
 simp only[outM]
 rw[Ge]
end Go.Proofs.YtgbpiaddmclccaaGreatDoor.J13
namespace Go.Proofs.YtgbpiaddmclccaaGreatDoor
open Go Go.TA
open Go.IntKind (i64)
def getF (p:TOp):Nat->Int
 | 0=>p.D
 | 1=>p.Ab
 | 2=>p.V
 | 3=>p.Of
 | 4=>p.Ah
 | 5=>p.Ai
 | 6=>p.A
 | _=>p.Ae
def clrF (p:TOp):Nat->TOp
 | 0=>⟨p.U,p.B,0,p.Ab,p.Of,p.V,p.Ah,p.Ai,p.A,p.Ae⟩
 | 1=>⟨p.U,p.B,p.D,0,p.Of,p.V,p.Ah,p.Ai,p.A,p.Ae⟩
 | 2=>⟨p.U,p.B,p.D,p.Ab,p.Of,0,p.Ah,p.Ai,p.A,p.Ae⟩
 | 3=>⟨p.U,p.B,p.D,p.Ab,0,p.V,p.Ah,p.Ai,p.A,p.Ae⟩
 | 4=>⟨p.U,p.B,p.D,p.Ab,p.Of,p.V,0,p.Ai,p.A,p.Ae⟩
 | 5=>⟨p.U,p.B,p.D,p.Ab,p.Of,p.V,p.Ah,0,p.A,p.Ae⟩
 | 6=>⟨p.U,p.B,p.D,p.Ab,p.Of,p.V,p.Ah,p.Ai,0,p.Ae⟩
 | 7=>⟨p.U,p.B,p.D,p.Ab,p.Of,p.V,p.Ah,p.Ai,p.A,0⟩
 | _=>⟨p.U,[],p.D,p.Ab,p.Of,p.V,p.Ah,p.Ai,p.A,p.Ae⟩
def nmF:Nat->Y8
 | 0=>[89,69,65,82]
 | 1=>[68,65,89]
 | 2=>[65,77,79,85,78,84]
 | 3=>[79,70]
 | 4=>[80,65,89,69,69]
 | 5=>[68,85,69]
 | 6=>[71,82,65,78,84,69,68]
 | 7=>[65,83,75,69,68,66,65,67,75]
 | _=>[67,79,68,69]
def mostF (k:Nat):Int:=if k=0 then 99 else 1000000000000000
def condF (p:TOp) (k:Nat):Prop:=if k=8 then good p.B=true else 0<=getF p k/\getF p k<=mostF k
instance (p:TOp) (k:Nat):Decidable (condF p k):=by unfold condF; infer_instance
theorem zhy (p:TOp):condF p 8↔good p.B=true:=by
 show (if (8:Nat)=8 then good p.B=true else _)↔_
 rw[y6 rfl]
variable {p:TOp} {k:Nat}
theorem condN (h:k≠8):condF p k↔0<=getF p k/\getF p k<=mostF k:=by
 show (if k=8 then good p.B=true else _)↔_
 rw[y5 h]
def txtF (p:TOp) (k:Nat):Y8:=if k=8 then p.B else Lib.itoa (getF p k)
theorem F_q80 (k:Nat) (hk:k<8):F_q20 (nmF k)=some (mostF k):=by
 have:k=0\/k=1\/k=2\/k=3\/k=4\/k=5\/k=6\/k=7:=om
 rcases this with rfl | rfl | rfl | rfl | rfl | rfl | rfl | rfl <;> rfl
theorem zq2 {n:Int} (h0:0<=n) (h1:n<=1000000000000000):F_q7r n=some (Lib.itoa n):=z6 ⟨om,om⟩
theorem zjt (k:Nat):mostF k<=1000000000000000:=by unfold mostF; split <;> omega
variable {i:Nat} {rv1:List Y8}
theorem zuc {r:TOp} (hc:p.B.length<=1000000) {l:List Y8} (hi:i+1<l.length) (hb:l.length<=1000) (hk:k<=8) (hp:l.getD (0+1+i) dF=nmF k) :
  (S_qe_b1 p rv1 i (l,r)).den=some (if condF p k then .cont (l.set (i+1) (txtF p k),clrF r k) else .ret []):=by
 have ei:(i64.wrap ((i:Int)+1))=((i+1:Nat):Int):=wrapId om om
 have hcode:k=8->(S_qe_b1 p rv1 i (l,r)).den=some (if condF p k then .cont (l.set (i+1) (txtF p k),clrF r k) else .ret []):=fun h8=>by
  subst h8
  simp only[S_qe_b1,Scr.den]
  rw[Ga,hp,y6 (by rfl),ei]
  rw[show F_q7v p.B=some (parts p.B) from z3c om]
  simp only[obind,zjg,yb,yl]
  by_cases hg:good p.B=true
  ·rw[y5 (by simp[hg]),y6 ((zhy p).2 hg),z6 ⟨om,hi,hi,trivial⟩]
   rfl
  ·rw[y6 (by simpa using hg),y5 fun h=>hg ((zhy p).1 h)]
 by_cases h8:k=8
 ·exact hcode h8
 clear hcode
 have e:k=0\/k=1\/k=2\/k=3\/k=4\/k=5\/k=6\/k=7:=om
 have hm:F_q20 (nmF k)=some (mostF k):=F_q80 k om
 have hml:=zjt k
 have fin:∀ (n:Int) (x:Option (Step (List Y8×TOp) R_qe)),n=getF p k ->
   x=((optD [(decide (n<0))=false] (F_q20 (nmF k)) dF).bind fun m=>if (decide (n<0)||decide (n>m))=true then some (.ret []) else (F_q7r n).bind fun t=>guardP (AllP [(0:Int)<=((i+1:Nat):Int),i+1<l.length,i+1<l.length]) (some (.cont (l.set (i+1) t,clrF r k)))) ->
   x=some (if condF p k then .cont (l.set (i+1) (txtF p k),clrF r k) else .ret []):=by
  rintro n x rfl rfl
  have ht:txtF p k=Lib.itoa (getF p k):=y5 h8
  have hcn:=condN (p:=p) h8
  rw[hm,ht]
  by_cases h0:getF p k<0
  ·rw[show optD [(decide (getF p k<0))=false] (some (mostF k)) dF=some dF from y5 fun h=>by simp[AllP] at h; omega]
   simp only[obind]
   rw[y6 (by simp[h0]),y5 fun h=>y2v.2 (hcn.1 h).1 h0]
  ·rw[zg (by simp[AllP]; omega)]
   simp only[obind]
   by_cases h1:getF p k<=mostF k
   ·rw[y5 sk,y6 (hcn.2 ⟨om,h1⟩),zq2 om om]
    simp only[obind]
    rw[z6 ⟨om,hi,hi,trivial⟩]
   ·rw[y6 sk,y5 fun h=>h1 (hcn.1 h).2]
 rcases e with rfl | rfl | rfl | rfl | rfl | rfl | rfl | rfl
 all_goals
  simp only[S_qe_b1,Scr.den]
  rw[Ga,hp,ei]
  refine fin _ _ rfl ?_
  simp only[yb,yl,z8]
 ·have f:∀ q,F_q7c (nmF 0) q=some ():=fun q=>Gd
  rw[y5 dk,y6 dk]
  simp only[f,obind]
  rfl
 ·have f:∀ q,F_q7d (nmF 1) q=some ():=fun q=>(Gd).trans (Gd)
  rw[y5 dk,y5 dk,y6 dk]
  simp only[f,obind]
  rfl
 ·have f:∀ q,F_q7e (nmF 2) q=some ():=fun q=>(Gd).trans ((Gd).trans (Gd))
  rw[y5 dk,y5 dk,y5 dk,y6 dk]
  simp only[f,obind]
  rfl
 ·have f:∀ q,F_q7f (nmF 3) q=some ():=fun q=>(Gd).trans ((Gd).trans ((Gd).trans (Gd)))
  rw[y5 dk,y5 dk,y5 dk,y5 dk,y6 dk]
  simp only[f,obind]
  rfl
 ·have f:∀ q,F_q7g (nmF 4) q=some ():=fun q=>(Gd).trans ((Gd).trans ((Gd).trans ((Gd).trans (Gd))))
  rw[y5 dk,y5 dk,y5 dk,y5 dk,y5 dk,y6 dk]
  simp only[f,obind]
  rfl
 ·have f:∀ q,F_q7h (nmF 5) q=some ():=fun q=>(Gd).trans ((Gd).trans ((Gd).trans ((Gd).trans ((Gd).trans (Gd)))))
  rw[y5 dk,y5 dk,y5 dk,y5 dk,y5 dk,y5 dk,y6 dk]
  simp only[f,obind]
  rfl
 ·have f:∀ q,F_q7i (nmF 6) q=some ():=fun q=>(Gd).trans ((Gd).trans ((Gd).trans ((Gd).trans ((Gd).trans ((Gd).trans (Gd))))))
  rw[y5 dk,y5 dk,y5 dk,y5 dk,y5 dk,y5 dk,y5 dk,y6 dk]
  simp only[f,obind]
  rfl
 ·have f:∀ q,F_q7j (nmF 7) q=some ():=fun q=>(Gd).trans ((Gd).trans ((Gd).trans ((Gd).trans ((Gd).trans ((Gd).trans ((Gd).trans (Gd)))))))
  rw[y5 dk,y5 dk,y5 dk,y5 dk,y5 dk,y5 dk,y5 dk,y5 dk]
  simp only[f,obind]
  rfl
theorem zq3 (hc:p.B.length<=1000000) (hb:rv1.length<=1000):∀ (ks:List Nat) (i:Nat) (l:List Y8) (r:TOp),l.length=rv1.length->i+1+ks.length=l.length->(∀ k∈ks,k<=8)->l.drop (i+1)=ks.map nmF ->
  ((∀ k∈ks,condF p k)->∃ l',rangeM (fun i s=>(S_qe_b1 p rv1 i s).den) ks.length i (l,r)=some (.next (l',ks.foldl clrF r))/\l'.length=l.length/\l'.take (i+1)=l.take (i+1)/\∀ x∈l',x∈l.take (i+1)\/∃ k∈ks,x=txtF p k) /\
  ((¬ ∀ k∈ks,condF p k)->rangeM (fun i s=>(S_qe_b1 p rv1 i s).den) ks.length i (l,r)=some (.ret [])):=by
 intro ks
 induction ks with
 | nil =>
  intro i l r hl hi _ hd
  refine⟨fun _=>⟨l,rfl,rfl,rfl,fun x hx=>.inl ?_⟩,fun h=>absurd (fun k hk=>nomatch hk) h⟩
  rw[y22 (by simp at hi; omega)]
  exact hx
 | cons k ks ih =>
  intro i l r hl hi h8 hd
  rw[yn] at hi
  have hlt:i+1<l.length:=om
  have hg:l.getD (0+1+i) dF=nmF k:=by
   rw[show 0+1+i=i+1 from om,z16 hlt]
   have:=y15 (fun z=>z[0]?) hd
   simpa [List.getElem?_drop,List.getElem?_eq_getElem hlt] using this
  have hs:=zuc (p:=p) (r:=r) (rv1:=rv1) hc hlt om (h8 k (y1u ..)) hg
  have hd2:(l.set (i+1) (txtF p k)).drop (i+1+1)=ks.map nmF:=by
   rw[List.drop_set_of_lt om]
   have:=y15 (List.drop 1) hd
   simpa [List.drop_drop] using this
  obtain⟨g1,g2⟩:=ih (i+1) (l.set (i+1) (txtF p k)) (clrF r k) (by rw[yh]; exact hl) (by rw[yh]; omega) (fun x hx=>h8 x (y1c _ hx)) hd2
  simp only[yn,rangeM,hs]
  refine⟨fun h=>?_,fun h=>?_⟩
  ·rw[y6 (h k (y1u ..))]
   obtain⟨l',e1,e2,e3,e4⟩:=g1 fun x hx=>h x (y1c _ hx)
   refine⟨l',e1,by rw[e2,yh],?_,fun x hx=>?_⟩
   ·have:=y15 (List.take (i+1)) e3
    rw[List.take_take,List.take_take,Nat.min_eq_left om,y5l om] at this
    exact this
   ·rcases e4 x hx with h1 | ⟨q,h1,h2⟩
    ·rw[y39,y5l om,y1n] at h1
     rcases h1 with h1 | h1
     ·exact .inl h1
     ·rw[y11 hlt] at h1
      exact .inr ⟨k,y1u ..,by simpa using h1⟩
    ·exact .inr ⟨q,y1c _ h1,h2⟩
  ·by_cases hk:condF p k
   ·rw[y6 hk]
    exact g2 fun h'=>h fun x hx=>by
     rcases y14.1 hx with rfl | hx
     ·exact hk
     ·exact h' x hx
   ·rw[y5 hk]
def partsK (k:Int):List Nat :=
 if k=1 then [8,0,1,2] else if k=2 then [3,1,2,4,5] else if k=3 then [3,1,2] else if k=4 then [3,1] else if k=5 then [3,2] else if k=6 then [3,2] else
 if k=7 then [8,0,2] else if k=8 then [8,0,6,7] else if k=9 then [3] else []
def wordK (k:Int):Y8 :=
 if k=1 then [114,101,115,101,114,118,101] else if k=2 then [99,111,109,109,105,116] else if k=3 then [118,101,114,105,102,121] else if k=4 then [111,114,100,101,114] else
 if k=5 then [114,101,108,101,97,115,101] else if k=6 then [100,114,111,112] else if k=7 then [114,101,116,117,114,110] else if k=8 then [104,101,97,114] else [114,101,116,117,114,110,101,100]
def zOp:TOp:=⟨0,[],0,0,0,0,0,0,0,0⟩
def unK (p:TOp):TOp:=⟨0,p.B,p.D,p.Ab,p.Of,p.V,p.Ah,p.Ai,p.A,p.Ae⟩
def POp (p:TOp):Prop:=(1<=p.U/\p.U<=9)/\(∀ k∈partsK p.U,condF p k)/\(partsK p.U).foldl clrF (unK p)=zOp
theorem zej {k:Int} (h:1<=k/\k<=9):k=1\/k=2\/k=3\/k=4\/k=5\/k=6\/k=7\/k=8\/k=9:=om
theorem znb {k:Int} (h:1<=k/\k<=9):∃ s,F_q4t k=some s/\F_q7x s=some (wordK k :: (partsK k).map nmF):=by
 rcases zej h with rfl | rfl | rfl | rfl | rfl | rfl | rfl | rfl | rfl <;> exact⟨_,rfl,z6 ⟨dk,dk⟩⟩
theorem zq4 {k:Int} (h:¬ (1<=k/\k<=9)):F_q4t k=some []:=by
 simp only[F_q4t,S_q4t,Scr.den]
 rw[y5 sk,y5 sk,y5 sk,y5 sk,y5 sk,y5 sk,y5 sk,y5 sk,y5 sk]
theorem zgu (k:Int):∀ x∈partsK k,x<=8:=by
 unfold partsK
 repeat' split
 all_goals decide
theorem znc (k:Int):(partsK k).length<=5:=by
 unfold partsK
 repeat' split
 all_goals decide
theorem zq5 (k:Int):0<(wordK k).length/\(wordK k).length<=8:=by
 unfold wordK
 repeat' split
 all_goals decide
theorem zbf {B:Nat} {s:Y8}:∀ {l:List Y8},(∀ x∈l,x.length<=B)->(Lib.joinTail s l).length<=l.length * (s.length+B)
 | [],_=>by simp[Lib.joinTail]
 | x :: l,h=>by
  have h1:=h x sj
  have h2:=zbf (s:=s) (l:=l) fun y hy=>h y (by simp[hy])
  have e:Lib.joinTail s (x :: l)=(s++x)++Lib.joinTail s l:=by simp[Lib.joinTail]
  rw[e,yp,yp,yn,y1m]
  omega
variable {α ρ:Type}
theorem zd {σ:Type} (s:σ) (k:σ->Option α) (kr:ρ->Option α):outM (some (.next s)) k kr=k s:=rfl
theorem za2 (a b:TOp):((a.U==b.U)&&((a.B==b.B)&&((a.D==b.D)&&((a.Ab==b.Ab)&&((a.Of==b.Of)&&((a.V==b.V)&&((a.Ah==b.Ah)&&((a.Ai==b.Ai)&&((a.A==b.A)&&((a.Ae==b.Ae)&&true))))))))))=true↔a=b:=by
 obtain⟨a0,a1,a2,a3,a4,a5,a6,a7,a8,a9⟩:=a
 obtain⟨b0,b1,b2,b3,b4,b5,b6,b7,b8,b9⟩:=b
 simp
theorem zs5 (h:condF p k):(txtF p k).length<=60:=by
 by_cases h8:k=8
 ·subst h8
  have:=z3q ((zhy p).1 h)
  show p.B.length<=60
  omega
 ·rw[show txtF p k=Lib.itoa (getF p k) from y5 h8]
  have h1:=zjt k
  have h2:=(condN h8).1 h
  have:=Lib.itoa_length_le (getF p k) om om
  omega
theorem POp.len (h:POp p):p.B.length<=60:=by
 obtain⟨hk,hc,hz⟩:=h
 by_cases h8:8∈partsK p.U
 ·have:=hc 8 h8
  have:=z3q ((zhy p).1 this)
  omega
 ·have key:∀ (ks:List Nat) (r:TOp),8 ∉ ks->(∀ k∈ks,k<=8)->(ks.foldl clrF r).B=r.B:=by
   intro ks
   induction ks with
   | nil=>intro r _ _; rfl
   | cons k ks ih =>
    intro r hk h9
    rw[y2y,ih _ (fun h=>hk (y1c _ h)) fun x hx=>h9 x (y1c _ hx)]
    have h1:k≠8:=fun e=>hk (e▸y1u ..)
    have h2:=h9 k (y1u ..)
    have:k=0\/k=1\/k=2\/k=3\/k=4\/k=5\/k=6\/k=7:=om
    rcases this with rfl | rfl | rfl | rfl | rfl | rfl | rfl | rfl <;> rfl
  have h2:=key (partsK p.U) (unK p) h8 (zgu _)
  rw[hz] at h2
  have h3:(unK p).B=p.B:=rfl
  rw[<- h3,<- h2]
  decide
theorem zud {x:Y8} {l:List Y8} (hx:0<x.length) (s:Y8):Lib.join (x :: l) s≠[]:=by
 rw[Lib.join_cons]
 intro h
 have:=y15 List.length h
 rw[yp,y1k] at this
 omega
theorem zm5 (hc:p.B.length<=1000000):(POp p->∃ t,F_qe p=some t/\t≠[])/\(¬ POp p->F_qe p=some []):=by
 by_cases hk:1<=p.U/\p.U<=9
 ·obtain⟨s,e1,e2⟩:=znb hk
  have hpl:=znc p.U
  have hwl:=zq5 p.U
  have hn:(wordK p.U :: (partsK p.U).map nmF).length-1=(partsK p.U).length:=sj
  obtain⟨g1,g2⟩:=zq3 (p:=p) hc (rv1:=wordK p.U :: (partsK p.U).map nmF) sk (partsK p.U) 0 (wordK p.U :: (partsK p.U).map nmF) (unK p) rfl sk (zgu _) sj
  have hS:F_qe p=(outM (rangeM (fun i s=>(S_qe_b1 p (wordK p.U :: (partsK p.U).map nmF) i s).den) (partsK p.U).length 0 (wordK p.U :: (partsK p.U).map nmF,unK p)) (fun s=>if (!((s.2.U==0)&&((s.2.B==([]))&&((s.2.D==0)&&((s.2.Ab==0)&&((s.2.Of==0)&&((s.2.V==0)&&((s.2.Ah==0)&&((s.2.Ai==0)&&((s.2.A==0)&&((s.2.Ae==0)&&true)))))))))))=true then some [] else guardP (AllP [s.1.length<2 ^ 63]) ((F_q7w s.1 [32]).bind fun r=>some r)) (fun x=>some (id x))):=by
   simp only[F_qe,S_qe,Scr.den,e1,e2,obind]
   rw[y5 sk,z6 ⟨sj,trivial⟩,z6 ⟨sk,trivial⟩,hn]
   rfl
  rw[hS]
  by_cases h:∀ k∈partsK p.U,condF p k
  ·obtain⟨l',q1,q2,q3,q4⟩:=g1 h
   rw[q1]
   simp only[zd]
   have hz:=za2 ((partsK p.U).foldl clrF (unK p)) zOp
   by_cases hz':(partsK p.U).foldl clrF (unK p)=zOp
   ·have hb:=hz.2 hz'
    refine⟨fun _=>?_,fun hn=>absurd ⟨hk,h,hz'⟩ hn⟩
    rw[y5 (by
     intro hh
     rw[yi] at hh
     exact y4t (hh.symm.trans hb))]
    have hl:l'.length<=6:=by rw[q2]; simp; omega
    have hw:l'=wordK p.U :: l'.drop 1:=by
     conv=>lhs; rw[<- y2f 1 l']
     rw[show l'.take 1=[wordK p.U] by simpa using q3]
     rfl
    have hlen:∀ x∈l',x.length<=60:=fun x hx=>by
     rcases q4 x hx with h1 | ⟨k,h1,rfl⟩
     ·have:x=wordK p.U:=by simpa using h1
      rw[this]; omega
     ·exact zs5 (h k h1)
    have hj:(Lib.join l' [32]).length<=1000:=by
     rw[hw,Lib.join_cons,yp]
     have h1:=zbf (B:=60) (s:=[32]) (l:=l'.drop 1) fun x hx=>hlen x (y36 hx)
     have h2:(l'.drop 1).length<=5:=by rw[y2t]; omega
     have h3:(l'.drop 1).length * (1+60)<=5 * 61:=yq _ h2
     simp only[yn,y1k] at h1
     omega
    have hl0:0<l'.length:=by rw[hw]; simp
    rw[Ga,show F_q7w l' [32]=some (Lib.join l' [32]) from z6 ⟨hl0,om,om⟩]
    refine⟨_,rfl,?_⟩
    rw[hw]
    exact zud hwl.1 _
   ·refine⟨fun hp=>absurd hp.2.2 hz',fun _=>?_⟩
    rw[y6 (by
     rw[yi]
     exact y2g.2 fun hh=>hz' (hz.1 hh))]
  ·rw[g2 h]
   exact⟨fun hp=>absurd hp.2.1 h,fun _=>rfl⟩
 ·refine⟨fun hp=>absurd hp.1 hk,fun _=>?_⟩
  simp only[F_qe,S_qe,Scr.den,zq4 hk,obind]
  rw[show F_q7x []=some [] from z6 ⟨dk,dk⟩]
  rfl
open Classical in
theorem za3 (hc:p.B.length<=1000000):F_q47 p=some (decide (POp p)):=by
 simp only[F_q47,S_q47,Scr.den]
 by_cases h:POp p
 ·obtain⟨t,e,ht⟩:=(zm5 hc).1 h
  rw[e,y9 h]
  simp only[obind]
  simp[ht]
 ·rw[(zm5 hc).2 h,ya h]
  rfl
def numT (n:Int):Prop:=0<=n/\n<=1000000000000000
theorem zs6 (l:List Int) (c:Bool):((∀ x∈l,numT x)->rangeM (fun i s=>(S_qj_b1 (l,c) i s).den) l.length 0 ()=some (.next ()))/\((¬ ∀ x∈l,numT x)->rangeM (fun i s=>(S_qj_b1 (l,c) i s).den) l.length 0 ()=some (.ret false)):=by
 have ra:=zl (ρ:=Bool) (n:=l.length) (c:=false) (body:=fun i s=>(S_qj_b1 (l,c) i s).den) (fun i=>numT (l.getD i dF)) (fun i hi h=>by
  simp only[S_qj_b1,Scr.den,z8]
  unfold numT at h
  rw[y5 (by simp only[yc,y7]; omega)]) (fun i hi h=>by
  simp only[S_qj_b1,Scr.den,z8]
  unfold numT at h
  rw[y6 (by simp only[yc,y7]; omega)])
 exact⟨fun h=>ra.1 fun j hj=>h _ (z7 hj),fun h=>ra.2 fun h'=>h (z46 (p:=numT) h')⟩
open Classical in
theorem z3e {q:TOp} {l:List Int} {c:Bool} (hk:1<=p.U/\p.U<=9) (hc:p.B.length<=1000000) (e1:F_q1h p=some (l,c)) (e2:F_q4 p.U p.B p.D l=some q) :
  F_qj p=some (decide ((if c=true then good p.B=true/\0<=p.D/\p.D<=99 else p.B=[]/\p.D=0)/\(∀ x∈l,numT x)/\q=p)):=by
 simp only[F_qj,S_qj,Scr.den,e1,obind,z8,za]
 rw[y5 (by simp only[yc,y7]; omega)]
 obtain⟨g1,g2⟩:=zs6 l c
 have fin:outM (rangeM (fun i s=>(S_qj_b1 (l,c) i s).den) l.length 0 ()) (fun _=>(F_q4 p.U p.B p.D l).bind fun r=>some ((r.U==p.U)&&((r.B==p.B)&&((r.D==p.D)&&((r.Ab==p.Ab)&&((r.Of==p.Of)&&((r.V==p.V)&&((r.Ah==p.Ah)&&((r.Ai==p.Ai)&&((r.A==p.A)&&((r.Ae==p.Ae)&&true))))))))))) (fun x=>some (id x))=some (decide ((∀ x∈l,numT x)/\q=p)):=by
  by_cases h:∀ x∈l,numT x
  ·rw[g1 h]
   simp only[zd,e2,obind]
   congr 1
   rw[y1s,za2,y7]
   exact⟨fun k=>⟨h,k⟩,fun k=>k.2⟩
  ·rw[g2 h,ya (fun k=>h k.1)]
   rfl
 cases c
 ·rw[show ∀ {α:Type} (x:Option α) (d:α),optD [false=true] x d=some d from fun _ _=>y5 fun h=>y4t h.1]
  simp only[obind]
  by_cases h:p.B=[]/\p.D=0
  ·rw[y5 (by simp[h.1,h.2]),fin]
   congr 1
   rw[y1s,y7,y7,y5 sj]
   exact⟨fun k=>⟨h,k⟩,fun k=>k.2⟩
  ·rw[y6 (by
    by_cases h1:p.B=[]
    ·have h2:p.D≠0:=fun e=>h ⟨h1,e⟩
     simp[h1,h2]
    ·simp[h1]),ya (fun k=>h (by simpa using k.1))]
 ·rw[Gg,z2w om]
  simp only[obind]
  by_cases h:good p.B=true/\0<=p.D/\p.D<=99
  ·rw[y5 (by simp[h.1]; omega),fin]
   congr 1
   rw[y1s,y7,y7,y6 trivial]
   exact⟨fun k=>⟨h,k⟩,fun k=>k.2⟩
  ·rw[y6 (by
    by_cases h1:good p.B=true
    ·have h2:p.D<0\/99<p.D:=by
      rcases Int.lt_or_le p.D 0 with k | k
      ·exact .inl k
      ·exact .inr (y4j.1 fun k2=>h ⟨h1,k,k2⟩)
     rcases h2 with h2 | h2 <;> simp[h1,h2]
    ·simp[h1]),ya (fun k=>h (by simpa using k.1))]
open Classical in
theorem z5b (hc:p.B.length<=1000000):F_qj p=some (decide (POp p)):=by
 by_cases hk:¬ (1<=p.U/\p.U<=9)
 ·simp only[F_qj,S_qj,Scr.den,z8]
  rw[y6 (by simp only[yc,y7]; omega),ya (fun h=>hk h.1)]
 have hk:=Decidable.not_not.1 hk
 have z:∀ x:Int,decide (0=x)=decide (x=0):=fun x=>decide_eq_decide.2 eq_comm
 obtain⟨K,C,Y,D,O,A,P,U,G,B⟩:=p
 rcases zej hk with h | h | h | h | h | h | h | h | h <;> simp only at h <;> subst h
 ·have e1:F_q1h ⟨1,C,Y,D,O,A,P,U,G,B⟩=some ([D,A],true):=rfl
  have e2:F_q4 1 C Y [D,A]=some ⟨1,C,Y,D,0,A,0,0,0,0⟩:=by
   simp[F_q4,S_q4,Scr.den,guardP,AllP,outM]
  rw[z3e hk hc e1 e2]
  congr 1
  simp[POp,partsK,condF,getF,mostF,clrF,unK,zOp,numT]
  simp only[z]
  ac_rfl
 ·have e1:F_q1h ⟨2,C,Y,D,O,A,P,U,G,B⟩=some ([O,D,A,P,U],false):=rfl
  have e2:F_q4 2 C Y [O,D,A,P,U]=some ⟨2,C,Y,D,O,A,P,U,0,0⟩:=by
   simp[F_q4,S_q4,Scr.den,guardP,AllP,outM]
  rw[z3e hk hc e1 e2]
  congr 1
  simp[POp,partsK,condF,getF,mostF,clrF,unK,zOp,numT]
  simp only[z]
  ac_rfl
 ·have e1:F_q1h ⟨3,C,Y,D,O,A,P,U,G,B⟩=some ([O,D,A],false):=rfl
  have e2:F_q4 3 C Y [O,D,A]=some ⟨3,C,Y,D,O,A,0,0,0,0⟩:=by
   simp[F_q4,S_q4,Scr.den,guardP,AllP,outM]
  rw[z3e hk hc e1 e2]
  congr 1
  simp[POp,partsK,condF,getF,mostF,clrF,unK,zOp,numT]
  simp only[z]
  ac_rfl
 ·have e1:F_q1h ⟨4,C,Y,D,O,A,P,U,G,B⟩=some ([O,D],false):=rfl
  have e2:F_q4 4 C Y [O,D]=some ⟨4,C,Y,D,O,0,0,0,0,0⟩:=by
   simp[F_q4,S_q4,Scr.den,guardP,AllP,outM]
  rw[z3e hk hc e1 e2]
  congr 1
  simp[POp,partsK,condF,getF,mostF,clrF,unK,zOp,numT]
  simp only[z]
  ac_rfl
 ·have e1:F_q1h ⟨5,C,Y,D,O,A,P,U,G,B⟩=some ([O,A],false):=rfl
  have e2:F_q4 5 C Y [O,A]=some ⟨5,C,Y,0,O,A,0,0,0,0⟩:=by
   simp[F_q4,S_q4,Scr.den,guardP,AllP,outM]
  rw[z3e hk hc e1 e2]
  congr 1
  simp[POp,partsK,condF,getF,mostF,clrF,unK,zOp,numT]
  simp only[z]
  ac_rfl
 ·have e1:F_q1h ⟨6,C,Y,D,O,A,P,U,G,B⟩=some ([O,A],false):=rfl
  have e2:F_q4 6 C Y [O,A]=some ⟨6,C,Y,0,O,A,0,0,0,0⟩:=by
   simp[F_q4,S_q4,Scr.den,guardP,AllP,outM]
  rw[z3e hk hc e1 e2]
  congr 1
  simp[POp,partsK,condF,getF,mostF,clrF,unK,zOp,numT]
  simp only[z]
  ac_rfl
 ·have e1:F_q1h ⟨7,C,Y,D,O,A,P,U,G,B⟩=some ([A],true):=rfl
  have e2:F_q4 7 C Y [A]=some ⟨7,C,Y,0,0,A,0,0,0,0⟩:=by
   simp[F_q4,S_q4,Scr.den,guardP,AllP,outM]
  rw[z3e hk hc e1 e2]
  congr 1
  simp[POp,partsK,condF,getF,mostF,clrF,unK,zOp,numT]
  simp only[z]
  ac_rfl
 ·have e1:F_q1h ⟨8,C,Y,D,O,A,P,U,G,B⟩=some ([G,B],true):=rfl
  have e2:F_q4 8 C Y [G,B]=some ⟨8,C,Y,0,0,0,0,0,G,B⟩:=by
   simp[F_q4,S_q4,Scr.den,guardP,AllP,outM]
  rw[z3e hk hc e1 e2]
  congr 1
  simp[POp,partsK,condF,getF,mostF,clrF,unK,zOp,numT]
  simp only[z]
  ac_rfl
 ·have e1:F_q1h ⟨9,C,Y,D,O,A,P,U,G,B⟩=some ([O],false):=rfl
  have e2:F_q4 9 C Y [O]=some ⟨9,C,Y,0,O,0,0,0,0,0⟩:=by
   simp[F_q4,S_q4,Scr.den,guardP,AllP,outM]
  rw[z3e hk hc e1 e2]
  congr 1
  simp[POp,partsK,condF,getF,mostF,clrF,unK,zOp,numT]
  simp only[z]
  ac_rfl
def newO (n:Int):TOf:=⟨n,[],nb⟩
theorem z74 {n:Int} (h:1<=n/\n<=6):VO (newO n):=(zpm h.1 h.2).1
noncomputable def runO (o:TOf) (l:List TOp):TOf:=l.foldl (fun o p=>(doS o p).1) o
def Runs:TOf->List TOp->Prop
 | _,[]=>True
 | o,p :: l=>(POp p/\(doS o p).2=0)/\Runs (doS o p).1 l
theorem z8f:∀ {l:List TOp} {o:TOf} {p:TOp},Runs o (l++[p])↔Runs o l/\POp p/\(doS (runO o l) p).2=0
 | [],o,p=>⟨fun h=>⟨trivial,h.1⟩,fun h=>⟨h.2,trivial⟩⟩
 | q :: l,o,p=>by
  show ((POp q/\(doS o q).2=0)/\Runs (doS o q).1 (l++[p]))↔_
  rw[z8f]
  exact⟨fun h=>⟨⟨h.1,h.2.1⟩,h.2.2⟩,fun h=>⟨h.1.1,h.1.2,h.2⟩⟩
theorem zcs (o:TOf) (l l':List TOp):runO o (l++l')=runO (runO o l) l':=List.foldl_append ..
theorem zbg (o:TOf) (l:List TOp) (p:TOp):runO o (l++[p])=(doS (runO o l) p).1:=by rw[zcs]; rfl
theorem za4:∀ {l l':List TOp} {o:TOf},Runs o (l++l')↔Runs o l/\Runs (runO o l) l'
 | [],l',o=>⟨fun h=>⟨trivial,h⟩,fun h=>h.2⟩
 | q :: l,l',o=>by
  show ((POp q/\(doS o q).2=0)/\Runs (doS o q).1 (l++l'))↔_
  rw[za4]
  exact⟨fun h=>⟨⟨h.1,h.2.1⟩,h.2.2⟩,fun h=>⟨h.1.1,h.1.2,h.2⟩⟩
variable {o:TOf} {l:List TOp}
theorem z36 (h:Runs o l) (n:Nat):Runs o (l.take n):=by
 rw[<- y2f n l] at h
 exact (za4.1 h).1
theorem zm6 (h:Runs o l) (hi:i<l.length):POp (l.getD i dF)/\(doS (runO o (l.take i)) (l.getD i dF)).2=0:=by
 have h1:=z36 h (i+1)
 rw[y39,yd hi] at h1
 have:=(z8f.1 h1).2
 rwa [<- z16 hi] at this
theorem z8u:∀ {l:List TOp} {o:TOf},VO o->Runs o l->VO (runO o l)
 | [],_,h,_=>h
 | q :: l,o,_,h=>show VO (runO (doS o q).1 l) from z8u (zc1 h.1.2) h.2
theorem zgv (hi:i<l.length):l.take (i+1)=l.take i++[l.getD i dF]:=by
 rw[y39,yd hi,z16 hi]
 rfl
theorem zdk (hv:VO o) (h:1<=p.U/\p.U<=9) (hc:p.B.length<=1000000):F_q3x o p=some (doS o p):=by
 rw[zu2 hv hv.smO hc,zeb hv h]
theorem zgw {n:Int} (hn:1<=n/\n<=6) (h:Runs (newO n) l):F_qv n l=some (runO (newO n) l,(l.length:Int),0):=by
 simp only[F_qv,S_qv,Scr.den]
 obtain⟨o,e,ho⟩:=zr (body:=fun i s=>(S_qv_b1 l i s).den) (n:=l.length) (fun i o=>o=runO (newO n) (l.take i)) (s0:=newO n) rfl (fun i o hi ho=>by
  obtain⟨h1,h2⟩:=zm6 h hi
  subst ho
  have hv:=z8u (z74 hn) (z36 h i)
  have hl:=h1.len
  simp only[S_qv_b1,Scr.den]
  rw[za3 om,@decide_eq_true _ (_) h1]
  simp only[obind]
  rw[y5 dk,zdk hv h1.1 om]
  simp only[obind]
  rw[y5 (by rw[h2]; decide)]
  exact⟨_,rfl,by rw[zgv hi,zbg]⟩)
 rw[y22 (ye _)] at ho
 subst ho
 have e:rangeM (fun i s=>(S_qv_b1 l i s).den) l.length 0 (⟨n,[],(⟨[],[],[],[]⟩:TBo)⟩:TOf)=some (.next (runO (newO n) l)):=e
 rw[e]
 rfl
def VJ (j:TJo):Prop:=(1<=j.Z/\j.Z<=6)/\j.N.length<=400/\(0<=j.Af/\j.Af<=j.N.length)/\Runs (newO j.Z) j.N
noncomputable def nowJ (j:TJo):TOf:=runO (newO j.Z) j.N
noncomputable def stbJ (j:TJo):TOf:=runO (newO j.Z) (j.N.take j.Af.toNat)
variable {j:TJo}
theorem VJ.now (h:VJ j):VO (nowJ j):=z8u (z74 h.1) h.2.2.2
theorem VJ.stb (h:VJ j):VO (stbJ j):=z8u (z74 h.1) (z36 h.2.2.2 _)
theorem z5c (h:VJ j):F_q2r j=some (nowJ j,0):=by
 obtain⟨h1,h2,h3,h4⟩:=h
 simp only[F_q2r,S_q2r,Scr.den,F_q4s,S_q4s,za,obind]
 rw[y5 sk,zgw h1 h4]
 rfl
theorem z5d (h:VJ j):F_q33 j=some true:=by
 simp only[F_q33,S_q33,Scr.den,z5c h,obind]
 rfl
theorem z8g (h:VJ j):F_q3f j=some (stbJ j,0):=by
 have hv:=z5d h
 obtain⟨h1,h2,h3,h4⟩:=h
 simp only[F_q3f,S_q3f,Scr.den,hv,obind]
 rw[y5 dk,zgw h1 (z36 h4 _)]
 simp only[obind]
 rw[z6 ⟨h3.1,om,trivial⟩]
 rfl
theorem cloneOp (hl:l.length<=1000000):F_q55 l=some l:=by
 simp only[F_q55,S_q55,Scr.den]
 rw[Ga]
theorem znd (hl:l.length<=1000000):F_q6r l=some l:=by
 simp only[F_q6r,S_q6r,Scr.den]
 rw[Ga]
def zJ:TJo:=⟨0,[],0⟩
open Classical in
noncomputable def appendS (j:TJo) (p:TOp):TJo×Int :=
 if ¬ POp p then (zJ,1) else if (doS (nowJ j) p).2≠0 then (zJ,(doS (nowJ j) p).2) else if j.N.length=400 then (zJ,3) else (⟨j.Z,j.N++[p],j.Af⟩,0)
theorem z4c (hp:¬ POp p):appendS j p=(zJ,1):=y6 hp
theorem z4d (hp:POp p) (h:(doS (nowJ j) p).2≠0):appendS j p=(zJ,(doS (nowJ j) p).2):=(y5 fun k=>k hp).trans (y6 h)
theorem z3v (hp:POp p) (h:(doS (nowJ j) p).2=0) (hl:j.N.length=400):appendS j p=(zJ,3):=(y5 fun k=>k hp).trans ((y5 fun k=>k h).trans (y6 hl))
theorem z5e (hp:POp p) (h:(doS (nowJ j) p).2=0) (hl:j.N.length≠400):appendS j p=(⟨j.Z,j.N++[p],j.Af⟩,0):=(y5 fun k=>k hp).trans ((y5 fun k=>k h).trans (y5 hl))
theorem zct (h:VJ j) (hc:p.B.length<=1000000):F_q54 j p=some (appendS j p):=by
 have hv:=h.now
 simp only[F_q54,S_q54,Scr.den,z5c h,obind]
 rw[Gg,za3 hc]
 simp only[obind,z8]
 by_cases hp:POp p
 ·rw[@decide_eq_true _ (_) hp,y5 sj,zdk hv hp.1 hc]
  simp only[obind]
  by_cases h0:(doS (nowJ j) p).2=0
  ·rw[y5 (by simp[h0])]
   by_cases hl:j.N.length=400
   ·rw[y6 (by simp[hl]),z3v hp h0 hl]
    rfl
   ·rw[y5 sk,z5e hp h0 hl]
    simp only[F_q7o,S_q7o,Scr.den,znd (show j.N.length<=1000000 by have:=h.2.1; omega),obind]
    rw[z6 ⟨by have:=h.2.1; show (j.N.length+1) * (2 * 88)<=2 ^ 48; omega,trivial⟩,z6 ⟨by have:=h.2.1; rw[yp]; simp; omega,trivial⟩]
  ·rw[y6 (by simpa using h0),z4d hp h0]
   rfl
 ·rw[@decide_eq_false _ (_) hp,y6 sj,z4c hp]
  rfl
def flushJ (j:TJo):TJo:=⟨j.Z,j.N,(j.N.length:Int)⟩
def crashJ (j:TJo):TJo:=⟨j.Z,j.N.take j.Af.toNat,j.Af⟩
theorem zne (h:VJ j):F_q6t j=some (flushJ j):=by
 have hl:=h.2.1
 simp only[F_q6t,S_q6t,Scr.den,z5d h,obind,y17,zd]
 simp only[F_q4d,S_q4d,Scr.den,cloneOp (show j.N.length<=1000000 from om),obind]
 rfl
theorem znf (h:VJ j):F_q6u j=some (crashJ j):=by
 have hl:=h.2.1
 have hf:=h.2.2.1
 simp only[F_q6u,S_q6u,Scr.den,z5d h,obind,y17]
 rw[z6 ⟨hf.1,om,trivial⟩]
 simp only[zd]
 simp only[F_q4d,S_q4d,Scr.den,cloneOp (show (j.N.take j.Af.toNat).length<=1000000 by rw[y1h]; omega),obind]
 rfl
theorem zgx (h:VJ j) (h0:(appendS j p).2=0):VJ (appendS j p).1/\appendS j p=(⟨j.Z,j.N++[p],j.Af⟩,0)/\POp p/\(doS (nowJ j) p).2=0:=by
 by_cases hp:POp p
 ·by_cases h1:(doS (nowJ j) p).2=0
  ·by_cases hl:j.N.length=400
   ·rw[z3v hp h1 hl] at h0; cases h0
   ·rw[z5e hp h1 hl]
    obtain⟨q1,q2,q3,q4⟩:=h
    refine⟨⟨q1,?_,⟨q3.1,?_⟩,z8f.2 ⟨q4,hp,h1⟩⟩,rfl,hp,h1⟩
    ·show (j.N++[p]).length<=400
     rw[yp]; simp; omega
    ·show j.Af<=((j.N++[p]).length:Int)
     have h7:(j.N++[p]).length=j.N.length+1:=sj
     have h8:=q3.2
     omega
  ·rw[z4d hp h1] at h0
   exact absurd h0 h1
 ·rw[z4c hp] at h0; cases h0
theorem zek:nowJ ⟨j.Z,j.N++[p],j.Af⟩=(doS (nowJ j) p).1:=zbg ..
theorem zel (h:VJ j):stbJ ⟨j.Z,j.N++[p],j.Af⟩=stbJ j:=by
 unfold stbJ
 have:=h.2.2.1
 rw[List.take_append_of_le_length (show j.Af.toNat<=j.N.length from om)]
theorem zs7 (h:VJ j):VJ (flushJ j):=⟨h.1,h.2.1,⟨by show (0:Int)<=(j.N.length:Int); omega,y18 _⟩,h.2.2.2⟩
theorem zq6 (j:TJo):nowJ (flushJ j)=nowJ j:=rfl
theorem zgy (j:TJo):stbJ (flushJ j)=nowJ j:=by
 unfold stbJ nowJ flushJ
 simp only[yb]
 rw[y22 (ye _)]
theorem zs8 (h:VJ j):VJ (crashJ j):=by
 obtain⟨h1,h2,h3,h4⟩:=h
 refine⟨h1,?_,⟨h3.1,?_⟩,z36 h4 _⟩
 ·show (j.N.take j.Af.toNat).length<=400
  rw[y1h]; omega
 ·show j.Af<=((j.N.take j.Af.toNat).length:Int)
  rw[y1h]; omega
theorem zq7 (j:TJo):nowJ (crashJ j)=stbJ j:=rfl
theorem zgz (j:TJo):stbJ (crashJ j)=stbJ j:=by
 unfold stbJ crashJ
 simp only
 rw[List.take_take,Nat.min_self]
variable {c:Y8} {y:Int}
theorem zm7 {l:List TRi} {r:TRi}:hasR (putL l r) c y=true↔hasR l c y=true\/(r.B=c/\r.D=y):=by
 constructor
 ·intro h
  obtain⟨x,hx,h1,h2⟩:=has_iff.1 h
  rcases zfp hx with rfl | hx
  ·exact .inr ⟨h1,h2⟩
  ·exact .inl (has_iff.2 ⟨x,hx,h1,h2⟩)
 ·rintro (h | ⟨h1,h2⟩)
  ·exact zly h
  ·exact has_iff.2 ⟨r,z7j l r,h1,h2⟩
theorem zbh (h0:(doS o p).2=0):(doS o p).1.S=o.S/\∀ c y,
  (hasR (doS o p).1.L c y=true↔hasR o.L c y=true\/(p.U=8/\p.B=c/\p.D=y)) /\
  (rightV (doS o p).1.L c y).A=(if p.U=8/\p.B=c/\p.D=y then max (rightV o.L c y).A p.A else (rightV o.L c y).A) /\
  (rightV (doS o p).1.L c y).F=(if p.U=8/\p.B=c/\p.D=y then max (rightV o.L c y).F p.Ae else (rightV o.L c y).F) /\
  (rightV (doS o p).1.L c y).Q=(if p.U=7/\p.B=c/\p.D=y then (rightV o.L c y).Q+p.V else (rightV o.L c y).Q) /\
  (p.U=7/\p.B=c/\p.D=y->hasR o.L c y=true/\1<=p.V):=by
 obtain⟨hv,_,e⟩:=zfr h0
 rw[e] at h0 |-
 by_cases c8:p.U=8
 ·have e8:stepS o p=hearS o p:=by unfold stepS; rw[y6 c8]
  rw[e8] at h0 |-
  obtain⟨r,e1,hr,h1,h2,h3,_⟩:=zfq hv h0
  rw[e1]
  refine⟨rfl,fun c y=>?_⟩
  have hr':=z9v (l:=o.L) hv.srt hv.ok hr c y
  have k7:¬ (p.U=7/\p.B=c/\p.D=y):=fun k=>om
  rw[y5 k7]
  refine⟨?_,?_,?_,?_,fun k=>absurd k k7⟩
  ·rw[zm7,h1,h2]
   exact⟨fun k=>k.imp_right fun q=>⟨c8,q⟩,fun k=>k.imp_right fun q=>q.2⟩
  all_goals
   rw[hr']
   by_cases k:p.B=c/\p.D=y
   ·rw[y6 (show r.B=c/\r.D=y by rw[h1,h2]; exact k)]
    try rw[y6 (show p.U=8/\p.B=c/\p.D=y from ⟨c8,k⟩)]
    obtain⟨rfl,rfl⟩:=k
    rw[h3]
    try simp only
    try (split <;> omega)
   ·rw[y5 (show ¬ (r.B=c/\r.D=y) by rw[h1,h2]; exact k)]
    try rw[y5 (show ¬ (p.U=8/\p.B=c/\p.D=y) from fun q=>k q.2)]
 by_cases c7:p.U=7
 ·have e7:stepS o p=giveS o p:=by unfold stepS; rw[y5 c8,y6 c7]
  rw[e7] at h0 |-
  obtain⟨g1,g2,_,r,e1,hr,h3,_⟩:=zm0 hv h0
  rw[e1]
  refine⟨rfl,fun c y=>?_⟩
  have h1:r.B=p.B:=by rw[h3]
  have h2:r.D=p.D:=by rw[h3]
  have hr':=z9v (l:=o.L) hv.srt hv.ok hr c y
  have k8:¬ (p.U=8/\p.B=c/\p.D=y):=fun k=>c8 k.1
  rw[y5 k8,y5 k8]
  refine⟨?_,?_,?_,?_,fun k=>⟨by rw[<- k.2.1,<- k.2.2]; exact g1,g2⟩⟩
  ·rw[zm7,h1,h2]
   refine⟨fun k=>k.elim .inl fun q=>.inl ?_,fun k=>k.elim .inl fun q=>absurd q k8⟩
   rw[<- q.1,<- q.2]
   exact g1
  all_goals
   rw[hr']
   by_cases k:p.B=c/\p.D=y
   ·rw[y6 (show r.B=c/\r.D=y by rw[h1,h2]; exact k)]
    try rw[y6 (show p.U=7/\p.B=c/\p.D=y from ⟨c7,k⟩)]
    obtain⟨rfl,rfl⟩:=k
    rw[h3]
   ·rw[y5 (show ¬ (r.B=c/\r.D=y) by rw[h1,h2]; exact k)]
    try rw[y5 (show ¬ (p.U=7/\p.B=c/\p.D=y) from fun q=>k q.2)]
 obtain⟨e1,_⟩:=zlz hv ⟨c7,c8⟩ h0
 rw[e1]
 refine⟨rfl,fun c y=>?_⟩
 have k8:¬ (p.U=8/\p.B=c/\p.D=y):=fun k=>c8 k.1
 have k7:¬ (p.U=7/\p.B=c/\p.D=y):=fun k=>c7 k.1
 rw[y5 k8,y5 k8,y5 k7]
 exact⟨⟨.inl,fun k=>k.elim id fun q=>absurd q k8⟩,rfl,rfl,rfl,fun k=>absurd k k7⟩
theorem zvq (h0:(doS o p).2=0):(doS o p).1.S=o.S:=(zbh h0).1
def LeO (a b:TOf):Prop:=∀ c y,(hasR a.L c y=true->hasR b.L c y=true)/\(rightV a.L c y).A<=(rightV b.L c y).A/\(rightV a.L c y).F<=(rightV b.L c y).F/\(rightV a.L c y).Q<=(rightV b.L c y).Q
theorem LeO.refl (a:TOf):LeO a a:=fun _ _=>⟨id,y18 _,y18 _,y18 _⟩
variable {a b:TOf}
theorem LeO.trans {c:TOf} (h:LeO a b) (h':LeO b c):LeO a c:=fun d y=>by
 obtain⟨h1,h2,h3,h4⟩:=h d y
 obtain⟨g1,g2,g3,g4⟩:=h' d y
 exact⟨fun k=>g1 (h1 k),om,om,om⟩
theorem zwl (h0:(doS o p).2=0):LeO o (doS o p).1:=fun c y=>by
 obtain⟨h1,h2,h3,h4,h5⟩:=(zbh h0).2 c y
 rw[h2,h3,h4]
 refine⟨fun k=>h1.2 (.inl k),?_,?_,?_⟩
 ·split <;> omega
 ·split <;> omega
 ·split
  ·have:=(h5 ‹_›).2; omega
  ·omega
theorem zm8:∀ {l:List TOp} {o:TOf},Runs o l->LeO o (runO o l)
 | [],o,_=>LeO.refl o
 | q :: l,o,h=>show LeO o (runO (doS o q).1 l) from (zwl h.1.2).trans (zm8 h.2)
theorem zem (h:VJ j):LeO (stbJ j) (nowJ j):=by
 have h4:=h.2.2.2
 unfold stbJ nowJ
 rw[<- y2f j.Af.toNat j.N] at h4
 have h5:=(za4.1 h4).2
 have:=zm8 h5
 rwa [<- zcs,y2f] at this
def jAt (w:TWo) (k:Nat):TJo:=w.K.getD k dF
def nthN (l:List Int) (k:Nat):Int:=l.getD k dF
def KnownJ (t:TTr) (a b:TOf) (k:Nat):Prop :=
 (∀ r∈a.L,J13.hasP t.E r.B r.D=true/\r.A<=nthN (J13.potAt t r.B r.D).A k/\r.F<=nthN (J13.potAt t r.B r.D).F k) /\
 ∀ p∈t.E,nthN p.G k<=(rightV b.L p.B p.D).Q
def ToOk (t:TTr) (m:TMe):Prop:=(1<=m.To/\m.To<=t.P)/\(0<=m.A/\m.A<=nthN (J13.potAt t m.B m.D).A (m.To-1).toNat)/\(0<=m.F/\m.F<=nthN (J13.potAt t m.B m.D).F (m.To-1).toNat)/\m.Q=0/\m.M=0
def FromOk (t:TTr) (st:Nat->TOf) (m:TMe):Prop:=(1<=m.Aa/\m.Aa<=t.P)/\m.To=0/\(0<=m.Q/\m.Q<=(rightV (st (m.Aa-1).toNat).L m.B m.D).Q)/\(0<=m.M/\m.M<=1000000000000000)/\m.A=0/\m.F=0
def MsgOk (t:TTr) (st:Nat->TOf) (m:TMe):Prop:=J13.hasP t.E m.B m.D=true/\((m.Aa=0/\ToOk t m)\/(m.Aa≠0/\FromOk t st m))
noncomputable def stW (w:TWo) (k:Nat):TOf:=stbJ (jAt w k)
noncomputable def noW (w:TWo) (k:Nat):TOf:=nowJ (jAt w k)
def VW (w:TWo):Prop:=J13.TOk w.I/\(w.K.length:Int)=w.I.P/\w.O.length<=200 /\
 (∀ k,k<w.K.length->VJ (jAt w k)/\(jAt w k).Z=(k:Int)+1/\KnownJ w.I (noW w k) (stW w k) k)/\∀ m∈w.O,MsgOk w.I (stW w) m
theorem zfv:∀ {l:List TOp} {o:TOf},Runs o l->(runO o l).S=o.S
 | [],_,_=>rfl
 | p :: l,o,h=>by
  show (runO (doS o p).1 l).S=_
  rw[zfv h.2,(zvq h.1.2)]
variable {t:TTr}
theorem z3w (h:J13.TOk t):J13.Small t:=fun p hp=>by
 have:=J13.PGood.len (h.good p hp)
 exact this
variable {w:TWo}
theorem VW.small (h:VW w):J13.Small w.I:=z3w h.1
theorem VW.len (h:VW w):1<=w.K.length/\w.K.length<=6:=by
 have h1:=h.1.1
 have h2:=h.2.1
 omega
theorem zfw (h:VJ j):(nowJ j).S=j.Z:=zfv h.2.2.2
theorem zue (h:VJ j):(stbJ j).S=j.Z:=zfv (z36 h.2.2.2 _)
def ups (n:Nat) (f:Nat->α):List α:=(List.range n).map f
variable {n:Nat} {f:Nat->α}
theorem zx:(ups n f).length=n:=by simp[ups]
theorem z2h [Inhabited α] (h:i<n):(ups n f).getD i dF=f i:=by simp[ups,List.getD_eq_getElem?_getD,h]
theorem z4k:ups (n+1) f=ups n f++[f n]:=by simp[ups,List.range_succ]
theorem zh0 (h:VW w):F_qc w=some (ups w.K.length (noW w),ups w.K.length (stW w),true):=by
 have hl:=h.len
 simp only[F_qc,S_qc,Scr.den]
 obtain⟨s,e,hs⟩:=zr (body:=fun i s=>(S_qc_b1 w i s).den) (n:=w.K.length) (fun i s=>s=(ups i (noW w),ups i (stW w))) (s0:=(([]:List TOf),([]:List TOf))) rfl (fun i s hi hI=>by
  subst hI
  obtain⟨h1,h2,_⟩:=h.2.2.2.1 i hi
  simp only[S_qc_b1,Scr.den]
  rw[show w.K.getD i dF=jAt w i from rfl,z5c h1]
  simp only[obind]
  rw[z8g h1]
  simp only[obind,z8]
  rw[h2,wrapId (n:=(i:Int)+1) om om,y5 sj,z6 ⟨by rw[zx]; omega,by rw[zx]; omega,trivial⟩]
  exact⟨_,rfl,by rw[z4k,z4k]; rfl⟩)
 rw[e,hs]
 simp only[zd]
 rw[z6 ⟨by rw[zx]; omega,trivial⟩,z6 ⟨by rw[zx]; omega,trivial⟩]
theorem z1h (h:J13.hasP t.E c y=true):J13.potM t c y=(J13.potAt t c y,true):=y6 h
theorem zs9 (ht:J13.TOk t) (hk:(k:Int)<t.P) (hn:a.S=(k:Int)+1) (h:KnownJ t a b k):F_q7 t a b=some true:=by
 have h6:=ht.1
 have ew:i64.wrap (a.S-1)=(k:Int):=by rw[hn,wrapId om om]; omega
 simp only[F_q7,S_q7,Scr.den]
 obtain⟨u,e,_⟩:=zr (body:=fun i s=>(S_q7_b1 t a i s).den) (n:=a.L.length) (fun _ _=>True) (s0:=()) trivial (fun i u hi _=>by
  obtain⟨h1,h2,h3⟩:=h.1 _ (z7 hi)
  have hp:=ht.potAt h1
  have hg:=hp.2.2.2.1.1.1
  have ha:=hp.2.2.2.1.2.2.1.1
  simp only[S_q7_b1,Scr.den,J13.Pot_eq ht.small,z1h h1,obind,z8,ew,yb]
  unfold nthN at h2 h3
  rw[z6 ⟨fun _=>om,fun _=>om,fun _=>om,fun _=>om,trivial⟩,y5 (by simp only[y27,yc,yo,y4e,y7]; omega)]
  exact⟨(),rfl,trivial⟩)
 rw[e]
 simp only[zd]
 obtain⟨u,e,_⟩:=zr (body:=fun i s=>(S_q7_b2 t a b i s).den) (n:=t.E.length) (fun _ _=>True) (s0:=()) trivial (fun i u hi _=>by
  have h1:=h.2 _ (z7 hi)
  have hp:=(ht.2.2 i hi).1
  have hh:=hp.2.2.2.1.2.1.1
  simp only[S_q7_b2,Scr.den,z2k,obind,ew,yb]
  unfold nthN at h1
  rw[Gb,y5 (by simp only[y7]; omega)]
  exact⟨(),rfl,trivial⟩)
 rw[e]
 rfl
theorem z82 (n a b:Int):F_q29 n a b=some (decide (a<=n/\n<=b)):=by
 simp only[F_q29,S_q29,Scr.den,za]
 congr 1
 rw[y1s]; simp
variable {m:TMe}
theorem zen (ht:J13.TOk t) {f:Nat->TOf} (hn:(n:Int)=t.P) (h:MsgOk t f m):F_q34 t (ups n f) m=some true:=by
 have h6:=ht.1
 obtain⟨h1,h2⟩:=h
 have hp:=ht.potAt h1
 have hg:=hp.2.2.2.1.1.1
 have ha:=hp.2.2.2.1.2.2.1.1
 simp only[F_q34,S_q34,Scr.den,J13.Pot_eq ht.small,z1h h1,obind,z82,za]
 rw[y5 dk]
 rcases h2 with ⟨h0,q1,q2,q3,q4,q5⟩ | ⟨h0,q1,q2,q3,q4,q5,q6⟩
 ·unfold nthN at q2 q3
  have ew:i64.wrap (m.To-1)=m.To-1:=wrapId om om
  rw[y6 (by simp[h0]),ew,y9 q1,Gg,y9 q2]
  simp only[obind]
  rw[Gg,y9 q3]
  simp only[obind]
  rw[z6 ⟨fun _=>om,fun _=>om,fun _=>om,fun _=>om,trivial⟩,q4,q5]
  rfl
 ·have ew:i64.wrap (m.Aa-1)=m.Aa-1:=wrapId om om
  rw[y5 (by simpa using h0),ew,y9 q1,q2,z2h (show (m.Aa-1).toNat<n from om),z2k,Gg]
  simp only[obind]
  rw[Gg,y9 q3]
  simp only[obind]
  rw[Gg,y9 q4]
  simp only[obind]
  rw[z6 ⟨fun _=>om,fun _=>by rw[zx]; omega,trivial⟩,q5,q6]
  rfl
theorem z6j (h:VW w):F_qq w=some true:=by
 have hl:=h.len
 have hst:=zh0 h
 have hw:=h
 obtain⟨h1,h2,h3,h4,h5⟩:=h
 simp only[F_qq,S_qq,Scr.den,J13.Valid_eq hw.small,obind,z8]
 rw[y9 h1,y5 (by simp[h2]; omega),hst]
 simp only[obind]
 rw[y5 dk]
 obtain⟨u,e,_⟩:=zr (body:=fun i s=>(S_qq_b1 w (ups w.K.length (noW w),ups w.K.length (stW w),true) i s).den) (n:=(ups w.K.length (noW w)).length) (fun _ _=>True) (s0:=()) trivial (fun i u hi _=>by
  rw[zx] at hi
  obtain⟨q1,q2,q3⟩:=h4 i hi
  simp only[S_qq_b1,Scr.den]
  rw[z2h hi,z2h hi,zs9 h1 om (show (noW w i).S=_ from (zfw q1).trans q2) q3]
  simp only[obind]
  rw[z6 ⟨by rw[zx]; exact hi,trivial⟩,y5 dk]
  exact⟨(),rfl,trivial⟩)
 rw[e]
 simp only[zd]
 have hx:F_qz w.O w (ups w.K.length (stW w))=some (-1):=by
  simp only[F_qz,S_qz,Scr.den]
  obtain⟨u,e,_⟩:=zr (body:=fun i s=>(S_qz_b1 w.O w (ups w.K.length (stW w)) i s).den) (n:=w.O.length) (fun _ _=>True) (s0:=()) trivial (fun i u hi _=>by
   simp only[S_qz_b1,F_q3y,S_q3y,Scr.den]
   rw[zen h1 h2 (h5 _ (z7 hi))]
   simp only[obind]
   rw[y5 dk]
   exact⟨(),rfl,trivial⟩)
  rw[e]
  rfl
 simp only[F_q52,S_q52,Scr.den,hx,obind]
 rfl
theorem z75 (h:VJ j):F_q5 j=some (nowJ j,stbJ j,true):=by
 obtain⟨h1,h2,h3,h4⟩:=h
 have hn:F_q42 j.Z=some (newO j.Z,0):=by
  rw[zec,y5 om]
  rfl
 simp only[F_q5,S_q5,Scr.den,hn,obind,z8]
 rw[y5 sk]
 obtain⟨s,e,hs⟩:=zr (body:=fun i s=>(S_q5_b1 j i s).den) (n:=j.N.length) (fun i s=>s=(runO (newO j.Z) (j.N.take i),runO (newO j.Z) (j.N.take (min i j.Af.toNat)),(0:Int))) (s0:=(newO j.Z,newO j.Z,(0:Int))) (by simp; rfl) (fun i s hi hI=>by
  subst hI
  obtain⟨q1,q2⟩:=zm6 h4 hi
  have hv:=z8u (z74 h1) (z36 h4 i)
  have hl:=q1.len
  simp only[S_q5_b1,Scr.den,z8]
  rw[Gg,z5b om,@decide_eq_true _ (_) q1]
  simp only[obind]
  rw[y5 sj,zbd hv.smO om]
  simp only[obind]
  have e1:runO (newO j.Z) (j.N.take (i+1))=(doS (runO (newO j.Z) (j.N.take i)) (j.N.getD i dF)).1:=by rw[zgv hi,zbg]
  by_cases c:(i:Int)<j.Af
  ·rw[y6 (by simpa using c)]
   refine⟨_,rfl,?_⟩
   rw[show min (i+1) j.Af.toNat=i+1 from om,e1,q2]
  ·rw[y5 (by simpa using c)]
   refine⟨_,rfl,?_⟩
   rw[show min (i+1) j.Af.toNat=min i j.Af.toNat from om,e1,q2])
 rw[e,hs]
 simp only[zd]
 rw[y22 (ye _),show min j.N.length j.Af.toNat=j.Af.toNat from om]
 rfl
theorem z5f (h:VJ j):F_q44 j=some (nowJ j,0):=by
 simp only[F_q44,S_q44,Scr.den,z75 h,obind]
 rfl
theorem zhu (h:VJ j):F_q5y j=some (stbJ j,0):=by
 simp only[F_q5y,S_q5y,Scr.den,z75 h,obind]
 rfl
theorem zbi (h:VJ j):F_q4q j=some true:=by
 simp only[F_q4q,S_q4q,Scr.den,z75 h,obind]
theorem zju (h:VJ j):F_q5w j=some (flushJ j):=by
 simp only[F_q5w,S_q5w,Scr.den,zbi h,obind,y17,zd]
 rfl
theorem zjv (h:VJ j):F_q5x j=some (crashJ j):=by
 have hl:=h.2.1
 have hf:=h.2.2.1
 simp only[F_q5x,S_q5x,Scr.den,zbi h,obind,y17]
 rw[z6 ⟨hf.1,om,by rw[y1h]; omega,trivial⟩]
 rfl
theorem zag (h:VJ j) (hc:p.B.length<=1000000):F_q4r j p=some (appendS j p):=by
 have hv:=h.now
 simp only[F_q4r,S_q4r,Scr.den,z5f h,obind]
 rw[Gg,z5b hc]
 simp only[obind,z8]
 by_cases hp:POp p
 ·rw[@decide_eq_true _ (_) hp,y5 sj,zbd hv.smO hc]
  simp only[obind]
  by_cases h0:(doS (nowJ j) p).2=0
  ·rw[y5 (by simp[h0])]
   by_cases hl:j.N.length=400
   ·rw[y6 (by simp[hl]),z3v hp h0 hl]
    rfl
   ·rw[y5 sk,z5e hp h0 hl]
    have:=h.2.1
    rw[Gb,z6 ⟨by rw[yp]; simp; omega,trivial⟩]
  ·rw[y6 (by simpa using h0),z4d hp h0]
   rfl
 ·rw[@decide_eq_false _ (_) hp,y6 sj,z4c hp]
  rfl
theorem z1k (t:TTr) (c:Y8) (y:Int):F_q2y t c y=some (J13.potM t c y):=by
 simp only[F_q2y,S_q2y,Scr.den,J13.at_eq,obind]
 unfold J13.potM
 by_cases h:J13.hasP t.E c y=true
 ·have hlt:=(J13.pix_lt h).1
  rw[y6 h,y6 h,y6 sj,yb,z6 ⟨om,hlt,trivial⟩]
  rfl
 ·rw[y5 h,y5 h,y5 dk]
theorem z8v (ht:J13.TOk w.I) {f:Nat->TOf} (hn:(n:Int)=w.I.P) (h:MsgOk w.I f m):F_q2z w m (ups n f)=some true:=by
 have h6:=ht.1
 obtain⟨h1,h2⟩:=h
 have hp:=ht.potAt h1
 have hg:=hp.2.2.2.1.1.1
 have ha:=hp.2.2.2.1.2.2.1.1
 simp only[F_q2z,S_q2z,Scr.den,z1k,z1h h1,obind,za,z8]
 rw[y5 dk]
 rcases h2 with ⟨h0,q1,q2,q3,q4,q5⟩ | ⟨h0,q1,q2,q3,q4,q5,q6⟩
 ·unfold nthN at q2 q3
  have ew:i64.wrap (m.To-1)=m.To-1:=wrapId om om
  rw[y6 (by simp[h0]),ew,y5 (by simp[q4,q5,zx]; omega),z6 ⟨fun _=>om,fun _=>om,fun _=>om,fun _=>om,trivial⟩]
  rw[y9 q2.1,y9 q2.2,y9 q3.1,y9 q3.2]
  rfl
 ·have ew:i64.wrap (m.Aa-1)=m.Aa-1:=wrapId om om
  rw[y5 (by simpa using h0),y5 (by simp[q2,q5,q6,zx]; omega),ew,yl,z2h (show (m.Aa-1).toNat<n from om),z1g,zg (by simp[AllP]; omega)]
  simp only[obind]
  rw[z6 ⟨fun _=>om,fun _=>by rw[zx]; omega,fun _=>by rw[zx]; omega,trivial⟩,y9 q3.1,y9 q3.2]
  rfl
theorem z31 (h:VW w):F_q0 w=some true:=by
 have hl:=h.len
 have hw:=h
 obtain⟨h1,h2,h3,h4,h5⟩:=h
 have h6:=h1.1
 simp only[F_q0,S_q0,Scr.den,J13.r13_Valid_eq hw.small,obind,z8]
 rw[y9 h1,y5 (by simp[h2]; omega)]
 obtain⟨s,e,hs⟩:=zr (body:=fun i s=>(S_q0_b3 w i s).den) (n:=w.K.length) (fun i s=>s=ups i (stW w)) (s0:=([]:List TOf)) rfl (fun i s hi hI=>by
  subst hI
  obtain⟨q1,q2,q3⟩:=h4 i hi
  simp only[S_q0_b3,Scr.den]
  rw[show w.K.getD i dF=jAt w i from rfl,q2,wrapId (n:=(i:Int)+1) om om,y5 sj,z75 q1]
  simp only[obind]
  rw[y5 dk,z6 ⟨by rw[zx]; omega,trivial⟩]
  obtain⟨u,e,_⟩:=zr (body:=fun k s=>(S_q0_b1 w i (nowJ (jAt w i),stbJ (jAt w i),true) k s).den) (n:=(nowJ (jAt w i)).L.length) (fun _ _=>True) (s0:=()) trivial (fun k u hk _=>by
   obtain⟨z1,z2,z3⟩:=q3.1 _ (z7 hk)
   have hp:=h1.potAt z1
   have hg:=hp.2.2.2.1.1.1
   have ha:=hp.2.2.2.1.2.2.1.1
   simp only[S_q0_b1,Scr.den,z1k]
   unfold nthN at z2 z3
   rw[show (nowJ (jAt w i)).L=(noW w i).L from rfl,z1h z1]
   simp only[obind,z8]
   rw[z6 ⟨fun _=>om,fun _=>om,trivial⟩,y5 (by simp only[y27,yc,yo,y4e,y7]; omega)]
   exact⟨(),rfl,trivial⟩)
  rw[e]
  simp only[zd]
  obtain⟨u,e,_⟩:=zr (body:=fun k s=>(S_q0_b2 w i (nowJ (jAt w i),stbJ (jAt w i),true) k s).den) (n:=w.I.E.length) (fun _ _=>True) (s0:=()) trivial (fun k u hk _=>by
   have z1:=q3.2 _ (z7 hk)
   have hp:=(h1.2.2 k hk).1
   have hh:=hp.2.2.2.1.2.1.1
   simp only[S_q0_b2,Scr.den,z1g,obind]
   unfold nthN at z1
   rw[Ga,y5 (by simp only[y7]; exact y2v.2 z1)]
   exact⟨(),rfl,trivial⟩)
  rw[e]
  exact⟨_,rfl,by rw[z4k]; rfl⟩)
 rw[e,hs]
 simp only[zd]
 obtain⟨u,e,_⟩:=zr (body:=fun i s=>(S_q0_b4 w (ups w.K.length (stW w)) i s).den) (n:=w.O.length) (fun _ _=>True) (s0:=()) trivial (fun i u hi _=>by
  simp only[S_q0_b4,Scr.den]
  rw[z8v h1 h2 (h5 _ (z7 hi))]
  simp only[obind]
  rw[y5 dk]
  exact⟨(),rfl,trivial⟩)
 rw[e]
 rfl
def zWd:TWo:=⟨⟨0,[]⟩,[],[]⟩
def sendS (w:TWo) (m:TMe) (e:Int):TWo×Int:=if e≠0 then (zWd,e) else if w.O.length=200 then (zWd,3) else (⟨w.I,w.K,w.O++[m]⟩,0)
def keepS (w:TWo) (k:Nat) (j:TJo) (e:Int):TWo×Int:=if e≠0 then (zWd,e) else (⟨w.I,w.K.set k j,w.O⟩,0)
def tresS (w:TWo) (r:TTr×Int):TWo×Int:=if r.2≠0 then (zWd,r.2) else (⟨r.1,w.K,w.O⟩,0)
def loseW (w:TWo) (i:Nat):TWo:=⟨w.I,w.K,w.O.eraseIdx i⟩
def hearOp (m:TMe):TOp:=⟨8,m.B,m.D,0,0,0,0,0,m.A,m.F⟩
noncomputable def actS (w:TWo) (s:TSt):TWo×Int :=
 if ¬ (1<=s.Z/\s.Z<=w.K.length) then (zWd,6) else
 if s.U=5 then (if s.Op.U=8 then (zWd,9) else keepS w (s.Z-1).toNat (appendS (jAt w (s.Z-1).toNat) s.Op).1 (appendS (jAt w (s.Z-1).toNat) s.Op).2) else
 if s.U=6 then keepS w (s.Z-1).toNat (flushJ (jAt w (s.Z-1).toNat)) 0 else
 if s.U=7 then keepS w (s.Z-1).toNat (crashJ (jAt w (s.Z-1).toNat)) 0 else
 sendS w (reportS (stW w (s.Z-1).toNat) s.B s.D).1 (reportS (stW w (s.Z-1).toNat) s.B s.D).2
def mAt (w:TWo) (i:Nat):TMe:=w.O.getD i dF
noncomputable def delivS (w:TWo) (i:Nat):TWo×Int :=
 if (mAt w i).To=0 then (if (J13.hearM w.I (mAt w i)).2≠0 then (zWd,(J13.hearM w.I (mAt w i)).2) else (⟨(J13.hearM w.I (mAt w i)).1,w.K,w.O.eraseIdx i⟩,0)) else
 keepS (loseW w i) ((mAt w i).To-1).toNat (appendS (jAt w ((mAt w i).To-1).toNat) (hearOp (mAt w i))).1 (appendS (jAt w ((mAt w i).To-1).toNat) (hearOp (mAt w i))).2
noncomputable def mailS (w:TWo) (s:TSt):TWo×Int :=
 if ¬ (0<=s.Aj/\s.Aj<w.O.length) then (zWd,6) else if s.U=9 then delivS w s.Aj.toNat else if s.U=11 then sendS w (mAt w s.Aj.toNat) 0 else (loseW w s.Aj.toNat,0)
noncomputable def stepW (w:TWo) (s:TSt):TWo×Int :=
 if s.U=1 then tresS w (J13.setM w.I s.B s.D s.V) else
 if s.U=2 then tresS w (J13.grantM w.I s.Z s.B s.D s.V) else
 if s.U=3 then tresS w (J13.askM w.I s.Z s.B s.D s.V) else
 if s.U=4 then sendS w (J13.tellM w.I s.Z s.B s.D).1 (J13.tellM w.I s.Z s.B s.D).2 else
 if 5<=s.U/\s.U<=8 then actS w s else if 9<=s.U/\s.U<=11 then mailS w s else (zWd,1)
variable {e:Int}
theorem z4w (h:e≠0):sendS w m e=(zWd,e):=y6 h
theorem z5g (h:w.O.length=200):sendS w m 0=(zWd,3):=(y5 fun k=>k rfl).trans (y6 h)
theorem z7k (h:w.O.length≠200):sendS w m 0=(⟨w.I,w.K,w.O++[m]⟩,0):=(y5 fun k=>k rfl).trans (y5 h)
theorem z3x (h:e≠0):keepS w k j e=(zWd,e):=y6 h
theorem z2x:keepS w k j 0=(⟨w.I,w.K.set k j,w.O⟩,0):=y5 fun k=>k rfl
theorem zfx (hl:w.O.length<=200) (m:TMe) (e:Int):F_q4c w m e=some (sendS w m e):=by
 simp only[F_q4c,S_q4c,Scr.den]
 by_cases h0:e=0
 ·subst h0
  rw[y5 sj]
  by_cases h2:w.O.length=200
  ·rw[y6 (by simp[h2]),z5g h2]
   rfl
  ·have e1:i64.wrap ((w.O.length:Int)+1)=((w.O.length+1:Nat):Int):=wrapId om om
   have e2:min w.O.length (List.replicate (w.O.length+1) ((⟨0,0,[],0,0,0,0,0⟩:TMe):TMe)).length=w.O.length:=by rw[y1o]; omega
   rw[y5 sk,z7k h2,e1,yb,e2,Gb,z6 ⟨by rw[y1o]; omega,by rw[zp,y1o]; omega,trivial⟩,z6 ⟨by rw[yh,zp,y1o]; omega,trivial⟩]
   congr 3
   refine y33 (by rw[yh,zp,y1o,yp]; rfl) fun i h1 h3=>?_
   rw[yh,zp,y1o] at h1
   rw[y4k]
   by_cases hi:i=w.O.length
   ·rw[y6 om]
    subst hi
    simp
   ·rw[y5 om,List.getElem_append_left om]
    simp only[copyL,y3s,y3g]
    rw[y6 om,Nat.sub_zero,z16 om]
 ·rw[y6 (by simpa using h0),z4w h0]
  rfl
theorem zq8 {l:List TJo} (hl:l.length<=1000000):F_q6s l=some l:=by
 simp only[F_q6s,S_q6s,Scr.den]
 rw[Ga]
theorem zc5 (hl:w.K.length<=6) (hk:k<w.K.length) (hj:e=0->j.Z=(k:Int)+1):F_q3z w j e=some (keepS w k j e):=by
 simp only[F_q3z,S_q3z,Scr.den]
 by_cases h0:e=0
 ·have ew:i64.wrap (j.Z-1)=(k:Int):=by rw[hj h0,wrapId om om]; omega
  subst h0
  rw[y5 sj,z2x,zq8 om]
  simp only[obind,ew,yb,yl]
  rw[z6 ⟨om,hk,hk,trivial⟩,z6 ⟨by rw[yh]; omega,trivial⟩]
 ·rw[y6 (by simpa using h0),z3x h0]
  rfl
theorem zq9 {l:List TMe} (hl:l.length<=1000000):F_q6y l=some l:=by
 simp only[F_q6y,S_q6y,Scr.den]
 rw[Ga]
theorem cloneM {l:List TMe} (hl:l.length<=1000000):F_q75 l=some l:=by
 simp only[F_q75,S_q75,Scr.den]
 rw[Ga]
theorem zng {l:List TMe} (hi:i<l.length) (hl:l.length<=1000000):F_q6z (i:Int) ((i:Int)+1) l=some (l.eraseIdx i):=by
 simp only[F_q6z,S_q6z,Scr.den]
 have e1:((i:Int)+1).toNat=i+1:=om
 simp only[e1,yb,Nat.sub_zero,yl]
 rw[z6 ⟨om,om,om,om,trivial⟩,y5 sk,Gb,z6 ⟨om,by rw[zp]; exact ye _,trivial⟩,
  z6 ⟨by rw[z1r,zp]; omega,trivial⟩,z6 ⟨by rw[z1r,zp]; omega,trivial⟩]
 congr 1
 refine y33 ?_ fun j h1 h2=>?_
 ·rw[y1h,z1r,zp,List.length_eraseIdx,y6 hi]
  omega
 ·rw[y1h,z1r,zp] at h1
  rw[List.getElem_take,List.getElem_eraseIdx]
  simp only[clearL,List.getElem_mapIdx,copyL,y3s,y3g]
  rw[y5 om]
  by_cases c:j<i
  ·rw[y5 om,y48 c,z16 om]
  ·rw[y6 om,dif_neg c,z16 om]
   congr 1
   omega
theorem zfy (hl:w.O.length<=200) (hi:i<w.O.length):F_q4e w (i:Int)=some (loseW w i):=by
 simp only[F_q4e,S_q4e,Scr.den,zq9 (show w.O.length<=1000000 from om),obind]
 rw[wrapId (n:=(i:Int)+1) om om,zng hi om]
 rfl
theorem z6w (h0:(appendS j p).2=0):(appendS j p).1.Z=j.Z:=by
 by_cases hp:POp p
 ·by_cases h1:(doS (nowJ j) p).2=0
  ·by_cases hl:j.N.length=400
   ·rw[z3v hp h1 hl] at h0; cases h0
   ·rw[z5e hp h1 hl]
  ·rw[z4d hp h1] at h0
   exact absurd h0 h1
 ·rw[z4c hp] at h0; cases h0
theorem VW.msgLen (h:VW w) (hm:m∈w.O):m.B.length<=1000000:=by
 have h1:=(h.2.2.2.2 m hm).1
 have h2:=h.1.potAt h1
 have h3:=z3q h2.1
 have h4:=(J13.potAt_cy h1).1
 rw[h4] at h3
 omega
theorem znh (h:VW w) (hi:i<w.O.length):F_q70 w (i:Int)=some (delivS w i):=by
 have hl:=h.len
 have hm:=h.2.2.1
 have hml:=h.msgLen (z7 hi)
 have hmo:=(h.2.2.2.2 _ (z7 hi)).2
 have h2:=h.2.1
 simp only[F_q70,S_q70,Scr.den,yb]
 rw[z6 ⟨om,hi,trivial⟩]
 unfold delivS mAt
 generalize w.O.getD i dF=m at hml hmo
 by_cases h0:m.To=0
 ·refine y1q ?_ (y15 some (y6 h0).symm)
  rw[y6 (by simp[h0]),J13.Hear_eq h.small]
  simp only[obind]
  by_cases h1:(J13.hearM w.I m).2=0
  ·refine y1q ?_ (y15 some (y5 (fun k=>k h1)).symm)
   rw[y5 (by simp[h1]),zfy (w:=⟨(J13.hearM w.I m).1,w.K,w.O⟩) hm hi]
   rfl
  ·refine y1q ?_ (y15 some (y6 h1).symm)
   rw[y6 (by simpa using h1)]
   rfl
 ·have hto:1<=m.To/\m.To<=w.I.P:=by
   rcases hmo with ⟨_,q,_⟩ | ⟨_,_,q,_⟩
   ·exact q
   ·exact absurd q h0
  have hk:(m.To-1).toNat<w.K.length:=om
  obtain⟨q1,q2,_⟩:=h.2.2.2.1 _ hk
  have ew:i64.wrap (m.To-1)=m.To-1:=wrapId om om
  refine y1q ?_ (y15 some (y5 h0).symm)
  rw[y5 (by simpa using h0),ew]
  simp only[show w.K.getD (m.To-1).toNat dF=jAt w (m.To-1).toNat from rfl]
  rw[show (⟨8,m.B,m.D,0,0,0,0,0,m.A,m.F⟩:TOp)=hearOp m from rfl,zct q1 (p:=hearOp m) hml]
  simp only[obind]
  rw[z6 ⟨om,hk,trivial⟩,zfy hm hi]
  simp only[obind]
  rw[zc5 (w:=loseW w i) (k:=(m.To-1).toNat) hl.2 hk fun e0=>by rw[z6w e0,q2]]
  rfl
theorem zvr (k a b c d:Int) (K:Bool->Option α) (R:ρ->Option α):outM (if (k==a)=true then some (Out.next (k==a)) else if (k==b)=true then some (Out.next (k==b)) else if (k==c)=true then some (Out.next (k==c)) else some (Out.next (k==d))) K R=K (decide (k=a\/k=b\/k=c\/k=d)):=by
 by_cases h1:k=a
 ·rw[y6 (by simpa using h1)]; simp[outM,h1]
 rw[y5 (by simpa using h1)]
 by_cases h2:k=b
 ·rw[y6 (by simpa using h2)]; simp[outM,h2]
 rw[y5 (by simpa using h2)]
 by_cases h3:k=c
 ·rw[y6 (by simpa using h3)]; simp[outM,h3]
 rw[y5 (by simpa using h3)]
 simp only[outM,h1,h2,h3,y4e]
 rfl
theorem zvs (k a b c:Int) (K:Bool->Option α) (R:ρ->Option α):outM (if (k==a)=true then some (Out.next (k==a)) else if (k==b)=true then some (Out.next (k==b)) else some (Out.next (k==c))) K R=K (decide (k=a\/k=b\/k=c)):=by
 by_cases h1:k=a
 ·rw[y6 (by simpa using h1)]; simp[outM,h1]
 rw[y5 (by simpa using h1)]
 by_cases h2:k=b
 ·rw[y6 (by simpa using h2)]; simp[outM,h2]
 rw[y5 (by simpa using h2)]
 simp only[outM,h1,h2,y4e]
 rfl
variable {s:TSt}
theorem z8w (h:s.U=1):stepW w s=tresS w (J13.setM w.I s.B s.D s.V):=y6 h
theorem z8x (h:s.U=2):stepW w s=tresS w (J13.grantM w.I s.Z s.B s.D s.V):=(y5 om).trans (y6 h)
theorem z8y (h:s.U=3):stepW w s=tresS w (J13.askM w.I s.Z s.B s.D s.V):=(y5 om).trans ((y5 om).trans (y6 h))
theorem z8z (h:s.U=4):stepW w s=sendS w (J13.tellM w.I s.Z s.B s.D).1 (J13.tellM w.I s.Z s.B s.D).2:=(y5 om).trans ((y5 om).trans ((y5 om).trans (y6 h)))
theorem z90 (h:5<=s.U/\s.U<=8):stepW w s=actS w s:=(y5 om).trans ((y5 om).trans ((y5 om).trans ((y5 om).trans (y6 h))))
theorem z5v (h:9<=s.U/\s.U<=11):stepW w s=mailS w s:=(y5 om).trans ((y5 om).trans ((y5 om).trans ((y5 om).trans ((y5 om).trans (y6 h)))))
theorem z91 (h:¬ (1<=s.U/\s.U<=11)):stepW w s=(zWd,1):=(y5 om).trans ((y5 om).trans ((y5 om).trans ((y5 om).trans ((y5 om).trans (y5 om)))))
theorem z5w (w:TWo) (r:TTr×Int):(if (r.2 != 0)=true then some (zWd,r.2) else some ((⟨r.1,w.K,w.O⟩:TWo),(0:Int)))=some (tresS w r):=by
 unfold tresS
 by_cases h:r.2=0
 ·rw[y5 (by simp[h]),y5 (by simp[h])]
 ·rw[y6 (by simpa using h),y6 h]
theorem zl3 (h:VW w) (hc:s.B.length<=1000000) (hk:1<=s.U/\s.U<=4):F_q6q w s=some (stepW w s):=by
 have hs:=h.small
 simp only[F_q6q,S_q6q,Scr.den]
 have hk:s.U=1\/s.U=2\/s.U=3\/s.U=4:=om
 rcases hk with k | k | k | k
 ·rw[z8w k,<- z5w,y6 (by simp[k]),J13.Set_eq hs hc]
  rfl
 ·rw[z8x k,<- z5w,y5 (by simp[k]),y6 (by simp[k]),J13.Grant_eq hs]
  rfl
 ·rw[z8y k,<- z5w,y5 (by simp[k]),y5 (by simp[k]),y6 (by simp[k]),J13.Ask_eq hs]
  rfl
 ·rw[z8z k,y5 (by simp[k]),y5 (by simp[k]),y5 (by simp[k]),J13.Tell_eq hs]
  simp only[obind]
  rw[zfx h.2.2.1]
  rfl
theorem zvt (h:VW w) (ho:s.Op.B.length<=1000000) (_hk:5<=s.U/\s.U<=8):F_q6w w s=some (actS w s):=by
 have hl:=h.len
 simp only[F_q6w,S_q6w,Scr.den,z82,obind]
 by_cases h1:1<=s.Z/\s.Z<=w.K.length
 ·have ew:i64.wrap (s.Z-1)=s.Z-1:=wrapId om om
  have hlt:(s.Z-1).toNat<w.K.length:=om
  obtain⟨q1,q2,_⟩:=h.2.2.2.1 _ hlt
  rw[y9 h1,y5 sj,ew,Gb]
  simp only[show w.K.getD (s.Z-1).toNat dF=jAt w (s.Z-1).toNat from rfl]
  refine y1q ?_ (y15 some (y5 fun g=>g h1).symm)
  by_cases c5:s.U=5
  ·refine y1q ?_ (y15 some (y6 c5).symm)
   rw[y6 (by simp[c5])]
   by_cases c8:s.Op.U=8
   ·refine y1q ?_ (y15 some (y6 c8).symm)
    rw[y6 (by simp[c8])]
    rfl
   ·refine y1q ?_ (y15 some (y5 c8).symm)
    rw[y5 (by simpa using c8),zct q1 ho]
    simp only[obind]
    rw[zc5 hl.2 hlt fun e0=>by rw[z6w e0,q2]]
    rfl
  refine y1q ?_ (y15 some (y5 c5).symm)
  rw[y5 (by simpa using c5)]
  by_cases c6:s.U=6
  ·refine y1q ?_ (y15 some (y6 c6).symm)
   rw[y6 (by simp[c6]),zne q1]
   simp only[obind]
   rw[zc5 (j:=flushJ (jAt w (s.Z-1).toNat)) hl.2 hlt fun _=>q2]
   rfl
  refine y1q ?_ (y15 some (y5 c6).symm)
  rw[y5 (by simpa using c6)]
  by_cases c7:s.U=7
  ·refine y1q ?_ (y15 some (y6 c7).symm)
   rw[y6 (by simp[c7]),znf q1]
   simp only[obind]
   rw[zc5 (j:=crashJ (jAt w (s.Z-1).toNat)) hl.2 hlt fun _=>q2]
   rfl
  refine y1q ?_ (y15 some (y5 c7).symm)
  rw[y5 (by simpa using c7),z8g q1]
  simp only[obind]
  rw[zpo q1.stb.smO]
  simp only[obind]
  rw[zfx h.2.2.1]
  rfl
 ·rw[ya h1,y6 (by rfl)]
  exact y15 some (y6 h1).symm
theorem zuf (h:VW w) (_hk:9<=s.U/\s.U<=11):F_q71 w s=some (mailS w s):=by
 have hm:=h.2.2.1
 have ew:i64.wrap ((w.O.length:Int)-1)=(w.O.length:Int)-1:=wrapId om om
 simp only[F_q71,S_q71,Scr.den,z82,obind,ew]
 by_cases h1:0<=s.Aj/\s.Aj<w.O.length
 ·have hlt:s.Aj.toNat<w.O.length:=om
  have ei:s.Aj=(s.Aj.toNat:Int):=om
  rw[y9 (show 0<=s.Aj/\s.Aj<=(w.O.length:Int)-1 from om),y5 sj]
  refine y1q ?_ (y15 some (y5 fun g=>g h1).symm)
  by_cases c9:s.U=9
  ·refine y1q ?_ (y15 some (y6 c9).symm)
   rw[y6 (by simp[c9])]
   conv=>lhs; rw[ei]
   rw[znh h hlt]
   rfl
  refine y1q ?_ (y15 some (y5 c9).symm)
  rw[y5 (by simpa using c9)]
  by_cases c11:s.U=11
  ·refine y1q ?_ (y15 some (y6 c11).symm)
   rw[y6 (by simp[c11]),zfx hm]
   simp only[obind]
   rw[z6 ⟨h1.1,hlt,trivial⟩]
   rfl
  refine y1q ?_ (y15 some (y5 c11).symm)
  rw[y5 (by simpa using c11)]
  conv=>lhs; rw[ei]
  rw[zfy hm hlt]
  rfl
 ·rw[ya (show ¬ (0<=s.Aj/\s.Aj<=(w.O.length:Int)-1) from om),y6 (by rfl)]
  exact y15 some (y6 h1).symm
theorem zqa (h:VW w) (hc:s.B.length<=1000000) (ho:s.Op.B.length<=1000000):F_q72 w s=some (stepW w s):=by
 simp only[F_q72,S_q72,Scr.den,zvr,zvs]
 by_cases k1:1<=s.U/\s.U<=4
 ·rw[y6 (by rw[y7]; omega),zl3 h hc k1]
  rfl
 rw[y5 (by rw[y7]; omega)]
 by_cases k2:5<=s.U/\s.U<=8
 ·rw[y6 (by rw[y7]; omega),zvt h ho k2,z90 k2]
  rfl
 rw[y5 (by rw[y7]; omega)]
 by_cases k3:9<=s.U/\s.U<=11
 ·rw[y6 (by rw[y7]; omega),zuf h k3,z5v k3]
  rfl
 rw[y5 (by rw[y7]; omega),z91 om]
 rfl
theorem zcu (hs:J13.Small t) (k:Int) (c:Y8) (y:Int):F_q4p t k c y=some (J13.tellM t k c y):=by
 simp only[F_q4p,S_q4p,Scr.den,J13.r13_find_eq hs,obind]
 unfold J13.tellM J13.findM
 by_cases h1:J13.TOk t
 ·simp only[show ¬ ¬ J13.TOk t from fun h=>h h1,yx]
  by_cases h2:J13.hasP t.E c y=true/\1<=k/\k<=t.P
  ·have hlt:=(J13.pix_lt h2.1).1
   have hp:=h1.potAt h2.1
   have l1:=hp.2.2.2.1.1.1
   have l3:=hp.2.2.2.1.2.2.1.1
   have e0:=h1.1
   have h3:=h2.2
   simp only[show ¬ ¬ (J13.hasP t.E c y=true/\1<=k/\k<=t.P) from fun h=>h h2,yx]
   rw[y5 (show ¬ ((0:Int) != 0)=true from sj),wrapId (n:=k-1) om om,yb,show t.E.getD (J13.pix t.E c y) dF=J13.potAt t c y from rfl,z6 ⟨om,hlt,om,om,om,trivial⟩]
   rfl
  ·simp only[h2,yk,y17]; rfl
 ·simp only[h1,yk,y17]; rfl
theorem z8h (hl:w.O.length<=200) (m:TMe):F_q45 w m=some (sendS w m 0):=by
 simp only[F_q45,S_q45,Scr.den]
 by_cases h2:w.O.length=200
 ·rw[y6 (by simp[h2]),z5g h2]
  rfl
 ·rw[y5 sk,z7k h2,Gb,z6 ⟨by rw[yp]; simp; omega,trivial⟩]
theorem z66 (hl:w.K.length<=6) (hk:k<w.K.length) (hj:j.Z=(k:Int)+1):F_q3o w j=some (keepS w k j 0).1:=by
 have ew:i64.wrap (j.Z-1)=(k:Int):=by rw[hj,wrapId om om]; omega
 simp only[F_q3o,S_q3o,Scr.den,ew,yb,yl]
 rw[z2x,Ga,z6 ⟨om,hk,hk,trivial⟩,z6 ⟨by rw[yh]; omega,trivial⟩]
theorem z47 (hl:w.O.length<=200) (hi:i<w.O.length):F_q46 w (i:Int)=some (loseW w i):=by
 simp only[F_q46,S_q46,Scr.den]
 have e1:i64.wrap ((i:Int)+1)=((i+1:Nat):Int):=wrapId om om
 have e2:w.O.take i++w.O.drop (i+1)=w.O.eraseIdx i:=(List.eraseIdx_eq_take_drop_succ ..).symm
 have l1:(w.O.take i).length<=200:=by rw[y1h]; omega
 have l2:(w.O.drop (i+1)).length<=200:=by rw[y2t]; omega
 have l3:(w.O.eraseIdx i).length<=200:=y28 (y3p ..) hl
 rw[e1]
 simp only[yb,e2]
 rw[z6 ⟨om,om,om,om,om,om,trivial⟩,Ga]
 rfl
theorem zl4 (h:VW w) (ho:s.Op.B.length<=1000000) (_hk:5<=s.U/\s.U<=8):F_q60 w s=some (actS w s):=by
 have hl:=h.len
 simp only[F_q60,S_q60,Scr.den,F_q3b,S_q3b,za,obind]
 by_cases h1:1<=s.Z/\s.Z<=w.K.length
 ·have ew:i64.wrap (s.Z-1)=s.Z-1:=wrapId om om
  have hlt:(s.Z-1).toNat<w.K.length:=om
  obtain⟨q1,q2,_⟩:=h.2.2.2.1 _ hlt
  rw[y5 sk,ew,Gb]
  simp only[show w.K.getD (s.Z-1).toNat dF=jAt w (s.Z-1).toNat from rfl]
  refine y1q ?_ (y15 some (y5 fun g=>g h1).symm)
  by_cases c5:s.U=5
  ·refine y1q ?_ (y15 some (y6 c5).symm)
   rw[y5 (by simp[c5]),y5 (by simp[c5]),y6 (by simp[c5])]
   by_cases c8:s.Op.U=8
   ·refine y1q ?_ (y15 some (y6 c8).symm)
    rw[y6 (by simp[c8])]
    rfl
   ·refine y1q ?_ (y15 some (y5 c8).symm)
    rw[y5 (by simpa using c8),zag q1 ho]
    simp only[obind]
    by_cases e0:(appendS (jAt w (s.Z-1).toNat) s.Op).2=0
    ·rw[y5 (by rw[e0]; decide),z66 hl.2 hlt (by rw[z6w e0,q2]),e0]
     rfl
    ·rw[y6 (by simpa using e0),z3x e0]
     rfl
  refine y1q ?_ (y15 some (y5 c5).symm)
  by_cases c6:s.U=6
  ·refine y1q ?_ (y15 some (y6 c6).symm)
   rw[y6 (by simp[c6]),zju q1]
   simp only[obind]
   rw[z66 (j:=flushJ (jAt w (s.Z-1).toNat)) hl.2 hlt q2]
   rfl
  refine y1q ?_ (y15 some (y5 c6).symm)
  rw[y5 (by simpa using c6)]
  by_cases c7:s.U=7
  ·refine y1q ?_ (y15 some (y6 c7).symm)
   rw[y6 (by simp[c7]),zjv q1]
   simp only[obind]
   rw[z66 (j:=crashJ (jAt w (s.Z-1).toNat)) hl.2 hlt q2]
   rfl
  refine y1q ?_ (y15 some (y5 c7).symm)
  rw[y5 (by simpa using c7),y5 (by simpa using c5),zhu q1]
  simp only[obind]
  rw[zhr q1.stb.smO]
  simp only[obind]
  by_cases e0:(reportS (stbJ (jAt w (s.Z-1).toNat)) s.B s.D).2=0
  ·rw[y5 (by rw[e0]; decide),z8h h.2.2.1]
   unfold stW
   rw[e0]
   rfl
  ·rw[y6 (by simpa using e0)]
   unfold stW
   rw[z4w e0]
   rfl
 ·rw[y6 sk]
  exact y15 some (y6 h1).symm
theorem zfz (h:VW w) (hi:i<w.O.length):F_q62 w (i:Int)=some (delivS w i):=by
 have hl:=h.len
 have hm:=h.2.2.1
 have hml:=h.msgLen (z7 hi)
 have hmo:=(h.2.2.2.2 _ (z7 hi)).2
 have h2:=h.2.1
 simp only[F_q62,S_q62,Scr.den,yb]
 rw[z6 ⟨om,hi,trivial⟩]
 unfold delivS mAt
 generalize w.O.getD i dF=m at hml hmo
 by_cases h0:m.To=0
 ·refine y1q ?_ (y15 some (y6 h0).symm)
  rw[y6 (by simp[h0]),J13.r13_Hear_eq h.small]
  simp only[obind]
  by_cases h1:(J13.hearM w.I m).2=0
  ·refine y1q ?_ (y15 some (y5 (fun k=>k h1)).symm)
   rw[y5 (by simp[h1])]
   simp only[zd]
   rw[z47 (w:=⟨(J13.hearM w.I m).1,w.K,w.O⟩) hm hi]
   rfl
  ·refine y1q ?_ (y15 some (y6 h1).symm)
   rw[y6 (by simpa using h1)]
   rfl
 ·have hto:1<=m.To/\m.To<=w.I.P:=by
   rcases hmo with ⟨_,q,_⟩ | ⟨_,_,q,_⟩
   ·exact q
   ·exact absurd q h0
  have hk:(m.To-1).toNat<w.K.length:=om
  obtain⟨q1,q2,_⟩:=h.2.2.2.1 _ hk
  have ew:i64.wrap (m.To-1)=m.To-1:=wrapId om om
  refine y1q ?_ (y15 some (y5 h0).symm)
  rw[y5 (by simpa using h0),ew]
  simp only[show w.K.getD (m.To-1).toNat dF=jAt w (m.To-1).toNat from rfl]
  rw[show (⟨8,m.B,m.D,0,0,0,0,0,m.A,m.F⟩:TOp)=hearOp m from rfl,zag q1 (p:=hearOp m) hml]
  simp only[obind]
  rw[z6 ⟨om,hk,trivial⟩]
  by_cases e0:(appendS (jAt w (m.To-1).toNat) (hearOp m)).2=0
  ·rw[y5 (by rw[e0]; decide),z66 hl.2 hk (by rw[z6w e0,q2]),e0]
   simp only[obind,zd]
   rw[z47 (w:=(keepS w (m.To-1).toNat (appendS (jAt w (m.To-1).toNat) (hearOp m)).1 0).1) (by rw[z2x]; exact hm) (by rw[z2x]; exact hi),z2x,z2x]
   rfl
  ·rw[y6 (by simpa using e0),z3x e0]
   rfl
theorem zl5 (h:VW w) (_hk:9<=s.U/\s.U<=11):F_q63 w s=some (mailS w s):=by
 have hm:=h.2.2.1
 simp only[F_q63,S_q63,Scr.den,z8]
 by_cases h1:0<=s.Aj/\s.Aj<w.O.length
 ·have hlt:s.Aj.toNat<w.O.length:=om
  have ei:s.Aj=(s.Aj.toNat:Int):=om
  rw[y5 sk]
  refine y1q ?_ (y15 some (y5 fun g=>g h1).symm)
  by_cases c9:s.U=9
  ·refine y1q ?_ (y15 some (y6 c9).symm)
   rw[y6 (by simp[c9])]
   conv=>lhs; rw[ei]
   rw[zfz h hlt]
   rfl
  refine y1q ?_ (y15 some (y5 c9).symm)
  rw[y5 (by simpa using c9)]
  by_cases c11:s.U=11
  ·refine y1q ?_ (y15 some (y6 c11).symm)
   rw[y6 (by simp[c11]),z8h hm]
   simp only[obind]
   rw[z6 ⟨h1.1,hlt,trivial⟩]
   rfl
  refine y1q ?_ (y15 some (y5 c11).symm)
  rw[y5 (by simpa using c11)]
  conv=>lhs; rw[ei]
  rw[z47 hm hlt]
  rfl
 ·rw[y6 sk]
  exact y15 some (y6 h1).symm
theorem z4x (h:VW w) (hc:s.B.length<=1000000) (ho:s.Op.B.length<=1000000):F_q3d w s=some (stepW w s):=by
 have hs:=h.small
 simp only[F_q3d,S_q3d,Scr.den,zvr,zvs,z31 h,obind]
 rw[y5 dk]
 by_cases k:s.U=1
 ·rw[z8w k,<- z5w,y6 (by simp[k]),J13.r13_Set_eq hs hc]
  rfl
 rw[y5 (by simp[k])]
 by_cases k:s.U=2
 ·rw[z8x k,<- z5w,y6 (by simp[k]),J13.r13_Grant_eq hs]
  rfl
 rw[y5 (by simp[k])]
 by_cases k:s.U=3
 ·rw[z8y k,<- z5w,y6 (by simp[k]),J13.r13_Ask_eq hs]
  rfl
 rw[y5 (by simp[k])]
 by_cases k:s.U=4
 ·rw[z8z k,y6 (by simp[k]),zcu hs]
  simp only[obind]
  by_cases e0:(J13.tellM w.I s.Z s.B s.D).2=0
  ·rw[y5 (by rw[e0]; decide),z8h h.2.2.1,e0]
   rfl
  ·rw[y6 (by simpa using e0),z4w e0]
   rfl
 rw[y5 (by simp[k])]
 by_cases k2:5<=s.U/\s.U<=8
 ·rw[y6 (by rw[y7]; omega),zl4 h ho k2,z90 k2]
  rfl
 rw[y5 (by rw[y7]; omega)]
 by_cases k3:9<=s.U/\s.U<=11
 ·rw[y6 (by rw[y7]; omega),zl5 h k3,z5v k3]
  rfl
 rw[y5 (by rw[y7]; omega),z91 om]
 rfl
theorem z4y {l:List Int} (h:l.length<=k):l.getD k dF=dF:=by simp[List.getD_eq_getElem?_getD,List.getElem?_eq_none h]
theorem z92 (h:J13.TOk t) {p:TPo} (hp:p∈t.E):J13.hasP t.E p.B p.D=true/\J13.potAt t p.B p.D=p:=by
 have hh:J13.hasP t.E p.B p.D=true:=J13.has_iff.2 ⟨p,hp,rfl,rfl⟩
 refine⟨hh,?_⟩
 obtain⟨k1,k2,k3⟩:=J13.pix_lt hh
 obtain⟨i,hi,e⟩:=z11 hp
 have g1:=h.good _ (z7 k1)
 have g2:=h.good _ hp
 have e0:J13.cmpP (t.E.getD (J13.pix t.E p.B p.D) dF) p=0:=(J13.cmpP_eq g1.1 g2.1).2 ⟨k2,k3⟩
 have e0':J13.cmpP p (t.E.getD (J13.pix t.E p.B p.D) dF)=0:=(J13.cmpP_eq g2.1 g1.1).2 ⟨k2.symm,k3.symm⟩
 rcases y3k (J13.pix t.E p.B p.D) i with hlt | heq | hgt
 ·have:=h.srt.lt h.good hlt hi
  rw[e,e0] at this
  omega
 ·show t.E.getD (J13.pix t.E p.B p.D) dF=p
  rw[heq,e]
 ·have:=h.srt.lt h.good hgt k1
  rw[e,e0'] at this
  omega
theorem z6i (hp:J13.hasP t.E c y=true) {p:TPo} (hc:p.B=c) (hy:p.D=y) (hk:J13.TOk (J13.putP t c y p)) :
  J13.potAt (J13.putP t c y p) c y=p/\∀ c' y',(J13.hasP (J13.putP t c y p).E c' y'=J13.hasP t.E c' y')/\(J13.hasP t.E c' y'=true->¬ (c'=c/\y'=y)->J13.potAt (J13.putP t c y p) c' y'=J13.potAt t c' y'):=by
 obtain⟨k1,k2,k3⟩:=J13.pix_lt hp
 have hm:p∈(J13.putP t c y p).E:=List.mem_set k1 p
 have h1:=z92 hk hm
 rw[hc,hy] at h1
 have hold:∀ c' y',J13.hasP t.E c' y'=true->¬ (c'=c/\y'=y)->J13.potAt t c' y'∈(J13.putP t c y p).E:=fun c' y' h hn=>by
  obtain⟨q1,q2,q3⟩:=J13.pix_lt h
  have hne:J13.pix t.E c y≠J13.pix t.E c' y':=fun e=>by
   rw[<- e] at q2 q3
   exact hn ⟨q2.symm.trans k2,q3.symm.trans k3⟩
  show t.E.getD (J13.pix t.E c' y') dF∈t.E.set (J13.pix t.E c y) p
  rw[z16 q1,List.mem_iff_getElem]
  exact⟨J13.pix t.E c' y',by rw[yh]; exact q1,by rw[List.getElem_set_ne hne]⟩
 refine⟨h1.2,fun c' y'=>⟨?_,fun h hn=>?_⟩⟩
 ·rw[y1s]
  by_cases e:c'=c/\y'=y
  ·obtain⟨rfl,rfl⟩:=e
   exact⟨fun _=>hp,fun _=>h1.1⟩
  constructor
  ·intro h
   obtain⟨x,hx,e1,e2⟩:=J13.has_iff.1 h
   rcases y20 hx with h3 | h3
   ·exact J13.has_iff.2 ⟨x,h3,e1,e2⟩
   ·subst h3
    exact absurd ⟨e1.symm.trans hc,e2.symm.trans hy⟩ e
  ·intro h
   have:=J13.potAt_cy h
   exact J13.has_iff.2 ⟨_,hold c' y' h e,this.1,this.2⟩
 ·have h2:=z92 hk (hold c' y' h hn)
  have:=J13.potAt_cy h
  rw[this.1,this.2] at h2
  exact h2.2
theorem zh1 {r:TPo} (hi:i<=t.E.length) (hk:J13.TOk ⟨t.P,insL t.E i r⟩) :
  (J13.hasP (insL t.E i r) r.B r.D=true/\J13.potAt ⟨t.P,insL t.E i r⟩ r.B r.D=r)/\∀ c y,(J13.hasP (insL t.E i r) c y=true->J13.hasP t.E c y=true\/(c=r.B/\y=r.D))/\(J13.hasP t.E c y=true->J13.hasP (insL t.E i r) c y=true/\J13.potAt ⟨t.P,insL t.E i r⟩ c y=J13.potAt t c y):=by
 have hr:r∈insL t.E i r:=by
  have:=z7 (l:=insL t.E i r) (i:=i) (by rw[zq]; omega)
  rwa [J13.insL_at hi] at this
 have hold:∀ x∈t.E,x∈insL t.E i r:=fun x hx=>by
  obtain⟨j,hj,rfl⟩:=z11 hx
  by_cases c:j<i
  ·have:=z7 (l:=insL t.E i r) (i:=j) (by rw[zq]; omega)
   rwa [z1s hi,y6 c] at this
  ·have:=z7 (l:=insL t.E i r) (i:=j+1) (by rw[zq]; omega)
   rwa [z1s hi,y5 om,y5 om] at this
 have hnew:∀ x∈insL t.E i r,x∈t.E\/x=r:=fun x hx=>by
  obtain⟨j,hj,rfl⟩:=z11 hx
  rw[zq] at hj
  rw[z1s hi]
  by_cases c:j<i
  ·rw[y6 c]; exact .inl (z7 om)
  ·rw[y5 c]
   by_cases c2:j=i
   ·rw[y6 c2]; exact .inr rfl
   ·rw[y5 c2]; exact .inl (z7 om)
 have h1:=z92 hk (p:=r) hr
 refine⟨h1,fun c y=>⟨fun h=>?_,fun h=>?_⟩⟩
 ·obtain⟨x,hx,e1,e2⟩:=J13.has_iff.1 h
  rcases hnew x hx with h3 | rfl
  ·exact .inl (J13.has_iff.2 ⟨x,h3,e1,e2⟩)
  ·exact .inr ⟨e1.symm,e2.symm⟩
 ·have hx:J13.potAt t c y∈t.E:=z7 (J13.pix_lt h).1
  have h2:=z92 hk (p:=J13.potAt t c y) (hold _ hx)
  have:=J13.potAt_cy h
  rwa [this.1,this.2] at h2
def LeP (p q:TPo):Prop:=∀ k,nthN p.A k<=nthN q.A k/\nthN p.F k<=nthN q.F k
theorem LeP.refl (p:TPo):LeP p p:=fun _=>⟨y18 _,y18 _⟩
def GT (t t':TTr):Prop:=J13.TOk t'/\t'.P=t.P/\∀ c y,J13.hasP t.E c y=true->J13.hasP t'.E c y=true/\LeP (J13.potAt t c y) (J13.potAt t' c y)
def HE (t t':TTr):Prop:=∀ c y k,J13.hasP t'.E c y=true->(J13.hasP t.E c y=true/\nthN (J13.potAt t' c y).G k=nthN (J13.potAt t c y).G k)\/nthN (J13.potAt t' c y).G k=0
theorem zeo (hp:J13.hasP t.E c y=true) {p:TPo} (hc:p.B=c) (hy:p.D=y) (hk:J13.TOk (J13.putP t c y p)) (hl:LeP (J13.potAt t c y) p):GT t (J13.putP t c y p):=by
 obtain⟨h1,h2⟩:=z6i hp hc hy hk
 refine⟨hk,rfl,fun c' y' h=>⟨((h2 c' y').1).trans h,?_⟩⟩
 by_cases e:c'=c/\y'=y
 ·obtain⟨rfl,rfl⟩:=e
  rw[h1]
  exact hl
 ·rw[(h2 c' y').2 h e]
  exact LeP.refl _
theorem zjw (hp:J13.hasP t.E c y=true) {p:TPo} (hc:p.B=c) (hy:p.D=y) (hk:J13.TOk (J13.putP t c y p)) (hl:p.G=(J13.potAt t c y).G):HE t (J13.putP t c y p):=by
 obtain⟨h1,h2⟩:=z6i hp hc hy hk
 intro c' y' k h
 rw[(h2 c' y').1] at h
 refine .inl ⟨h,?_⟩
 by_cases e:c'=c/\y'=y
 ·obtain⟨rfl,rfl⟩:=e
  rw[h1,hl]
 ·rw[(h2 c' y').2 h e]
theorem zqb (n:Int) (k:Nat):nthN (J13.zeros n) k=0:=by
 unfold nthN J13.zeros
 rw[y8,List.getElem?_replicate]
 split <;> rfl
variable {x:Int}
theorem zqc (h:(J13.setM t c y x).2=0):GT t (J13.setM t c y x).1/\HE t (J13.setM t c y x).1:=by
 have hk:=(J13.set_ok h).2
 unfold J13.setM at h hk |-
 by_cases h1:J13.TOk t
 ·simp only[show ¬ ¬ J13.TOk t from fun h=>h h1,yx] at h hk |-
  by_cases h2:good c=true
  ·simp only[show ¬ ¬ good c=true from fun h=>h h2,yx] at h hk |-
   by_cases h3:(0<=y/\y<=99)/\-1000000000000000<=x/\x<=1000000000000000
   ·simp only[show ¬ ¬ ((0<=y/\y<=99)/\-1000000000000000<=x/\x<=1000000000000000) from fun h=>h h3,yx] at h hk |-
    by_cases h5:J13.hasP t.E c y=true
    ·rw[y6 h5] at hk |-
     have hcy:=J13.potAt_cy h5
     exact⟨zeo h5 (p:=J13.withT (J13.potAt t c y) x) hcy.1 hcy.2 hk fun _=>⟨y18 _,y18 _⟩,zjw h5 (p:=J13.withT (J13.potAt t c y) x) hcy.1 hcy.2 hk rfl⟩
    ·rw[y5 h5] at h hk |-
     by_cases h6:t.E.length=60
     ·rw[y6 h6] at h; cases h
     ·rw[y5 h6] at hk |-
      obtain⟨g1,g2⟩:=zh1 (r:=J13.newP t.P c y x) (J13.posP_le _ _) hk
      refine⟨⟨hk,rfl,fun c' y' h=>?_⟩,fun c' y' k h=>?_⟩
      ·obtain⟨q1,q2⟩:=(g2 c' y').2 h
       refine⟨q1,?_⟩
       rw[q2]
       exact LeP.refl _
      ·rcases (g2 c' y').1 h with h7 | ⟨h7,h8⟩
       ·refine .inl ⟨h7,?_⟩
        rw[((g2 c' y').2 h7).2]
       ·refine .inr ?_
        rw[h7,h8,g1.2]
        exact zqb _ _
   ·rw[y6 h3] at h; cases h
  ·rw[y6 (show ¬ good c=true from h2)] at h; cases h
 ·rw[y6 h1] at h; cases h
theorem zug {G a:List Int} (hl:a.length=G.length) (ha:∀ x∈a,J13.tot x) (k:Nat):nthN G k<=nthN (J13.addN G a a.length) k:=by
 unfold nthN
 by_cases hk:k<G.length
 ·have:=ha _ (z7 (show k<a.length from om))
  unfold J13.tot at this
  rw[J13.addN_get hk,y6 om]
  omega
 ·rw[z4y om,z4y (by rw[J13.addN_length]; omega)]
  exact y18 _
theorem zsa {k:Int} (h:(J13.grantM t k c y x).2=0):GT t (J13.grantM t k c y x).1/\HE t (J13.grantM t k c y x).1:=by
 have hk:=(J13.grant_ok h).2
 unfold J13.grantM at h hk |-
 by_cases h1:J13.TOk t
 ·simp only[show ¬ ¬ J13.TOk t from fun h=>h h1,yx] at h hk |-
  by_cases h2:J13.hasP t.E c y=true
  ·simp only[show ¬ ¬ J13.hasP t.E c y=true from fun h=>h h2,yx] at h hk |-
   by_cases h3:1<=k/\k<=t.P
   ·simp only[show ¬ ¬ (1<=k/\k<=t.P) from fun h=>h h3,yx] at h hk |-
    by_cases h4:1<=x/\x<=1000000000000000
    ·simp only[show ¬ ¬ (1<=x/\x<=1000000000000000) from fun h=>h h4,yx] at h hk |-
     by_cases h5:(J13.giveV (J13.potAt t c y).T (J13.potAt t c y) (J13.oneHot (J13.potAt t c y).A.length (k-1).toNat x)).1=0
     ·rw[y5 (show ¬ _≠_ from fun h=>h h5)] at hk |-
      have hcy:=J13.potAt_cy h2
      have hg:=(J13.give_ok (h1.potAt h2) (J13.oneHot_tot h4) J13.oneHot_length h5).1
      refine⟨zeo h2 (p:=J13.withG _ _) hcy.1 hcy.2 hk fun j=>⟨?_,y18 _⟩,zjw h2 (p:=J13.withG _ _) hcy.1 hcy.2 hk rfl⟩
      rw[hg]
      exact zug J13.oneHot_length (J13.oneHot_tot h4) j
     ·rw[y6 h5] at h; exact absurd h h5
    ·simp only[h4,yk,y17] at h; cases h
   ·simp only[h3,yk,y17] at h; cases h
  ·simp only[h2,yk,y17,yo] at h; cases h
 ·simp only[h1,yk,y17] at h; cases h
theorem zvu {l:List Int} {k:Int} (hx:J13.nth l k<=x) (j:Nat):nthN l j<=nthN (J13.upd l k x) j:=by
 unfold nthN
 by_cases hj:j<l.length
 ·rw[J13.upd_get hj]
  split
  ·rename_i e
   subst e
   exact hx
  ·exact y18 _
 ·rw[z4y om,z4y (by rw[J13.upd_length]; omega)]
  exact y18 _
theorem zqd {k:Int} (h:(J13.askM t k c y x).2=0):GT t (J13.askM t k c y x).1/\HE t (J13.askM t k c y x).1:=by
 have hk:=(J13.ask_ok h).2
 unfold J13.askM at h hk |-
 by_cases h1:J13.TOk t
 ·simp only[show ¬ ¬ J13.TOk t from fun h=>h h1,yx] at h hk |-
  by_cases h2:J13.hasP t.E c y=true
  ·simp only[show ¬ ¬ J13.hasP t.E c y=true from fun h=>h h2,yx] at h hk |-
   by_cases h3:1<=k/\k<=t.P
   ·simp only[show ¬ ¬ (1<=k/\k<=t.P) from fun h=>h h3,yx] at h hk |-
    by_cases h4:1<=x/\x<=1000000000000000
    ·simp only[show ¬ ¬ (1<=x/\x<=1000000000000000) from fun h=>h h4,yx] at h hk |-
     by_cases h5:J13.nth (J13.potAt t c y).A k<J13.nth (J13.potAt t c y).F k+x
     ·rw[y6 h5] at h; cases h
     ·rw[y5 h5] at hk |-
      have hcy:=J13.potAt_cy h2
      refine⟨zeo h2 (p:=J13.withA _ _) hcy.1 hcy.2 hk fun j=>⟨y18 _,?_⟩,zjw h2 (p:=J13.withA _ _) hcy.1 hcy.2 hk rfl⟩
      exact zvu om j
    ·simp only[h4,yk,y17] at h; cases h
   ·simp only[h3,yk,y17] at h; cases h
  ·simp only[h2,yk,y17,yo] at h; cases h
 ·simp only[h1,yk,y17] at h; cases h
theorem zm9 (h:(J13.hearM t m).2=0):GT t (J13.hearM t m).1/\(1<=m.Aa/\m.Aa<=t.P)/\∀ c y k,J13.hasP (J13.hearM t m).1.E c y=true->J13.hasP t.E c y=true /\
  (nthN (J13.potAt (J13.hearM t m).1 c y).G k=nthN (J13.potAt t c y).G k\/(c=m.B/\y=m.D/\k=(m.Aa-1).toNat/\nthN (J13.potAt (J13.hearM t m).1 c y).G k=max (nthN (J13.potAt t c y).G k) m.Q)):=by
 have hk:=(J13.hear_ok h).2
 unfold J13.hearM at h hk |-
 by_cases h0:m.To=0
 ·simp only[show ¬ m.To≠0 from fun h=>h h0,yx] at h hk |-
  by_cases h1:J13.TOk t
  ·simp only[show ¬ ¬ J13.TOk t from fun h=>h h1,yx] at h hk |-
   by_cases h2:J13.hasP t.E m.B m.D=true
   ·simp only[show ¬ ¬ J13.hasP t.E m.B m.D=true from fun h=>h h2,yx] at h hk |-
    by_cases h3:1<=m.Aa/\m.Aa<=t.P
    ·simp only[show ¬ ¬ (1<=m.Aa/\m.Aa<=t.P) from fun h=>h h3,yx] at h hk |-
     by_cases h4:(0<=m.Q/\m.Q<=J13.nth (J13.potAt t m.B m.D).A m.Aa)/\J13.tot m.M
     ·simp only[show ¬ ¬ ((0<=m.Q/\m.Q<=J13.nth (J13.potAt t m.B m.D).A m.Aa)/\J13.tot m.M) from fun h=>h h4,yx] at h hk |-
      have hcy:=J13.potAt_cy h2
      have hg:=zeo h2 (p:=J13.withH (J13.potAt t m.B m.D) (J13.upd (J13.potAt t m.B m.D).G m.Aa (max (J13.nth (J13.potAt t m.B m.D).G m.Aa) m.Q)) (J13.upd (J13.potAt t m.B m.D).M m.Aa m.M)) hcy.1 hcy.2 hk fun j=>⟨y18 _,y18 _⟩
      obtain⟨p1,p2⟩:=z6i h2 (p:=J13.withH (J13.potAt t m.B m.D) (J13.upd (J13.potAt t m.B m.D).G m.Aa (max (J13.nth (J13.potAt t m.B m.D).G m.Aa) m.Q)) (J13.upd (J13.potAt t m.B m.D).M m.Aa m.M)) hcy.1 hcy.2 hk
      refine⟨hg,h3,fun c y k h=>?_⟩
      rw[(p2 c y).1] at h
      refine⟨h,?_⟩
      by_cases e:c=m.B/\y=m.D
      ·obtain⟨rfl,rfl⟩:=e
       rw[p1]
       show nthN (J13.upd (J13.potAt t m.B m.D).G m.Aa _) k=_\/(_/\_/\_/\nthN (J13.upd (J13.potAt t m.B m.D).G m.Aa _) k=_)
       unfold nthN
       by_cases hj:k<(J13.potAt t m.B m.D).G.length
       ·rw[J13.upd_get hj]
        by_cases e:k=(m.Aa-1).toNat
        ·rw[y6 e]
         refine .inr ⟨rfl,rfl,e,?_⟩
         rw[e]
         rfl
        ·rw[y5 e]
         exact .inl rfl
       ·rw[z4y (l:=J13.upd _ _ _) (by rw[J13.upd_length]; omega),z4y om]
        exact .inl rfl
      ·rw[(p2 c y).2 h e]
       exact .inl rfl
     ·simp only[h4,yk,y17] at h; cases h
    ·simp only[h3,yk,y17] at h; cases h
   ·simp only[h2,yk,y17,yo] at h; cases h
  ·simp only[h1,yk,y17] at h; cases h
 ·rw[y6 (show m.To≠0 from h0)] at h; cases h
theorem z4l (_ha:VO a) (h:KnownJ t a b k) (hr:hasR a.L c y=true):J13.hasP t.E c y=true/\(rightV a.L c y).A<=nthN (J13.potAt t c y).A k/\(rightV a.L c y).F<=nthN (J13.potAt t c y).F k:=by
 obtain⟨h1,h2,h3⟩:=z3d hr
 have:=h.1 _ h1
 rwa [h2,h3] at this
theorem za5 (ha:VO a) (ht:J13.TOk t) (h:∀ c y,hasR a.L c y=true->J13.hasP t.E c y=true/\(rightV a.L c y).A<=nthN (J13.potAt t c y).A k/\(rightV a.L c y).F<=nthN (J13.potAt t c y).F k) (h':∀ c y,J13.hasP t.E c y=true->nthN (J13.potAt t c y).G k<=(rightV b.L c y).Q):KnownJ t a b k:=by
 refine⟨fun r hr=>?_,fun p hp=>?_⟩
 ·have:=h r.B r.D (has_iff.2 ⟨r,hr,rfl,rfl⟩)
  rwa [zbe ha.srt ha.ok hr] at this
 ·obtain⟨h1,h2⟩:=z92 ht hp
  have:=h' _ _ h1
  rwa [h2] at this
theorem z5x (h:KnownJ t a b k) (hp:J13.hasP t.E c y=true):nthN (J13.potAt t c y).G k<=(rightV b.L c y).Q:=by
 have h1:=J13.potAt_cy hp
 have:=h.2 _ (z7 (J13.pix_lt hp).1)
 rw[show t.E.getD (J13.pix t.E c y) dF=J13.potAt t c y from rfl,h1.1,h1.2] at this
 exact this
theorem zvv {t':TTr} (g:GT t t') {f:Nat->TOf} (h:MsgOk t f m):MsgOk t' f m:=by
 obtain⟨h1,h2⟩:=h
 obtain⟨g1,g2⟩:=g.2.2 _ _ h1
 refine⟨g1,?_⟩
 rcases h2 with ⟨h0,q1,q2,q3,q4⟩ | ⟨h0,q1,q2⟩
 ·have:=g2 (m.To-1).toNat
  exact .inl ⟨h0,by rw[g.2.1]; exact q1,⟨q2.1,om⟩,⟨q3.1,om⟩,q4⟩
 ·exact .inr ⟨h0,by rw[g.2.1]; exact q1,q2⟩
theorem zcv (h:VW w) (g:GT w.I t) (hh:∀ c y k,J13.hasP t.E c y=true->k<w.K.length->nthN (J13.potAt t c y).G k<=(rightV (stW w k).L c y).Q):VW ⟨t,w.K,w.O⟩:=by
 obtain⟨h1,h2,h3,h4,h5⟩:=h
 refine⟨g.1,by show (w.K.length:Int)=t.P; rw[g.2.1]; exact h2,h3,fun k hk=>?_,fun m hm=>zvv g (h5 m hm)⟩
 obtain⟨q1,q2,q3⟩:=h4 k hk
 refine⟨q1,q2,za5 q1.now g.1 (fun c y hr=>?_) fun c y hp=>hh c y k hp hk⟩
 obtain⟨z1,z2,z3⟩:=z4l q1.now q3 hr
 obtain⟨g1,g2⟩:=g.2.2 _ _ z1
 have:=g2 k
 have z2':(rightV (noW w k).L c y).A<=_:=z2
 have z3':(rightV (noW w k).L c y).F<=_:=z3
 exact⟨g1,y3e z2 this.1,y3e z3 this.2⟩
theorem zwm (h:VW w) (g:GT w.I t) (e:HE w.I t):VW ⟨t,w.K,w.O⟩:=zcv h g fun c y k hp hk=>by
 obtain⟨q1,q2,q3⟩:=h.2.2.2.1 k hk
 rcases e c y k hp with ⟨h1,h2⟩ | h2
 ·rw[h2]
  exact z5x q3 h1
 ·rw[h2]
  exact (z4t q1.stb.ok c y).1
theorem zma (h:VW w) {l:List TMe} (hl:l.length<=200) (hm:∀ m∈l,MsgOk w.I (stW w) m):VW ⟨w.I,w.K,l⟩:=⟨h.1,h.2.1,hl,h.2.2.2.1,hm⟩
theorem zc6 (h:VW w) (i:Nat):VW (loseW w i):=zma h (y28 (y3p ..) h.2.2.1) fun m hm=>h.2.2.2.2 m (List.mem_of_mem_eraseIdx hm)
theorem zuh (h:VW w) (hm:MsgOk w.I (stW w) m) (hl:w.O.length≠200):VW ⟨w.I,w.K,w.O++[m]⟩:=zma h (by have:=h.2.2.1; rw[yp]; simp; omega) fun x hx=>by
 rcases y1n.1 hx with hx | hx
 ·exact h.2.2.2.2 x hx
 ·rw[y2k.1 hx]; exact hm
theorem zc7 (hi:i<w.K.length):(w.K.set k j).getD i dF=if i=k then j else jAt w i:=by
 rw[y8,y4x]
 by_cases h:k=i
 ·subst h; simp[hi]
 ·rw[y5 h,y5 fun e=>h e.symm]
  exact (y8 ..).symm
theorem za6 (h:VW w) (hk:k<w.K.length) (hj:VJ j) (ho:j.Z=(k:Int)+1) (hn:KnownJ w.I (nowJ j) (stbJ j) k) (hl:LeO (stW w k) (stbJ j)):VW ⟨w.I,w.K.set k j,w.O⟩:=by
 obtain⟨h1,h2,h3,h4,h5⟩:=h
 refine⟨h1,by show ((w.K.set k j).length:Int)=_; rw[yh]; exact h2,h3,fun i hi=>?_,fun m hm=>?_⟩
 ·have hi:i<(w.K.set k j).length:=hi
  rw[yh] at hi
  show VJ ((w.K.set k j).getD i dF)/\((w.K.set k j).getD i dF).Z=_/\KnownJ w.I (nowJ ((w.K.set k j).getD i dF)) (stbJ ((w.K.set k j).getD i dF)) i
  rw[zc7 hi]
  by_cases e:i=k
  ·subst e
   rw[y6 rfl]
   exact⟨hj,ho,hn⟩
  ·rw[y5 e]
   exact h4 i hi
 ·obtain⟨q1,q2⟩:=h5 m hm
  refine⟨q1,q2.imp_right fun⟨q3,q4,q5,q6,q7⟩=>⟨q3,q4,q5,⟨q6.1,?_⟩,q7⟩⟩
  have hi:(m.Aa-1).toNat<w.K.length:=om
  show m.Q<=(rightV (stbJ ((w.K.set k j).getD (m.Aa-1).toNat dF)).L m.B m.D).Q
  rw[zc7 hi]
  by_cases e:(m.Aa-1).toNat=k
  ·rw[y6 e]
   have:=(hl m.B m.D).2.2.2
   have q6':=q6.2
   rw[e] at q6'
   omega
  ·rw[y5 e]
   exact q6.2
theorem zsb (h:VW w) (hk:k<w.K.length):VW ⟨w.I,w.K.set k (flushJ (jAt w k)),w.O⟩:=by
 obtain⟨q1,q2,q3⟩:=h.2.2.2.1 k hk
 have hle:=zem q1
 refine za6 h hk (zs7 q1) q2 ?_ (by rw[zgy]; exact hle)
 rw[zq6,zgy]
 refine za5 q1.now h.1 (fun c y hr=>z4l q1.now q3 hr) fun c y hp=>?_
 exact y3e (z5x q3 hp) (hle c y).2.2.2
theorem zsc (h:VW w) (hk:k<w.K.length):VW ⟨w.I,w.K.set k (crashJ (jAt w k)),w.O⟩:=by
 obtain⟨q1,q2,q3⟩:=h.2.2.2.1 k hk
 have hle:=zem q1
 refine za6 h hk (zs8 q1) q2 ?_ (by rw[zgz]; exact LeO.refl _)
 rw[zq7,zgz]
 refine za5 q1.stb h.1 (fun c y hr=>?_) fun c y hp=>z5x q3 hp
 obtain⟨l1,l2,l3,_⟩:=hle c y
 obtain⟨z1,z2,z3⟩:=z4l q1.now q3 (l1 hr)
 exact⟨z1,y3e l2 z2,y3e l3 z3⟩
theorem zh2 (h:VW w) (hk:k<w.K.length) (h0:(appendS (jAt w k) p).2=0) (h8:p.U=8->J13.hasP w.I.E p.B p.D=true/\p.A<=nthN (J13.potAt w.I p.B p.D).A k/\p.Ae<=nthN (J13.potAt w.I p.B p.D).F k) :
  VW ⟨w.I,w.K.set k (appendS (jAt w k) p).1,w.O⟩:=by
 obtain⟨q1,q2,q3⟩:=h.2.2.2.1 k hk
 obtain⟨a1,a2,a3,a4⟩:=zgx q1 h0
 rw[a2] at a1 |-
 refine za6 h hk a1 q2 ?_ (by rw[zel q1]; exact LeO.refl _)
 rw[zek,zel q1]
 have hk6:=h.len
 have ho:=h.2.1
 refine za5 (zc1 a4) h.1 (fun c y hr=>?_) fun c y hp=>z5x q3 hp
 obtain⟨d1,d2,d3,d4,d5⟩:=(zbh a4).2 c y
 rw[d2,d3]
 have hr:=d1.1 hr
 by_cases e:p.U=8/\p.B=c/\p.D=y
 ·obtain⟨e8,rfl,rfl⟩:=e
  obtain⟨z1,z2,z3⟩:=h8 e8
  rw[y6 ⟨e8,rfl,rfl⟩,y6 ⟨e8,rfl,rfl⟩]
  have hp:=h.1.potAt z1
  have hg:=hp.2.2.2.1.1
  have ha:=hp.2.2.2.1.2.2.1
  have t1:=hg.2 _ (z7 (show k<_ by have:=hg.1; omega))
  have t2:=ha.2 _ (z7 (show k<_ by have:=ha.1; omega))
  unfold J13.tot at t1 t2
  unfold nthN at z2 z3 |-
  by_cases hold:hasR (nowJ (jAt w k)).L p.B p.D=true
  ·obtain⟨o1,o2,o3⟩:=z4l q1.now q3 hold
   unfold nthN at o2 o3
   have o2':(rightV (nowJ (jAt w k)).L p.B p.D).A<=_:=o2
   have o3':(rightV (nowJ (jAt w k)).L p.B p.D).F<=_:=o3
   exact⟨z1,om,om⟩
  ·have e0:rightV (nowJ (jAt w k)).L p.B p.D=⟨p.B,p.D,0,0,0⟩:=y5 hold
   rw[e0]
   exact⟨z1,by show max (0:Int) _<=_; omega,by show max (0:Int) _<=_; omega⟩
 ·rw[y5 e,y5 e]
  exact z4l q1.now q3 (hr.resolve_right e)
def z6k (r:TWo×Int):Prop:=(r.2=0/\VW r.1)\/(r.2≠0/\r.1=zWd)
theorem z3y (h:e≠0):z6k (zWd,e):=.inr ⟨h,rfl⟩
theorem zg0 (h:VW w) (hm:e=0->MsgOk w.I (stW w) m):z6k (sendS w m e):=by
 by_cases h0:e=0
 ·subst h0
  by_cases hl:w.O.length=200
  ·rw[z5g hl]; exact z3y dk
  ·rw[z7k hl]; exact .inl ⟨rfl,zuh h (hm rfl) hl⟩
 ·rw[z4w h0]; exact z3y h0
theorem z93 (h:VW w) {r:TTr×Int} (hr:r.2=0->GT w.I r.1/\HE w.I r.1):z6k (tresS w r):=by
 unfold tresS
 by_cases h0:r.2=0
 ·rw[y5 (by simp[h0])]
  obtain⟨g,e⟩:=hr h0
  exact .inl ⟨rfl,zwm h g e⟩
 ·rw[y6 h0]; exact z3y h0
theorem zsd (_h:VW w) {k:Int} (h0:(J13.tellM w.I k c y).2=0):MsgOk w.I (stW w) (J13.tellM w.I k c y).1:=by
 unfold J13.tellM at h0 |-
 by_cases h1:J13.TOk w.I
 ·simp only[show ¬ ¬ J13.TOk w.I from fun h=>h h1,yx] at h0 |-
  by_cases h2:J13.hasP w.I.E c y=true/\1<=k/\k<=w.I.P
  ·simp only[show ¬ ¬ (J13.hasP w.I.E c y=true/\1<=k/\k<=w.I.P) from fun h=>h h2,yx]
   have hp:=h1.potAt h2.1
   have t1:=J13.nth_tot hp.2.2.2.1.1 h2.2
   have t2:=J13.nth_tot hp.2.2.2.1.2.2.1 h2.2
   unfold J13.tot at t1 t2
   exact⟨h2.1,.inl ⟨rfl,h2.2,⟨t1.1,y18 _⟩,⟨t2.1,y18 _⟩,rfl,rfl⟩⟩
  ·simp only[h2,yk,y17] at h0; cases h0
 ·simp only[h1,yk,y17] at h0; cases h0
theorem zni (h:VW w) (hk:k<w.K.length) (h0:(reportS (stW w k) c y).2=0):MsgOk w.I (stW w) (reportS (stW w k) c y).1:=by
 obtain⟨q1,q2,q3⟩:=h.2.2.2.1 k hk
 have hv:=q1.stb
 have hn:=(zue q1).trans q2
 have h2:=h.2.1
 unfold reportS at h0 |-
 rw[y5 (fun g=>g hv)] at h0 |-
 by_cases h1:hasR (stW w k).L c y=true
 ·rw[y5 (fun g=>g h1)]
  have hle:=zem q1 c y
  have hp:=(z4l q1.now q3 (hle.1 h1)).1
  have hb:=z4t hv.ok c y
  have hu:=z2p hv.val c y
  have e1:((stW w k).S-1).toNat=k:=by
   have:(stW w k).S=(k:Int)+1:=hn
   omega
  refine⟨hp,.inr ⟨?_,?_,rfl,⟨hb.1,?_⟩,⟨?_,?_⟩,rfl,rfl⟩⟩
  ·show (stW w k).S≠0
   have:(stW w k).S=(k:Int)+1:=hn
   omega
  ·show 1<=(stW w k).S/\(stW w k).S<=_
   have:(stW w k).S=(k:Int)+1:=hn
   omega
  ·show (rightV (stW w k).L c y).Q<=(rightV (stW w ((stW w k).S-1).toNat).L c y).Q
   rw[e1]
   exact y18 _
  ·show 0<=usedV (stW w k).Ag c y
   rw[show usedV (stW w k).Ag c y=_ from hu.1]; exact hu.2.1
  ·show usedV (stW w k).Ag c y<=_
   rw[show usedV (stW w k).Ag c y=_ from hu.1]
   have:=hu.2.2
   exact y3e this dk
 ·rw[y6 h1] at h0; cases h0
theorem zc8 (h:e=0->VW ⟨w.I,w.K.set k j,w.O⟩):z6k (keepS w k j e):=by
 by_cases h0:e=0
 ·subst h0
  rw[z2x]
  exact .inl ⟨rfl,h rfl⟩
 ·rw[z3x h0]; exact z3y h0
theorem zvw (h:VW w) (s:TSt):z6k (actS w s):=by
 unfold actS
 by_cases h1:1<=s.Z/\s.Z<=w.K.length
 ·have hlt:(s.Z-1).toNat<w.K.length:=om
  rw[y5 (fun g=>g h1)]
  by_cases c5:s.U=5
  ·rw[y6 c5]
   by_cases c8:s.Op.U=8
   ·rw[y6 c8]; exact z3y dk
   ·rw[y5 c8]
    exact zc8 fun e=>zh2 h hlt e fun k=>absurd k c8
  rw[y5 c5]
  by_cases c6:s.U=6
  ·rw[y6 c6]
   exact zc8 fun _=>zsb h hlt
  rw[y5 c6]
  by_cases c7:s.U=7
  ·rw[y6 c7]
   exact zc8 fun _=>zsc h hlt
  rw[y5 c7]
  exact zg0 h fun e=>zni h hlt e
 ·rw[y6 h1]; exact z3y dk
theorem zjx (h:VW w) (hi:i<w.O.length):z6k (delivS w i):=by
 have hm:=h.2.2.2.2 _ (z7 hi)
 have h2:=h.2.1
 unfold delivS
 obtain⟨m,em⟩:∃ m,m=mAt w i:=⟨_,rfl⟩
 rw[<- em]
 rw[show w.O.getD i dF=m from em.symm] at hm
 by_cases h0:m.To=0
 ·rw[y6 h0]
  by_cases h1:(J13.hearM w.I m).2=0
  ·rw[y5 (fun k=>k h1)]
   obtain⟨g1,g2,g3⟩:=zm9 h1
   refine .inl ⟨rfl,?_⟩
   refine zc6 (w:=⟨(J13.hearM w.I m).1,w.K,w.O⟩) (zcv h g1 fun c y k hp hk=>?_) i
   obtain⟨z1,z2⟩:=g3 c y k hp
   have hh:=z5x (h.2.2.2.1 k hk).2.2 z1
   rcases z2 with z2 | ⟨rfl,rfl,rfl,z2⟩
   ·rw[z2]; exact hh
   ·rw[z2]
    rcases hm.2 with ⟨f0,_⟩ | ⟨_,_,_,f1,_⟩
    ·omega
    ·exact Int.max_le.2 ⟨hh,f1.2⟩
  ·rw[y6 h1]; exact z3y h1
 ·rw[y5 h0]
  rcases hm.2 with ⟨f0,q1,q2,q3,q4,q5⟩ | ⟨_,_,f1,_⟩
  ·have hk:(m.To-1).toNat<w.K.length:=om
   refine zc8 fun e=>?_
   exact zh2 (w:=loseW w i) (zc6 h i) hk e fun _=>⟨hm.1,q2.2,q3.2⟩
  ·exact absurd f1 h0
theorem zui (h:VW w) (s:TSt):z6k (mailS w s):=by
 unfold mailS
 by_cases h1:0<=s.Aj/\s.Aj<w.O.length
 ·have hlt:s.Aj.toNat<w.O.length:=om
  rw[y5 (fun g=>g h1)]
  by_cases c9:s.U=9
  ·rw[y6 c9]; exact zjx h hlt
  rw[y5 c9]
  by_cases c11:s.U=11
  ·rw[y6 c11]
   exact zg0 h fun _=>h.2.2.2.2 _ (z7 hlt)
  rw[y5 c11]
  exact .inl ⟨rfl,zc6 h _⟩
 ·rw[y6 h1]; exact z3y dk
theorem zuj (h:VW w) (s:TSt):z6k (stepW w s):=by
 by_cases k:s.U=1
 ·rw[z8w k]; exact z93 h zqc
 by_cases k2:s.U=2
 ·rw[z8x k2]; exact z93 h zsa
 by_cases k3:s.U=3
 ·rw[z8y k3]; exact z93 h zqd
 by_cases k4:s.U=4
 ·rw[z8z k4]; exact zg0 h (zsd h)
 by_cases ka:5<=s.U/\s.U<=8
 ·rw[z90 ka]; exact zvw h s
 by_cases km:9<=s.U/\s.U<=11
 ·rw[z5v km]; exact zui h s
 ·rw[z91 om]; exact z3y dk
end Go.Proofs.YtgbpiaddmclccaaGreatDoor
