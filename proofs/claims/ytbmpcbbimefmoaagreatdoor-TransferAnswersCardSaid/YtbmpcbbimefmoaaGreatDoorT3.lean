/- A part of the proof: laws over any program of the abstract machine. No condition. -/
import Derived.Test.YtbmpcbbimefmoaaGreatDoorT2
import Derived.Sort.OwnSortedInts
import Derived.Lib.SlicesCompact
import Derived.RangeFuncNested
import Derived.RangeFuncCalls
import Derived.RangeFuncLeaves
import Derived.Below
import Derived.Test.YtbmpcbbimefmoaaGreatDoorT1
import Derived.Lib.Bytealg
import Derived.Lib.AtoiAll
import Derived.Lib.ItoaNum
namespace Go.TA
open Go Go.Sort Go.RowKit
section
variable {X:Nat->Prop} {ms:Blocks} {L:List Ob} {w w':World}
end
end Go.TA
namespace Go.TA
open Go
variable {z:Option Nat}
inductive Why where
 | ev (k:Nat)
 | pf {p:Prop} (h:p)
 | der {H p:Prop} (f:H->p) (k:Nat)
 | der2 {H H' p:Prop} (f:H->H'->p) (k k':Nat)
 | cl (k:Nat) (c:CR) (σ:List Nat) (n:Nat) (rd:Bool)
 | clg (k:Nat) (gs:List Prop) (c:CR) (σ:List Nat) (n:Nat) (rd:Bool)
inductive Small where
 | slot (t:Nat)
 | why (w:Why)
inductive Scr (P:Program) (ρ:Type):Type->Type 1
 | ret {α:Type} (ws:List Why) (a:α):Scr P ρ α
 | ite {α:Type} (b:Bool) (x y:Scr P ρ α):Scr P ρ α
 | br {α:Type} (v:Bool) (w:Why) (x:Scr P ρ α):Scr P ρ α
 | guard {α:Type} (gs:List Prop) (k:Scr P ρ α):Scr P ρ α
 | call {α R:Type} {f:FuncId} {as:List AV} {L:List Ob} {V:R->AV} {L':R->List Ob} {x:Option R} (ok:∀ r,x=some r->CallOk P f as L (V r) (L' r)) (k:R->CR->Scr P ρ α):Scr P ρ α
 | calld {α R:Type} (gs:List Prop) (d:R) {f:FuncId} {as:List AV} {L:List Ob} {V:R->AV} {L':R->List Ob} {x:Option R} (ok:∀ r,x=some r->CallOk P f as L (V r) (L' r)) (k:R->CR->Scr P ρ α):Scr P ρ α
 | lev {α:Type} (t:Nat) (v:AV) (w:Why) (k:Scr P ρ α):Scr P ρ α
 | keep {α:Type} (ts:List Nat) (k:Scr P ρ α):Scr P ρ α
 | sh {α:Type} {H:Cx->Cx->Prop} {A:Prop} (w:Why) (fr1 fr2:Fr) (L1 L2:List Ob) (p:A->Shifts H L1 L2) (q:TrF H fr1 fr2) (k:Scr P ρ α):Scr P ρ α
 | frz {α:Type} (o:Nat) (w:Why) (pw:Option Why) (ts os:List Nat) (k:Scr P ρ α):Scr P ρ α
 | bor {α:Type} (sz:Nat) (f:Nat->AV) (ts:List Nat) (k:Scr P ρ α):Scr P ρ α
 | kill {α:Type} (o:Nat) (k:Scr P ρ α):Scr P ρ α
 | nils {α:Type} (t:Nat) (x y:Scr P ρ α):Scr P ρ α
 | split {α:Type} (b:Bool) (x y:Scr P ρ α):Scr P ρ α
 | cst {α:Type} {A:Prop} (w:Why) (fr1 fr2:Fr) (L1 L2:List Ob) (p:A->fr1=fr2/\L1=L2) (k:Scr P ρ α):Scr P ρ α
 | reg {α:Type} (id:Nat) (effs:List Nat) (hs:List (Nat×HE)) (ws:List Why) (k:Scr P ρ α):Scr P ρ α
 | cut {α σ:Type} (id:Option Nat) (ts:List Nat) (upd:σ->Fr) (updL:σ->List (Nat×Ob)) (x:Scr P ρ (Out σ α)) (k:σ->Scr P ρ α):Scr P ρ α
 | range {α σ:Type} (b:Int) (n:Nat) (hb:b.toNat=n) (hn:Small) (idx:Nat) (ts:List Nat) (upd:σ->Fr) (updL:σ->List (Nat×Ob)) (s0:σ) (body:Nat->σ->Scr P ρ (Step σ ρ)) (k:σ->Scr P ρ α) (kr:ρ->α):Scr P ρ α
 | rangeX {α σ:Type} (xj:Nat) (b:Int) (n:Nat) (hb:b.toNat=n) (hn:Small) (idx:Nat) (ts:List Nat) (upd:σ->Fr) (updL:σ->List (Nat×Ob)) (s0:σ) (body:Nat->σ->Scr P ρ (Step σ (ρ ⊕ σ))) (k kx:σ->Scr P ρ α) (kr:ρ->α):Scr P ρ α
 | iter {α σ:Type} (ts:List Nat) (upd:σ->Fr) (updL:σ->List (Nat×Ob)) (s0:σ) (body:σ->Scr P ρ (Step σ ρ)) (k:σ->Scr P ρ α) (kr:ρ->α):Scr P ρ α
variable {α σ ρ:Type}
def outX (kr:ρ->α) (kx:σ->Option α):ρ ⊕ σ->Option α
 | .inl x=>some (kr x)
 | .inr s=>kx s
variable {P:Program}
noncomputable def Scr.den:{α:Type}->Scr P ρ α->Option α
 | _,.ret _ a=>some a
 | _,.ite b x y=>if b=true then x.den else y.den
 | _,.br _ _ x=>x.den
 | _,.guard gs k=>guardP (AllP gs) k.den
 | _,.call (f:=f) (as:=as) (L:=L) (V:=V) (L':=L') (x:=x) _ k=>x.bind fun r=>(k r ⟨f,as,L,V r,L' r⟩).den
 | _,.calld (f:=f) (as:=as) (L:=L) (V:=V) (L':=L') (x:=x) gs d _ k=>(optD gs x d).bind fun r=>(k r ⟨f,as,L,V r,L' r⟩).den
 | _,.lev _ _ _ k=>k.den
 | _,.keep _ k=>k.den
 | _,.sh _ _ _ _ _ _ _ k=>k.den
 | _,.cst _ _ _ _ _ _ k=>k.den
 | _,.frz _ _ _ _ _ k=>k.den
 | _,.bor _ _ _ k=>k.den
 | _,.kill _ k=>k.den
 | _,.nils _ _ y=>y.den
 | _,.split b x y=>if b=true then x.den else y.den
 | _,.reg _ _ _ _ k=>k.den
 | _,.cut _ _ _ _ x k=>outM x.den (fun s=>(k s).den) some
 | _,.range _ n _ _ _ _ _ _ s0 body k kr=>outM (rangeM (fun i s=>(body i s).den) n 0 s0) (fun s=>(k s).den) (fun x=>some (kr x))
 | _,.rangeX _ _ n _ _ _ _ _ _ s0 body k kx kr=>outM (rangeM (fun i s=>(body i s).den) n 0 s0) (fun s=>(k s).den) (outX kr fun s=>(kx s).den)
 | _,.iter _ _ _ s0 body k kr=>outM (iterM (fun s=>(body s).den) s0) (fun s=>(k s).den) (fun x=>some (kr x))
def eqf (fl:Bool) (a b:α):Prop:=match fl with
 | true=>a=a
 | false=>a=b
def bad (fl:Bool):Prop:=match fl with
 | true=>True
 | false=>False
def rdR (c:CR):Bool->Prop
 | true=>c.L=c.L
 | false=>True
def clP (P:Program) (c:CR) (σ:List Nat) (n:Nat) (rd:Bool):Prop :=
 CallOk P c.f c.as c.L c.v c.L'/\AV.renL (rho σ n) c.as=AV.renL (rho σ n) c.as/\c.L.map (fun x=>some (x.ren (rho σ n)))=c.L.map (fun x=>some (x.ren (rho σ n)))/\rdR c rd
def whyOk (P:Program) (fl:Bool) (Ev:List Prop) (w:Why) (q:Prop):Prop:=match w with
 | .ev k=>match Ev[k]? with
  | some p=>eqf fl p q
  | none=>bad fl
 | .pf (p:=p) _=>eqf fl p q
 | .der (H:=H) (p:=p) _ k=>match Ev[k]? with
  | some H'=>eqf fl H' H/\eqf fl p q
  | none=>bad fl
 | .der2 (H:=H) (H':=H') (p:=p) _ k k'=>match Ev[k]?,Ev[k']? with
  | some A,some B=>eqf fl A H/\eqf fl B H'/\eqf fl p q
  | _,_=>bad fl
 | .cl k c σ n rd=>match Ev[k]? with
  | some p=>eqf fl p (CallOk P c.f c.as c.L c.v c.L')/\eqf fl (clP P c σ n rd) q
  | none=>bad fl
 | .clg k gs c σ n rd=>match Ev[k]? with
  | some p=>eqf fl p (AllP gs->CallOk P c.f c.as c.L c.v c.L')/\eqf fl (AllP gs->clP P c σ n rd) q
  | none=>bad fl
theorem z3s:∀ {Ev:List Prop} {k:Nat} {p:Prop},AllP Ev->Ev[k]? = some p->p
 | _ :: _,0,_,h,e=>by cases e; exact h.1
 | _ :: r,k+1,p,h,e=>z3s (Ev:=r) h.2 (by simpa using e)
 | [],_,_,_,e=>by simp at e
theorem zj8 (c:CR) (rd:Bool):rdR c rd:=by cases rd <;> simp[rdR]
variable {Ev:List Prop} {w:Why} {q:Prop}
theorem z2y:whyOk P true Ev w q:=by
 cases w <;> simp only[whyOk] <;> (try split) <;> first | exact rfl | exact⟨rfl,rfl⟩ | exact⟨rfl,rfl,rfl⟩ | trivial
theorem z3d (h:whyOk P false Ev w q) (hE:AllP Ev):q:=by
 cases w with
 | ev k =>
  simp only[whyOk] at h
  split at h
  ·rename_i p hp; have e:p=q:=h; exact e▸z3s hE hp
  ·exact h.elim
 | pf hp=>have e:=h; simp only[whyOk] at e; exact (show _=q from e)▸hp
 | der f k =>
  simp only[whyOk] at h
  split at h
  ·rename_i p hp
   obtain⟨h1,h2⟩:=h
   exact (show _=q from h2)▸f ((show p=_ from h1)▸z3s hE hp)
  ·exact h.elim
 | der2 f k k' =>
  simp only[whyOk] at h
  split at h
  ·rename_i p p' hp hp'
   obtain⟨h1,h2,h3⟩:=h
   exact (show _=q from h3)▸f ((show p=_ from h1)▸z3s hE hp) ((show p'=_ from h2)▸z3s hE hp')
  ·exact h.elim
 | cl k c σ n rd =>
  simp only[whyOk] at h
  split at h
  ·rename_i p hp
   obtain⟨h1,h2⟩:=h
   exact (show _=q from h2)▸⟨(show p=_ from h1)▸z3s hE hp,rfl,rfl,zj8 c rd⟩
  ·exact h.elim
 | clg k gs c σ n rd =>
  simp only[whyOk] at h
  split at h
  ·rename_i p hp
   obtain⟨h1,h2⟩:=h
   have hq:p:=z3s hE hp
   have e1:p=(AllP gs->CallOk P c.f c.as c.L c.v c.L'):=h1
   rw[e1] at hq
   exact (show _=q from h2)▸fun hg=>⟨hq hg,rfl,rfl,zj8 c rd⟩
  ·exact h.elim
def whysOk (P:Program) (fl:Bool) (Ev:List Prop):List Why->List Prop->Prop
 | [],[]=>True
 | w :: ws,q :: C=>whyOk P fl Ev w q/\whysOk P fl Ev ws C
 | _,_=>bad fl
theorem z7g {P:Program} {Ev:List Prop}:∀ {ws:List Why} {C:List Prop},whysOk P true Ev ws C
 | [],[]=>trivial
 | _ :: _,_ :: _=>⟨z2y,z7g⟩
 | [],_ :: _=>trivial
 | _ :: _,[]=>trivial
theorem z7h {P:Program} {Ev:List Prop}:∀ {ws:List Why} {C:List Prop},whysOk P false Ev ws C->AllP Ev->AllP C
 | [],[],_,_=>trivial
 | _ :: _,_ :: _,h,hE=>⟨z3d h.1 hE,z7h h.2 hE⟩
 | [],_ :: _,h,_=>h.elim
 | _ :: _,[],h,_=>h.elim
def frLeq (fl:Bool) (fr:Fr):Fr->Prop
 | []=>True
 | (t,v) :: r=>(match Fr.get? fr t with
  | some v'=>eqf fl v' v
  | none=>bad fl)/\frLeq fl fr r
theorem z90 {fr:Fr}:∀ {r:Fr},frLeq true fr r
 | []=>trivial
 | (t,v) :: r=>⟨by split <;> first | exact rfl | trivial,z90⟩
theorem get?_mem:∀ {fr:Fr} {t:Nat} {v:AV},Fr.get? fr t=some v->(t,v)∈fr
 | (s,u) :: r,t,v,h=>by
  simp only[Fr.get?] at h
  split at h
  ·rename_i e; cases h; obtain rfl:s=t:=by simpa using e
   exact y1a
  ·exact ym _ (get?_mem h)
 | [],_,_,h=>by cases h
theorem z91 {fr:Fr}:∀ {r:Fr},frLeq false fr r->FrLe fr r
 | [],_=>zee
 | (t,v) :: r,h=>by
  obtain⟨h1,h2⟩:=h
  split at h1
  ·rename_i v' hv
   have e:v'=v:=h1
   subst e
   exact z6c (get?_mem hv) (LeV.refl _) (z91 h2)
  ·exact h1.elim
def obLt (fl:Bool) (n:Nat):Ob->Prop
 | .box x=>eqf fl (x.lt n) true
 | .seq _ _ f=>∀ i,eqf fl ((f i).lt n) true
 | _=>True
def obsLt (fl:Bool) (n:Nat):List Ob->Prop
 | []=>True
 | x :: r=>obLt fl n x/\obsLt fl n r
variable {n:Nat}
theorem zo3 {x:Ob}:obLt true n x:=by cases x <;> simp[obLt,eqf]
theorem zbq {n:Nat}:∀ {L:List Ob},obsLt true n L
 | []=>trivial
 | _ :: _=>⟨zo3,zbq⟩
theorem zbr {n:Nat}:∀ {L:List Ob},obsLt false n L->LsOk n L
 | [],_=>trivial
 | x :: r,h=>⟨by
  cases x with
  | box v=>exact h.1
  | seq sz m f=>exact fun i _=>h.1 i
  | map es=>trivial
  | dmap es=>trivial
  | ex x=>trivial
  | dead=>trivial
  | unb=>trivial,zbr h.2⟩
def stLeq (fl:Bool) (fr:Fr) (L:List Ob) (fr':Fr) (L':List Ob):Prop :=
 frLeq fl fr fr'/\eqf fl (L.take L'.length) L'/\(match Nat.beq L.length L'.length with
  | true=>True
  | false=>eqf fl (fr'.all fun x=>x.2.lt L'.length) true/\obsLt fl L'.length L')
variable {fr fr':Fr} {L L':List Ob}
theorem z3e:stLeq true fr L fr' L':=⟨z90,rfl,by split <;> first | trivial | exact⟨rfl,zbq⟩⟩
theorem z2z (h:stLeq false fr L fr' L'):StLe fr L fr' L':=by
 obtain⟨h1,h2,h3⟩:=h
 refine⟨z91 h1,?_⟩
 have e:L.take L'.length=L':=h2
 split at h3
 ·rename_i hb
  left
  rw[<- e,y2w (Nat.le_of_eq (y31 hb))]
 ·right
  refine⟨⟨L.drop L'.length,?_,lsOk (zbr h3.2)⟩,y18.1 h3.1⟩
  conv=>lhs; rw[<- y2b L'.length L,e]
def asD:AV->DV
 | .d x=>x
 | _=>.b false
def leOk (P:Program) (fl:Bool) (Ev:List Prop) (m n:Nat):Option Why->Prop
 | none=>eqf fl m n
 | some w=>whyOk P fl Ev w (m<=n)
def natEq (fl:Bool) (i j:Nat):Prop:=match Nat.beq i j with
 | true=>True
 | false=>bad fl
mutual
def fzV (P:Program) (fl:Bool) (Ev:List Prop) (pw:Option Why) (o n:Nat) (g:Nat->DV):AV->AV×Prop
 | .ref r st off m=>match Nat.beq r o with
  | true=>(.d (.sl m g),eqf fl st n/\natEq fl off 0/\leOk P fl Ev m n pw)
  | false=>(.ref r st off m,True)
 | .agg fs=>match fzL P fl Ev pw o n g fs with
  | (gs,c)=>match allD gs with
   | some ds=>(.d (.agg ds),c)
   | none=>(.agg gs,c)
 | v=>(v,True)
def fzL (P:Program) (fl:Bool) (Ev:List Prop) (pw:Option Why) (o n:Nat) (g:Nat->DV):List AV->List AV×Prop
 | []=>([],True)
 | x :: r=>match fzV P fl Ev pw o n g x,fzL P fl Ev pw o n g r with
  | (y,c),(q,d)=>(y :: q,c/\d)
end
def fzFr (P:Program) (fl:Bool) (Ev:List Prop) (pw:Option Why) (o n:Nat) (g:Nat->DV) (fr:Fr):List Nat->Fr×Prop
 | []=>([],True)
 | t :: r=>match fzFr P fl Ev pw o n g fr r with
  | (q,d)=>match Fr.get? fr t with
   | some v=>match v.solid,fzV P fl Ev pw o n g v with
    | true,(y,c)=>((t,y) :: q,c/\d)
    | false,_=>(q,bad fl)
   | none=>(q,bad fl)
def fzOs (P:Program) (fl:Bool) (Ev:List Prop) (pw:Option Why) (o n:Nat) (g:Nat->DV) (os:List Nat):Nat->List Ob->List Ob×Prop
 | _,[]=>([],True)
 | k,x :: r=>match fzOs P fl Ev pw o n g os (k+1) r with
  | (q,d)=>match Nat.beq k o with
   | true=>(.dead :: q,d)
   | false=>match os.contains k,x with
    | true,.box v=>match fzV P fl Ev pw o n g v with
     | (y,c)=>(.box y :: q,c/\d)
    | _,x=>(x :: q,d)
def bnFr (fl:Bool) (m:Nat) (fr:Fr):List Nat->Fr×Prop
 | []=>([],True)
 | t :: r=>match bnFr fl m fr r with
  | (q,d)=>match Fr.get? fr t with
   | some (.full 0 _)=>((t,.ref m 0 0 0) :: q,d)
   | _=>(q,bad fl)
variable {pw:Option Why} {m:Nat}
theorem zo4 (h:leOk P false Ev m n pw) (hE:AllP Ev):m<=n:=by
 cases pw with
 | none=>exact Nat.le_of_eq h
 | some w=>exact z3d h hE
theorem zo5:leOk P true Ev m n pw:=by
 cases pw with
 | none=>rfl
 | some w=>exact z2y
variable {i j:Nat}
theorem z92 (h:natEq false i j):i=j:=by
 unfold natEq at h
 split at h
 ·rename_i e; exact y31 e
 ·exact h.elim
theorem zbs:natEq true i j:=by unfold natEq; split <;> trivial
mutual
theorem zhc {P:Program} {Ev:List Prop} (hE:AllP Ev) {pw:Option Why} {o n:Nat} {g:Nat->DV}:∀ (v:AV),(fzV P false Ev pw o n g v).2->TrV (FzH o n g) v (fzV P false Ev pw o n g v).1
 | .ref r st off m,h=>by
  simp only[fzV] at h |-
  split at h
  ·rename_i hb
   obtain⟨h1,h2,h3⟩:=h
   have e1:st=n:=h1
   have e2:=z92 h2
   have e3:=y31 hb
   subst e1; subst e2; subst e3
   exact TrV.ref (zo4 h3 hE)
  ·exact TrV.keep _
 | .agg fs,h=>by
  simp only[fzV] at h |-
  cases hd:allD (fzL P false Ev pw o n g fs).1 with
  | some ds =>
   simp only[hd] at h |-
   have ih:=zhd hE fs h
   rw[z9q hd] at ih
   exact TrV.aggD ih
  | none =>
   simp only[hd] at h |-
   exact TrV.agg (zhd hE fs h)
 | .d x,_=>TrV.keep _
 | .full n f,_=>TrV.keep _
 | .nq b n f,_=>TrV.keep _
 | .err _,_=>TrV.keep _
 | .ptr ..,_=>TrV.keep _
 | .imm ..,_=>TrV.keep _
 | .map ..,_=>TrV.keep _
 | .fn ..,_=>TrV.keep _
 | .bfn ..,_=>TrV.keep _
 | .tup ..,_=>TrV.keep _
 | .bot,_=>TrV.keep _
 | .sel ..,_=>TrV.keep _
theorem zhd {P:Program} {Ev:List Prop} (hE:AllP Ev) {pw:Option Why} {o n:Nat} {g:Nat->DV}:∀ (l:List AV),(fzL P false Ev pw o n g l).2->TrL (FzH o n g) l (fzL P false Ev pw o n g l).1
 | [],_=>TrL.nil
 | x :: r,h=>by
  simp only[fzL] at h |-
  exact TrL.cons (zhc hE x h.1) (zhd hE r h.2)
end
mutual
theorem zhe {P:Program} {Ev:List Prop} {pw:Option Why} {o n:Nat} {g:Nat->DV}:∀ (v:AV),(fzV P true Ev pw o n g v).2
 | .ref r st off m=>by
  simp only[fzV]
  split
  ·exact⟨rfl,zbs,zo5⟩
  ·trivial
 | .agg fs=>by
  have ih:=zma (P:=P) (Ev:=Ev) (pw:=pw) (o:=o) (n:=n) (g:=g) fs
  simp only[fzV]
  split <;> exact ih
 | .d _=>trivial
 | .full _ _=>trivial
 | .nq .. => trivial
 | .err .. => trivial
 | .ptr .. => trivial
 | .imm .. => trivial
 | .map .. => trivial
 | .fn .. => trivial
 | .bfn .. => trivial
 | .tup .. => trivial
 | .bot=>trivial
 | .sel .. => trivial
theorem zma {P:Program} {Ev:List Prop} {pw:Option Why} {o n:Nat} {g:Nat->DV}:∀ (l:List AV),(fzL P true Ev pw o n g l).2
 | []=>trivial
 | x :: r=>by
  simp only[fzL]
  exact⟨zhe x,zma r⟩
end
theorem zl1 {fl:Bool} {o:Nat} {g:Nat->DV} (v:AV):v.isAgg=(fzV P fl Ev pw o n g v).1.isAgg:=by
 cases v with
 | ref r st off m=>simp only[fzV]; split <;> rfl
 | agg fs=>simp only[fzV]; split <;> rfl
 | _=>rfl
theorem zj9 {P:Program} {Ev:List Prop} (hE:AllP Ev) {pw:Option Why} {o n:Nat} {g:Nat->DV} {fr:Fr}:∀ {ts:List Nat},(fzFr P false Ev pw o n g fr ts).2->TrF (FzH o n g) fr (fzFr P false Ev pw o n g fr ts).1
 | [],_=>z2e
 | t :: r,h=>by
  simp only[fzFr] at h |-
  cases hg:Fr.get? fr t with
  | none=>simp only[hg] at h; exact h.elim
  | some v =>
   simp only[hg] at h |-
   split at h
   ·rename_i y c hs e
    obtain⟨h1,h2⟩:=h
    intro x hx
    rcases yv.1 hx with rfl | hx
    ·refine⟨v,get?_mem hg,?_⟩
     have hv:=zhc (P:=P) hE (pw:=pw) (o:=o) (n:=n) (g:=g) v (by rw[e]; exact h1)
     have ha:=zl1 (P:=P) (fl:=false) (Ev:=Ev) (pw:=pw) (o:=o) (n:=n) (g:=g) v
     rw[e] at hv ha
     exact TrS.of ha (.inr hs) hv
    ·exact zj9 hE h2 x hx
   ·exact h.elim
theorem zja {P:Program} {Ev:List Prop} {pw:Option Why} {o n:Nat} {g:Nat->DV} {fr:Fr}:∀ {ts:List Nat},(fzFr P true Ev pw o n g fr ts).2
 | []=>trivial
 | t :: r=>by
  have ih:=zja (P:=P) (Ev:=Ev) (pw:=pw) (o:=o) (n:=n) (g:=g) (fr:=fr) (ts:=r)
  simp only[fzFr]
  cases hg:Fr.get? fr t with
  | none=>trivial
  | some v =>
   simp only
   have hv:=zhe (P:=P) (Ev:=Ev) (pw:=pw) (o:=o) (n:=n) (g:=g) v
   cases hs:v.solid with
   | true=>exact⟨hv,ih⟩
   | false=>trivial
theorem zat {P:Program} {Ev:List Prop} (hE:AllP Ev) {pw:Option Why} {o n:Nat} {g:Nat->DV} {os:List Nat}:∀ {k:Nat} {L:List Ob},(fzOs P false Ev pw o n g os k L).2->TrO (FzH o n g) o k L (fzOs P false Ev pw o n g os k L).1
 | k,[],_=>.nil k
 | k,x :: r,h=>by
  simp only[fzOs] at h |-
  split at h
  ·rename_i hb
   exact .here k _ _ _ (y31 hb) (zat hE h)
  ·rename_i hb
   have hk:k≠o:=fun e=>by subst e; simp[Nat.beq_refl] at hb
   split at h
   ·rename_i v hc
    obtain⟨h1,h2⟩:=h
    exact .box k _ _ _ _ hk (zhc hE v h1) (zat hE h2)
   ·rename_i hne
    exact .keep k _ _ _ hk (zat hE h)
theorem zjb {P:Program} {Ev:List Prop} {pw:Option Why} {o n:Nat} {g:Nat->DV} {os:List Nat}:∀ {k:Nat} {L:List Ob},(fzOs P true Ev pw o n g os k L).2
 | k,[]=>trivial
 | k,x :: r=>by
  have ih:=zjb (P:=P) (Ev:=Ev) (pw:=pw) (o:=o) (n:=n) (g:=g) (os:=os) (k:=k+1) (L:=r)
  simp only[fzOs]
  split
  ·exact ih
  ·split
   ·exact⟨zhe _,ih⟩
   ·exact ih
variable {H:Cx->Cx->Prop}
theorem zg6 {q:Fr} (h:TrF H fr q):TrF H fr (q++fr):=fun x hx=>by
 rcases y1c.1 hx with hx | hx
 ·exact h x hx
 ·exact⟨x.2,hx,TrS.keep _⟩
theorem zjc {fr:Fr} {m:Nat}:∀ {ts:List Nat},(bnFr false m fr ts).2->TrF (BnH m) fr (bnFr false m fr ts).1
 | [],_=>z2e
 | t :: r,h=>by
  simp only[bnFr] at h |-
  split at h
  ·rename_i f hg
   intro x hx
   rcases yv.1 hx with rfl | hx
   ·exact⟨_,get?_mem hg,TrS.of rfl (.inr rfl) TrV.born⟩
   ·exact zjc h x hx
  ·exact h.elim
theorem zjd {fr:Fr} {m:Nat}:∀ {ts:List Nat},(bnFr true m fr ts).2
 | []=>trivial
 | t :: r=>by
  have ih:=zjd (fr:=fr) (m:=m) (ts:=r)
  simp only[bnFr]
  split
  ·exact ih
  ·trivial
theorem zej {H:Cx->Cx->Prop} {o:Nat}:∀ {L:List Ob} {k:Nat},k+L.length<=o->TrO H o k L L
 | [],k,_=>.nil k
 | x :: r,k,h=>.keep k x r r (by simp at h; omega) (zej (by simp at h; omega))
def pick (fr:Fr):List Nat->Option Fr
 | []=>some []
 | t :: r=>match Fr.get? fr t,pick fr r with
  | some v,some q=>some ((t,v) :: q)
  | _,_=>none
theorem zg7 {fr:Fr}:∀ {ts:List Nat} {q:Fr},pick fr ts=some q->FrLe fr q
 | [],_,h=>by cases h; exact zee
 | t :: r,q,h=>by
  simp only[pick] at h
  split at h
  ·rename_i v q' hv hq
   cases h
   exact z6c (get?_mem hv) (LeV.refl _) (zg7 hq)
  ·cases h
theorem z1i:∀ (ups:List (Nat×Ob)) (L:List Ob),(applyUps L ups).length=L.length
 | [],_=>rfl
 | u :: r,L=>by
  show (applyUps (L.set u.1 u.2) r).length=_
  rw[z1i r,y23]
inductive Itm where
 | c (x:Code)
 | l (x:Code)
 | m (i:Nat)
def unwind (j:Nat):List Itm->Option (List Itm)
 | []=>none
 | .m i :: r=>if j=i then some r else unwind j r
 | .c _ :: r=>unwind j r
 | .l _ :: r=>unwind j r
def Kp (z:Option Nat) (P:Program) (N:Nat):List Itm->Post->Post
 | [],Q=>Q
 | .c x :: r,Q=>thenP (fun fr L=>AW z P N x (Kp z P N r Q) fr L) (Kp z P N r Q)
 | .l x :: r,Q=>thenP (fun fr L=>AWL z P N x (Kp z P N r Q) fr L) (Kp z P N r Q)
 | .m i :: r,Q=>blockP i (Kp z P N r Q)
section
variable {P:Program} {N:Nat} {Q:Post} {fr:Fr} {L:List Ob}
theorem z41 {j:Nat}:∀ {is r:List Itm},unwind j is=some r->Kp z P N r Q .normal fr L->Kp z P N is Q (.exit j) fr L
 | [],_,h,_=>by cases h
 | .m i :: is,r,h,hk=>by
  simp only[unwind] at h
  simp only[Kp,blockP]
  split at h
  ·rename_i e; cases h; rw[y7 e]; exact hk
  ·rename_i e; rw[y6 e]; exact z41 h hk
 | .c x :: is,r,h,hk=>z41 (is:=is) h hk
 | .l x :: is,r,h,hk=>z41 (is:=is) h hk
theorem z85 {j:Nat}:∀ {is:List Itm},unwind j is=none->Q (.exit j) fr L->Kp z P N is Q (.exit j) fr L
 | [],_,hk=>hk
 | .m i :: is,h,hk=>by
  simp only[unwind] at h
  simp only[Kp,blockP]
  split at h
  ·cases h
  ·rename_i e; rw[y6 e]; exact z85 h hk
 | .c x :: is,h,hk=>z85 (is:=is) h hk
 | .l x :: is,h,hk=>z85 (is:=is) h hk
theorem z6v {l:Nat}:∀ {is:List Itm},Kp z P N is Q (.goto l) fr L->Q (.goto l) fr L
 | [],h=>h
 | .m _ :: is,h=>z6v (is:=is) h
 | .c _ :: is,h=>z6v (is:=is) h
 | .l _ :: is,h=>z6v (is:=is) h
theorem z55:∀ {is:List Itm},Q .ret fr L->Kp z P N is Q .ret fr L
 | [],hk=>hk
 | .m _ :: is,hk=>z55 (is:=is) hk
 | .c _ :: is,hk=>z55 (is:=is) hk
 | .l _ :: is,hk=>z55 (is:=is) hk
end
def Gst (e:Exit) (Q:Post) (fr:Fr) (L:List Ob):Prop :=
 ∀ (X:Nat->Prop) (ms:Blocks) (w:World) (tmps:Array Value),Rel X ms L w->FrIs (cxOf X ms L w) fr.up tmps ->
  ∃ ms' fr' L',Q e fr' L'/\Rel X ms' L' w/\Ext ms w ms' w/\(cxOf X ms L w).le (cxOf X ms' L' w)/\FrIs (cxOf X ms' L' w) fr'.up tmps
variable {c:Code}
section
variable {P:Program} {N:Nat} {Q:Post} {fr fr':Fr} {L L':List Ob} {e:Exit}
theorem z1v (h:Q e fr L):Gst e Q fr L:=fun _ ms _ _ hr hf=>⟨ms,fr,L,h,hr,Ext.refl _ _,Cx.le.refl _,hf⟩
theorem z2t {Q':Post} {e':Exit} (h:Gst e Q fr L) (hq:∀ fr L,Q e fr L->Q' e' fr L):Gst e' Q' fr L:=fun X ms w tmps hr hf=>by
 obtain⟨ms',fr',L',h1,h2⟩:=h X ms w tmps hr hf
 exact⟨ms',fr',L',hq _ _ h1,h2⟩
theorem z7i (h:Gst e Q fr' L) (hl:FrLe fr fr'):Gst e Q fr L:=fun X ms w tmps hr hf=>h X ms w tmps hr (hl.is hf)
theorem z56 (h:AW z P N c (fun e fr L=>Gst e Q fr L) fr L):AW z P N c Q fr L:=by
 intro zn df X ms w a hr hf hN hd
 refine y32 (h zn df X ms w a hr hf hN hd) ?_
 rintro e a1 w1 ⟨ms1,fr1,L1,q,r1,e1,c1,f1,n1,d1⟩
 obtain⟨ms2,fr2,L2,q2,r2,e2,c2,f2⟩:=q X ms1 w1 a1.tmps r1 f1
 exact⟨ms2,fr2,L2,q2,r2,e1.trans e2,c1.trans c2,f2,n1,d1⟩
theorem z1m {Q0:Post} (h:Gst e Q0 fr L) (hq:∀ fr L,Q0 e fr L->AW z P N c Q fr L):AW z P N c Q fr L:=by
 intro zn df X ms w a hr hf hN hd
 obtain⟨ms1,fr1,L1,q,r1,e1,c1,f1⟩:=h X ms w a.tmps hr hf
 refine y32 (hq _ _ q zn df X ms1 w a r1 f1 hN hd) ?_
 rintro e a2 w2 ⟨ms2,fr2,L2,q2,r2,e2,c2,f2,n2,d2⟩
 exact⟨ms2,fr2,L2,q2,r2,e1.trans e2,c1.trans c2,f2,n2,d2⟩
theorem z6g {fr1 fr2:Fr} {L1 L2:List Ob} (h1:FrLe fr fr1) (h2:L=L1) (p:Shifts H L1 L2) (q:TrF H fr1 fr2) (h:Gst e Q fr2 L2):Gst e Q fr L:=by
 subst h2
 intro X ms w tmps hr hf
 obtain⟨ms1,r1,e1,c1,hh⟩:=p X ms w hr
 have hf1:=h1.is hf
 obtain⟨ms2,fr3,L3,q2,r2,e2,c2,f2⟩:=h X ms1 w tmps r1 (fun x hx=>by
  obtain⟨y,hy,rfl⟩:=yz.1 hx
  obtain⟨v,hv,hs⟩:=q y hy
  obtain⟨k1,k2,k3⟩:=hf1 (y.1,[],v) (yz.2 ⟨_,hv,rfl⟩)
  exact⟨k1,fun hh'=>hs _ _ c1 hh _ (k2 hh'),fun hh'=>absurd (fun z hz=>by cases hz) hh'⟩)
 exact⟨ms2,fr3,L3,q2,r2,e1.trans e2,c1.trans c2,f2⟩
end
structure Hd (ρ α:Type) where
 chk:List Prop->Exit->Fr->List Ob->List Why->α->Prop
 inj:ρ->α
 post:α->Post
structure HdOk {ρ α:Type} (R:ρ->Fr->List Ob->Prop) (hd:Hd ρ α):Prop where
 f:∀ Ev e fr L ws a,hd.chk Ev e fr L ws a->AllP Ev->Gst e (hd.post a) fr L
 i:∀ x fr L,R x fr L->hd.post (hd.inj x) .ret fr L
 g:∀ a l fr L,¬ hd.post a (.goto l) fr L
section
variable (P:Program) (fn:Func) {ρ:Type} (V:ρ->AV) (Lr:ρ->List Ob)
def funChk (fl:Bool) (Ev:List Prop) (fr:Fr) (L:List Ob) (ws:List Why) (r:ρ):Prop :=
 (match resV P fn fr L with
  | some (v1,C)=>(match ws with
   | []=>eqf fl v1 (V r)/\eqf fl C []
   | w :: ws'=>whyOk P fl Ev w (LeV v1 (V r))/\whysOk P fl Ev ws' C)
  | none=>bad fl)/\eqf fl (L.take (Lr r).length) (Lr r)
def FRel (x:ρ) (fr:Fr) (L:List Ob):Prop:=FR P fn (V x) (Lr x) fr L
end
variable {ws:List Why}
section
variable {P:Program} {fn:Func} {ρ:Type} {V:ρ->AV} {Lr:ρ->List Ob}
theorem z4l {r:ρ}:funChk P fn V Lr true Ev fr L ws r:=by
 refine⟨?_,rfl⟩
 split
 ·split
  ·exact⟨rfl,rfl⟩
  ·exact⟨z2y,z7g⟩
 ·trivial
theorem z5y {r:ρ} (h:funChk P fn V Lr false Ev fr L ws r) (hE:AllP Ev):FRel P fn V Lr r fr L:=by
 obtain⟨h1,h2⟩:=h
 have e:L.take (Lr r).length=Lr r:=h2
 have eL:L=Lr r++L.drop (Lr r).length:=by conv=>lhs; rw[<- y2b (Lr r).length L,e]
 split at h1
 ·rename_i v1 C hres
  split at h1
  ·obtain⟨e1,e2⟩:=h1
   have e1:v1=V r:=e1
   have e2:C=[]:=e2
   subst e2
   exact⟨v1,[],_,hres,trivial,e1▸LeV.refl _,eL⟩
  ·exact⟨v1,C,_,hres,z7h h1.2 hE,z3d h1.1 hE,eL⟩
 ·exact h1.elim
end
section
variable (P:Program) (fn:Func) {ρ:Type} (V:ρ->AV) (Lr:ρ->List Ob)
def funHd (fl:Bool):Hd ρ ρ where
 chk Ev e fr L ws r:=match e with
  | .normal=>funChk P fn V Lr fl Ev fr L ws r
  | .ret=>funChk P fn V Lr fl Ev fr L ws r
  | _=>bad fl
 inj x:=x
 post r:=FQ P fn (V r) (Lr r)
def loopHd (fl:Bool) (A:Nat) (next:Fr->Prop) (F:σ->Fr) (LI:σ->List Ob) (post:Step σ ρ->Post):Hd ρ (Step σ ρ) where
 chk Ev e fr L ws a:=match a with
  | .cont s=>match e with
   | .normal=>next fr/\stLeq fl fr L (F s) (LI s)
   | _=>bad fl
  | .brk s=>match e with
   | .exit j=>natEq fl j A/\stLeq fl fr L (F s) (LI s)
   | _=>bad fl
  | .ret x=>match e with
   | .ret=>funChk P fn V Lr fl Ev fr L ws x
   | _=>bad fl
 inj:=.ret
 post:=post
def loopHdX (fl:Bool) (A xj:Nat) (next:Fr->Prop) (F:σ->Fr) (LI:σ->List Ob) (post:Step σ (ρ ⊕ σ)->Post):Hd ρ (Step σ (ρ ⊕ σ)) where
 chk Ev e fr L ws a:=match a with
  | .cont s=>match e with
   | .normal=>next fr/\stLeq fl fr L (F s) (LI s)
   | _=>bad fl
  | .brk s=>match e with
   | .exit j=>natEq fl j A/\stLeq fl fr L (F s) (LI s)
   | _=>bad fl
  | .ret (.inl x)=>match e with
   | .ret=>funChk P fn V Lr fl Ev fr L ws x
   | _=>bad fl
  | .ret (.inr s)=>match e with
   | .exit j=>natEq fl j xj/\stLeq fl fr L (F s) (LI s)
   | _=>bad fl
 inj x:=.ret (.inl x)
 post:=post
def RetX (x:ρ ⊕ σ) (fr:Fr) (L:List Ob):Prop:=match x with
 | .inl x=>FRel P fn V Lr x fr L
 | .inr _=>False
def LeaveX (xj:Nat) (F:σ->Fr) (LI:σ->List Ob) (x:ρ ⊕ σ) (j:Nat) (fr:Fr) (L:List Ob):Prop:=match x with
 | .inl _=>False
 | .inr s=>j=xj/\StLe fr L (F s) (LI s)
def idxChk (idx i:Nat) (fl:Bool) (fr:Fr):Prop:=match Fr.get? fr idx with
 | some v=>eqf fl v (.d (.i .i64 (IntKind.i64.wrap ((i:Int)+1))))
 | none=>bad fl
def cutHd (fl:Bool) (out:List Prop->Exit->Fr->List Ob->List Why->α->Prop) (inj:ρ->α) (post:α->Post) (E:σ->Fr) (LE:σ->List Ob):Hd ρ (Out σ α) where
 chk Ev e fr L ws a:=match a with
  | .next s=>match e with
   | .normal=>stLeq fl fr L (E s) (LE s)
   | _=>bad fl
  | .ret x=>out Ev e fr L ws x
 inj x:=.ret (inj x)
 post o e fr L:=match o with
  | .next s=>e = .normal/\StLe fr L (E s) (LE s)
  | .ret a=>post a e fr L
def smallOk (fl:Bool) (Ev:List Prop) (fr:Fr) (n:Nat):Small->Prop
 | .slot t=>match Fr.get? fr t with
  | some (.d (.sl m _))=>eqf fl m n
  | _=>bad fl
 | .why w=>whyOk P fl Ev w (n<2 ^ 63)
def psGo (ops:Array Oper):Nat->Nat->List (List Nat)->List (List Nat)
 | 0,_,acc=>acc
 | k+1,j,acc =>
  let d:=dpreds ops j
  psGo ops k (j+1) (acc++[(d.flatMap fun i=>(acc[i]?).getD []).foldl (fun l x=>if l.contains x then l else x :: l) d])
def psOf (ops:Array Oper):List (List Nat):=psGo ops ops.size 0 []
def regDo (fl:Bool) (ops:Array Oper) (dr:Bool) (effs:List Nat) (hs:List (Nat×HE)) (ws:List Why) (Ev:List Prop) (fr:Fr) (L:List Ob) (k:Fr->List Ob->Prop):Prop :=
 match dr with
 | false=>match regionRun P ops fn.ntmps hs fr L with
  | some (fr',L',C)=>whysOk P fl Ev ws C/\k fr' L'
  | none=>bad fl
 | true=>match P.follows .mixedOrders with
  | true=>match drawnRun P ops fn.ntmps hs ⟨psOf ops,effs⟩ fr L with
   | some (fr',L',C)=>eqf fl (drawnL P ops hs ⟨psOf ops,effs⟩ fr L) (drawnR P ops hs ⟨psOf ops,effs⟩ fr L)/\whysOk P fl Ev ws C/\k fr' L'
   | none=>bad fl
  | false=>bad fl
abbrev VT (P:Program) (ρ:Type):=(α:Type)->List Itm->Hd ρ α->List Prop->Fr->List Ob->Scr P ρ α->Prop
def outChk (go:VT P ρ) (fl:Bool) (hd:Hd ρ α) (r:List Itm) (Ev:List Prop) (e:Exit) (fr:Fr) (L:List Ob) (ws:List Why) (a:α):Prop:=match e with
 | .exit j=>match unwind j r with
  | some r'=>go α r' hd Ev fr L (.ret ws a)
  | none=>hd.chk Ev (.exit j) fr L ws a
 | .ret=>hd.chk Ev .ret fr L ws a
 | _=>bad fl
variable (z) in
def cutDo (go:VT P ρ) (fl:Bool) {α σ:Type} (x r:List Itm) (hd:Hd ρ α) (Ev:List Prop) (fr:Fr) (L:List Ob) (ts:List Nat) (upd:σ->Fr) (updL:σ->List (Nat×Ob)) (sx:Scr P ρ (Out σ α)) (k:σ->Scr P ρ α):Prop :=
 match pick fr ts with
 | some fk =>
  go _ x (cutHd fl (fun Ev e fr L ws a=>outChk P go fl hd r Ev e fr L ws a) hd.inj (fun a=>Kp z P fn.ntmps r (hd.post a)) (fun s=>upd s++fk) (fun s=>applyUps L (updL s))) Ev fr L sx /\
  ∀ s,go α r hd Ev (upd s++fk) (applyUps L (updL s)) (k s)
 | none=>bad fl
def rangeDo (go:VT P ρ) (fl:Bool) (A:Nat) (c:Code) (r:List Itm) (hd:Hd ρ α) (Ev:List Prop) (fr:Fr) (L:List Ob) (b:Int) (n:Nat) (hb:b.toNat=n) (hn:Small) (idx:Nat) (ts:List Nat) (upd:σ->Fr) (updL:σ->List (Nat×Ob)) (s0:σ) (body:Nat->σ->Scr P ρ (Step σ ρ)) (k:σ->Scr P ρ α) (kr:ρ->α):Prop :=
 match pick fr ts with
 | some fk =>
  smallOk P fl Ev fr n hn/\stLeq fl fr L ((idx,.d (.i .i64 0)) :: (upd s0++fk)) (applyUps L (updL s0)) /\
  (∀ i s,go _ [.c c] (loopHd P fn V Lr fl A (idxChk idx i fl) (fun s=>upd s++fk) (fun s=>applyUps L (updL s))
   (fun x=>StepQ A (fun s=>(idx,.d (.i .i64 ((i+1:Nat):Int))) :: (upd s++fk)) (fun s=>applyUps L (updL s)) (fun s fr' L'=>StLe fr' L' (upd s++fk) (applyUps L (updL s))) (FRel P fn V Lr) (fun _ _ _ _=>False) x))
   ((i<n) :: (n<2 ^ 63) :: Ev) ((idx,.d (.i .i64 (i:Int))) :: (upd s++fk)) (applyUps L (updL s)) (.br true (.der (H:=i<n) (p:=decide ((i:Int)<b)=true) (fun h=>y11 om) 0) (body i s))) /\
  (∀ s,go _ [.c c] (loopHd P fn V Lr fl A (fun _=>bad fl) (fun s=>upd s++fk) (fun s=>applyUps L (updL s))
   (fun x=>StepQ A (fun s=>(idx,.d (.i .i64 ((n+1:Nat):Int))) :: (upd s++fk)) (fun s=>applyUps L (updL s)) (fun s fr' L'=>StLe fr' L' (upd s++fk) (applyUps L (updL s))) (FRel P fn V Lr) (fun _ _ _ _=>False) x))
   Ev ((idx,.d (.i .i64 (n:Int))) :: (upd s++fk)) (applyUps L (updL s)) (.br false (.pf (p:=decide ((n:Int)<b)=false) (y19 om)) (.ret [] (.brk s)))) /\
  (∀ s,go α r hd Ev (upd s++fk) (applyUps L (updL s)) (k s)) /\
  ∀ x,eqf fl (kr x) (hd.inj x)
 | none=>bad fl
def rangeXDo (go:VT P ρ) (fl:Bool) (A:Nat) (c:Code) (r:List Itm) (hd:Hd ρ α) (Ev:List Prop) (fr:Fr) (L:List Ob) (xj:Nat) (b:Int) (n:Nat) (hb:b.toNat=n) (hn:Small) (idx:Nat) (ts:List Nat) (upd:σ->Fr) (updL:σ->List (Nat×Ob)) (s0:σ) (body:Nat->σ->Scr P ρ (Step σ (ρ ⊕ σ))) (k kx:σ->Scr P ρ α) (kr:ρ->α):Prop :=
 match pick fr ts,unwind xj r,Nat.beq xj A with
 | some fk,some r',false =>
  smallOk P fl Ev fr n hn/\stLeq fl fr L ((idx,.d (.i .i64 0)) :: (upd s0++fk)) (applyUps L (updL s0)) /\
  (∀ i s,go _ [.c c] (loopHdX P fn V Lr fl A xj (idxChk idx i fl) (fun s=>upd s++fk) (fun s=>applyUps L (updL s))
   (fun x=>StepQ A (fun s=>(idx,.d (.i .i64 ((i+1:Nat):Int))) :: (upd s++fk)) (fun s=>applyUps L (updL s)) (fun s fr' L'=>StLe fr' L' (upd s++fk) (applyUps L (updL s))) (RetX P fn V Lr) (LeaveX xj (fun s=>upd s++fk) (fun s=>applyUps L (updL s))) x))
   ((i<n) :: (n<2 ^ 63) :: Ev) ((idx,.d (.i .i64 (i:Int))) :: (upd s++fk)) (applyUps L (updL s)) (.br true (.der (H:=i<n) (p:=decide ((i:Int)<b)=true) (fun h=>y11 om) 0) (body i s))) /\
  (∀ s,go _ [.c c] (loopHdX P fn V Lr fl A xj (fun _=>bad fl) (fun s=>upd s++fk) (fun s=>applyUps L (updL s))
   (fun x=>StepQ A (fun s=>(idx,.d (.i .i64 ((n+1:Nat):Int))) :: (upd s++fk)) (fun s=>applyUps L (updL s)) (fun s fr' L'=>StLe fr' L' (upd s++fk) (applyUps L (updL s))) (RetX P fn V Lr) (LeaveX xj (fun s=>upd s++fk) (fun s=>applyUps L (updL s))) x))
   Ev ((idx,.d (.i .i64 (n:Int))) :: (upd s++fk)) (applyUps L (updL s)) (.br false (.pf (p:=decide ((n:Int)<b)=false) (y19 om)) (.ret [] (.brk s)))) /\
  (∀ s,go α r hd Ev (upd s++fk) (applyUps L (updL s)) (k s)) /\
  (∀ s,go α r' hd Ev (upd s++fk) (applyUps L (updL s)) (kx s)) /\
  ∀ x,eqf fl (kr x) (hd.inj x)
 | _,_,_=>bad fl
def iterDo (go:VT P ρ) (fl:Bool) (A:Nat) (c:Code) (r:List Itm) (hd:Hd ρ α) (Ev:List Prop) (fr:Fr) (L:List Ob) (ts:List Nat) (upd:σ->Fr) (updL:σ->List (Nat×Ob)) (s0:σ) (body:σ->Scr P ρ (Step σ ρ)) (k:σ->Scr P ρ α) (kr:ρ->α):Prop :=
 match pick fr ts with
 | some fk =>
  stLeq fl fr L (upd s0++fk) (applyUps L (updL s0)) /\
  (∀ s,go _ [.c c] (loopHd P fn V Lr fl A (fun _=>True) (fun s=>upd s++fk) (fun s=>applyUps L (updL s))
   (fun x=>StepQ A (fun s=>upd s++fk) (fun s=>applyUps L (updL s)) (fun s fr' L'=>StLe fr' L' (upd s++fk) (applyUps L (updL s))) (FRel P fn V Lr) (fun _ _ _ _=>False) x))
   Ev (upd s++fk) (applyUps L (updL s)) (body s)) /\
  (∀ s,go α r hd Ev (upd s++fk) (applyUps L (updL s)) (k s)) /\
  ∀ x,eqf fl (kr x) (hd.inj x)
 | none=>bad fl
variable (z) in
def vcCode (go:VT P ρ) (fl:Bool):VT P ρ:=fun α is hd Ev fr L s=>match is with
 | []=>match s with
  | .ret ws a=>hd.chk Ev .normal fr L ws a
  | _=>bad fl
 | .m _ :: r=>go α r hd Ev fr L s
 | .l x :: r=>go α (.c x :: .l x :: r) hd Ev fr L s
 | .c c :: r=>match c with
  | .loop x=>go α (.c x :: .l x :: r) hd Ev fr L s
  | .skip=>go α r hd Ev fr L s
  | .label _=>go α r hd Ev fr L s
  | .scope x=>go α (.c x :: r) hd Ev fr L s
  | .seq x y=>go α (.c x :: .c y :: r) hd Ev fr L s
  | .ret=>match s with
   | .ret ws a=>hd.chk Ev .ret fr L ws a
   | _=>bad fl
  | .exit j=>match unwind j r with
   | some r'=>go α r' hd Ev fr L s
   | none=>match s with
    | .ret ws a=>hd.chk Ev (.exit j) fr L ws a
    | _=>bad fl
  | .region id ops dr=>match s with
   | .reg i effs hs ws k=>match Nat.beq i id with
    | true=>regDo P fn fl ops dr effs hs ws Ev fr L fun fr' L'=>go α r hd Ev fr' L' k
    | false=>regDo P fn fl ops dr [] [] [] Ev fr L fun fr' L'=>go α r hd Ev fr' L' s
   | _=>regDo P fn fl ops dr [] [] [] Ev fr L fun fr' L'=>go α r hd Ev fr' L' s
  | .cond o x y=>match s with
   | .ite b sx sy=>eqf fl (opnd fr.up [] o) (some (.d (.b b)))/\go α (.c x :: r) hd ((b=true) :: Ev) fr L sx/\go α (.c y :: r) hd ((b=false) :: Ev) fr L sy
   | .br v w sx=>match opnd fr.up [] o with
    | some (.d (.b b))=>whyOk P fl Ev w (b=v)/\go α (.c (match v with
     | true=>x
     | false=>y) :: r) hd Ev fr L sx
    | _=>bad fl
   | .cut none ts upd updL sx k=>cutDo z P fn go fl [.c (.cond o x y)] r hd Ev fr L ts upd updL sx k
   | _=>bad fl
  | .block i x=>match s with
   | .cut (some j) ts upd updL sx k=>match Nat.beq i j with
    | true=>cutDo z P fn go fl [.c x,.m i] r hd Ev fr L ts upd updL sx k
    | false=>go α (.c x :: .m i :: r) hd Ev fr L s
   | .range b n hb hn idx ts upd updL s0 body k kr=>match x with
    | .loop c=>rangeDo P fn V Lr go fl i c r hd Ev fr L b n hb hn idx ts upd updL s0 body k kr
    | _=>go α (.c x :: .m i :: r) hd Ev fr L s
   | .rangeX xj b n hb hn idx ts upd updL s0 body k kx kr=>match x with
    | .loop c=>rangeXDo P fn V Lr go fl i c r hd Ev fr L xj b n hb hn idx ts upd updL s0 body k kx kr
    | _=>go α (.c x :: .m i :: r) hd Ev fr L s
   | .iter ts upd updL s0 body k kr=>match x with
    | .loop c=>iterDo P fn V Lr go fl i c r hd Ev fr L ts upd updL s0 body k kr
    | _=>go α (.c x :: .m i :: r) hd Ev fr L s
   | _=>go α (.c x :: .m i :: r) hd Ev fr L s
  | _=>bad fl
variable (z) in
def vcStep (go:VT P ρ) (fl:Bool):VT P ρ:=fun α is hd Ev fr L s=>match s with
 | .guard gs k=>go α is hd (gs++Ev) fr L k
 | .call (R:=R) (f:=f) (as:=as) (L:=Lc) (V:=Vc) (L':=Lc') _ k=>∀ r:R,go α is hd (CallOk P f as Lc (Vc r) (Lc' r) :: Ev) fr L (k r ⟨f,as,Lc,Vc r,Lc' r⟩)
 | .calld (R:=R) (f:=f) (as:=as) (L:=Lc) (V:=Vc) (L':=Lc') gs d _ k=>∀ r:R,go α is hd ((AllP gs->CallOk P f as Lc (Vc r) (Lc' r)) :: (¬ AllP gs->d=r) :: Ev) fr L (k r ⟨f,as,Lc,Vc r,Lc' r⟩)
 | .lev t v w k=>match Fr.get? fr t with
  | some v0=>whyOk P fl Ev w (LeV v0 v)/\go α is hd Ev ((t,v) :: fr) L k
  | none=>bad fl
 | .keep ts k=>match pick fr ts with
  | some fr'=>go α is hd Ev fr' L k
  | none=>bad fl
 | .sh (A:=A) w fr1 fr2 L1 L2 _ _ k=>whyOk P fl Ev w A/\frLeq fl fr fr1/\eqf fl L L1/\go α is hd Ev fr2 L2 k
 | .frz o w pw ts os k=>match L[o]? with
  | some (.seq _ n f)=>match fzFr P fl Ev pw o n (fun j=>asD (f j)) fr ts,fzOs P fl Ev pw o n (fun j=>asD (f j)) os 0 L with
   | (q,c),(L',d)=>whyOk P fl Ev w (n<2 ^ 63)/\(∀ j,eqf fl (f j) (.d (asD (f j))))/\c/\d/\go α is hd Ev (q++fr) L' k
  | _=>bad fl
 | .bor sz f ts k=>match bnFr fl L.length fr ts with
  | (q,c)=>c/\go α is hd Ev (q++fr) (L++[.seq sz 0 f]) k
 | .kill o k=>match Nat.blt o L.length with
  | true=>go α is hd Ev fr (L.set o .dead) k
  | false=>bad fl
 | .split b x y=>go α is hd ((b=true) :: Ev) fr L x/\go α is hd ((b=false) :: Ev) fr L y
 | .nils t x y=>match Fr.get? fr t with
  | some (.d (.sl n f))=>eqf fl x.den y.den/\go α is hd ((n=0) :: Ev) ((t,.nq true n f) :: fr) L x/\go α is hd Ev ((t,.nq false n f) :: fr) L y
  | _=>bad fl
 | .cst (A:=A) w fr1 fr2 L1 L2 _ k=>whyOk P fl Ev w A/\frLeq fl fr fr1/\eqf fl L L1/\go α is hd Ev fr2 L2 k
 | s=>vcCode z P fn V Lr go fl α is hd Ev fr L s
variable (z) in
def vc (fl:Bool):Nat->VT P ρ
 | 0=>fun _ _ _ _ _ _ _=>bad fl
 | n+1=>vcStep z P fn V Lr (vc fl n) fl
end
variable {z:Option Nat}
variable {A xj idx:Nat} {r:List Itm} {a:α} {next:Fr->Prop} {F E upd I:σ->Fr} {LI LE:σ->List Ob} {ts effs:List Nat} {updL:σ->List (Nat×Ob)} {hn:Small} {s0:σ} {b:Int} {hb:b.toNat=n} {ops:Array Oper} {dr:Bool} {hs:List (Nat×HE)}
section
variable {P:Program} {fn:Func} {ρ:Type} {V:ρ->AV} {Lr:ρ->List Ob}
def VSound (z:Option Nat) (P:Program) (fn:Func) {ρ:Type} (V:ρ->AV) (Lr:ρ->List Ob) (go:VT P ρ):Prop:=∀ (α:Type) (is:List Itm) (hd:Hd ρ α) (Ev:List Prop) (fr:Fr) (L:List Ob) (s:Scr P ρ α),HdOk (FRel P fn V Lr) hd->go α is hd Ev fr L s->AllP Ev ->
 ∀ a,s.den=some a->Gst .normal (Kp z P fn.ntmps is (hd.post a)) fr L
def VTotal {P:Program} {ρ:Type} (go:VT P ρ):Prop:=∀ (α:Type) (is:List Itm) (hd:Hd ρ α) (Ev:List Prop) (fr:Fr) (L:List Ob) (s:Scr P ρ α),(∀ Ev e fr L ws a,hd.chk Ev e fr L ws a)->go α is hd Ev fr L s
theorem z9w:HdOk (FRel P fn V Lr) (funHd P fn V Lr false) where
 f Ev e fr L ws a h hE:=by
  cases e with
  | normal=>exact z1v ⟨.inl rfl,z5y h hE⟩
  | ret=>exact z1v ⟨.inr rfl,z5y h hE⟩
  | _=>exact h.elim
 i x fr L h:=⟨.inr rfl,h⟩
 g a l fr L h:=by rcases h.1 with h | h <;> cases h
theorem z86 (hn:∀ fr s L,next fr->StLe fr L (F s) (LI s)->StLe fr L (I s) (LI s)) :
  HdOk (FRel P fn V Lr) (loopHd P fn V Lr false A next F LI (fun x=>StepQ A I LI (fun s fr L=>StLe fr L (F s) (LI s)) (FRel P fn V Lr) (fun _ _ _ _=>False) x)) where
 f Ev e fr L ws a h hE:=by
  cases a with
  | cont s =>
   cases e with
   | normal=>exact z1v ⟨s,rfl,hn _ _ _ h.1 (z2z h.2)⟩
   | _=>exact h.elim
  | brk s =>
   cases e with
   | exit j=>exact z1v (.inl ⟨z92 h.1,s,rfl,z2z h.2⟩)
   | _=>exact h.elim
  | ret x =>
   cases e with
   | ret=>exact z1v ⟨x,rfl,z5y h hE⟩
   | _=>exact h.elim
 i x fr L h:=⟨x,rfl,h⟩
 g a l fr L h:=h
theorem z9x {post:Step σ ρ->Post} (hn:∀ fr,next fr):∀ Ev e fr L ws a,(loopHd P fn V Lr true A next F LI post).chk Ev e fr L ws a:=by
 intro Ev e fr L ws a
 cases a <;> cases e <;> first | trivial | exact⟨hn _,z3e⟩ | exact⟨zbs,z3e⟩ | exact z4l
theorem zau (hn:∀ fr s L,next fr->StLe fr L (F s) (LI s)->StLe fr L (I s) (LI s)) :
  HdOk (FRel P fn V Lr) (loopHdX P fn V Lr false A xj next F LI (fun x=>StepQ A I LI (fun s fr L=>StLe fr L (F s) (LI s)) (RetX P fn V Lr) (LeaveX xj F LI) x)) where
 f Ev e fr L ws a h hE:=by
  cases a with
  | cont s =>
   cases e with
   | normal=>exact z1v ⟨s,rfl,hn _ _ _ h.1 (z2z h.2)⟩
   | _=>exact h.elim
  | brk s =>
   cases e with
   | exit j=>exact z1v (.inl ⟨z92 h.1,s,rfl,z2z h.2⟩)
   | _=>exact h.elim
  | ret x =>
   cases x with
   | inl x =>
    cases e with
    | ret=>exact z1v ⟨.inl x,rfl,z5y h hE⟩
    | _=>exact h.elim
   | inr s =>
    cases e with
    | exit j=>exact z1v (.inr ⟨.inr s,rfl,z92 h.1,z2z h.2⟩)
    | _=>exact h.elim
 i x fr L h:=⟨.inl x,rfl,h⟩
 g a l fr L h:=h
theorem zcs {post:Step σ (ρ ⊕ σ)->Post} (hn:∀ fr,next fr):∀ Ev e fr L ws a,(loopHdX P fn V Lr true A xj next F LI post).chk Ev e fr L ws a:=by
 intro Ev e fr L ws a
 rcases a with s | s | (x | s) <;> cases e <;> first | trivial | exact⟨hn _,z3e⟩ | exact⟨zbs,z3e⟩ | exact z4l
theorem zl2 {go:VT P ρ} (hgo:VSound z P fn V Lr go) {hd:Hd ρ α} (hd0:HdOk (FRel P fn V Lr) hd) :
  HdOk (FRel P fn V Lr) (cutHd false (fun Ev e fr L ws a=>outChk P go false hd r Ev e fr L ws a) hd.inj (fun a=>Kp z P fn.ntmps r (hd.post a)) E LE) where
 f Ev e fr L ws a h hE:=by
  cases a with
  | next s =>
   cases e with
   | normal=>exact z1v ⟨rfl,z2z h⟩
   | _=>exact h.elim
  | ret x =>
   simp only[cutHd,outChk] at h |-
   cases e with
   | exit j =>
    simp only at h
    split at h
    ·rename_i r' hu
     exact z2t (hgo _ _ _ _ _ _ _ hd0 h hE x rfl) fun _ _=>z41 hu
    ·rename_i hu
     exact z2t (hd0.f _ _ _ _ _ _ h hE) fun _ _=>z85 hu
   | ret=>exact z2t (hd0.f _ _ _ _ _ _ h hE) fun _ _=>z55
   | _=>exact h.elim
 i x fr L h:=z55 (hd0.i x fr L h)
 g a l fr L h:=by
  cases a with
  | next s=>cases h.1
  | ret x=>exact hd0.g x l fr L (z6v h)
theorem zmz {go:VT P ρ} (hgo:VTotal go) {hd:Hd ρ α} (hd0:∀ Ev e fr L ws a,hd.chk Ev e fr L ws a) {inj:ρ->α} {post:α->Post} :
  ∀ Ev e fr L ws a,(cutHd true (fun Ev e fr L ws a=>outChk P go true hd r Ev e fr L ws a) inj post E LE).chk Ev e fr L ws a:=by
 intro Ev e fr L ws a
 cases a with
 | next s=>cases e <;> first | trivial | exact z3e
 | ret x =>
  simp only[cutHd,outChk]
  cases e with
  | exit j=>simp only; split <;> first | exact hgo _ _ _ _ _ _ _ hd0 | exact hd0 _ _ _ _ _ _
  | ret=>exact hd0 _ _ _ _ _ _
  | _=>trivial
theorem zje {go:VT P ρ} (hgo:VSound z P fn V Lr go) {hd:Hd ρ α} (hd0:HdOk (FRel P fn V Lr) hd) {x:List Itm} {sx:Scr P ρ (Out σ α)} {k:σ->Scr P ρ α} (h:cutDo z P fn go false x r hd Ev fr L ts upd updL sx k) (hE:AllP Ev) (ha:outM sx.den (fun s=>(k s).den) some=some a) (hx:∀ Q' fr L,Kp z P fn.ntmps x Q' .normal fr L->AW z P fn.ntmps c Q' fr L):AW z P fn.ntmps c (Kp z P fn.ntmps r (hd.post a)) fr L:=by
 unfold cutDo at h
 split at h
 ·rename_i fk hk
  obtain⟨h1,h2⟩:=h
  obtain⟨o,ho,hok⟩:=z6d ha
  have:=z1m (hgo _ _ _ _ _ _ _ (zl2 hgo hd0) h1 hE o ho) fun fr L=>hx _ fr L
  refine z56 (z84 this fun e fr1 L1 hl q=>?_)
  cases o with
  | next s =>
   obtain⟨rfl,st⟩:=q
   exact⟨_,_,st,by rw[z1i]; exact yc _,hgo _ _ _ _ _ _ _ hd0 (h2 s) hE a hok⟩
  | ret a' =>
   cases (show some a'=some a from hok)
   exact⟨_,_,StLe.refl _ _,hl,z1v q⟩
 ·exact h.elim
theorem zek (h:n+1<2 ^ 63):LeV (.d (.i .i64 (IntKind.i64.wrap ((n:Int)+1)))) (.d (.i .i64 ((n+1:Nat):Int))):=LeV.of_eq (congrArg (fun n=>AV.d (DV.i .i64 n)) (zj4 h))
theorem zct (h:smallOk P false Ev fr n hn) (hE:AllP Ev) {X:Nat->Prop} {ms:Blocks} {w:World} {tmps:Array Value} (hf:FrIs (cxOf X ms L w) fr.up tmps):n<2 ^ 63:=by
 cases hn with
 | slot t =>
  simp only[smallOk] at h
  split at h
  ·rename_i m f hg
   have e:m=n:=h
   subst e
   have:=(hf (t,[],.d (.sl m f)) (yz.2 ⟨_,get?_mem hg,rfl⟩)).2.1 (fun y hy=>by cases hy)
   generalize tmps.getD t undef=u at this
   cases this with
   | agg _ _ ha=>cases ha
   | one _ _ _ h =>
    cases h with
    | d _ _ h =>
     cases h with
     | slNil=>omega
     | slEmpty=>omega
     | sl=>assumption
  ·exact h.elim
 | why w=>exact z3d h hE
theorem zav {hd:Hd ρ α} (hd0:HdOk (FRel P fn V Lr) hd) {out:Out σ ρ} {k:σ->Scr P ρ α} {kr:ρ->α} (h:AW z P fn.ntmps (.loop c) (OutQ A (fun s fr L=>StLe fr L (E s) (LE s)) (FRel P fn V Lr) (fun _ _ _ _=>False) out) fr L) (hl:∀ s,L.length<=(LE s).length) (hk:∀ s,(k s).den=some a->Gst .normal (Kp z P fn.ntmps r (hd.post a)) (E s) (LE s)) (hkr:∀ x,kr x=hd.inj x) (ho:outK (fun s=>(k s).den) (fun x=>some (kr x)) out=some a) :
  AW z P fn.ntmps (.block A (.loop c)) (Kp z P fn.ntmps r (hd.post a)) fr L:=by
 refine z7c (z56 (z84 h fun e fr1 L1 hl1 q=>?_))
 cases e with
 | exit j =>
  obtain⟨rfl,s,rfl,st⟩ | ⟨_,_,k⟩:=q
  ·exact⟨_,_,st,hl s,z2t (hk s ho) fun _ _ h=>by simpa [blockP] using h⟩
  ·exact k.elim
 | ret =>
  obtain⟨x,rfl,hx⟩:=q
  have e:kr x=a:=y15 ho
  refine⟨_,_,StLe.refl _ _,hl1,?_⟩
  rw[<- e,hkr]
  exact z1v (z55 (hd0.i x _ _ hx))
 | _=>exact q.elim
theorem zfn {hd:Hd ρ α} (hd0:HdOk (FRel P fn V Lr) hd) {r':List Itm} {out:Out σ (ρ ⊕ σ)} {k kx:σ->Scr P ρ α} {kr:ρ->α} (h:AW z P fn.ntmps (.loop c) (OutQ A (fun s fr L=>StLe fr L (E s) (LE s)) (RetX P fn V Lr) (LeaveX xj E LE) out) fr L) (hl:∀ s,L.length<=(LE s).length) (hu:unwind xj r=some r') (hj:xj≠A) (hk:∀ s,(k s).den=some a->Gst .normal (Kp z P fn.ntmps r (hd.post a)) (E s) (LE s)) (hkx:∀ s,(kx s).den=some a->Gst .normal (Kp z P fn.ntmps r' (hd.post a)) (E s) (LE s)) (hkr:∀ x,kr x=hd.inj x) (ho:outK (fun s=>(k s).den) (outX kr fun s=>(kx s).den) out=some a) :
  AW z P fn.ntmps (.block A (.loop c)) (Kp z P fn.ntmps r (hd.post a)) fr L:=by
 refine z7c (z56 (z84 h fun e fr1 L1 hl1 q=>?_))
 cases e with
 | exit j =>
  obtain⟨rfl,s,rfl,st⟩ | ⟨x,rfl,k⟩:=q
  ·exact⟨_,_,st,hl s,z2t (hk s ho) fun _ _ h=>by simpa [blockP] using h⟩
  ·cases x with
   | inl x=>exact k.elim
   | inr s =>
    obtain⟨rfl,st⟩:=k
    refine⟨_,_,st,hl s,z2t (hkx s ho) fun _ _ h=>?_⟩
    simp only[blockP]
    rw[y6 hj]
    exact z41 hu h
 | ret =>
  obtain⟨x,rfl,hx⟩:=q
  cases x with
  | inl x =>
   have e:kr x=a:=y15 ho
   refine⟨_,_,StLe.refl _ _,hl1,?_⟩
   rw[<- e,hkr]
   exact z1v (z55 (hd0.i x _ _ hx))
  | inr s=>exact hx.elim
 | _=>exact q.elim
theorem zjf {go:VT P ρ} (hgo:VSound z P fn V Lr go) {hd:Hd ρ α} (hd0:HdOk (FRel P fn V Lr) hd) {body:Nat->σ->Scr P ρ (Step σ (ρ ⊕ σ))} {k kx:σ->Scr P ρ α} {kr:ρ->α} (h:rangeXDo P fn V Lr go false A c r hd Ev fr L xj b n hb hn idx ts upd updL s0 body k kx kr) (hE:AllP Ev) (ha:outM (rangeM (fun i s=>(body i s).den) n 0 s0) (fun s=>(k s).den) (outX kr fun s=>(kx s).den)=some a):AW z P fn.ntmps (.block A (.loop c)) (Kp z P fn.ntmps r (hd.post a)) fr L:=by
 unfold rangeXDo at h
 split at h
 ·rename_i fk r' hk hu hj
  obtain⟨h1,h2,h3,h4,h5,h7,h6⟩:=h
  obtain⟨o,ho,hok⟩:=z6d ha
  intro zn df X ms w ac hr hf hN hd'
  have hsmall:=zct h1 hE hf
  refine zfn hd0 (zed (I:=fun i s=>(idx,.d (.i .i64 ((i:Nat):Int))) :: (upd s++fk)) (LI:=fun _ s=>applyUps L (updL s)) (m:=L.length) (J:=fun s fr' L'=>StLe fr' L' (upd s++fk) (applyUps L (updL s)))
   (fun i s x hi hx=>?_) (fun s=>?_) (fun i s=>z1i _ _) (y1h _) ho (z2z h2) (yc _)) (fun s=>by rw[z1i]; exact yc _) hu (yg hj)
   (fun s hs=>hgo _ _ _ _ _ _ _ hd0 (h5 s) hE a hs) (fun s hs=>hgo _ _ _ _ _ _ _ hd0 (h7 s) hE a hs) h6 hok zn df X ms w ac hr hf hN hd'
  ·refine z1m (hgo _ _ _ _ _ _ _ (zau fun fr1 s1 L1 q st=>?_) (h3 i s) ⟨hi,hsmall,hE⟩ x hx) fun _ _ h=>h
   unfold idxChk at q
   split at q
   ·rename_i v hv
    have e:v=_:=q
    subst e
    refine⟨z6c (get?_mem hv) (zek om) st.1,?_⟩
    rcases st.2 with e | ⟨e1,e2⟩
    ·exact .inl e
    ·refine .inr ⟨e1,fun y hy=>?_⟩
     rcases yv.1 hy with rfl | hy
     ·rfl
     ·exact e2 y hy
   ·exact q.elim
  ·exact z1m (hgo _ _ _ _ _ _ _ (zau fun fr1 s1 L1 q st=>q.elim) (h4 s) hE _ rfl) fun _ _ h=>h
 ·exact h.elim
theorem zl3 {go:VT P ρ} (hgo:VSound z P fn V Lr go) {hd:Hd ρ α} (hd0:HdOk (FRel P fn V Lr) hd) {body:Nat->σ->Scr P ρ (Step σ ρ)} {k:σ->Scr P ρ α} {kr:ρ->α} (h:rangeDo P fn V Lr go false A c r hd Ev fr L b n hb hn idx ts upd updL s0 body k kr) (hE:AllP Ev) (ha:outM (rangeM (fun i s=>(body i s).den) n 0 s0) (fun s=>(k s).den) (fun x=>some (kr x))=some a):AW z P fn.ntmps (.block A (.loop c)) (Kp z P fn.ntmps r (hd.post a)) fr L:=by
 unfold rangeDo at h
 split at h
 ·rename_i fk hk
  obtain⟨h1,h2,h3,h4,h5,h6⟩:=h
  obtain⟨o,ho,hok⟩:=z6d ha
  intro zn df X ms w ac hr hf hN hd'
  have hsmall:=zct h1 hE hf
  refine zav hd0 (zed (I:=fun i s=>(idx,.d (.i .i64 ((i:Nat):Int))) :: (upd s++fk)) (LI:=fun _ s=>applyUps L (updL s)) (m:=L.length) (J:=fun s fr' L'=>StLe fr' L' (upd s++fk) (applyUps L (updL s)))
   (fun i s x hi hx=>?_) (fun s=>?_) (fun i s=>z1i _ _) (y1h _) ho (z2z h2) (yc _)) (fun s=>by rw[z1i]; exact yc _) (fun s hs=>hgo _ _ _ _ _ _ _ hd0 (h5 s) hE a hs) h6 hok zn df X ms w ac hr hf hN hd'
  ·refine z1m (hgo _ _ _ _ _ _ _ (z86 fun fr1 s1 L1 q st=>?_) (h3 i s) ⟨hi,hsmall,hE⟩ x hx) fun _ _ h=>h
   unfold idxChk at q
   split at q
   ·rename_i v hv
    have e:v=_:=q
    subst e
    refine⟨z6c (get?_mem hv) (zek om) st.1,?_⟩
    rcases st.2 with e | ⟨e1,e2⟩
    ·exact .inl e
    ·refine .inr ⟨e1,fun y hy=>?_⟩
     rcases yv.1 hy with rfl | hy
     ·rfl
     ·exact e2 y hy
   ·exact q.elim
  ·exact z1m (hgo _ _ _ _ _ _ _ (z86 fun fr1 s1 L1 q st=>q.elim) (h4 s) hE _ rfl) fun _ _ h=>h
 ·exact h.elim
theorem zn0 {go:VT P ρ} (hgo:VSound z P fn V Lr go) {hd:Hd ρ α} (hd0:HdOk (FRel P fn V Lr) hd) {body:σ->Scr P ρ (Step σ ρ)} {k:σ->Scr P ρ α} {kr:ρ->α} (h:iterDo P fn V Lr go false A c r hd Ev fr L ts upd updL s0 body k kr) (hE:AllP Ev) (ha:outM (iterM (fun s=>(body s).den) s0) (fun s=>(k s).den) (fun x=>some (kr x))=some a):AW z P fn.ntmps (.block A (.loop c)) (Kp z P fn.ntmps r (hd.post a)) fr L:=by
 unfold iterDo at h
 split at h
 ·rename_i fk hk
  obtain⟨h2,h3,h5,h6⟩:=h
  obtain⟨o,ho,hok⟩:=z6d ha
  refine zav hd0 (zmv (I:=fun s=>(upd s++fk)) (LI:=fun s=>applyUps L (updL s)) (m:=L.length) (J:=fun s fr' L'=>StLe fr' L' (upd s++fk) (applyUps L (updL s)))
   (fun s x hx=>?_) (fun s=>z1i _ _) ho (z2z h2) (yc _)) (fun s=>by rw[z1i]; exact yc _) (fun s hs=>hgo _ _ _ _ _ _ _ hd0 (h5 s) hE a hs) h6 hok
  exact z1m (hgo _ _ _ _ _ _ _ (z86 fun fr1 s1 L1 _ st=>st) (h3 s) hE x hx) fun _ _ h=>h
 ·exact h.elim
theorem zbt {k:Fr->List Ob->Prop} {id:Nat} {Q:Post} (h:regDo P fn false ops dr effs hs ws Ev fr L k) (hE:AllP Ev) (hQ:∀ fr' L',k fr' L'->Q .normal fr' L'):AW z P fn.ntmps (.region id ops dr) Q fr L:=by
 unfold regDo at h
 cases dr with
 | false =>
  simp only at h
  split at h
  ·rename_i fr' L' C hrun
   exact z6b hrun (z7h h.1 hE) (hQ _ _ h.2)
  ·exact h.elim
 | true =>
  simp only at h
  split at h
  ·rename_i hm
   split at h
   ·rename_i fr' L' C hrun
    exact zkw hm hrun h.1 (z7h h.2.1 hE) (hQ _ _ h.2.2)
   ·exact h.elim
  ·exact h.elim
theorem zbu {k:Fr->List Ob->Prop} (hk:∀ fr L,k fr L):regDo P fn true ops dr effs hs ws Ev fr L k:=by
 unfold regDo
 split
 ·split
  ·exact⟨z7g,hk _ _⟩
  ·trivial
 ·split
  ·split
   ·exact⟨rfl,z7g,hk _ _⟩
   ·trivial
  ·trivial
theorem zel {go:VT P ρ} (hgo:VSound z P fn V Lr go):VSound z P fn V Lr (vcCode z P fn V Lr go false):=by
 intro α is hd Ev fr L s hd0 h hE a ha
 have code:∀ (c:Code) (r:List Itm),AW z P fn.ntmps c (Kp z P fn.ntmps r (hd.post a)) fr L->Gst .normal (Kp z P fn.ntmps (.c c :: r) (hd.post a)) fr L:=fun c r h=>z1v h
 unfold vcCode at h
 split at h
 ·-- the end
  split at h
  ·cases ha; exact hd0.f _ _ _ _ _ _ h hE
  ·exact h.elim
 ·exact hgo _ _ _ _ _ _ _ hd0 h hE a ha
 ·exact z1v (zov (z1m (hgo _ _ _ _ _ _ _ hd0 h hE a ha) fun _ _ h=>h))
 ·rename_i c r
  split at h
  ·exact code _ _ (zku (z1m (hgo _ _ _ _ _ _ _ hd0 h hE a ha) fun _ _ h=>h))
  ·exact code _ _ (z56 (zbo (hgo _ _ _ _ _ _ _ hd0 h hE a ha)))
  ·exact code _ _ (z56 (zks (hgo _ _ _ _ _ _ _ hd0 h hE a ha)))
  ·exact code _ _ (zkt (z1m (hgo _ _ _ _ _ _ _ hd0 h hE a ha) fun _ _ h=>h) fun l fr L h=>hd0.g _ _ _ _ (z6v h))
  ·rename_i x y
   exact code _ _ (z1m (hgo _ _ _ _ _ _ _ hd0 h hE a ha) fun _ _ h=>z4d h)
  ·split at h
   ·cases ha
    exact code _ _ (z56 (zo1 (z2t (hd0.f _ _ _ _ _ _ h hE) fun _ _=>z55)))
   ·exact h.elim
  ·rename_i j
   refine code _ _ (z56 (zmt ?_))
   split at h
   ·rename_i r' hu
    exact z2t (hgo _ _ _ _ _ _ _ hd0 h hE a ha) fun _ _=>z41 hu
   ·rename_i hu
    split at h
    ·cases ha
     exact z2t (hd0.f _ _ _ _ _ _ h hE) fun _ _=>z85 hu
    ·exact h.elim
  ·rename_i id ops dr
   refine code _ _ (z56 ?_)
   split at h
   ·split at h
    ·exact zbt h hE fun fr' L' hk=>hgo _ _ _ _ _ _ _ hd0 hk hE a ha
    ·exact zbt h hE fun fr' L' hk=>hgo _ _ _ _ _ _ _ hd0 hk hE a ha
   ·exact zbt h hE fun fr' L' hk=>hgo _ _ _ _ _ _ _ hd0 hk hE a ha
  ·rename_i o x y
   split at h
   ·rename_i b sx sy
    obtain⟨h1,h2,h3⟩:=h
    refine code _ _ (z8v h1 (fun hb=>?_) (fun hb=>?_))
    ·subst hb
     exact z1m (hgo _ _ _ _ _ _ _ hd0 h2 ⟨rfl,hE⟩ a (by simpa [Scr.den] using ha)) fun _ _ h=>h
    ·subst hb
     exact z1m (hgo _ _ _ _ _ _ _ hd0 h3 ⟨rfl,hE⟩ a (by simpa [Scr.den] using ha)) fun _ _ h=>h
   ·rename_i v w sx
    split at h
    ·rename_i b ho
     obtain⟨h1,h2⟩:=h
     have e:=z3d h1 hE
     subst e
     have h3:=hgo _ _ _ _ _ _ _ hd0 h2 hE a ha
     refine code _ _ (z8v ho (fun hb=>?_) (fun hb=>?_))
     ·subst hb; exact z1m h3 fun _ _ h=>h
     ·subst hb; exact z1m h3 fun _ _ h=>h
    ·exact h.elim
   ·exact code _ _ (zje hgo hd0 h hE ha fun Q' fr L h=>h)
   ·exact h.elim
  ·rename_i r _ i x
   have hblk:∀ s':Scr P ρ α,s'.den=some a->go α (.c x :: .m i :: r) hd Ev fr L s'->Gst .normal (Kp z P fn.ntmps (.c (.block i x) :: r) (hd.post a)) fr L:=fun s' ha h =>
    code _ _ (z1m (hgo _ _ _ _ _ _ _ hd0 h hE a ha) fun _ _ h=>z7c h)
   split at h
   ·split at h
    ·rename_i hij
     obtain rfl:=y31 hij
     exact code _ _ (zje hgo hd0 h hE ha fun Q' fr L h=>z7c h)
    ·exact hblk _ ha h
   ·split at h
    ·exact code _ _ (zl3 hgo hd0 h hE ha)
    ·exact hblk _ ha h
   ·split at h
    ·exact code _ _ (zjf hgo hd0 h hE ha)
    ·exact hblk _ ha h
   ·split at h
    ·exact code _ _ (zn0 hgo hd0 h hE ha)
    ·exact hblk _ ha h
   ·exact hblk _ ha h
  ·exact h.elim
theorem zem {go:VT P ρ} (hgo:VSound z P fn V Lr go):VSound z P fn V Lr (vcStep z P fn V Lr go false):=by
 intro α is hd Ev fr L s hd0 h hE a ha
 cases s with
 | guard gs k =>
  obtain⟨hg,hk⟩:=z2x (show guardP (AllP gs) k.den=some a from ha)
  exact hgo _ _ _ _ _ _ _ hd0 h (zd.2 ⟨hg,hE⟩) a hk
 | call ok k =>
  obtain⟨r,hr,hk⟩:=zar (show Option.bind _ _=some a from ha)
  exact hgo _ _ _ _ _ _ _ hd0 (h r) ⟨ok _ hr,hE⟩ a hk
 | calld gs d ok k =>
  obtain⟨r,hr,hk⟩:=zar (show Option.bind _ _=some a from ha)
  exact hgo _ _ _ _ _ _ _ hd0 (h r) ⟨fun hg=>ok _ (zj3 hr hg),fun hg=>zkx hr hg,hE⟩ a hk
 | lev t v w k =>
  simp only[vcStep] at h
  split at h
  ·rename_i v0 hv
   refine z7i (hgo _ _ _ _ _ _ _ hd0 h.2 hE a ha) fun x hx=>?_
   rcases yv.1 hx with rfl | hx
   ·exact⟨v0,get?_mem hv,z3d h.1 hE⟩
   ·exact⟨x.2,hx,LeV.refl _⟩
  ·exact h.elim
 | keep ts k =>
  simp only[vcStep] at h
  split at h
  ·rename_i fr' hp
   exact z7i (hgo _ _ _ _ _ _ _ hd0 h hE a ha) (zg7 hp)
  ·exact h.elim
 | sh w fr1 fr2 L1 L2 p q k=>exact z6g (z91 h.2.1) h.2.2.1 (p (z3d h.1 hE)) q (hgo _ _ _ _ _ _ _ hd0 h.2.2.2 hE a ha)
 | frz o w pw ts os k =>
  simp only[vcStep] at h
  split at h
  ·rename_i sz n f hL
   obtain⟨h1,h2,h3,h4,h5⟩:=h
   have hf:f=fun j=>.d (asD (f j)):=funext fun j=>h2 j
   rw[hf] at hL
   exact z6g (FrLe.refl _) rfl (zef hL (z3d h1 hE) (zat hE h4)) (zg6 (zj9 hE h3)) (hgo _ _ _ _ _ _ _ hd0 h5 hE a ha)
  ·exact h.elim
 | bor sz f ts k =>
  exact z6g (FrLe.refl _) rfl (z1z (zej om)) (zg6 (zjc h.1)) (hgo _ _ _ _ _ _ _ hd0 h.2 hE a ha)
 | kill o k =>
  simp only[vcStep] at h
  split at h
  ·rename_i hb
   exact z6g (FrLe.refl _) rfl (zh9 (y38 hb)) (z4k _) (hgo _ _ _ _ _ _ _ hd0 h hE a ha)
  ·exact h.elim
 | split b x y =>
  obtain⟨h1,h2⟩:=h
  cases b with
  | true=>exact hgo _ _ _ _ _ _ _ hd0 h1 ⟨rfl,hE⟩ a (by simpa [Scr.den] using ha)
  | false=>exact hgo _ _ _ _ _ _ _ hd0 h2 ⟨rfl,hE⟩ a (by simpa [Scr.den] using ha)
 | nils t x y =>
  simp only[vcStep] at h
  split at h
  ·rename_i n f hg
   obtain⟨h1,h2,h3⟩:=h
   have h1:x.den=y.den:=h1
   intro X ms w tmps hr hf
   obtain⟨k1,k2,k3⟩:=hf (t,[],.d (.sl n f)) (yz.2 ⟨_,get?_mem hg,rfl⟩)
   have k4:=k2 (fun z hz=>by cases hz)
   have k5:=IsV.is1 rfl sj sj k4
   generalize hu:tmps.getD t undef=u at k5
   cases k5 with
   | d _ _ hd' =>
   have hfr:∀ b,nilV u=b->FrIs (cxOf X ms L w) (Fr.up ((t,.nq b n f) :: fr)) tmps:=fun b hb z hz=>by
    rcases yv.1 hz with rfl | hz
    ·exact⟨k1,fun _=>by simp only; rw[hu]; exact .one _ _ rfl (.nq _ _ _ _ hd' hb),fun hh=>absurd (fun z hz=>by cases hz) hh⟩
    ·exact hf z hz
   cases hb:nilV u with
   | true =>
    have hn:n=0:=by
     cases hd' with
     | slNil=>rfl
     | slEmpty=>rfl
     | sl=>cases hb
    exact hgo _ _ _ _ _ _ _ hd0 h2 ⟨hn,hE⟩ a (h1.trans ha) X ms w tmps hr (hfr true hb)
   | false=>exact hgo _ _ _ _ _ _ _ hd0 h3 hE a ha X ms w tmps hr (hfr false hb)
  ·exact h.elim
 | cst w fr1 fr2 L1 L2 p k =>
  obtain⟨e1,e2⟩:=p (z3d h.1 hE)
  subst e1; subst e2
  have e3:L=L1:=h.2.2.1
  subst e3
  exact z7i (hgo _ _ _ _ _ _ _ hd0 h.2.2.2 hE a ha) (z91 h.2.1)
 | _=>exact zel hgo α is hd Ev fr L _ hd0 (by simpa only [vcStep] using h) hE a ha
theorem zen {go:VT P ρ} (hgo:VTotal go):VTotal (vcCode z P fn V Lr go true):=by
 intro α is hd Ev fr L s hd0
 have hcut:∀ {σ:Type} {x r:List Itm} {ts:List Nat} {upd:σ->Fr} {updL:σ->List (Nat×Ob)} {sx:Scr P ρ (Out σ α)} {k:σ->Scr P ρ α},cutDo z P fn go true x r hd Ev fr L ts upd updL sx k:=by
  intros
  unfold cutDo
  split
  ·exact⟨hgo _ _ _ _ _ _ _ (zmz hgo hd0),fun s=>hgo _ _ _ _ _ _ _ hd0⟩
  ·trivial
 unfold vcCode
 split
 ·split
  ·exact hd0 _ _ _ _ _ _
  ·trivial
 ·exact hgo _ _ _ _ _ _ _ hd0
 ·exact hgo _ _ _ _ _ _ _ hd0
 ·split
  ·exact hgo _ _ _ _ _ _ _ hd0
  ·exact hgo _ _ _ _ _ _ _ hd0
  ·exact hgo _ _ _ _ _ _ _ hd0
  ·exact hgo _ _ _ _ _ _ _ hd0
  ·exact hgo _ _ _ _ _ _ _ hd0
  ·split
   ·exact hd0 _ _ _ _ _ _
   ·trivial
  ·split
   ·exact hgo _ _ _ _ _ _ _ hd0
   ·split
    ·exact hd0 _ _ _ _ _ _
    ·trivial
  ·split
   ·split
    ·exact zbu fun _ _=>hgo _ _ _ _ _ _ _ hd0
    ·exact zbu fun _ _=>hgo _ _ _ _ _ _ _ hd0
   ·exact zbu fun _ _=>hgo _ _ _ _ _ _ _ hd0
  ·split
   ·exact⟨rfl,hgo _ _ _ _ _ _ _ hd0,hgo _ _ _ _ _ _ _ hd0⟩
   ·split
    ·exact⟨z2y,hgo _ _ _ _ _ _ _ hd0⟩
    ·trivial
   ·exact hcut
   ·trivial
  ·split
   ·split
    ·exact hcut
    ·exact hgo _ _ _ _ _ _ _ hd0
   ·split
    ·unfold rangeDo
     split
     ·refine⟨?_,z3e,fun i s=>hgo _ _ _ _ _ _ _ (z9x fun fr=>?_),fun s=>hgo _ _ _ _ _ _ _ (z9x fun fr=>trivial),fun s=>hgo _ _ _ _ _ _ _ hd0,fun x=>rfl⟩
      ·unfold smallOk
       split
       ·split <;> first | exact rfl | trivial
       ·exact z2y
      ·unfold idxChk
       split <;> first | exact rfl | trivial
     ·trivial
    ·exact hgo _ _ _ _ _ _ _ hd0
   ·split
    ·unfold rangeXDo
     split
     ·refine⟨?_,z3e,fun i s=>hgo _ _ _ _ _ _ _ (zcs fun fr=>?_),fun s=>hgo _ _ _ _ _ _ _ (zcs fun fr=>trivial),fun s=>hgo _ _ _ _ _ _ _ hd0,fun s=>hgo _ _ _ _ _ _ _ hd0,fun x=>rfl⟩
      ·unfold smallOk
       split
       ·split <;> first | exact rfl | trivial
       ·exact z2y
      ·unfold idxChk
       split <;> first | exact rfl | trivial
     ·trivial
    ·exact hgo _ _ _ _ _ _ _ hd0
   ·split
    ·unfold iterDo
     split
     ·exact⟨z3e,fun s=>hgo _ _ _ _ _ _ _ (z9x fun fr=>trivial),fun s=>hgo _ _ _ _ _ _ _ hd0,fun x=>rfl⟩
     ·trivial
    ·exact hgo _ _ _ _ _ _ _ hd0
   ·exact hgo _ _ _ _ _ _ _ hd0
  ·trivial
theorem zeo {go:VT P ρ} (hgo:VTotal go):VTotal (vcStep z P fn V Lr go true):=by
 intro α is hd Ev fr L s hd0
 cases s with
 | guard gs k=>exact hgo _ _ _ _ _ _ _ hd0
 | call ok k=>exact fun r=>hgo _ _ _ _ _ _ _ hd0
 | calld gs d ok k=>exact fun r=>hgo _ _ _ _ _ _ _ hd0
 | lev t v w k =>
  simp only[vcStep]
  split
  ·exact⟨z2y,hgo _ _ _ _ _ _ _ hd0⟩
  ·trivial
 | keep ts k =>
  simp only[vcStep]
  split
  ·exact hgo _ _ _ _ _ _ _ hd0
  ·trivial
 | sh w fr1 fr2 L1 L2 p q k=>exact⟨z2y,z90,rfl,hgo _ _ _ _ _ _ _ hd0⟩
 | frz o w pw ts os k =>
  simp only[vcStep]
  split
  ·exact⟨z2y,fun j=>rfl,zja,zjb,hgo _ _ _ _ _ _ _ hd0⟩
  ·trivial
 | bor sz f ts k=>exact⟨zjd,hgo _ _ _ _ _ _ _ hd0⟩
 | kill o k =>
  simp only[vcStep]
  split
  ·exact hgo _ _ _ _ _ _ _ hd0
  ·trivial
 | split b x y=>exact⟨hgo _ _ _ _ _ _ _ hd0,hgo _ _ _ _ _ _ _ hd0⟩
 | nils t x y =>
  simp only[vcStep]
  split
  ·exact⟨rfl,hgo _ _ _ _ _ _ _ hd0,hgo _ _ _ _ _ _ _ hd0⟩
  ·trivial
 | cst w fr1 fr2 L1 L2 p k=>exact⟨z2y,z90,rfl,hgo _ _ _ _ _ _ _ hd0⟩
 | _=>simp only[vcStep]; exact zen hgo α is hd Ev fr L _ hd0
theorem z4m:∀ n,VSound z P fn V Lr (vc z P fn V Lr false n)
 | 0=>fun _ _ _ _ _ _ _ _ h _ _ _=>h.elim
 | n+1=>zem (z4m n)
theorem z4n:∀ n,VTotal (vc z P fn V Lr true n)
 | 0=>fun _ _ _ _ _ _ _ _=>trivial
 | n+1=>zeo (z4n n)
def fvc (P:Program) (fn:Func) {ρ:Type} (V:ρ->AV) (Lr:ρ->List Ob) (fl:Bool) (c:Code) (args:List AV) (L:List Ob) (s:Scr P ρ ρ):Prop :=
 (∀ r,eqf fl (Nat.ble args.length fn.ntmps&&(Nat.ble L.length (Lr r).length&&(V r).lt (Lr r).length)) true/\obsLt fl (Lr r).length (Lr r)) /\
  vc none P fn V Lr fl 5000 ρ [.c c] (funHd P fn V Lr fl) [] (argFr args 0) L s
theorem fOk {f:FuncId} {args:List AV} {s:Scr P ρ ρ} (hf:P.funcs[f]? = some fn) (hb:fn.body=some c) (h:fvc P fn V Lr false c args L s=fvc P fn V Lr true c args L s) {r:ρ} (hr:s.den=some r):CallOk P f args L (V r) (Lr r):=by
 have ht:fvc P fn V Lr true c args L s:=⟨fun r=>⟨rfl,zbq⟩,z4n _ _ _ _ _ _ _ _ fun Ev e fr L ws a=>by cases e <;> first | trivial | exact z4l⟩
 rw[<- h] at ht
 obtain⟨h1,h2⟩:=ht
 obtain⟨h3,h4⟩:=h1 r
 have h3:_=true:=h3
 rw[ya,ya] at h3
 refine ze9 hf hb (y38 h3.1) (y38 h3.2.1) h3.2.2 (lsOk (zbr h4)) ?_
 exact z1m (z4m _ _ _ _ _ _ _ _ z9w h2 trivial r hr) fun _ _ h=>h
end
abbrev vi (x:Int):AV:=.d (.i .i64 x)
abbrev vb (x:Bool):AV:=.d (.b x)
abbrev vl (x:List Int):AV:=.d (eL (.i .i64) x)
abbrev vp (o:Nat):AV:=.ptr o 1 []
abbrev bx (x:DV):Ob:=.box (.d x)
abbrev hc (c:CR) (σ:List Nat) (rd:Bool):HE:={ h:=.callc c σ rd }
abbrev hv (v:AV):HE:={ cast:=some v }
abbrev nn (n:Nat):(0:Int)<=(n:Int):=y4r n
variable {h:Nat}
section
variable {α:Type} [Inhabited α]
theorem lvT (e:α->DV) (l:List α) (hh:h<=l.length):LeV (.d (.sl (h-0) fun j=>e (l.getD j dF))) (.d (eL e (l.take h))):=zky hh
theorem lvD (e:α->DV) (l:List α) (n:Nat):LeV (.d (.sl (l.length-n) fun j=>e (l.getD (n+j) dF))) (.d (eL e (l.drop n))):=zkz
theorem lvN (e:α->DV):LeV (.full 0 fun _=>.b false) (.d (eL e ([]:List α))):=zmw
end
theorem lvQ (b:Bool) (n:Nat) (f:Nat->DV):LeV (.nq b n f) (.d (.sl n f)):=fun c u hu=>by
 cases hu with
 | agg _ _ ha=>cases ha
 | one _ _ _ hx =>
  cases hx with
  | nq _ _ _ _ hd _=>exact .one _ _ rfl (.d _ _ hd)
theorem lvZ [Inhabited α] (e:α->DV) (l:List α) (h:l.length=0):LeV (.full 0 fun _=>.b false) (.d (eL e l)):=z9v h.symm fun i hi=>om
def clearL (l:List α) (off n:Nat) (z:α):List α:=l.mapIdx fun j x=>if off<=j/\j<off+n then z else x
variable {l:List α} {off:Nat}
theorem z1t {z:α}:(clearL l off n z).length=l.length:=by simp[clearL]
variable {e:α->DV} {sz:Nat}
theorem zcu [Inhabited α] {z:α} :
  OLe (.seq sz l.length fun j=>if off<=j/\j<off+n then .d (e z) else .d (e (l.getD j dF))) (eS sz e (clearL l off n z)) :=
 z40 z1t.symm fun i hi=>by
  simp only[clearL,List.getD_eq_getElem?_getD,List.getElem?_mapIdx,yh hi,y1z,y44]
  split <;> rfl
def copyL [Inhabited α] (l:List α) (off k:Nat) (s:Nat->α):List α:=(List.range l.length).map fun j=>if off<=j/\j<off+k then s (j-off) else l.getD j dF
variable {s:Nat->α}
theorem zw [Inhabited α] {k:Nat}:(copyL l off k s).length=l.length:=by simp[copyL]
theorem z9y [Inhabited α] {k:Nat} :
  OLe (.seq sz l.length fun j=>if off<=j/\j<off+k then .d (e (s (j-off))) else .d (e (l.getD j dF))) (eS sz e (copyL l off k s)) :=
 z40 zw.symm fun i hi=>by
  rw[show (copyL l off k s).getD i dF=if off<=i/\i<off+k then s (i-off) else l.getD i dF by
   simp only[copyL]
   rw[List.getD_eq_getElem?_getD (l:=List.map _ _),y2q,y5q hi,y1z,y44]]
  split <;> rfl
def insL (l:List α) (i:Nat) (x:α):List α:=l.take i++x :: l.drop i
variable {x:α}
theorem z27:(insL l i x).length=l.length+1:=by simp[insL]; omega
theorem z9z [Inhabited α] (hi:i<=l.length) (j:Nat):(insL l i x).getD j dF=if j<i then l.getD j dF else if j=i then x else l.getD (j-1) dF:=by
 unfold insL
 simp only[List.getD_eq_getElem?_getD]
 by_cases h1:j<i
 ·rw[y7 h1,yq sk,y1s h1]
 ·rw[y6 h1,y1j sk]
  have e1:(l.take i).length=i:=sk
  rw[e1]
  by_cases h2:j=i
  ·subst h2; simp
  ·rw[y6 h2]
   obtain⟨k,hk⟩:∃ k,j-i=k+1:=⟨j-i-1,om⟩
   rw[hk,List.getElem?_cons_succ,y3u]
   congr 2; omega
theorem z93 [Inhabited α]:OLe (.seq sz l.length (listF .bot (l.map fun x=>AV.d (e x)))) (eS sz e l) :=
 z40 rfl fun i hi=>by simp[listF,List.getD_eq_getElem?_getD,List.getElem?_eq_getElem hi]
inductive ObTr (H:Cx->Cx->Prop):Ob->Ob->Prop
 | keep (x:Ob):ObTr H x x
 | dead (x:Ob):ObTr H x .dead
 | box (x y:AV) (h:TrV H x y):ObTr H (.box x) (.box y)
 | seq (sz n:Nat) (f g:Nat->AV) (h:∀ j,j<n->TrV H (f j) (g j)):ObTr H (.seq sz n f) (.seq sz n g)
inductive TrQ (H:Cx->Cx->Prop) (sp:List Nat):Nat->List Ob->List Ob->Prop
 | nil (k:Nat):TrQ H sp k [] []
 | one (k:Nat) (x y:Ob) (r r':List Ob) (hx:k∈sp\/ObTr H x y) (h:TrQ H sp (k+1) r r'):TrQ H sp k (x :: r) (y :: r')
section
variable {H:Cx->Cx->Prop} {sp:List Nat}
end
section
variable {H:Cx->Cx->Prop}
end
structure Opn (α:Type) [Inhabited α] where
 sz:Nat
 T:AV->AV->AV->AV->α->AV
 e:α->DV
 g1:α->List Int
 g2:α->List Int
 g3:α->List Int
 g4:α->List Int
 tr:∀ {H:Cx->Cx->Prop} {a a' b b' c c' d d':AV} (x:α),TrV H a a'->TrV H b b'->TrV H c c'->TrV H d d'->TrV H (T a b c d x) (T a' b' c' d' x)
 cl:∀ x:α,TrV NoH (T (vl (g1 x)) (vl (g2 x)) (vl (g3 x)) (vl (g4 x)) x) (.d (e x))
 wd:∀ {a b c d:AV} (x:α),a.wd=1->b.wd=1->c.wd=1->d.wd=1->(T a b c d x).wd=sz
section
variable {α:Type} [Inhabited α] (O:Opn α)
end
section
variable {α:Type} [Inhabited α] (O:Opn α)
end
section
variable {L:List Ob}
end
section
variable {α:Type} [Inhabited α] (O:Opn α)
end
section
variable {α:Type} [Inhabited α] {e:α->DV} {l:List α}
end
theorem lvTF [Inhabited α] (e:α->DV) (l:List α) (hh:h<=l.length):LeV (.full (h-0) fun j=>e (l.getD j dF)) (.d (eL e (l.take h))):=z9v sk fun i hi=>by
 simp only[List.getD_eq_getElem?_getD]
 rw[y1s om]
theorem zl4 [Inhabited α] (e:α->DV) (l x:List α):LeV (.d (.sl (l.length-0+x.length) (catF (l.length-0) (fun j=>e (l.getD j dF)) (fun j=>e (x.getD j dF))))) (.d (eL e (l++x))):=z6u sj fun i hi=>by
 rw[zeg]
 by_cases h:i<l.length
 ·rw[z1x om,y7 h]
 ·rw[z23 om,y6 h,Nat.sub_zero]
theorem z94 {x:AV}:LeV x .bot:=fun _ u _=>.bot u
end Go.TA
namespace Go.TA
open Go Go.RowKit
structure Turn (T:Nat->Prop) (A B:World):Prop where
 out:SameOut A B
 size:A.heap.size<=B.heap.size
 same:∀ k,k<A.heap.size->¬ T k->B.heap[k]? = A.heap[k]?
variable {T:Nat->Prop} {A:World}
theorem Turn.mono {U:Nat->Prop} {B:World} (h:Turn T A B) (hu:∀ k,T k->U k):Turn U A B:=⟨h.out,h.size,fun k hk hn=>h.same k hk fun ht=>hn (hu k ht)⟩
theorem Turn.put {l:Nat} (hl:T l) (o:Obj):Turn T A (A.putObj l o) :=
 ⟨⟨rfl,rfl,rfl⟩,sj,fun k _ hn=>World.putObj_heap_other (fun e=>hn (e▸hl))⟩
def Keeps (caps:List Nat) (A B:World):Prop:=A.heap.size<=B.heap.size/\∀ k∈caps,B.heap[k]? = A.heap[k]?
variable {α:Type}
def SeqT (P:Program) (n gf:Nat) (lb:Array Value) (enc:α->Value) (T:Nat->Prop) (caps:List Nat) (w:World) (S Pr:List α->Prop):Prop :=
 ∀ (l:Nat) (J Jx:List α->World->Prop) (W:World),w.heap.size<=W.heap.size->(∀ k∈caps,W.heap[k]? = w.heap[k]?) ->
  (∀ pre A B,J pre A->Turn T A B->J pre B)->(∀ pre A B,Jx pre A->Turn T A B->Jx pre B) ->
  (∀ pre x W1,Pr (pre++[x])->J pre W1->YieldAt Fence.wide n P l #[enc x] W1 fun e W'=>(e = .returned (.bool true)/\J (pre++[x]) W'/\Keeps caps W1 W')\/(e = .returned (.bool false)/\Jx (pre++[x]) W'))->J [] W ->
  CallsIn Fence.wide n P gf (#[.func (.yield l) #[] #[]]++lb) W fun e W'=>(∃ v,e = .returned v)/\((∃ xs,S xs/\J xs W')\/∃ pre,Jx pre W')
def roundEnd (l D:Nat) (caps:List Nat) (I:List α->World->Prop) (Ix:Code->List α->World->Prop) (xs:List α) (W:World):Exit->Act->World->Prop
 | .normal,_,W'=>(W'.heap[l]? = W.heap[l]? /\ W'.heap[D]? = W.heap[D]?)/\Keeps caps W W'/\I xs W'
 | .ret,_,W'=>(W'.heap[l]? = W.heap[l]? /\ W'.heap[D]? = W.heap[D]?)/\Ix .ret xs W'
 | _,_,_=>False
theorem zhf {P:Program} {n:Nat} {g:Operand} {ps:Array Tmp} {assign body:Code} {Q:Exit->Act->World->Prop} {a:Act} {w:World} {gf:Nat} {lb:Array Value} (hg:a.eval g = .func (.func gf) #[] lb) (eg:∀ args w,(callFunc gf args).run P w = .ok (.enter gf args) w) {enc:α->Value} {caps:List Nat} {S Pr:List α->Prop} (hcaps:∀ k∈caps,k<w.heap.size) (hseq:SeqT P n gf lb enc T caps w S Pr) (hT:∀ k,T k->k<w.heap.size) (hps:ps.size=1) (I:List α->World->Prop) (Ix:Code->List α->World->Prop) (hI:∀ pre A B,I pre A->Turn (fun k=>T k\/k=w.heap.size\/k=w.heap.size+1) A B->I pre B) (hIx:∀ c pre A B,Ix c pre A->Turn (fun k=>T k\/k=w.heap.size\/k=w.heap.size+1) A B->Ix c pre B) (h0:I [] w) (a₁:α->Act) (hassign:∀ (l:Nat) (x:α) (W:World) (K:Act->World->Prop),K (a₁ x) W ->
   assign.wpIn (Fence.wide.inRound l) n P (Exit.then K (fun _ _ _=>False)) { tmps:=(ps.zip #[enc x]).foldl (fun t (p,v)=>t.setIfInBounds p v) a.tmps,defers:=[] } W) (hbody:∀ (l:Nat) (pre:List α) (x:α) (W:World),l=w.heap.size+1->l<W.heap.size->Pr (pre++[x])->I pre W->body.wpIn (Fence.wide.inRound l) n P (roundEnd l w.heap.size caps I Ix (pre++[x]) W) (a₁ x) W) (hdone:∀ (xs:List α) (W:World),S xs->I xs W->W.heap[w.heap.size]? = some (.deferred (some []))->Q .normal { a with defers:={ target:=.collected w.heap.size,args:=#[] } :: a.defers } W) (hstop:∀ (c:Code) (pre:List α) (W:World),Ix c pre W->W.heap[w.heap.size]? = some (.deferred (some []))->c.wpIn Fence.wide (n+1) P Q { a with defers:={ target:=.collected w.heap.size,args:=#[] } :: a.defers } W) :
  (Code.rangeFunc g ps assign body).wpIn Fence.wide (n+1) P Q a w:=by
 refine wpIn_rangeFunc fun fn hfn=>?_
 let rec':LoopState->Option Code->Loop:=fun st pe=>{ state:=st,pending:=pe,fn,tmps:=a.tmps,params:=ps,assign,body,defers:=w.heap.size }
 obtain⟨W1,hW1⟩:∃ W1,(w.alloc (.deferred (some []))).alloc (.loop (rec' .ready none))=W1:=⟨_,rfl⟩
 have hL1:W1.heap[w.heap.size+1]? = some (.loop (rec' .ready none)):=by
  rw[<- hW1]; have:=World.alloc_heap_new (w.alloc (.deferred (some []))) (.loop (rec' .ready none)); rwa [y59] at this
 have hK1:W1.heap[w.heap.size]? = some (.deferred (some [])):=by
  rw[<- hW1]; exact (Below.heap_alloc _ _ _ sj).trans (World.alloc_heap_new w _)
 have hold:∀ k,k<w.heap.size->W1.heap[k]? = w.heap[k]? := fun k hk=>by
  rw[<- hW1]; exact (Below.heap_alloc _ _ _ sk).trans (Below.heap_alloc _ _ _ hk)
 have hsz:w.heap.size<=W1.heap.size:=by rw[<- hW1]; simp; omega
 have hT1:Turn (fun k=>T k\/k=w.heap.size\/k=w.heap.size+1) w W1:=⟨by rw[<- hW1]; exact⟨rfl,rfl,rfl⟩,hsz,fun k hk _=>hold k hk⟩
 refine⟨w.heap.size+1,[{ target:=.collected w.heap.size,args:=#[] }],W1,{ target:=.fn (.func gf) lb,args:=#[.func (.yield (w.heap.size+1)) #[] #[]] },W1,gf,
  #[.func (.yield (w.heap.size+1)) #[] #[]]++lb,W1,?_,?_,fun _ _=>trivial,?_,fun h=>(by cases h),?_⟩
 ·rw[<- hW1]; exact run_enterLoop_outer _ _ _ _ _
 ·simp only[resolve,hg]
  simp[go_sem]
 ·simp[invoke,go_sem,eg]
 ·have hput:∀ {W:World} (o:Obj),Turn (fun k=>T k\/k=w.heap.size\/k=w.heap.size+1) W (W.putObj (w.heap.size+1) o):=fun o=>Turn.put (.inr (.inr rfl)) o
  have hne:∀ {A B:World} (k:Nat),Turn T A B->(k=w.heap.size\/k=w.heap.size+1)->∀ {o:Obj},A.heap[k]? = some o->B.heap[k]? = some o:=fun {A B} k ht hk {o} ho=>by
   have hlt:=(y29.1 ho).1
   exact (ht.same k hlt fun h=>by have:=hT k h; omega).trans ho
  refine (hseq (w.heap.size+1)
   (fun pre W=>I pre W/\W.heap[w.heap.size+1]? = some (.loop (rec' .ready none))/\W.heap[w.heap.size]? = some (.deferred (some [])))
   (fun pre W=>∃ c,Ix c pre W/\W.heap[w.heap.size+1]? = some (.loop (rec' .done (some c)))/\W.heap[w.heap.size]? = some (.deferred (some [])))
   W1 hsz (fun k hk=>hold k (hcaps k hk))
   (fun pre A B ⟨h1,h2,h3⟩ ht=>⟨hI pre A B h1 (ht.mono fun k hk=>.inl hk),hne _ ht (.inr rfl) h2,hne _ ht (.inl rfl) h3⟩)
   (fun pre A B ⟨c,h1,h2,h3⟩ ht=>⟨c,hIx c pre A B h1 (ht.mono fun k hk=>.inl hk),hne _ ht (.inr rfl) h2,hne _ ht (.inl rfl) h3⟩)
   ?_ ⟨hI _ _ _ h0 hT1,hL1,hK1⟩).mono ?_
  ·rintro pre x W hpr ⟨hi,hl,hk⟩
   have hlt:w.heap.size+1<W.heap.size:=(y29.1 hl).1
   have hy:=run_yield (P:=P) (args:=#[enc x]) hl (by simp[rec',hps])
   refine⟨fn,_,assign,body,hy,roundIn_of_wpIn hfn (hassign _ x W _ ⟨_,run_beginRound hl rfl,?_⟩)⟩
   obtain⟨W2,hW2⟩:∃ W2,W.putObj (w.heap.size+1) (.loop { rec' .ready none with state:=.busy })=W2:=⟨_,rfl⟩
   have hl2:W2.heap[w.heap.size+1]? = some (.loop { rec' .ready none with state:=.busy }):=by rw[<- hW2]; exact World.putObj_heap_same hlt
   have hk2:W2.heap[w.heap.size]? = some (.deferred (some [])):=by rw[<- hW2]; exact (World.putObj_heap_other om).trans hk
   have hi2:I pre W2:=by rw[<- hW2]; exact hI _ _ _ hi (hput _)
   have hsz2:W2.heap.size=W.heap.size:=by rw[<- hW2]; simp
   have hkeep:∀ (A:World) (o:Obj),Keeps caps A (A.putObj (w.heap.size+1) o):=fun A o=>⟨sj,fun k hk=>World.putObj_heap_other (by have:=hcaps k hk; omega)⟩
   show body.wpIn _ _ _ _ _ (W.putObj (w.heap.size+1) (.loop { rec' .ready none with state:=.busy }))
   rw[hW2]
   refine y32 (hbody _ pre x W2 rfl om hpr hi2) ?_
   have hfin:∀ (jump:Option Code) (W3:World),W3.heap[w.heap.size+1]? = W2.heap[w.heap.size+1]? -> W3.heap[w.heap.size]? = W2.heap[w.heap.size]? ->
     (Instr.endRound (w.heap.size+1) jump).run P W3 = .ok (.bool jump.isNone) (W3.putObj (w.heap.size+1) (.loop (rec' (if jump.isNone then .ready else .done) jump))) /\
     (W3.putObj (w.heap.size+1) (.loop (rec' (if jump.isNone then .ready else .done) jump))).heap[w.heap.size+1]? = some (.loop (rec' (if jump.isNone then .ready else .done) jump)) /\
     (W3.putObj (w.heap.size+1) (.loop (rec' (if jump.isNone then .ready else .done) jump))).heap[w.heap.size]? = some (.deferred (some [])):=fun jump W3 e1 e2=>by
    have hl3:=e1.trans hl2
    exact⟨run_endRound (P:=P) jump hl3,World.putObj_heap_same (y29.1 hl3).1,(World.putObj_heap_other om).trans (e2.trans hk2)⟩
   rintro e a3 W3 hp
   cases e with
   | normal =>
    obtain⟨⟨e1,e2⟩,hkp,hi3⟩:=hp
    obtain⟨r1,r2,r3⟩:=hfin none W3 e1 e2
    refine⟨_,_,r1,.inl ⟨rfl,⟨hI _ _ _ hi3 (hput _),r2,r3⟩,?_⟩⟩
    have hb:=hkeep W3 (.loop (rec' .ready none))
    have ha:=hkeep W (.loop { rec' .ready none with state:=.busy })
    rw[hW2] at ha
    exact⟨y2c ha.1 (y2c hkp.1 hb.1),fun k hk=>(hb.2 k hk).trans ((hkp.2 k hk).trans (ha.2 k hk))⟩
   | ret =>
    obtain⟨⟨e1,e2⟩,hi3⟩:=hp
    obtain⟨r1,r2,r3⟩:=hfin (some .ret) W3 e1 e2
    exact⟨_,_,r1,.inr ⟨rfl,.ret,hIx _ _ _ _ hi3 (hput _),r2,r3⟩⟩
   | exit id=>exact hp.elim
   | goto t=>exact hp.elim
   | panic ch=>exact hp.elim
   | outgrown=>exact hp.elim
  ·rintro e W2 ⟨⟨v,rfl⟩,(⟨xs,hS,hi,hl,hk⟩ | ⟨pre,c,hi,hl,hk⟩)⟩
   ·exact⟨none,_,run_endLoop (P:=P) hl (by simp[rec']),hdone xs _ hS (hI _ _ _ hi (hput _)) ((World.putObj_heap_other om).trans hk)⟩
   ·exact⟨some c,_,run_endLoop (P:=P) hl (by simp[rec']),hstop c pre _ (hIx c _ _ _ hi (hput _)) ((World.putObj_heap_other om).trans hk)⟩
end Go.TA
namespace Go.TA
open Go Go.RowKit
variable {T:Nat->Prop} {A B:World}
theorem relTurn {X Y:Nat->Prop} {ms:Blocks} {L:List Ob} (h:Rel X ms L A) (ht:Turn T A B) (hT:∀ k,T k->k<A.heap.size->X k) (hYX:∀ k,Y k->X k\/A.heap.size<=k) (hY:∀ k,Y k->k<B.heap.size) :
  Rel Y ms L B/\(cxOf X ms L A).le (cxOf Y ms L B):=by
 have hM:(memOf X ms A).le (memOf Y ms B):=fun b arr e=>by
  obtain⟨h1,h2,e',fz,h3⟩:=z26 e
  have hlt:b<A.heap.size:=(y29.1 h3).1
  refine z1j (fun hy=>?_) h2 ((ht.same b hlt fun hk=>h1 (hT b hk hlt)).trans h3)
  rcases hYX b hy with hx | hx
  ·exact h1 hx
  ·omega
 have hc:(cxOf X ms L A).le (cxOf Y ms L B):=⟨hM,yc _,fun _ obj' _ hl _=>⟨obj',hl,rfl,fun s hs=>⟨s,hs,yc _⟩,fun _=>rfl⟩⟩
 refine⟨⟨h.len,fun b hb=>?_,hY,h.inj,fun o obj ho=>?_,h.glob.mono hM⟩,hc⟩
 ·obtain⟨h1,h2⟩:=h.lt b hb
  refine⟨y1f h1 ht.size,fun hy=>?_⟩
  rcases hYX b hy with hx | hx
  ·exact h2 hx
  ·omega
 ·exact (h.obs o obj ho).mono hc rfl fun b tc hb=>by
   obtain⟨h1,h2⟩:=h.lt b ⟨o,tc,hb⟩
   exact ht.same b h1 fun hk=>h2 (hT b hk h1)
def foldR {α σ ρ:Type} (step:α->σ->Option (Step σ ρ)):List α->σ->Option (Out σ ρ)
 | [],s=>some (.next s)
 | x :: xs,s=>match step x s with
  | some (.cont s')=>foldR step xs s'
  | some (.ret r)=>some (.ret r)
  | _=>none
theorem z87 {α σ ρ:Type} {step:α->σ->Option (Step σ ρ)}:∀ {pre zs:List α} {s0 s:σ},foldR step pre s0=some (.next s)->foldR step (pre++zs) s0=foldR step zs s
 | [],_,s0,s,h=>by simp[foldR] at h; subst h; rfl
 | x :: pre,zs,s0,s,h=>by
  simp only[foldR,y2f] at h |-
  cases hx:step x s0 with
  | none=>simp[hx] at h
  | some r =>
   cases r with
   | cont s'=>simp only[hx] at h |-; exact z87 h
   | brk s'=>simp[hx] at h
   | ret r=>simp[hx] at h
variable {m:Nat}
section
variable {P:Program} {N n:Nat} {X:Nat->Prop} {ms1:Blocks} {w1 w2:World} {a:Act} {fr1:Fr} {L1:List Ob} {α σ ρ:Type}
def XY (X:Nat->Prop) (k0 m:Nat) (W:World) (k:Nat):Prop:=X k\/(k0<=k/\k<k0+m/\k<W.heap.size)
def RInv (X:Nat->Prop) (ms1:Blocks) (L1:List Ob) (w1:World) (m:Nat) (Q:List Ob->Prop) (W:World):Prop :=
 ∃ ms' L',Q L'/\Rel (XY X w1.heap.size m W) ms' L' W/\Ext ms1 w1 ms' W/\(cxOf X ms1 L1 w1).le (cxOf (XY X w1.heap.size m W) ms' L' W)
theorem RInv.turn {Q:List Ob->Prop} (h:RInv X ms1 L1 w1 m Q A) (ht:Turn T A B) (hT:∀ k,T k->w1.heap.size<=k/\k<w1.heap.size+m):RInv X ms1 L1 w1 m Q B:=by
 obtain⟨ms',L',q,r,e,c⟩:=h
 obtain⟨r2,c2⟩:=relTurn (Y:=XY X w1.heap.size m B) r ht (fun k hk hlt=>.inr ⟨(hT k hk).1,(hT k hk).2,hlt⟩)
  (fun k hk=>by
   rcases hk with hk | ⟨h1,h2,h3⟩
   ·exact .inl (.inl hk)
   ·rcases yu k A.heap.size with h4 | h4
    ·exact .inl (.inr ⟨h1,h2,h4⟩)
    ·exact .inr h4)
  (fun k hk=>by
   rcases hk with hk | ⟨_,_,h3⟩
   ·exact y1f (r.xlt k (.inl hk)) ht.size
   ·exact h3)
 refine⟨ms',L',q,r2,⟨y2c e.size ht.size,fun b hb ho=>?_,e.out.trans ht.out⟩,c.trans c2⟩
 obtain⟨h1,h2⟩:=e.keep b hb ho
 exact⟨(ht.same b (y1f hb e.size) fun hk=>by have:=(hT b hk).1; omega).trans h1,h2⟩
theorem zjg {g:Operand} {ps:Array Tmp} {assign body:Code} {gf:Nat} {lb:Array Value} {enc:α->Value} {caps:List Nat} {S Pr:List α->Prop} (hr:Rel X ms1 L1 w1) (hf:FrIs (cxOf X ms1 L1 w1) fr1.up a.tmps) (_hd:a.defers=[]) (hgrow:Grow w1 w2) (hsz:w2.heap.size+2=w1.heap.size+m) (hT:∀ k,T k->w1.heap.size<=k/\k<w2.heap.size) (hcaps:∀ k∈caps,w1.heap.size<=k/\k<w2.heap.size) (hseq:SeqT P n gf lb enc T caps w2 S Pr) (hg:a.eval g = .func (.func gf) #[] lb) (eg:∀ args w,(callFunc gf args).run P w = .ok (.enter gf args) w) (hps:ps.size=1) (step:α->σ->Option (Step σ ρ)) (ys:List α) (hS:∀ xs,S xs->xs=ys) (hPr:∀ pre,Pr pre->∃ zs,ys=pre++zs) (s0:σ) (out:Out σ ρ) (hout:foldR step ys s0=some out) (LI:σ->List Ob) (h0:L1=LI s0) (hlen:∀ s,(LI s).length=L1.length) (a₁:α->Act) (hassign:∀ (l:Nat) (x:α) (W:World) (K:Act->World->Prop),K (a₁ x) W ->
   assign.wpIn (Fence.wide.inRound l) n P (Exit.then K (fun _ _ _=>False)) { tmps:=(ps.zip #[enc x]).foldl (fun t (p,v)=>t.setIfInBounds p v) a.tmps,defers:=[] } W) (frb:α->Fr) (hfrb:∀ (c:Cx) (x:α),FrIs c fr1.up a.tmps->FrIs c (frb x).up (a₁ x).tmps) (hab:∀ x,(a₁ x).tmps.size=N/\(a₁ x).defers=[]) (R:ρ->Fr->List Ob->Prop) (hbody:∀ (l:Nat) (x:α) (s:σ) (r:Step σ ρ),step x s=some r->AW (some l) P N body (fun e fr L=>match e with
   | .normal=>∃ s',r = .cont s'/\StLe fr L [] (LI s')
   | .ret=>∃ y,r = .ret y/\R y fr1 L
   | _=>False) (frb x) (LI s)) (Q:Exit->Act->World->Prop) (hQn:∀ s W,out = .next s->RInv X ms1 L1 w1 m (fun L=>L=LI s) W->w2.heap.size<W.heap.size->W.heap[w2.heap.size]? = some (.deferred (some [])) ->
   Q .normal { a with defers:={ target:=.collected w2.heap.size,args:=#[] } :: a.defers } W) (hQr:∀ y W,out = .ret y->RInv X ms1 L1 w1 m (fun L=>R y fr1 L) W->w2.heap.size<W.heap.size->W.heap[w2.heap.size]? = some (.deferred (some [])) ->
   Q .ret { a with defers:={ target:=.collected w2.heap.size,args:=#[] } :: a.defers } W) :
  (Code.rangeFunc g ps assign body).wpIn Fence.wide (n+1) P Q a w2:=by
 have hw12:=hgrow.size
 have hTT:∀ k,(T k\/k=w2.heap.size\/k=w2.heap.size+1)->w1.heap.size<=k/\k<w1.heap.size+m:=fun k hk=>by
  rcases hk with hk | rfl | rfl
  ·have:=hT k hk; omega
  ·omega
  ·omega
 have hlt:∀ {W:World} {o:Obj},W.heap[w2.heap.size]? = some o->w2.heap.size<W.heap.size:=fun h=>(y29.1 h).1
 refine zhf hg eg (fun k hk=>(hcaps k hk).2) hseq (fun k hk=>(hT k hk).2) hps
  (fun pre W=>RInv X ms1 L1 w1 m (fun L=>∃ s,foldR step pre s0=some (.next s)/\L=LI s) W)
  (fun c pre W=>c = .ret/\RInv X ms1 L1 w1 m (fun L=>∃ y,out = .ret y/\R y fr1 L) W)
  (fun pre A B h ht=>h.turn ht hTT) (fun c pre A B h ht=>⟨h.1,h.2.turn ht hTT⟩) ?_ a₁ hassign ?_ ?_ ?_
 ·-- the start
  obtain⟨r2,c2⟩:=relTurn (Y:=XY X w1.heap.size m w2) hr (B:=w2) (T:=fun _=>False) ⟨hgrow.out,hgrow.size,fun k hk _=>hgrow.same k hk⟩ (fun k hk=>hk.elim)
   (fun k hk=>hk.elim .inl fun h=>.inr h.1) (fun k hk=>by
    rcases hk with hk | ⟨_,_,h3⟩
    ·exact y1f (hr.xlt k hk) hgrow.size
    ·exact h3)
  exact⟨ms1,L1,⟨s0,rfl,h0⟩,r2,hgrow.ext ms1,c2⟩
 ·-- a round
  intro l pre x W hl hlW hpr ⟨ms',L',⟨s,hs,hL⟩,r,e,c⟩
  subst hL
  obtain⟨zs,hzs⟩:=hPr _ hpr
  have hfold:foldR step ([x]++zs) s=some out:=by
   rw[<- z87 (zs:=[x]++zs) hs,<- y25,<- hzs]; exact hout
  simp only[List.singleton_append,foldR] at hfold
  cases hst:step x s with
  | none=>simp[hst] at hfold
  | some rr =>
   have hX:∀ k,w1.heap.size<=k->k<w1.heap.size+m->k<W.heap.size->XY X w1.heap.size m W k:=fun k h1 h2 h3=>.inr ⟨h1,h2,h3⟩
   have hnot:∀ k,XY X w1.heap.size m W k->¬ owned ms' k:=fun k hk ho=>(r.lt k ho).2 hk
   refine y32 (hbody l x s rr hst n [] _ ms' W (a₁ x) r (hfrb _ x ((hf.mono c))) (hab x).1 (hab x).2) ?_
   rintro ex a3 W3 ⟨ms3,fr3,L3,q3,r3,e3,c3,f3,n3,d3⟩
   have hsame:∀ k,XY X w1.heap.size m W k->W3.heap[k]? = W.heap[k]? := fun k hk=>(e3.keep k (r.xlt k hk) (hnot k hk)).1
   have hXe:XY X w1.heap.size m W3=XY X w1.heap.size m W:=by
    funext k
    apply propext
    constructor
    ·rintro (hk | ⟨h1,h2,h3⟩)
     ·exact .inl hk
     ·exact .inr ⟨h1,h2,om⟩
    ·rintro (hk | ⟨h1,h2,h3⟩)
     ·exact .inl hk
     ·exact .inr ⟨h1,h2,y1f h3 e3.size⟩
   have hls:W3.heap[l]? = W.heap[l]? := hsame l (hX l om om hlW)
   have hDs:W3.heap[w2.heap.size]? = W.heap[w2.heap.size]? := hsame _ (hX _ om om om)
   cases ex with
   | normal =>
    obtain⟨s',rfl,st⟩:=q3
    have hlen3:(LI s).length<=(LI s').length:=by rw[hlen,hlen]; exact yc _
    obtain⟨ms4,k1,k2,k3,_⟩:=st.rel hlen3 r3 e3 c3 f3
    refine⟨⟨hls,hDs⟩,⟨e3.size,fun k hk=>hsame k (hX k (hcaps k hk).1 (by have:=(hcaps k hk).2; omega) (by have:=(hcaps k hk).2; omega))⟩,ms4,LI s',⟨s',?_,rfl⟩,?_,e.trans k2,?_⟩
    ·rw[z87 hs]; simp[foldR,hst]
    ·rw[hXe]; exact k1
    ·rw[hXe]; exact c.trans k3
   | ret =>
    obtain⟨y,rfl,hy⟩:=q3
    simp only[hst,yw] at hfold
    refine⟨⟨hls,hDs⟩,rfl,ms3,L3,⟨y,hfold.symm,hy⟩,?_,e.trans e3,?_⟩
    ·rw[hXe]; exact r3
    ·rw[hXe]; exact c.trans c3
   | _=>exact q3.elim
 ·intro xs W hSx hI hD
  obtain⟨ms',L',⟨s,hs,hL⟩,r,e,c⟩:=hI
  have hxs:=hS xs hSx
  subst hxs
  rw[hout] at hs
  exact hQn s W (y15 hs) ⟨ms',L',hL,r,e,c⟩ (hlt hD) hD
 ·rintro cc pre W ⟨rfl,ms',L',⟨y,hy,hR⟩,r,e,c⟩ hD
  exact wpIn_ret (hQr y W hy ⟨ms',L',hR,r,e,c⟩ (hlt hD) hD)
end
def pieces:Y8->List Y8
 | []=>[[]]
 | b :: l=>if (b==46)=true then [] :: pieces l else match pieces l with
  | []=>[[b]]
  | p :: ps=>(b :: p) :: ps
theorem z17 (b:UInt8) (l:Y8):pieces (b :: l)=if (b==46)=true then [] :: pieces l else match pieces l with
  | []=>[[b]]
  | p :: ps=>(b :: p) :: ps:=by rw[pieces]
theorem zhg (b:UInt8) (l:Y8):Lib.indexByte (b :: l) 46=if (b==46)=true then 0 else if (Lib.indexByte l 46==-1)=true then -1 else Lib.indexByte l 46+1:=by rw[Lib.indexByte]
theorem z12:∀ l,pieces l≠[]
 | []=>by simp[pieces]
 | b :: l=>by
  unfold pieces
  split
  ·simp
  ·split <;> simp
theorem z88:∀ l:Y8,(Lib.indexByte l 46=-1->pieces l=[l]) /\
  (Lib.indexByte l 46≠-1->0<=Lib.indexByte l 46/\(Lib.indexByte l 46).toNat<l.length/\pieces l=l.take (Lib.indexByte l 46).toNat :: pieces (l.drop ((Lib.indexByte l 46).toNat+1)))
 | []=>⟨fun _=>rfl,fun h=>absurd rfl h⟩
 | b :: l=>by
  obtain⟨h1,h2⟩:=z88 l
  rw[z17,zhg]
  by_cases hb:(b==46)=true
  ·rw[y7 hb,y7 hb]
   exact⟨fun h=>om,fun _=>⟨om,sj,sj⟩⟩
  ·rw[y6 hb,y6 hb]
   by_cases hi:Lib.indexByte l 46=-1
   ·rw[hi,h1 hi]
    exact⟨fun _=>sj,fun h=>absurd sj h⟩
   ·obtain⟨h3,h4,h5⟩:=h2 hi
    rw[y6 (by simpa using hi)]
    refine⟨fun h=>om,fun _=>⟨om,?_,?_⟩⟩
    ·simp; omega
    ·rw[show (Lib.indexByte l 46+1).toNat=(Lib.indexByte l 46).toNat+1 from om,h5]
     simp
def pv:Y8->Option Int
 | [d]=>if 49<=d.toNat/\d.toNat<=57 then some ((d.toNat:Int)-48) else none
 | [d,e]=>if (49<=d.toNat/\d.toNat<=57)/\48<=e.toNat/\e.toNat<=57 then some (10 * ((d.toNat:Int)-48)+((e.toNat:Int)-48)) else none
 | _=>none
def z89 (n:Nat):Y8:=if n<10 then [UInt8.ofNat (48+n)] else [UInt8.ofNat (48+n / 10),UInt8.ofNat (48+n % 10)]
theorem z6w {n:Nat} (h:n<100):Lib.decDigits n=z89 n:=by
 unfold z89
 rw[Lib.decDigits]
 split
 ·rfl
 ·rw[Lib.decDigits,y4a om]
  rfl
theorem z5i:∀ n:Fin 100,1<=n.val->pv (z89 n.val)=some (n.val:Int)/\Lib.atoiAll (z89 n.val) = .ok (n.val:Int):=by decide +kernel
theorem z6o (d:UInt8):UInt8.ofNat d.toNat=d:=sj
theorem zep:∀ {w:Y8} {v:Int},pv w=some v->∃ n:Nat,1<=n/\n<=99/\v=n/\w=z89 n
 | [d],v,h=>by
  simp only[pv] at h
  split at h
  ·rename_i hd
   have h:=y15 h
   refine⟨d.toNat-48,om,om,om,?_⟩
   unfold z89
   rw[y7 om,show 48+(d.toNat-48)=d.toNat from om,z6o]
  ·cases h
 | [d,e],v,h=>by
  simp only[pv] at h
  split at h
  ·rename_i hd
   have h:=y15 h
   refine⟨10 * (d.toNat-48)+(e.toNat-48),om,om,om,?_⟩
   unfold z89
   rw[y6 om,show 48+(10 * (d.toNat-48)+(e.toNat-48)) / 10=d.toNat from om,show 48+(10 * (d.toNat-48)+(e.toNat-48)) % 10=e.toNat from om,z6o,z6o]
  ·cases h
 | [],v,h=>by cases h
 | _ :: _ :: _ :: _,v,h=>by cases h
variable {w:Y8}
theorem zn1 {v:Int} (h:Lib.atoiAll w = .ok v):(pv w=some v/\1<=v/\v<=99/\Lib.decDigits v.toNat=w)\/(pv w=none/\(v<1\/v>99\/Lib.decDigits v.toNat≠w)):=by
 cases hp:pv w with
 | none =>
  right
  refine⟨rfl,?_⟩
  by_cases h1:v<1
  ·exact .inl h1
  ·by_cases h2:v>99
   ·exact .inr (.inl h2)
   ·refine .inr (.inr fun e=>?_)
    rw[z6w om] at e
    have:=(z5i ⟨v.toNat,om⟩ (by simp only; omega)).1
    simp only at this
    rw[e,hp] at this
    cases this
 | some u =>
  left
  obtain⟨n,n1,n2,rfl,rfl⟩:=zep hp
  have:=(z5i ⟨n,om⟩ n1).2
  simp only at this
  rw[this] at h
  cases h
  exact⟨rfl,om,om,by rw[yi,z6w om]⟩
theorem zjh (h:∀ v,Lib.atoiAll w≠.ok v):pv w=none:=by
 cases hp:pv w with
 | none=>rfl
 | some u =>
  obtain⟨n,n1,n2,rfl,rfl⟩:=zep hp
  exact absurd (z5i ⟨n,om⟩ n1).2 (h _)
def nums:List Y8->Option (List Int)
 | []=>some []
 | w :: ws=>match pv w with
  | none=>none
  | some n=>(nums ws).map (n :: ·)
def parts (l:Y8):List Int:=match nums (pieces l) with
 | none=>[]
 | some ns=>if ns.length>4 then [] else ns
end Go.TA
namespace Go.TA
open Go Go.RowKit
variable {w:World}
theorem z7j {w':World} (h:Below w.heap.size w w'):Grow w w':=⟨h.size,h.block,⟨h.os,h.tape,h.output⟩⟩
variable {P:Program} {v:AV}
theorem z8a {f:FuncId} {args:List AV} (h:∀ (X:Nat->Prop) (ms:Blocks) (w:World) (us:List Value),Rel X ms [] w->AV.IsVs (cxOf X ms [] w) args us->Calls P f us.toArray w fun e w'=>∃ u,e = .returned u/\Below w.heap.size w w'/\∀ c,AV.IsV c v u) :
  CallOk P f args [] v []:=fun X ms w us hr hus =>
 (h X ms w us hr hus).mono fun _ _ ⟨u,he,hb,hv⟩=>⟨u,ms,he,(hr.grow (z7j hb)).1,(z7j hb).ext ms,(hr.grow (z7j hb)).2,hv _⟩
variable {c:Cx} {l:Y8} {us:List Value}
theorem zeq (h:AV.IsVs c [.d (.str l)] us):us=[.string ⟨l.toArray⟩]:=by
 cases h with
 | cons _ _ u us h1 h2 =>
  cases h2
  rw[IsV.str h1]
variable {n:Int}
theorem zl5 (h:AV.IsVs c [.d (.i .i64 n)] us):us=[.int .i64 n]:=by
 cases h with
 | cons _ _ u us h1 h2 =>
  cases h2
  rw[IsV.i h1]
variable {L:List Ob} {X:Nat->Prop} {ms:Blocks}
theorem zcv (h:Rel X ms L w) {b:Nat} (hb:b∈globs):∃ v,w.cell? ⟨b,0,none⟩=some v/\(v = .nilIface\/∃ te pe,v = .iface te pe):=by
 obtain⟨v,h1,h2⟩:=h.glob.1 b hb
 obtain⟨_,_,e,fz,h3⟩:=z26 h1
 refine⟨v,by simp[World.cell?,h3],?_⟩
 unfold errB at h2
 split at h2
 ·exact .inl rfl
 ·exact .inr ⟨_,_,rfl⟩
 ·cases h2
def atoiF (l:Y8):Int×Bool:=match Lib.atoiAll l with
 | .ok v=>(v,false)
 | .range=>(Lib.atoiSat l,true)
 | _=>(0,true)
variable {f:Nat}
theorem zfo {gs gr:Nat} {te:TypeId} (hgs:gs∈globs) (hgr:gr∈globs) (hok:∀ (s:ByteArray),s.size<=281474976710656->∀ v,Lib.atoiAll s.data.toList = .ok v->∀ w,Calls P f #[.string s] w fun e w'=>e = .returned (.tuple #[.int .i64 v,.nilIface])/\Below w.heap.size w w') (hsy:∀ (s:ByteArray),s.size<=281474976710656->(∀ v,Lib.atoiAll s.data.toList≠.ok v)->Lib.atoiAll s.data.toList≠.range->∀ (ev:Value) (w:World),w.cell? ⟨gs,0,none⟩=some ev->(ev = .nilIface\/∃ te pe,ev = .iface te pe) ->
   Calls P f #[.string s] w fun e w'=>∃ N,e = .returned (.tuple #[.int .i64 (0),.iface te (.pointer (some ⟨N,0,none⟩))])/\Below w.heap.size w w') (hra:∀ (s:ByteArray),s.size<=281474976710656->Lib.atoiAll s.data.toList = .range->∀ (ev:Value) (w:World),w.cell? ⟨gr,0,none⟩=some ev->(ev = .nilIface\/∃ te pe,ev = .iface te pe) ->
   Calls P f #[.string s] w fun e w'=>∃ N,e = .returned (.tuple #[.int .i64 (Lib.atoiSat s.data.toList),.iface te (.pointer (some ⟨N,0,none⟩))])/\Below w.heap.size w w') (hl:l.length<=281474976710656):CallOk P f [.d (.str l)] [] (.tup [.d (.i .i64 (atoiF l).1),.err (atoiF l).2]) []:=by
 refine z8a fun X ms w us hr hus=>?_
 obtain rfl:=zeq hus
 have hd:(⟨l.toArray⟩:ByteArray).data.toList=l:=sj
 have hsz:(⟨l.toArray⟩:ByteArray).size<=281474976710656:=by simpa [ByteArray.size] using hl
 have tup:∀ (c:Cx) (n:Int) (b:Bool) (v:Value),ifB v=some b->AV.IsV c (.tup [.d (.i .i64 n),.err b]) (.tuple #[.int .i64 n,v]):=fun c n b v hv =>
  .tup _ [_,_] (.cons _ _ _ _ (z31 _ _) (.cons _ _ _ _ (.one _ _ rfl (.err _ _ hv)) .nil))
 unfold atoiF
 cases ha:Lib.atoiAll l with
 | ok v =>
  refine (hok ⟨l.toArray⟩ hsz v (by rw[hd]; exact ha) w).mono ?_
  rintro e w' ⟨rfl,hb⟩
  exact⟨_,rfl,hb,fun c=>tup c _ _ _ rfl⟩
 | range =>
  obtain⟨ev,h1,h2⟩:=zcv hr hgr
  refine (hra ⟨l.toArray⟩ hsz (by rw[hd]; exact ha) ev w h1 h2).mono ?_
  rintro e w' ⟨N,rfl,hb⟩
  rw[hd]
  exact⟨_,rfl,hb,fun c=>tup c _ _ _ rfl⟩
 | _ =>
  obtain⟨ev,h1,h2⟩:=zcv hr hgs
  refine (hsy ⟨l.toArray⟩ hsz (fun v hv=>by rw[hd,ha] at hv; cases hv) (fun hv=>by rw[hd,ha] at hv; cases hv) ev w h1 h2).mono ?_
  rintro e w' ⟨N,rfl,hb⟩
  exact⟨_,rfl,hb,fun c=>tup c _ _ _ rfl⟩
theorem zfp (h:∀ (i:Nat),i<100->∀ w,Calls P f #[.int .i64 i] w fun e w'=>e = .returned (.string ⟨(Lib.decDigits i).toArray⟩)/\w'=w) (h0:0<=n) (h1:n<100):CallOk P f [.d (.i .i64 n)] [] (.d (.str (Lib.decDigits n.toNat))) []:=by
 refine z8a fun X ms w us hr hus=>?_
 obtain rfl:=zl5 hus
 have:=h n.toNat om w
 rw[y5r h0] at this
 refine this.mono ?_
 rintro e w' ⟨rfl,rfl⟩
 exact⟨_,rfl,Below.refl _ _,fun c=>z5u _⟩
def pLI (s:List Int):List Ob:=[.box (.d (eL (.i .i64) ([]:List Int))),.box (.ref 2 s.length 0 s.length),eS 1 (.i .i64) s]
def pHd (fl:Bool):Hd (List Int) (Step (List Int) (List Int)) where
 chk _ e fr L _ a:=match a with
  | .cont s=>match e with
   | .normal=>stLeq fl fr L [] (pLI s)
   | _=>bad fl
  | .ret x=>match e with
   | .ret=>eqf fl (L.take 1) [.box (.d (eL (.i .i64) x))]
   | _=>bad fl
  | .brk _=>bad fl
 inj:=.ret
 post r e fr L:=match e with
  | .normal=>∃ s',r = .cont s'/\StLe fr L [] (pLI s')
  | .ret=>∃ y,r = .ret y/\∃ J,L=[.box (.d (eL (.i .i64) y))]++J
  | _=>False
def pV (_:List Int):AV:=.bot
def pL (x:List Int):List Ob:=[.box (.d (eL (.i .i64) x))]
variable {fn:Func}
theorem zo6:HdOk (FRel P fn pV pL) (pHd false) where
 f Ev e fr L ws a h hE:=by
  cases a with
  | cont s =>
   cases e with
   | normal=>exact z1v ⟨s,rfl,z2z h⟩
   | _=>exact h.elim
  | brk s=>exact h.elim
  | ret x =>
   cases e with
   | ret =>
    have e1:L.take 1=[.box (.d (eL (.i .i64) x))]:=h
    refine z1v ⟨x,rfl,L.drop 1,?_⟩
    conv=>lhs; rw[<- y2b 1 L,e1]
   | _=>exact h.elim
 i x fr L h:=by
  obtain⟨v1,C,J,_,_,_,hL⟩:=h
  exact⟨x,rfl,J,hL⟩
 g a l fr L h:=h
theorem zow:∀ Ev e fr L ws a,(pHd true).chk Ev e fr L ws a:=by
 intro Ev e fr L ws a
 cases a <;> cases e <;> first | trivial | exact z3e | exact rfl
variable {fr:Fr}
theorem pBody {z:Option Nat} {c:Code} {s:Scr P (List Int) (Step (List Int) (List Int))} (h:vc z P fn pV pL false 1000 _ [.c c] (pHd false) [] fr L s=vc z P fn pV pL true 1000 _ [.c c] (pHd true) [] fr L s) {r:Step (List Int) (List Int)} (hr:s.den=some r) :
  AW z P fn.ntmps c (fun e fr L=>match e with
   | .normal=>∃ s',r = .cont s'/\StLe fr L [] (pLI s')
   | .ret=>∃ y,r = .ret y/\∃ J,L=[.box (.d (eL (.i .i64) y))]++J
   | _=>False) fr L:=by
 have ht:vc z P fn pV pL true 1000 _ [.c c] (pHd true) [] fr L s:=z4n _ _ _ _ _ _ _ _ zow
 rw[<- h] at ht
 exact z1m (z4m _ _ _ _ _ _ _ _ zo6 ht trivial r hr) fun _ _ h=>h
theorem pTail {V:List Int->AV} {Lr:List Int->List Ob} {c:Code} {s:Scr P (List Int) (List Int)} (h:vc none P fn V Lr false 1000 _ [.c c] (funHd P fn V Lr false) [] fr L s=vc none P fn V Lr true 1000 _ [.c c] (funHd P fn V Lr true) [] fr L s) {r:List Int} (hr:s.den=some r) :
  AW none P fn.ntmps c (FQ P fn (V r) (Lr r)) fr L:=by
 have ht:vc none P fn V Lr true 1000 _ [.c c] (funHd P fn V Lr true) [] fr L s:=z4n _ _ _ _ _ _ _ _ fun Ev e fr L ws a=>by cases e <;> first | trivial | exact z4l
 rw[<- h] at ht
 exact z1m (z4m _ _ _ _ _ _ _ _ z9w ht trivial r hr) fun _ _ h=>h
variable {Y:Nat->Prop}
theorem relDrop (h:Rel Y ms L w) (hXY:∀ k,X k->Y k):Rel X ms L w/\(cxOf Y ms L w).le (cxOf X ms L w):=by
 have hM:(memOf Y ms w).le (memOf X ms w):=fun b arr e=>by
  obtain⟨h1,h2,e',fz,h3⟩:=z26 e
  exact z1j (fun hx=>h1 (hXY b hx)) h2 h3
 have hc:(cxOf Y ms L w).le (cxOf X ms L w):=⟨hM,yc _,fun _ obj' _ hl _=>⟨obj',hl,rfl,fun s hs=>⟨s,hs,yc _⟩,fun _=>rfl⟩⟩
 exact⟨⟨h.len,fun b hb=>⟨(h.lt b hb).1,fun hx=>(h.lt b hb).2 (hXY b hx)⟩,fun b hb=>h.xlt b (hXY b hb),h.inj,fun o obj ho=>(h.obs o obj ho).mono hc rfl fun _ _ _=>rfl,h.glob.mono hM⟩,hc⟩
theorem leaveM {n:Nat} {ms1:Blocks} {W:World} {a:Act} {fr1:Fr} {L1:List Ob} {D:Nat} (hr:Rel Y ms1 L1 W) (hXY:∀ k,X k->Y k) (hD:Y D) (hDw:w.heap.size<=D) (he:Ext ms w ms1 W) (hc:(cxOf X ms [] w).le (cxOf Y ms1 L1 W)) (hf:FrIs (cxOf Y ms1 L1 W) fr1.up a.tmps) (hfr:FR P fn v [] fr1 L1) (hv:v.lt 0=true) (hd:a.defers=[{ target:=.collected D,args:=#[] }]) (hk:W.heap[D]? = some (.deferred (some []))) :
  LeavesInM Fence.wide n P fn a.tmps (fun e w'=>∃ u ms',e = .returned u/\Rel X ms' [] w'/\Ext ms w ms' w'/\(cxOf X ms [] w).le (cxOf X ms' [] w')/\AV.IsV (cxOf X ms' [] w') v u) a.defers .returning W:=by
 rw[hd]
 have htake:=run_takeDeferred (P:=P) hk
 refine⟨sj,.inl ⟨D,_,rfl,htake,?_⟩⟩
 obtain⟨W',hW'⟩:∃ W',W.putObj D (.deferred none)=W':=⟨_,rfl⟩
 rw[hW']
 have ht:Turn (fun k=>k=D) W W':=by rw[<- hW']; exact Turn.put (T:=fun k=>k=D) rfl _
 obtain⟨r2,c2⟩:=relTurn (Y:=Y) hr ht (fun k hk _=>hk▸hD) (fun k hk=>.inl hk) (fun k hk=>y1f (hr.xlt k hk) ht.size)
 have f2:=hf.mono c2
 obtain⟨v1,C,J,hres,hC,hle,hL⟩:=hfr
 obtain⟨u,k1,k2⟩:=z8x r2 f2 hres hC
 simp only[y2e] at hL
 subst hL
 have r3:Rel Y [] [] W':=Rel.forget (L:=[]) (J:=L1) r2 (fun o obj ho=>by simp at ho)
 have c3:(cxOf Y ms1 L1 W').cut (cxOf Y [] [] W') 0:=z54 (L:=[]) (J:=L1)
 obtain⟨r4,c4⟩:=relDrop r3 hXY
 refine⟨u,k1,u,[],rfl,r4,⟨y2c he.size ht.size,fun b hb ho=>?_,he.out.trans ht.out⟩,?_,?_⟩
 ·obtain⟨h1,_⟩:=he.keep b hb ho
  refine⟨(ht.same b (y1f hb he.size) (fun e=>om)).trans h1,fun⟨o,tc,h⟩=>by simp at h⟩
 ·exact⟨hc.M.trans (c2.M.trans (c3.M.trans c4.M)),yc _,fun o obj' ho=>by simp[cxOf] at ho⟩
 ·exact ((hle _ _ k2).cut c3 hv).mono c4
end Go.TA
