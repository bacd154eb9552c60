/- A part of the proof: laws over any program of the abstract machine. No condition. -/
import Derived.Test.YtiohhffifhaboaaGreatDoorT2
import Derived.ProofKit
import Derived.OpenShut
import Derived.ChangeSlices
import Derived.Below
import Derived.Carry
import Derived.Sort.Row
import Derived.Deep.Slices
namespace Go.TA
open Go
def dpreds (ops:Array Oper) (j:Nat):List Nat:=match ops[j]? with
 | some o=>(o.after.toList.filter (Region.binds .any)).map (·.on)
 | none=>[]
structure DS where
 ps:List (List Nat)
 effs:List Nat
def DS.p (D:DS) (j:Nat):List Nat:=(D.ps[j]?).getD []
def wrs (ops:Array Oper) (t:Nat):List Nat:=(List.range ops.size).filter fun k=>match (ops[k]?).bind (·.dst) with
 | some t'=>t'==t
 | none=>false
def okBase (ops:Array Oper) (D:DS) (j t:Nat):Bool:=(wrs ops t).all fun k=>k==j||(D.p k).contains j
def okFact (ops:Array Oper) (D:DS) (j i t:Nat):Bool:=(D.p j).contains i&&(wrs ops t).all fun k=>k==i||(D.p i).contains k||k==j||(D.p k).contains j
abbrev VS:=List (Chain×AV)
abbrev HS:=List (List Nat×List Ob)
def factOf (ops:Array Oper) (vs:VS) (i:Nat):Option (Nat×Chain×AV):=match (ops[i]?).bind (·.dst),vs[i]? with
 | some t,some (ch,v)=>some (t,ch,v)
 | _,_=>none
def gmin (ops:Array Oper) (D:DS) (vs:VS) (base:GFr) (j:Nat):GFr :=
 base.filter (fun x=>okBase ops D j x.1)++(List.range vs.length).filterMap fun i=>match factOf ops vs i with
  | some x=>if okFact ops D j i x.1 then some x else none
  | none=>none
def gfin (ops:Array Oper) (D:DS) (vs:VS) (base:GFr):GFr :=
 base.filter (fun x=>(wrs ops x.1).isEmpty)++(List.range vs.length).filterMap fun i=>match factOf ops vs i with
  | some x=>if (wrs ops x.1).all fun k=>k==i||(D.p i).contains k then some x else none
  | none=>none
def stepD (P:Program) (G:GFr) (ch:Chain) (L:List Ob) (o:Oper) (e:HE):Option ((AV×List Ob)×List Prop) :=
 match astep P G ch L o e.h with
 | some (.val v C)=>some (((castV v e.cast).1,L),underG G ch (C++(castV v e.cast).2))
 | some (.eff v L1 C)=>match ch with
  | []=>match castObs e.obs L1 with
   | some (L2,C2)=>some (((castV v e.cast).1,L2),C++((castV v e.cast).2++C2))
   | none=>none
  | y :: ys=>if chainOk G (y :: ys)=true/\e.obs.length=0 then some (((castV v e.cast).1,L1),underG G (y :: ys) (C++(castV v e.cast).2)++[¬ AllP (gP G (y :: ys))->L=L1]) else none
 | none=>none
def consB (D:DS) (j:Nat) (K:List Nat):Bool:=!K.contains j&&(D.p j).all (fun i=>!D.effs.contains i||K.contains i)&&K.all fun k=>!(D.p k).contains j
def keyAdd (D:DS) (K:List Nat) (j:Nat):List Nat:=D.effs.filter fun e=>K.contains e||e==j
def lookH:HS->List Nat->Option (List Ob)
 | [],_=>none
 | (K,L) :: r,K'=>if K==K' then some L else lookH r K'
def za6 (P:Program) (ops:Array Oper) (hs:List (Nat×HE)) (D:DS) (base:GFr):List Nat->VS->HS->Option (VS×HS)
 | [],vs,H=>some (vs,H)
 | j :: r,vs,H=>match ops[j]? with
  | none=>none
  | some o=>match guardCh ops (gmin ops D vs base j) o with
   | none=>none
   | some ch=>match H.find? fun h=>consB D j h.1 with
    | none=>none
    | some h=>match stepD P (gmin ops D vs base j) ch h.2 o (hintOf hs j) with
     | none=>none
     | some q=>za6 P ops hs D base r (vs++[(ch,q.1.1)]) (H++if D.effs.contains j then H.filterMap (fun h=>if consB D j h.1 then match stepD P (gmin ops D vs base j) ch h.2 o (hintOf hs j) with
      | some q=>some (keyAdd D h.1 j,q.1.2)
      | none=>none else none) else [])
def stepJ (P:Program) (ops:Array Oper) (hs:List (Nat×HE)) (D:DS) (base:GFr) (vs:VS) (j:Nat) (L:List Ob):Option ((AV×List Ob)×List Prop) :=
 match ops[j]?,vs[j]? with
 | some o,some (ch,_)=>if guardCh ops (gmin ops D vs base j) o=some ch then stepD P (gmin ops D vs base j) ch L o (hintOf hs j) else none
 | _,_=>none
def jobsD (D:DS) (H:HS) (n:Nat):List (Nat×List Nat×List Ob):=(List.range n).flatMap fun j=>(H.filter fun h=>consB D j h.1).map fun h=>(j,h.1,h.2)
def wantD (D:DS) (vs:VS) (H:HS) (j:Nat) (K:List Nat) (L:List Ob):Option (AV×List Ob) :=
 match vs[j]?,(if D.effs.contains j then lookH H (keyAdd D K j) else some L) with
 | some (_,v),some L'=>some (v,L')
 | _,_=>none
def condsD (P:Program) (ops:Array Oper) (hs:List (Nat×HE)) (D:DS) (base:GFr) (vs:VS) (H:HS):List Prop :=
 (jobsD D H ops.size).flatMap fun q=>match stepJ P ops hs D base vs q.1 q.2.2 with
  | some r=>r.2
  | none=>[]
def dchk (ops:Array Oper) (N:Nat) (D:DS) (vs:VS):Bool :=
 (vs.length==ops.size)&&D.effs.all (fun e=>decide (e<ops.size))&&(List.range ops.size).all fun j =>
  ((D.p j).all fun i=>decide (i<j)&&((dpreds ops j).contains i||(dpreds ops j).any fun m=>(D.p m).contains i)) &&
  ((dpreds ops j).all fun i=>(D.p j).contains i) &&
  (match factOf ops vs j with
   | some x=>decide (x.1<N)&&x.2.1.all (fun y=>y.1 != x.1&&(wrs ops y.1).all fun k=>(D.p j).contains k)
   | none=>true)
def drawnRun (P:Program) (ops:Array Oper) (N:Nat) (hs:List (Nat×HE)) (D:DS) (fr:Fr) (L:List Ob):Option (Fr×List Ob×List Prop) :=
 match za6 P ops hs D fr.up (List.range ops.size) [] [([],L)] with
 | some (vs,H)=>if dchk ops N D vs=true/\((jobsD D H ops.size).all fun q=>(stepJ P ops hs D fr.up vs q.1 q.2.2).isSome)=true then match lookH H D.effs with
   | some L'=>some (frOf (gfin ops D vs fr.up),L',condsD P ops hs D fr.up vs H)
   | none=>none
  else none
 | none=>none
def drawnL (P:Program) (ops:Array Oper) (hs:List (Nat×HE)) (D:DS) (fr:Fr) (L:List Ob):List (Option (AV×List Ob)) :=
 match za6 P ops hs D fr.up (List.range ops.size) [] [([],L)] with
 | some (vs,H)=>(jobsD D H ops.size).map fun q=>(stepJ P ops hs D fr.up vs q.1 q.2.2).map (·.1)
 | none=>[]
def drawnR (P:Program) (ops:Array Oper) (hs:List (Nat×HE)) (D:DS) (fr:Fr) (L:List Ob):List (Option (AV×List Ob)) :=
 match za6 P ops hs D fr.up (List.range ops.size) [] [([],L)] with
 | some (vs,H)=>(jobsD D H ops.size).map fun q=>wantD D vs H q.1 q.2.1 q.2.2
 | none=>[]
def Fact (c:Cx) (x:Nat×Chain×AV) (tmps:Array Value):Prop :=
 x.1<tmps.size/\(holds x.2.1 tmps->AV.IsV c x.2.2 (tmps.getD x.1 undef))/\(¬ holds x.2.1 tmps->tmps.getD x.1 undef=undef)
structure Inv (ops:Array Oper) (N:Nat) (D:DS) (vs:VS) (H:HS) (base:GFr) (X:Nat->Prop) (ms0:Blocks) (L0:List Ob) (w0:World) (a0:Act) (listed:Array Bool) (a:Act) (ms:Blocks) (L:List Ob) (w:World):Prop where
 size:listed.size=ops.size
 down:∀ j,listed.getD j false=true->∀ i∈D.p j,listed.getD i false=true
 key:lookH H (D.effs.filter fun e=>listed.getD e false)=some L
 rel:Rel X ms L w
 ext:Ext ms0 w0 ms w
 le:(cxOf X ms0 L0 w0).le (cxOf X ms L w)
 base:∀ x∈base,(∀ k∈wrs ops x.1,listed.getD k false=false)->Fact (cxOf X ms L w) x a.tmps
 facts:∀ i x,listed.getD i false=true->factOf ops vs i=some x->(∀ k∈wrs ops x.1,k≠i->listed.getD k false=true->k∈D.p i)->Fact (cxOf X ms L w) x a.tmps
 tmps:a.tmps.size=N
 defers:a.defers=a0.defers
variable {k:Nat} {ops:Array Oper}
theorem zo3 {t:Nat}:k∈wrs ops t↔∃ o,ops[k]? = some o/\o.dst=some t:=by
 unfold wrs
 rw[y2e,y27]
 cases ho:ops[k]? with
 | none=>simp
 | some o =>
  have:k<ops.size:=(y1v.1 ho).1
  cases hd:o.dst with
  | none=>simp[hd]
  | some t'=>simp[hd,this]
variable {c:Cx} {tmps:Array Value}
theorem Fact.mono {c':Cx} (hc:c.le c') {x:Nat×Chain×AV} (h:Fact c x tmps):Fact c' x tmps:=⟨h.1,fun hh=>(h.2.1 hh).mono hc,h.2.2⟩
variable {a:Act} {u:Value}
theorem Fact.put {x:Nat×Chain×AV} (h:Fact c x a.tmps) {dst:Option Tmp} (h1:∀ t,dst=some t->t≠x.1) (h2:∀ t,dst=some t->∀ y∈x.2.1,y.1≠t):Fact c x (a.put dst u).tmps:=by
 cases dst with
 | none=>exact h
 | some t =>
  have hne:=h1 t rfl
  have hch:=h2 t rfl
  have hget:∀ s,s≠t->(a.put (some t) u).tmps.getD s undef=a.tmps.getD s undef:=fun s hs=>by
   simp only[Act.put,y18]
   rw[y2d (fun e=>hs e.symm)]
  have hh:holds x.2.1 (a.put (some t) u).tmps↔holds x.2.1 a.tmps:=by
   constructor
   ·intro q y hy
    have:=q y hy
    rwa [hget y.1 (hch y hy)] at this
   ·intro q y hy
    rw[hget y.1 (hch y hy)]
    exact q y hy
  refine⟨by simpa [Act.put] using h.1,fun q=>?_,fun q=>?_⟩
  ·rw[hget x.1 (Ne.symm hne)]; exact h.2.1 (hh.1 q)
  ·rw[hget x.1 (Ne.symm hne)]; exact h.2.2 (fun q'=>q (hh.2 q'))
variable {z:Option Nat}
variable {L L':List Ob} {v:AV} {ms:Blocks} {w:World} {P:Program} {ch:Chain} {C:List Prop} {X:Nat->Prop} {G:GFr} {Q:Exit->Act->World->Prop}
theorem zm6 {o:Oper} {e:HE} (h:stepD P G ch L o e=some ((v,L'),C)) {K:Act->World->Prop} (hc:AllP C) (hr:Rel X ms L w) (hf:FrIs (cxOf X ms L w) G a.tmps) (hh:holds ch a.tmps) (hK:∀ u ms' w',Rel X ms' L' w'->Ext ms w ms' w'->(cxOf X ms L w).le (cxOf X ms' L' w')->AV.IsV (cxOf X ms' L' w') v u->K (a.put o.dst u) w') (zn:Nat):o.wpIn (fenceOf z) zn P a w K Q:=by
 unfold stepD at h
 split at h
 ·rename_i v1 C1 hs
  simp only[yw,y2n] at h
  obtain⟨⟨rfl,rfl⟩,rfl⟩:=h
  obtain⟨hc1,hc2⟩:=ze.1 (z57 hf hh hc)
  exact z72 hs hc1 z zn X ms w a K Q hr hf hh fun u ms1 w1 k1 k2 k3 k4=>hK u ms1 w1 k1 k2 k3 (z4e hc2 k4)
 ·rename_i v1 L1 C1 hs
  split at h
  ·split at h
   ·rename_i L2 C2 hco
    simp only[yw,y2n] at h
    obtain⟨⟨rfl,rfl⟩,rfl⟩:=h
    obtain⟨hc1,hc2⟩:=ze.1 hc
    obtain⟨hc3,hc4⟩:=ze.1 hc2
    refine z72 hs hc1 z zn X ms w a K Q hr hf hh fun u ms1 w1 k1 k2 k3 k4=>?_
    obtain⟨r1,r2⟩:=z6k hco hc4 k1
    exact hK u ms1 w1 r1 k2 (k3.trans r2) ((z4e hc3 k4).mono r2)
   ·cases h
  ·split at h
   ·simp only[yw,y2n] at h
    obtain⟨⟨rfl,rfl⟩,rfl⟩:=h
    obtain⟨hc1,hc2⟩:=ze.1 hc
    obtain⟨hc4,hc5⟩:=ze.1 (z57 hf hh hc1)
    exact z72 hs hc4 z zn X ms w a K Q hr hf hh fun u ms1 w1 k1 k2 k3 k4=>hK u ms1 w1 k1 k2 k3 (z4e hc5 k4)
   ·cases h
 ·cases h
theorem zk4 {o:Oper} {e:HE} (h:stepD P G ch L o e=some ((v,L'),C)) (hc:AllP C) (hf:FrIs c G tmps) (hh:¬ holds ch tmps):L'=L:=by
 unfold stepD at h
 split at h
 ·simp only[yw,y2n] at h
  exact h.1.2.symm
 ·split at h
  ·exact absurd (fun y hy=>by cases hy) hh
  ·split at h
   ·rename_i hco
    simp only[yw,y2n] at h
    obtain⟨⟨rfl,rfl⟩,rfl⟩:=h
    exact ((ze.1 hc).2.1 fun hg=>hh (zbl hf hco.1 hg)).symm
   ·cases h
 ·cases h
theorem zck:∀ {H:HS} {K:List Nat} {L:List Ob},lookH H K=some L->(K,L)∈H
 | [],K,L,h=>by cases h
 | (K0,L0) :: r,K,L,h=>by
  simp only[lookH] at h
  split at h
  ·rename_i he
   cases h
   rw[y1a.1 he]
   exact y1h
  ·exact y17 _ (zck h)
variable {l listed:Array Bool} {j:Nat}
section
variable {P:Program} {ops:Array Oper} {N:Nat} {hs:List (Nat×HE)} {D:DS} {base:GFr} {vs:VS} {H:HS} {X:Nat->Prop} {ms0:Blocks} {L0:List Ob} {w0:World} {a0:Act}
structure DChk (ops:Array Oper) (N:Nat) (D:DS) (vs:VS):Prop where
 len:vs.length=ops.size
 eff:∀ e∈D.effs,e<ops.size
 cl:∀ j,j<ops.size->∀ i∈D.p j,i<j/\(i∈dpreds ops j\/∃ m∈dpreds ops j,i∈D.p m)
 di:∀ j,j<ops.size->∀ i∈dpreds ops j,i∈D.p j
 sl:∀ j,j<ops.size->∀ x,factOf ops vs j=some x->x.1<N/\∀ y∈x.2.1,y.1≠x.1/\∀ k∈wrs ops y.1,k∈D.p j
theorem zk5 (h:dchk ops N D vs=true):DChk ops N D vs:=by
 simp only[dchk,yg,y1a,y1i,y27,ya,yj,y1w,y39] at h
 obtain⟨⟨h1,h0⟩,h2⟩:=h
 refine⟨h1,h0,fun j hj i hi=>(h2 j hj).1.1 i hi,fun j hj i hi=>(h2 j hj).1.2 i hi,fun j hj x hx=>?_⟩
 have h3:=(h2 j hj).2
 rw[hx] at h3
 simp only[yg,ya,y1i,y1t,ne_eq,y1w] at h3
 exact h3
theorem zec (h:l.getD j true=false):(l.setIfInBounds j true).toList.countP (!·)<l.toList.countP (!·):=by
 have hlt:j<l.size:=by
  rcases yp j l.size with h' | h'
  ·exact h'
  ·simp[Array.getElem?_eq_none h'] at h
 have e:l.toList[j]'(by simpa using hlt)=false:=by simpa [hlt] using h
 rw[Array.toList_setIfInBounds,List.countP_set (by simpa using hlt)]
 have hpos:0<l.toList.countP (!·):=List.countP_pos_iff.2 ⟨false,by rw[<- e]; exact y42 _,rfl⟩
 generalize l.toList.countP (!·)=n at hpos |-
 simp only[e,Bool.not_false,y58,y3p]
 simp
 omega
theorem zic (h:l.toList.countP (!·)<=0) (j:Nat) (hj:j<l.size):l.getD j false=true:=by
 have h0:l.toList.countP (!·)=0:=om
 rw[List.countP_eq_zero] at h0
 have:=h0 (l.toList[j]'(by simpa using hj)) (y42 _)
 simpa [hj] using this
theorem zbo (hj:j<l.size):l.getD j true=l.getD j false:=by simp[hj]
theorem zdh (hd:DChk ops N D vs) (hs:l.size=ops.size) (h:Region.ready .any ops l=[]):∀ j,j<ops.size->l.getD j false=true:=by
 intro j
 induction j using Nat.strongRecOn with
 | _ j ih =>
  intro hj
  cases hl:l.getD j false with
  | true=>rfl
  | false =>
   have:j∈Region.ready .any ops l:=mem_ready.2 ⟨by rw[zbo om]; exact hl,ops[j],Array.getElem?_eq_getElem hj,fun e he hb=>by
    have hp:e.on∈dpreds ops j:=by
     unfold dpreds
     rw[Array.getElem?_eq_getElem hj]
     exact y1l.2 ⟨e,y2e.2 ⟨by simpa using he,hb⟩,rfl⟩
    have hlt:=(hd.cl j hj _ (hd.di j hj _ hp)).1
    exact ih _ hlt om⟩
   rw[h] at this
   cases this
theorem Inv.final (hi:Inv ops N D vs H base X ms0 L0 w0 a0 listed a ms L w) (hd:DChk ops N D vs) (heff:∀ e∈D.effs,e<ops.size) (h:∀ j,j<ops.size->listed.getD j false=true):lookH H D.effs=some L/\FrIs (cxOf X ms L w) (gfin ops D vs base) a.tmps:=by
 constructor
 ·have:=hi.key
  rwa [List.filter_eq_self.2 (fun e he=>h e (heff e he))] at this
 ·intro x hx
  rcases y1b.1 hx with hx | hx
  ·obtain⟨h1,h2⟩:=y2e.1 hx
   refine hi.base x h1 fun k hk=>?_
   rw[List.isEmpty_iff.1 h2] at hk
   cases hk
  ·obtain⟨i,hi1,hi2⟩:=List.mem_filterMap.1 hx
   cases hf:factOf ops vs i with
   | none=>rw[hf] at hi2; cases hi2
   | some y =>
    rw[hf] at hi2
    simp only at hi2
    split at hi2
    ·rename_i hall
     cases hi2
     have hlt:i<ops.size:=by rw[<- hd.len]; exact y27.1 hi1
     refine hi.facts i x (h i hlt) hf fun k hk hne _=>?_
     simp only[y1i,yj,y1a,y1w] at hall
     exact (hall k hk).resolve_left hne
    ·cases hi2
theorem Inv.gmin {listed:Array Bool} {a:Act} {ms:Blocks} {L:List Ob} {w:World} (hi:Inv ops N D vs H base X ms0 L0 w0 a0 listed a ms L w) {j:Nat} (hj:listed.getD j false=false)
  (hp:∀ i∈D.p j,listed.getD i false=true):FrIs (cxOf X ms L w) (gmin ops D vs base j) a.tmps:=by
 intro x hx
 rcases y1b.1 hx with hx | hx
 ·obtain⟨h1,h2⟩:=y2e.1 hx
  refine hi.base x h1 fun k hk=>?_
  simp only[okBase,y1i,yj,y1a,y1w] at h2
  rcases h2 k hk with rfl | h2
  ·exact hj
  ·cases hl:listed.getD k false with
   | false=>rfl
   | true=>rw[hi.down k hl j h2] at hj; cases hj
 ·obtain⟨i,hi1,hi2⟩:=List.mem_filterMap.1 hx
  cases hf:factOf ops vs i with
  | none=>rw[hf] at hi2; cases hi2
  | some y =>
   rw[hf] at hi2
   simp only at hi2
   split at hi2
   ·rename_i hall
    cases hi2
    simp only[okFact,yg,y1i,yj,y1a,y1w] at hall
    obtain⟨h1,h2⟩:=hall
    refine hi.facts i x (hp i h1) hf fun k hk hne hl=>?_
    rcases h2 k hk with ((h2 | h2) | h2) | h2
    ·exact absurd h2 hne
    ·exact h2
    ·subst h2; rw[hl] at hj; cases hj
    ·rw[hi.down k hl j h2] at hj; cases hj
   ·cases hi2
theorem Inv.step {ms':Blocks} {w':World} (hi:Inv ops N D vs H base X ms0 L0 w0 a0 listed a ms L w) (hd:DChk ops N D vs) (hb0:∀ x∈base,x.2.1=[]) {o:Oper} (ho:ops[j]? = some o) (hv:vs[j]? = some (ch,v)) (hj:listed.getD j false=false) (hp:∀ i∈D.p j,listed.getD i false=true) (hkey:wantD D vs H j (D.effs.filter fun e=>listed.getD e false) L=some (v,L')) (r:Rel X ms' L' w') (e:Ext ms w ms' w') (c:(cxOf X ms L w).le (cxOf X ms' L' w')) (hu:holds ch a.tmps->AV.IsV (cxOf X ms' L' w') v u) (hn:¬ holds ch a.tmps->u=undef) :
  Inv ops N D vs H base X ms0 L0 w0 a0 (listed.setIfInBounds j true) (a.put o.dst u) ms' L' w':=by
 have hjlt:j<ops.size:=(y1v.1 ho).1
 have hset:∀ k,(listed.setIfInBounds j true).getD k false=true↔(listed.getD k false=true\/k=j):=fun k=>by
  by_cases hjk:j=k
  ·subst hjk
   simp[hi.size,hjlt]
  ·rw[getD_set_ne false hjk]
   exact⟨.inl,fun h=>h.resolve_right (fun e=>hjk e.symm)⟩
 have hdst:∀ t,o.dst=some t->factOf ops vs j=some (t,ch,v):=fun t ht=>by simp[factOf,ho,ht,hv]
 have hwj:∀ t,o.dst=some t->j∈wrs ops t:=fun t ht=>zo3.2 ⟨o,ho,ht⟩
 have hfilt:(D.effs.filter fun e=>(listed.setIfInBounds j true).getD e false)=if D.effs.contains j then keyAdd D (D.effs.filter fun e=>listed.getD e false) j else D.effs.filter fun e=>listed.getD e false:=by
  split
  ·unfold keyAdd
   refine List.filter_congr fun x hx=>?_
   rw[y1p,hset]
   simp only[yj,y1w,y2e,y1a]
   exact⟨fun h=>h.imp (fun h=>⟨hx,h⟩) id,fun h=>h.imp (fun h=>h.2) id⟩
  ·rename_i hne
   refine List.filter_congr fun x hx=>?_
   rw[y1p,hset]
   exact⟨fun h=>h.resolve_right (fun e=>hne (by subst e; exact y1w.2 hx)),.inl⟩
 refine⟨by simp[hi.size],fun k hk i hik=>?_,?_,r,hi.ext.trans e,hi.le.trans c,fun x hx hw=>?_,fun i x hl hf hw=>?_,?_,?_⟩
 ·rw[hset] at hk |-
  rcases hk with hk | rfl
  ·exact .inl (hi.down k hk i hik)
  ·exact .inl (hp i hik)
 ·rw[hfilt]
  unfold wantD at hkey
  split at hkey
  ·rename_i v' L'' h1 h2
   cases hkey
   split at h2
   ·rename_i hc
    rw[y9 hc]; exact h2
   ·rename_i hc
    cases h2
    rw[y8 hc]; exact hi.key
  ·cases hkey
 ·have hold:=hi.base x hx fun k hk=>by
   cases hl:listed.getD k false with
   | false=>rfl
   | true =>
    have h1:=(hset k).2 (.inl hl)
    rw[hw k hk] at h1; cases h1
  refine (hold.mono c).put (fun t ht e=>?_) (fun t _ y hy=>by rw[hb0 x hx] at hy; cases hy)
  subst e
  have h1:=(hset j).2 (.inr rfl)
  rw[hw j (hwj _ ht)] at h1; cases h1
 ·by_cases hij:i=j
  ·subst hij
   cases hd0:o.dst with
   | none=>simp[factOf,ho,hd0] at hf
   | some t =>
    have e1:=hdst t hd0
    rw[e1] at hf
    cases hf
    obtain⟨s1,s2⟩:=hd.sl i hjlt _ e1
    simp only at s1 s2
    have hget:∀ s,s≠t->(a.put (some t) u).tmps.getD s undef=a.tmps.getD s undef:=fun s hs=>by
     simp only[Act.put,y18]
     rw[y2d (fun e=>hs e.symm)]
    have hself:(a.put (some t) u).tmps.getD t undef=u:=by
     simp only[Act.put,y18]
     rw[y28 (by rw[hi.tmps]; exact s1)]
     rfl
    have hh:holds ch (a.put (some t) u).tmps↔holds ch a.tmps:=by
     constructor
     ·intro q y hy
      have:=q y hy
      rwa [hget y.1 (s2 y hy).1] at this
     ·intro q y hy
      rw[hget y.1 (s2 y hy).1]
      exact q y hy
    refine⟨by simpa [Act.put,hi.tmps] using s1,fun q=>?_,fun q=>?_⟩
    ·rw[hself]; exact hu (hh.1 q)
    ·rw[hself]; exact hn (fun q'=>q (hh.2 q'))
  ·have hl0:listed.getD i false=true:=((hset i).1 hl).resolve_right hij
   have hilt:i<ops.size:=by
    rcases yp i listed.size with h' | h'
    ·rw[<- hi.size]; exact h'
    ·simp[Array.getElem?_eq_none h'] at hl0
   have hold:=hi.facts i x hl0 hf fun k hk hne hlk=>hw k hk hne ((hset k).2 (.inl hlk))
   refine (hold.mono c).put (fun t ht e=>?_) (fun t ht y hy e=>?_)
   ·subst e
    have h1:=hw j (hwj _ ht) (fun e=>hij e.symm) ((hset j).2 (.inr rfl))
    rw[hi.down i hl0 j h1] at hj; cases hj
   ·subst e
    have h1:=((hd.sl i hilt x hf).2 y hy).2 j (hwj _ ht)
    rw[hi.down i hl0 j h1] at hj; cases hj
 ·cases o.dst <;> simp[Act.put,hi.tmps]
 ·cases o.dst <;> exact hi.defers
theorem zk6 (zn:Nat) (hd:DChk ops N D vs) (hb0:∀ x∈base,x.2.1=[]) (heff:∀ e∈D.effs,e<ops.size) (hj:∀ j K L,j<ops.size->lookH H K=some L->consB D j K=true->∃ r C,stepJ P ops hs D base vs j L=some (r,C)/\AllP C/\wantD D vs H j K L=some r) (hQ:∀ a ms L w,lookH H D.effs=some L->Rel X ms L w->Ext ms0 w0 ms w->(cxOf X ms0 L0 w0).le (cxOf X ms L w)->FrIs (cxOf X ms L w) (gfin ops D vs base) a.tmps->a.tmps.size=N ->
   a.defers=a0.defers->Q .normal a w) :
  ∀ (fuel:Nat) (listed:Array Bool) (a:Act) (ms:Blocks) (L:List Ob) (w:World),listed.toList.countP (!·)<=fuel->Inv ops N D vs H base X ms0 L0 w0 a0 listed a ms L w ->
   wpAnyIn (fenceOf z) zn P .any ops Q fuel listed a w:=by
 have hfin:∀ (listed:Array Bool) (a:Act) (ms:Blocks) (L:List Ob) (w:World),Inv ops N D vs H base X ms0 L0 w0 a0 listed a ms L w ->
   (∀ j,j<ops.size->listed.getD j false=true)->Q .normal a w:=fun listed a ms L w hi hall=>by
  obtain⟨h1,h2⟩:=hi.final hd heff hall
  exact hQ a ms L w h1 hi.rel hi.ext hi.le h2 hi.tmps hi.defers
 intro fuel
 induction fuel with
 | zero =>
  intro listed a ms L w hc hi
  have hall:∀ j,j<ops.size->listed.getD j false=true:=fun j hj=>zic hc j (by rw[hi.size]; exact hj)
  refine⟨?_,hfin _ _ _ _ _ hi hall⟩
  apply List.eq_nil_iff_forall_not_mem.2
  intro j hjr
  obtain⟨h0,o,ho,_⟩:=mem_ready.1 hjr
  have hjlt:j<ops.size:=(y1v.1 ho).1
  rw[zbo (by rw[hi.size]; exact hjlt),hall j hjlt] at h0
  cases h0
 | succ fuel ih =>
  intro listed a ms L w hc hi
  refine⟨fun hnil=>hfin _ _ _ _ _ hi (zdh hd hi.size hnil),fun j hjr=>?_⟩
  obtain⟨h0,o,ho,hall⟩:=mem_ready.1 hjr
  have hjlt:j<ops.size:=(y1v.1 ho).1
  have hj0:listed.getD j false=false:=by rw[<- zbo (by rw[hi.size]; exact hjlt)]; exact h0
  have hdp:∀ i∈dpreds ops j,listed.getD i false=true:=fun i hi'=>by
   unfold dpreds at hi'
   rw[ho] at hi'
   obtain⟨e,he,rfl⟩:=y1l.1 hi'
   obtain⟨h1,h2⟩:=y2e.1 he
   exact hall e (by simpa using h1) h2
  have hp:∀ i∈D.p j,listed.getD i false=true:=fun i hip=>by
   rcases (hd.cl j hjlt i hip).2 with h | ⟨m,hm,hm'⟩
   ·exact hdp i h
   ·exact hi.down m (hdp m hm) i hm'
  have hcons:consB D j (D.effs.filter fun e=>listed.getD e false)=true:=by
   simp only[consB,yg,yv,y1i,yj]
   refine⟨⟨?_,fun i hip=>?_⟩,fun k hk=>?_⟩
   ·rw[Bool.eq_false_iff]
    intro hc'
    have:=(y2e.1 (y1w.1 hc')).2
    rw[hj0] at this; cases this
   ·by_cases hie:D.effs.contains i=true
    ·exact .inr (y1w.2 (y2e.2 ⟨y1w.1 hie,hp i hip⟩))
    ·exact .inl (by simpa using hie)
   ·rw[Bool.eq_false_iff]
    intro hc'
    have:=hi.down k (y2e.1 hk).2 j (y1w.1 hc')
    rw[hj0] at this; cases this
  obtain⟨⟨v,L'⟩,C,h1,h2,h3⟩:=hj j _ L hjlt hi.key hcons
  have hcount:(listed.setIfInBounds j true).toList.countP (!·)<=fuel:=by
   have:=zec h0; omega
  unfold stepJ at h1
  rw[ho] at h1
  split at h1
  ·rename_i o' ch v' e1 hv
   cases e1
   split at h1
   ·rename_i hg
    have hv':vs[j]? = some (ch,v):=by
     unfold wantD at h3
     split at h3
     ·rename_i ch2 v2 L2 hv2 _
      rw[hv] at hv2
      cases hv2
      cases h3
      exact hv
     ·cases h3
    have hgm:=hi.gmin hj0 hp
    have hw:=z85 hg hgm
    unfold wpOpIn
    rw[ho]
    simp only
    by_cases hh:holds ch a.tmps
    ·rw[y9 (hw.2 hh)]
     refine zm6 h1 h2 hi.rel hgm hh (fun u ms1 w1 k1 k2 k3 k4=>?_) zn
     exact ih _ _ ms1 L' w1 hcount (hi.step hd hb0 ho hv' hj0 hp h3 k1 k2 k3 (fun _=>k4) (fun h=>absurd hh h))
    ·rw[y8 (fun h=>hh (hw.1 h))]
     refine⟨fun f _=>z3w z f,?_⟩
     have hLL:=zk4 h1 h2 hgm hh
     subst hLL
     exact ih _ _ ms L' w hcount (hi.step hd hb0 ho hv' hj0 hp h3 hi.rel (Ext.refl _ _) (Cx.le.refl _) (fun h=>absurd h hh) (fun _=>rfl))
   ·cases h1
  ·cases h1
end
theorem zed {P:Program} {ops:Array Oper} {hs:List (Nat×HE)} {D:DS} {base:GFr}:∀ (l:List Nat) (vs:VS) (H:HS) (vs':VS) (H':HS),za6 P ops hs D base l vs H=some (vs',H')->∃ J,H'=H++J
 | [],vs,H,vs',H',h=>by
  simp only[za6,yw,y2n] at h
  exact⟨[],by simp[h.2]⟩
 | j :: r,vs,H,vs',H',h=>by
  simp only[za6] at h
  split at h
  ·cases h
  ·split at h
   ·cases h
   ·split at h
    ·cases h
    ·split at h
     ·cases h
     ·obtain⟨J,e⟩:=zed r _ _ _ _ h
      exact⟨_,by rw[e,y1u]⟩
variable {α:Type} {x:α}
theorem zee {l:List α} {f:α->List Prop} (h:AllP (l.flatMap f)) (hx:x∈l):AllP (f x):=by
 induction l with
 | nil=>cases hx
 | cons y r ih =>
  rw[List.flatMap_cons,ze] at h
  rcases yu.1 hx with rfl | hx
  ·exact h.1
  ·exact ih h.2 hx
variable {fr:Fr}
theorem zm7 {N:Nat} {Q:Post} {id:Nat} {hs:List (Nat×HE)} {D:DS} {fr':Fr} (hm:P.follows .mixedOrders=true) (h:drawnRun P ops N hs D fr L=some (fr',L',C)) (hj:drawnL P ops hs D fr L=drawnR P ops hs D fr L) (hc:AllP C) (hQ:Q .normal fr' L') :
  AW z P N (.region id ops true) Q fr L:=by
 intro zn df X ms w a hr hf hN hd
 refine wpIn_region_any hm ?_
 unfold drawnRun at h
 unfold drawnL drawnR at hj
 split at h
 ·rename_i vs H hrun
  rw[hrun] at hj
  simp only at hj
  split at h
  ·rename_i hchk
   split at h
   ·rename_i L1 hl
    cases h
    obtain⟨r1,c1⟩:=hr.grow (w':={ w with drawn:=w.drawn+1 }) (Grow.drew w)
    have hdc:=zk5 hchk.1
    obtain⟨J,hJ⟩:=zed _ _ _ _ _ hrun
    have hempty:∀ j,(Array.replicate ops.size false).getD j false=false:=fun j=>by
     rw[y18]
     cases he:(Array.replicate ops.size false)[j]? with
     | none=>rfl
     | some b=>exact (Array.mem_replicate.1 (Array.mem_of_getElem? he)).2
    refine zk6 zn (hs:=hs) (D:=D) (base:=fr.up) (vs:=vs) (H:=H) (N:=N) (ms0:=ms) (L0:=L) (w0:=w) (a0:=a) hdc (fun x hx=>?_) hdc.eff (fun j K L2 hjl hlk hcb=>?_)
     (fun a2 ms2 L2 w2 k0 k1 k2 k3 k4 k5 k6=>?_) _ _ _ ms L _ ?_ ⟨sj,fun j hj'=>?_,?_,r1,Grow.ext (Grow.drew w) ms,c1,fun x hx _=>?_,fun i x hl'=>?_,hN,rfl⟩
    ·obtain⟨y,_,rfl⟩:=y1l.1 hx
     rfl
    ·have hmem:(j,K,L2)∈jobsD D H ops.size:=y3z.2 ⟨j,y27.2 hjl,y1l.2 ⟨(K,L2),y2e.2 ⟨zck hlk,hcb⟩,rfl⟩⟩
     have hsome:=y1i.1 hchk.2 _ hmem
     have heq:=List.map_inj_left.1 hj _ hmem
     have hcj:=zee hc hmem
     simp only at hsome heq hcj
     cases hst:stepJ P ops hs D fr.up vs j L2 with
     | none=>rw[hst] at hsome; cases hsome
     | some rc =>
      rw[hst] at heq hcj
      exact⟨rc.1,rc.2,rfl,hcj,heq.symm⟩
    ·rw[hl] at k0
     cases k0
     exact⟨ms2,_,L',hQ,k1,k2,k3,zh7 k4,k5,k6.trans hd⟩
    ·refine y22 List.countP_le_length sj
    ·rw[hempty] at hj'; cases hj'
    ·rw[List.filter_eq_nil_iff.2 (fun e _=>by rw[hempty]; simp),hJ]
     rfl
    ·exact (hf.mono c1) x hx
    ·rw[hempty] at hl'; cases hl'
   ·cases h
  ·cases h
 ·cases h
variable {z:Option Nat}
open Classical in
noncomputable def guardP (p:Prop) (k:Option α):Option α:=if p then k else none
variable {r:α}
theorem z1m {p:Prop} {k:Option α} (h:guardP p k=some r):p/\k=some r:=by
 unfold guardP at h
 split at h
 ·exact⟨aj,h⟩
 ·cases h
theorem z8 {p:Prop} {k:Option α} (h:p):guardP p k=k:=by
 unfold guardP; rw[y9 h]
theorem zau {β:Type} {x:Option α} {f:α->Option β} {r:β} (h:x.bind f=some r):∃ a,x=some a/\f a=some r:=by
 cases x with
 | none=>cases h
 | some a=>exact⟨a,rfl,h⟩
inductive Step (σ ρ:Type) where
 | cont (s:σ)
 | brk (s:σ)
 | ret (r:ρ)
inductive Out (σ ρ:Type) where
 | next (s:σ)
 | ret (r:ρ)
section
variable {σ ρ:Type}
def rangeM (body:Nat->σ->Option (Step σ ρ)):Nat->Nat->σ->Option (Out σ ρ)
 | 0,_,s=>some (.next s)
 | k+1,i,s=>match body i s with
  | none=>none
  | some (.cont s')=>rangeM body k (i+1) s'
  | some (.brk s')=>some (.next s')
  | some (.ret r)=>some (.ret r)
def iterN (step:σ->Option (Step σ ρ)):Nat->σ->Option (Out σ ρ)
 | 0,_=>none
 | k+1,s=>match step s with
  | none=>none
  | some (.cont s')=>iterN step k s'
  | some (.brk s')=>some (.next s')
  | some (.ret r)=>some (.ret r)
theorem za7 {step:σ->Option (Step σ ρ)} {r:Out σ ρ}:∀ {k:Nat} {s:σ},iterN step k s=some r->∀ {k':Nat},k<=k'->iterN step k' s=some r
 | k+1,s,h,k'+1,hk=>by
  simp only[iterN] at h |-
  split at h
  ·cases h
  ·exact za7 h om
  ·exact h
  ·exact h
open Classical in
noncomputable def iterM (step:σ->Option (Step σ ρ)) (s:σ):Option (Out σ ρ):=if h:∃ r k,iterN step k s=some r then some h.choose else none
theorem z58 {step:σ->Option (Step σ ρ)} {s:σ} {r:Out σ ρ} (h:iterM step s=some r):∃ k,iterN step k s=some r:=by
 unfold iterM at h
 split at h
 ·rename_i he
  cases h
  exact he.choose_spec
 ·cases h
theorem z76 {step:σ->Option (Step σ ρ)} {s:σ} {r:Out σ ρ} (h:iterN step k s=some r):iterM step s=some r:=by
 have he:∃ r k,iterN step k s=some r:=⟨r,k,h⟩
 unfold iterM
 rw[y3j he]
 obtain⟨k',h'⟩:=he.choose_spec
 have h1:=za7 h (Nat.le_max_left k k')
 have h2:=za7 h' (Nat.le_max_right k k')
 rw[h1] at h2
 exact h2.symm
theorem z1s (step:σ->Option (Step σ ρ)) (s:σ):iterM step s=match step s with
  | none=>none
  | some (.cont s')=>iterM step s'
  | some (.brk s')=>some (.next s')
  | some (.ret r)=>some (.ret r):=by
 cases hs:step s with
 | none =>
  cases hm:iterM step s with
  | none=>rfl
  | some r =>
   obtain⟨k,hk⟩:=z58 hm
   cases k with
   | zero=>cases hk
   | succ k=>simp only[iterN,hs] at hk; cases hk
 | some x =>
  cases x with
  | brk s'=>exact z76 (k:=1) (by simp[iterN,hs])
  | ret r=>exact z76 (k:=1) (by simp[iterN,hs])
  | cont s' =>
   simp only
   cases hm:iterM step s' with
   | some r =>
    obtain⟨k,hk⟩:=z58 hm
    exact z76 (k:=k+1) (by simp[iterN,hs,hk])
   | none =>
    cases hm':iterM step s with
    | none=>rfl
    | some r =>
     obtain⟨k,hk⟩:=z58 hm'
     cases k with
     | zero=>cases hk
     | succ k =>
      simp only[iterN,hs] at hk
      rw[z76 hk] at hm; cases hm
end
section
variable {P:Program} {N:Nat} {Q:Post} {fr:Fr} {L:List Ob} {x y:Code} {cs:List Code}
end
variable {n m i A:Nat}
section
variable {P:Program} {N:Nat} {σ ρ:Type}
def StepQ (A:Nat) (I:σ->Fr) (LI:σ->List Ob) (J:σ->Fr->List Ob->Prop) (R:ρ->Fr->List Ob->Prop) (RX:ρ->Nat->Fr->List Ob->Prop) (r:Step σ ρ):Post
 | .normal,fr,L=>∃ s,r = .cont s/\StLe fr L (I s) (LI s)
 | .exit j,fr,L=>(j=A/\∃ s,r = .brk s/\J s fr L)\/∃ x,r = .ret x/\RX x j fr L
 | .ret,fr,L=>∃ x,r = .ret x/\R x fr L
 | _,_,_=>False
def OutQ (A:Nat) (J:σ->Fr->List Ob->Prop) (R:ρ->Fr->List Ob->Prop) (RX:ρ->Nat->Fr->List Ob->Prop) (r:Out σ ρ):Post
 | .exit j,fr,L=>(j=A/\∃ s,r = .next s/\J s fr L)\/∃ x,r = .ret x/\RX x j fr L
 | .ret,fr,L=>∃ x,r = .ret x/\R x fr L
 | _,_,_=>False
theorem zef {c:Code} {I:Nat->σ->Fr} {LI:Nat->σ->List Ob} {J:σ->Fr->List Ob->Prop} {R:ρ->Fr->List Ob->Prop} {RX:ρ->Nat->Fr->List Ob->Prop} {body:Nat->σ->Option (Step σ ρ)} (hround:∀ i s r,i<n->body i s=some r->AW z P N c (StepQ A (I (i+1)) (LI (i+1)) J R RX r) (I i s) (LI i s)) (hend:∀ s,AW z P N c (StepQ A (I (n+1)) (LI (n+1)) J R RX (.brk s)) (I n s) (LI n s)) (hm:∀ i s,(LI i s).length=m) {s:σ} {out:Out σ ρ} (hi:i+k=n) (h:rangeM body k i s=some out) (hfr:StLe fr L (I i s) (LI i s)) (hL:L.length<=m) :
  AW z P N (.loop c) (OutQ A J R RX out) fr L:=by
 refine zh8 (σ:={ q:Nat×Nat×σ // q.2.1+q.1=n/\rangeM body q.1 q.2.1 q.2.2=some out }) (fun q=>I q.1.2.1 q.1.2.2) (fun q=>LI q.1.2.1 q.1.2.2) (fun _=>True)
  (fun _=>OutQ A J R RX out) (fun q=>q.1.1) ?_ ⟨(k,i,s),hi,h⟩ trivial hfr (by rw[hm]; exact hL) (fun _ _ _ h=>h)
 rintro⟨⟨k,i,s⟩,hki,hr⟩ _
 simp only at hki hr |-
 cases k with
 | zero =>
  simp only[rangeM,yw] at hr
  have:i=n:=om
  subst this
  refine zbm (hend s) fun e fr L hq=>?_
  subst hr
  cases e with
  | normal=>obtain⟨s',hs,_⟩:=hq; cases hs
  | exit j =>
   rcases hq with ⟨h1,s',h2,h3⟩ | ⟨x,hx,_⟩
   ·cases h2; exact .inl ⟨h1,s,rfl,h3⟩
   ·cases hx
  | ret=>obtain⟨x,hx,_⟩:=hq; cases hx
  | goto l=>exact hq.elim
  | panic ch=>exact hq.elim
  | outgrown=>exact hq.elim
 | succ k =>
  simp only[rangeM] at hr
  cases hb:body i s with
  | none=>simp[hb] at hr
  | some r =>
   refine zbm (hround i s r om hb) fun e fr L hq=>?_
   cases e with
   | normal =>
    obtain⟨s',rfl,hst⟩:=hq
    simp only[hb] at hr
    exact⟨⟨(k,i+1,s'),by simp only; omega,hr⟩,trivial,hst,sj,by rw[hm,hm],fun _ _ _ h=>h⟩
   | exit j =>
    rcases hq with ⟨h1,s',rfl,h3⟩ | ⟨x,rfl,h3⟩
    ·simp only[hb,yw] at hr
     subst hr
     exact .inl ⟨h1,s',rfl,h3⟩
    ·simp only[hb,yw] at hr
     subst hr
     exact .inr ⟨x,rfl,h3⟩
   | ret =>
    obtain⟨x,rfl,h3⟩:=hq
    simp only[hb,yw] at hr
    subst hr
    exact⟨x,rfl,h3⟩
   | goto l=>exact hq.elim
   | panic ch=>exact hq.elim
   | outgrown=>exact hq.elim
theorem zo4 {c:Code} {I:σ->Fr} {LI:σ->List Ob} {J:σ->Fr->List Ob->Prop} {R:ρ->Fr->List Ob->Prop} {RX:ρ->Nat->Fr->List Ob->Prop} {step:σ->Option (Step σ ρ)} (hround:∀ s r,step s=some r->AW z P N c (StepQ A I LI J R RX r) (I s) (LI s)) (hm:∀ s,(LI s).length=m) {s:σ} {out:Out σ ρ} (h:iterM step s=some out) (hfr:StLe fr L (I s) (LI s)) (hL:L.length<=m) :
  AW z P N (.loop c) (OutQ A J R RX out) fr L:=by
 obtain⟨k,hk⟩:=z58 h
 refine zh8 (σ:={ q:Nat×σ // iterN step q.1 q.2=some out }) (fun q=>I q.1.2) (fun q=>LI q.1.2) (fun _=>True)
  (fun _=>OutQ A J R RX out) (fun q=>q.1.1) ?_ ⟨(k,s),hk⟩ trivial hfr (by rw[hm]; exact hL) (fun _ _ _ h=>h)
 rintro⟨⟨k,s⟩,hr⟩ _
 simp only at hr |-
 cases k with
 | zero=>cases hr
 | succ k =>
  simp only[iterN] at hr
  cases hb:step s with
  | none=>simp[hb] at hr
  | some r =>
   refine zbm (hround s r hb) fun e fr L hq=>?_
   cases e with
   | normal =>
    obtain⟨s',rfl,hst⟩:=hq
    simp only[hb] at hr
    exact⟨⟨(k,s'),hr⟩,trivial,hst,sj,by rw[hm,hm],fun _ _ _ h=>h⟩
   | exit j =>
    rcases hq with ⟨h1,s',rfl,h3⟩ | ⟨x,rfl,h3⟩
    ·simp only[hb,yw] at hr
     subst hr
     exact .inl ⟨h1,s',rfl,h3⟩
    ·simp only[hb,yw] at hr
     subst hr
     exact .inr ⟨x,rfl,h3⟩
   | ret =>
    obtain⟨x,rfl,h3⟩:=hq
    simp only[hb,yw] at hr
    subst hr
    exact⟨x,rfl,h3⟩
   | goto l=>exact hq.elim
   | panic ch=>exact hq.elim
   | outgrown=>exact hq.elim
end
variable {z:Option Nat}
variable {f g:Nat->DV}
section
variable {P:Program} {N:Nat} {Q:Post} {fr:Fr} {L:List Ob} {x y:Code} {cs:List Code}
theorem z86 {c:Code} {Q0:Post} (h:AW z P N c Q0 fr L) (hq:∀ e fr1 L1,L.length<=L1.length->Q0 e fr1 L1->∃ fr2 L2,StLe fr1 L1 fr2 L2/\L.length<=L2.length/\Q e fr2 L2):AW z P N c Q fr L:=by
 intro zn df X ms w a hr hf hN hd
 refine y2j (h zn df X ms w a hr hf hN hd) ?_
 rintro e a1 w1 ⟨ms1,fr1,L1,q1,r1,e1,c1,f1,n1,d1⟩
 obtain⟨fr2,L2,st,hl,q2⟩:=hq e fr1 L1 c1.L q1
 obtain⟨ms2,k1,k2,k3,k4⟩:=st.rel hl r1 e1 c1 f1
 exact⟨ms2,fr2,L2,q2,k1,k2,k3,k4,n1,d1⟩
theorem zeg:FrLe fr []:=fun x hx=>by cases hx
theorem z66 {s:Nat} {w:AV} {r:Fr} (hm:(s,v)∈fr) (h:LeV v w) (hr:FrLe fr r):FrLe fr ((s,w) :: r):=fun x hx=>by
 rcases yu.1 hx with rfl | hx
 ·exact⟨v,hm,h⟩
 ·exact hr x hx
theorem LeV.of_eq {w:AV} (h:v=w):LeV v w:=h▸LeV.refl _
theorem zav (hn:n=m) (h:∀ i,i<n->f i=g i):LeV (.d (.sl n f)) (.d (.sl m g)):=by
 subst hn
 intro c u hu
 cases hu with
 | agg _ _ ha=>cases ha
 | one _ _ _ hx =>
  refine .one _ _ rfl ?_
  cases hx with
  | d _ _ hx =>
   refine .d _ _ ?_
   cases hx with
   | slNil=>exact .slNil _
   | slEmpty=>exact .slEmpty _ _ _
   | sl _ _ b off cap sz arr cs h1 h2 hb hh hl hc=>exact .sl _ _ b off cap sz arr cs h1 h2 hb (fun i hi=>by rw[<- h i hi]; exact hh i hi) hl hc
theorem zm8 (hn:n=m) (h:∀ i,i<n->f i=g i):LeV (.full n f) (.d (.sl m g)):=by
 intro c u hu
 refine zav hn h c u ?_
 cases hu with
 | agg _ _ ha=>cases ha
 | one _ _ _ hx =>
  cases hx with
  | full _ _ a hx=>exact .one _ _ rfl (.d _ _ hx)
end
variable {z:Option Nat}
variable {σ ρ:Type}
def outM (x:Option (Out σ ρ)) (k:σ->Option α) (kr:ρ->Option α):Option α :=
 match x with
 | none=>none
 | some (.next s)=>k s
 | some (.ret r)=>kr r
def outK (k:σ->Option α) (kr:ρ->Option α):Out σ ρ->Option α
 | .next s=>k s
 | .ret r=>kr r
theorem z67 {x:Option (Out σ ρ)} {k:σ->Option α} {kr:ρ->Option α} (h:outM x k kr=some r):∃ o,x=some o/\outK k kr o=some r:=by
 unfold outM at h
 split at h
 ·cases h
 ·exact⟨_,rfl,h⟩
 ·exact⟨_,rfl,h⟩
open Classical in
noncomputable def optD (gs:List Prop) (k:Option α) (d:α):Option α:=if AllP gs then k else some d
variable {gs:List Prop} {d:α}
theorem zk7 {k:Option α} (h:optD gs k d=some r) (hg:AllP gs):k=some r:=by
 unfold optD at h
 rwa [y9 hg] at h
theorem zm9 {k:Option α} (h:optD gs k d=some r) (hg:¬ AllP gs):d=r:=by
 unfold optD at h
 rw[y8 hg] at h
 exact yn h
def FR (P:Program) (fn:Func) (v:AV) (L':List Ob) (fr:Fr) (L:List Ob):Prop:=∃ v1 C J,resV P fn fr L=some (v1,C)/\AllP C/\LeV v1 v/\L=L'++J
def FQ (P:Program) (fn:Func) (v:AV) (L':List Ob):Post:=fun e fr L=>(e = .normal\/e = .ret)/\FR P fn v L' fr L
def LsOk (n:Nat):List Ob->Prop
 | []=>True
 | x :: r=>x.lt n/\LsOk n r
theorem lsOk {n:Nat}:∀ {L:List Ob},LsOk n L->∀ (o:Nat) (obj:Ob),L[o]? = some obj->obj.lt n
 | [],_,o,obj,h=>by simp at h
 | x :: r,hk,0,obj,h=>by simp at h; subst h; exact hk.1
 | x :: r,hk,o+1,obj,h=>lsOk hk.2 o obj (by simpa using h)
def eL [Inhabited α] (e:α->DV) (l:List α):DV:=.sl l.length fun j=>e (l.getD j dF)
def eA (sz n:Nat) (e:α->DV) (f:Nat->α):DV:=.arr sz n fun j=>e (f j)
def eS [Inhabited α] (sz:Nat) (e:α->DV) (l:List α):Ob:=.seq sz l.length fun j=>.d (e (l.getD j dF))
section
variable {α:Type} [Inhabited α] {e:α->DV} {l:List α}
theorem zo5:LeV (.full 0 f) (.d (eL e ([]:List α))):=zm8 rfl fun i hi=>om
theorem zma {h:Nat} (hh:h<=l.length):LeV (.d (.sl (h-0) fun j=>e (l.getD j dF))) (.d (eL e (l.take h))) :=
 zav sk fun i hi=>by
  have:(l.take h).getD i dF=l.getD i dF:=by
   simp only[yb]
   rw[y1r om]
  rw[this]
theorem zmb:LeV (.d (.sl (l.length-n) fun j=>e (l.getD (n+j) dF))) (.d (eL e (l.drop n))) :=
 zav sj fun i _=>by
  have:(l.drop n).getD i dF=l.getD (n+i) dF:=by simp[List.getD_eq_getElem?_getD]
  rw[this]
theorem zb (e:α->DV) (l:List α):LeV (.d (.sl l.length (listF (.b false) (l.map e)))) (.d (eL e l)) :=
 zav rfl fun i hi=>by
  simp[listF,List.getD_eq_getElem?_getD,List.getElem?_eq_getElem hi]
end
theorem z35 {n:Int} (h1:-(2 ^ 63)<=n) (h2:n<2 ^ 63):IntKind.i64.wrap n=n:=by
 have e1:IntKind.i64.bits=64:=rfl
 have e2:IntKind.i64.signed=true:=rfl
 simp only[IntKind.wrap,e1,e2,y59,ya]
 split <;> omega
theorem zk8 (h:i+1<2 ^ 63):IntKind.i64.wrap ((i:Int)+1)=((i+1:Nat):Int):=by
 rw[z35 om om]
 omega
def DLe (x y:DV):Prop:=∀ M cs,DV.Is M x cs->DV.Is M y cs
def DLeL (xs ys:List DV):Prop:=∀ M cs,DV.IsL M xs cs->DV.IsL M ys cs
theorem DLe.refl (x:DV):DLe x x:=fun _ _ h=>h
theorem DLe.sl0:DLe (.sl 0 f) (.sl 0 g):=fun _ _ h=>by
 cases h with
 | slNil=>exact .slNil _
 | slEmpty=>exact .slEmpty _ _ _
 | sl _ _ b off cap sz arr cs h1 h2 hb hh hl hc=>exact .sl _ _ b off cap sz arr cs h1 h2 hb (fun i hi=>om) hl hc
theorem DLe.agg {xs ys:List DV} (h:DLeL xs ys):DLe (.agg xs) (.agg ys):=fun M cs hx=>by
 cases hx with
 | agg _ _ hx=>exact .agg _ _ (h M cs hx)
theorem DLeL.nil:DLeL [] []:=fun _ _ h=>h
theorem DLeL.cons {x y:DV} {xs ys:List DV} (h:DLe x y) (ht:DLeL xs ys):DLeL (x :: xs) (y :: ys):=fun M cs hx=>by
 cases hx with
 | cons _ _ c cs h1 h2=>exact .cons _ _ c cs (h M c h1) (ht M cs h2)
variable {y:DV}
theorem z3e {x:DV} (h:DLe x y):OLe (.box (.d x)) (.box (.d y)) where
 kind:=rfl
 stamp:=rfl
 is:=fun c w o hx=>by
  rcases hx with hx | ⟨b,tc,arr,e,h1,h2,h3⟩
  ·exact .inl hx
  ·refine .inr ⟨b,tc,arr,e,h1,h2,?_⟩
   cases h3 with
   | d _ _ h3=>exact .d _ _ (h _ _ h3)
variable {z:Option Nat}
variable {o:Nat}
section
variable {P:Program} {N:Nat} {Q:Post} {fr fr':Fr} {L:List Ob}
theorem Rel.freeze (h:Rel X ms L w) (ho:o<L.length) :
  Rel X (ms.set o none) (L.set o .dead) w/\Ext ms w (ms.set o none) w/\(cxOf X ms L w).le (cxOf X (ms.set o none) (L.set o .dead) w):=by
 have hlt':o<ms.length:=by rw[h.len]; exact ho
 have hget:∀ i b tc,(ms.set o none)[i]? = some (some (b,tc))->i≠o/\ms[i]? = some (some (b,tc)):=fun i b tc e=>by
  by_cases hio:o=i
  ·subst hio
   rw[yx hlt'] at e
   cases e
  ·rw[yz hio] at e
   exact⟨fun e'=>hio e'.symm,e⟩
 have he:Ext ms w (ms.set o none) w:=⟨yf _,fun b _ hn=>⟨rfl,fun⟨i,tc,e⟩=>hn ⟨i,tc,(hget i b tc e).2⟩⟩,SameOut.refl w⟩
 have hr:=h.step (ms':=ms.set o none) (L':=L.set o .dead) (w':=w) he (by simp[h.len]) (fun b ⟨i,tc,e⟩=>h.lt b ⟨i,tc,(hget i b tc e).2⟩)
  (fun i j b t1 t2 e1 e2=>h.inj i j b t1 t2 (hget i b t1 e1).2 (hget j b t2 e2).2) sj
  (fun i x hi hl hs=>by
   by_cases hio:o=i
   ·subst hio
    rw[yx ho] at hl
    cases hl
    exact absurd rfl hs
   ·rw[yz hio] at hl
    exact⟨x,hl,rfl,fun s hs=>⟨s,hs,yf _⟩,fun _=>by rw[yz hio]⟩)
  (fun i x hl=>by
   by_cases hio:o=i
   ·subst hio
    rw[yx ho] at hl
    cases hl
    exact .inr fun _=>trivial
   ·rw[yz hio] at hl
    exact .inl ⟨hl,by rw[yz hio],fun _ _ _=>rfl⟩)
 exact⟨hr.1,he,hr.2⟩
end
section
variable {fr r:Fr} {o n:Nat} {g:Nat->DV}
end
variable {z:Option Nat}
def TrV (H:Cx->Cx->Prop) (v v':AV):Prop:=∀ c c':Cx,c.le c'->H c c'->∀ cs,AV.Is c v cs->AV.Is c' v' cs
def TrL (H:Cx->Cx->Prop) (v v':List AV):Prop:=∀ c c':Cx,c.le c'->H c c'->∀ cs,AV.IsL c v cs->AV.IsL c' v' cs
def TrS (H:Cx->Cx->Prop) (v v':AV):Prop:=∀ c c':Cx,c.le c'->H c c'->∀ u,AV.IsV c v u->AV.IsV c' v' u
def FzH (o n:Nat) (g:Nat->DV) (c c':Cx):Prop:=∀ m u,m<=n->AV.Is c (.ref o n 0 m) [u]->AV.Is c' (.d (.sl m g)) [u]
def BnH (o:Nat) (c c':Cx):Prop:=∀ f u,AV.Is c (.full 0 f) [u]->AV.Is c' (.ref o 0 0 0) [u]
def NoH (_ _:Cx):Prop:=True
theorem AV.IsL.to_d:∀ {xs:List DV} {cs:List Value},AV.IsL c (xs.map AV.d) cs->DV.IsL c.M xs cs
 | [],_,h=>by cases h; exact .nil
 | x :: xs,_,h=>by
  cases h with
  | cons _ _ k ks h1 h2 =>
   cases h1 with
   | d _ _ h1=>exact .cons _ _ k ks h1 (AV.IsL.to_d h2)
section
variable {H:Cx->Cx->Prop}
theorem TrV.keep (v:AV):TrV H v v:=fun _ _ hc _ _ h=>h.mono hc
theorem TrL.nil:TrL H [] []:=fun _ _ _ _ cs h=>by cases h; exact .nil
theorem TrL.cons {x y:AV} {xs ys:List AV} (h:TrV H x y) (ht:TrL H xs ys):TrL H (x :: xs) (y :: ys):=fun c c' hc hr cs hx=>by
 cases hx with
 | cons _ _ k ks h1 h2=>exact .cons _ _ k ks (h c c' hc hr k h1) (ht c c' hc hr ks h2)
theorem TrV.agg {xs ys:List AV} (h:TrL H xs ys):TrV H (.agg xs) (.agg ys):=fun c c' hc hr cs hx=>by
 cases hx with
 | agg _ _ hx=>exact .agg _ _ (h c c' hc hr cs hx)
theorem TrV.aggD {xs:List AV} {ys:List DV} (h:TrL H xs (ys.map AV.d)):TrV H (.agg xs) (.d (.agg ys)):=fun c c' hc hr cs hx=>by
 cases hx with
 | agg _ _ hx=>exact .d _ _ (.agg _ _ (AV.IsL.to_d (h c c' hc hr cs hx)))
theorem TrV.full {f g:Nat->DV}:TrV H (.full 0 f) (.d (.sl 0 g)):=fun c c' hc _ cs hx=>by
 cases hx with
 | full _ _ a hx =>
  refine .d _ _ ?_
  cases hx with
  | slNil=>exact .slNil _
  | slEmpty=>exact .slEmpty _ _ _
  | sl _ _ b off cap sz arr cs h1 h2 hb h hl hc=>exact .slEmpty _ _ _
theorem TrS.keep (v:AV):TrS H v v:=fun _ _ hc _ _ h=>h.mono hc
theorem TrS.of {v':AV} (ha:v.isAgg=v'.isAgg) (hs:v.isAgg=true\/v.solid=true) (h:TrV H v v'):TrS H v v':=fun c c' hc hr u hx=>by
 cases hx with
 | agg _ cs h1 h2=>exact .agg _ cs (ha▸h1) (h c c' hc hr cs h2)
 | one _ _ h1 h2=>exact .one _ _ (ha▸h1) (h c c' hc hr _ h2)
 | tup vs us _=>rcases hs with hs | hs <;> cases hs
 | bot=>rcases hs with hs | hs <;> cases hs
theorem TrV.ref {o n m:Nat} {g:Nat->DV} (hm:m<=n):TrV (FzH o n g) (.ref o n 0 m) (.d (.sl m g)):=fun c _ _ hr cs h=>by
 have:∃ u,cs=[u]:=by cases h with | ref _ _ _ _ v _=>exact⟨v,rfl⟩
 obtain⟨u,rfl⟩:=this
 exact hr m u hm h
theorem TrV.born:TrV (BnH o) (.full 0 f) (.ref o 0 0 0):=fun c _ _ hr cs h=>by
 have:∃ u,cs=[u]:=by cases h with | full _ _ a _=>exact⟨_,rfl⟩
 obtain⟨u,rfl⟩:=this
 exact hr f u h
end
inductive TrO (H:Cx->Cx->Prop) (o:Nat):Nat->List Ob->List Ob->Prop
 | nil (k:Nat):TrO H o k [] []
 | keep (k:Nat) (x:Ob) (r r':List Ob) (hk:k≠o) (h:TrO H o (k+1) r r'):TrO H o k (x :: r) (x :: r')
 | box (k:Nat) (x y:AV) (r r':List Ob) (hk:k≠o) (hx:TrV H x y) (h:TrO H o (k+1) r r'):TrO H o k (.box x :: r) (.box y :: r')
 | here (k:Nat) (x:Ob) (r r':List Ob) (hk:k=o) (h:TrO H o (k+1) r r'):TrO H o k (x :: r) (.dead :: r')
variable {H:Cx->Cx->Prop}
theorem TrO.get (h:TrO H o k L L'):L.length=L'.length/\∀ (i:Nat) (y:Ob),L'[i]? = some y ->
  (k+i=o/\y = .dead)\/(k+i≠o/\∃ x,L[i]? = some x/\(x=y\/∃ a b,x = .box a/\y = .box b/\TrV H a b)):=by
 induction h with
 | nil k=>exact⟨rfl,fun i y e=>by simp at e⟩
 | keep k x r r' hk h ih =>
  refine⟨by simp[ih.1],fun i y e=>?_⟩
  cases i with
  | zero=>simp at e; subst e; exact .inr ⟨om,x,rfl,.inl rfl⟩
  | succ i =>
   rcases ih.2 i y (by simpa using e) with ⟨h1,h2⟩ | ⟨h1,h2⟩
   ·exact .inl ⟨om,h2⟩
   ·exact .inr ⟨om,by simpa using h2⟩
 | box k x z r r' hk hx h ih =>
  refine⟨by simp[ih.1],fun i y e=>?_⟩
  cases i with
  | zero=>simp at e; subst e; exact .inr ⟨om,_,rfl,.inr ⟨x,z,rfl,rfl,hx⟩⟩
  | succ i =>
   rcases ih.2 i y (by simpa using e) with ⟨h1,h2⟩ | ⟨h1,h2⟩
   ·exact .inl ⟨om,h2⟩
   ·exact .inr ⟨om,by simpa using h2⟩
 | here k x r r' hk h ih =>
  refine⟨by simp[ih.1],fun i y e=>?_⟩
  cases i with
  | zero=>simp at e; subst e; exact .inl ⟨om,rfl⟩
  | succ i =>
   rcases ih.2 i y (by simpa using e) with ⟨h1,h2⟩ | ⟨h1,h2⟩
   ·exact .inl ⟨om,h2⟩
   ·exact .inr ⟨om,by simpa using h2⟩
variable {sz:Nat}
theorem z68 (h:Rel X ms L w) (hL:L[o]? = some (.seq sz n fun j=>.d (g j))) (hn:n<2 ^ 63) :
  FzH o n g (cxOf X ms L w) (cxOf X (ms.set o none) L' w):=by
 intro m u hmn h1
 have ho:o<L.length:=by
  rcases yp o L.length with h' | h'
  ·exact h'
  ·rw[yi h'] at hL; cases hL
 obtain⟨_,_,hc⟩:=h.freeze ho
 cases h1 with
 | ref _ _ _ _ _ hr =>
 obtain⟨_,_,_,h3⟩:=hr
 obtain⟨_,h4⟩:=h3 sz _ hL
 refine .d _ _ ?_
 rcases h4 with ⟨h5,a,rfl⟩ | ⟨h5,_⟩ | ⟨b,tc,h5,h6,rfl⟩
 ·have hob:=h.obs o _ hL
  rcases hob with ⟨_,h0⟩ | ⟨b,tc,_,_,_,h6,_⟩
  ·obtain rfl:m=0:=om
   cases a with
   | none=>exact .slNil _
   | some a=>exact .slEmpty _ _ _
  ·have:=h5.symm.trans h6; cases this
 ·exact absurd rfl h5
 ·have hob:=h.obs o _ hL
  rcases hob with ⟨h0,_⟩ | ⟨b',tc',arr,e,cs,k1,k2,k3,k4,k5,k6,k7⟩
  ·have:=h0.symm.trans h5; cases this
  ·have e1:=k1.symm.trans h5
   cases e1
   have hlt':o<ms.length:=by rw[h.len]; exact ho
   have hb:memOf X (ms.set o none) w b=some arr:=z19 (h.lt b ⟨o,tc,h5⟩).2 (fun⟨i,t,ei⟩=>by
    by_cases hio:o=i
    ·subst hio
     rw[yx hlt'] at ei
     cases ei
    ·rw[yz hio] at ei
     exact hio (h.inj o i b tc t h5 ei)) k2
   refine .sl m g b (0 * sz) (tc-0) sz arr cs om om hb (fun i hi=>?_) (fun i hi=>k6 i om) (fun i hi j hj=>?_)
   ·cases k5 i om with
    | d _ _ hx=>exact hx.mono hc.M
   ·rw[y3q,y14]; exact k7 i om j hj
def Shifts (H:Cx->Cx->Prop) (L L':List Ob):Prop:=∀ (X:Nat->Prop) (ms:Blocks) (w:World),Rel X ms L w ->
 ∃ ms',Rel X ms' L' w/\Ext ms w ms' w/\(cxOf X ms L w).le (cxOf X ms' L' w)/\H (cxOf X ms L w) (cxOf X ms' L' w)
theorem zeh (hL:L[o]? = some (.seq sz n fun j=>.d (g j))) (hn:n<2 ^ 63) (hO:TrO (FzH o n g) o 0 L L'):Shifts (FzH o n g) L L':=by
 intro X ms w h
 have ho:o<L.length:=by
  rcases yp o L.length with h' | h'
  ·exact h'
  ·rw[yi h'] at hL; cases hL
 obtain⟨r1,e1,_⟩:=h.freeze ho
 obtain⟨hlen,hget⟩:=hO.get
 have hm:∀ i,i≠o->(ms.set o none)[i]? = ms[i]? := fun i hi=>by rw[yz (fun e=>hi e.symm)]
 have hr:=h.step (ms':=ms.set o none) (L':=L') (w':=w) e1 (by simp[h.len,hlen]) r1.lt r1.inj om
  (fun i y hi hl hs=>by
   rcases hget i y hl with ⟨_,rfl⟩ | ⟨hk,x,hx,rfl | ⟨a,b,rfl,rfl,_⟩⟩
   ·exact absurd rfl hs
   ·exact⟨x,hx,rfl,fun s hs=>⟨s,hs,yf _⟩,fun _=>hm i om⟩
   ·exact⟨_,hx,rfl,fun s hs=>⟨s,hs,yf _⟩,fun _=>hm i om⟩)
  (fun i y hl=>by
   rcases hget i y hl with ⟨_,rfl⟩ | ⟨hk,x,hx,rfl | ⟨a,b,rfl,rfl,hfz⟩⟩
   ·exact .inr fun _=>trivial
   ·exact .inl ⟨hx,hm i om,fun _ _ _=>rfl⟩
   ·refine .inr fun hc=>?_
    rcases h.obs i _ hx with h1 | ⟨bb,tc,arr,e,h1,h2,h3⟩
    ·exact .inl ((hm i om).trans h1)
    ·exact .inr ⟨bb,tc,arr,e,(hm i om).trans h1,h2,hfz _ _ hc (z68 h hL hn) _ h3⟩)
 exact⟨_,hr.1,e1,hr.2,z68 h hL hn⟩
theorem zid (ho:o<L.length):Shifts NoH L (L.set o .dead):=fun _ _ _ h=>by
 obtain⟨r1,e1,c1⟩:=h.freeze ho
 exact⟨_,r1,e1,c1,trivial⟩
theorem zcl:Shifts NoH L (L++[.unb]):=fun X ms w h=>by
 obtain⟨r1,e1,c1⟩:=h.push (Grow.refl w) (m:=none) (obj:=.unb) (fun b tc e=>by cases e) (fun _=>by simp[ObIs,cxOf,<- h.len])
 exact⟨_,r1,e1,c1,trivial⟩
theorem zaw {f:Nat->AV} (hO:TrO (BnH L.length) L.length 0 L L'):Shifts (BnH L.length) L (L'++[.seq sz 0 f]):=by
 intro X ms w h
 obtain⟨hlen,hget⟩:=hO.get
 obtain⟨r1,e1,c1⟩:=h.push (Grow.refl w) (m:=none) (obj:=.seq sz 0 f) (fun b tc e=>by cases e) (fun _=>.inl ⟨by simp[cxOf,<- h.len],rfl⟩)
 have hH:∀ L'':List Ob,L''.length=L.length->BnH L.length (cxOf X ms L w) (cxOf X (ms++[none]) (L''++[.seq sz 0 f]) w):=fun L'' hl g u hu=>by
  cases hu with
  | full _ _ ad hx =>
   refine .ref _ _ _ _ _ ⟨by simp[cxOf,hl],⟨ad,0,rfl⟩,fun obj s e1 e2=>om,fun sz' f' e=>?_⟩
   exact⟨om,.inl ⟨by simp[cxOf,<- h.len],ad,rfl⟩⟩
 have hms:∀ i,i<L.length->(ms++[none])[i]? = ms[i]? := fun i hi=>by rw[yk (by rw[h.len]; exact hi)]
 have hltL:∀ {i:Nat} {x:Ob},L[i]? = some x->i<L.length:=fun {i x} e=>by
  rcases yp i L.length with h' | h'
  ·exact h'
  ·rw[yi h'] at e; cases e
 have hr:=h.step (ms':=ms++[none]) (L':=L'++[.seq sz 0 f]) (w':=w) e1 (by simp[h.len,hlen]) r1.lt r1.inj sk
  (fun i y hi hl hs=>by
   rw[yk om] at hl
   rcases hget i y hl with ⟨_,rfl⟩ | ⟨hk,x,hx,rfl | ⟨a,b,rfl,rfl,_⟩⟩
   ·exact absurd rfl hs
   ·exact⟨x,hx,rfl,fun s hs=>⟨s,hs,yf _⟩,fun _=>hms i hi⟩
   ·exact⟨_,hx,rfl,fun s hs=>⟨s,hs,yf _⟩,fun _=>hms i hi⟩)
  (fun i y hl=>by
   rcases getElem?_snoc hl with hl | ⟨rfl,rfl⟩
   ·rcases hget i y hl with ⟨_,rfl⟩ | ⟨hk,x,hx,rfl | ⟨a,b,rfl,rfl,hfz⟩⟩
    ·exact .inr fun _=>trivial
    ·exact .inl ⟨hx,hms i (hltL hx),fun _ _ _=>rfl⟩
    ·refine .inr fun hc=>?_
     rcases h.obs i _ hx with h1 | ⟨bb,tc,arr,e,h1,h2,h3⟩
     ·exact .inl ((hms i (hltL hx)).trans h1)
     ·exact .inr ⟨bb,tc,arr,e,(hms i (hltL hx)).trans h1,h2,hfz _ _ hc (hH L' hlen.symm) _ h3⟩
   ·have hml:ms.length=L'.length:=by rw[h.len,hlen]
    exact .inr fun _=>.inl ⟨by simp[cxOf,<- hml],rfl⟩)
 exact⟨_,hr.1,e1,hr.2,hH L' hlen.symm⟩
theorem zax (hO:TrO NoH L.length 0 L L'):Shifts NoH L L':=by
 intro X ms w h
 obtain⟨hlen,hget⟩:=hO.get
 have hr:=h.step (ms':=ms) (L':=L') (w':=w) (Ext.refl _ _) (by simp[h.len,hlen]) h.lt h.inj om
  (fun i y hi hl hs=>by
   rcases hget i y hl with ⟨_,rfl⟩ | ⟨hk,x,hx,rfl | ⟨a,b,rfl,rfl,_⟩⟩
   ·exact absurd rfl hs
   ·exact⟨x,hx,rfl,fun s hs=>⟨s,hs,yf _⟩,fun _=>rfl⟩
   ·exact⟨_,hx,rfl,fun s hs=>⟨s,hs,yf _⟩,fun _=>rfl⟩)
  (fun i y hl=>by
   rcases hget i y hl with ⟨_,rfl⟩ | ⟨hk,x,hx,rfl | ⟨a,b,rfl,rfl,hfz⟩⟩
   ·exact .inr fun _=>trivial
   ·exact .inl ⟨hx,rfl,fun _ _ _=>rfl⟩
   ·refine .inr fun hc=>?_
    rcases h.obs i _ hx with h1 | ⟨bb,tc,arr,e,h1,h2,h3⟩
    ·exact .inl h1
    ·exact .inr ⟨bb,tc,arr,e,h1,h2,hfz _ _ hc trivial _ h3⟩)
 exact⟨_,hr.1,Ext.refl _ _,hr.2,trivial⟩
section
variable {P:Program} {N:Nat} {Q:Post} {fr fr' fr1 fr2:Fr} {L L' L1 L2:List Ob} {c:Code} {cs:List Code} {H:Cx->Cx->Prop}
def TrF (H:Cx->Cx->Prop) (fr fr':Fr):Prop:=∀ x∈fr',∃ v,(x.1,v)∈fr/\TrS H v x.2
theorem z4g:TrF H fr []:=fun x hx=>by cases hx
theorem z10 {s:Nat} {w:AV} {r:Fr} (hm:fr[k]? = some (s,v)) (h:TrS H v w) (hr:TrF H fr r):TrF H fr ((s,w) :: r):=fun x hx=>by
 rcases yu.1 hx with rfl | hx
 ·exact⟨v,y31 hm,h⟩
 ·exact hr x hx
end
theorem zo6 (n:Nat) (f g:Nat->α) (i:Nat):catF n f g i=if i<n then f i else g (i-n):=by
 cases n with
 | zero=>simp[catF]
 | succ n=>rfl
theorem z3z {f g:Nat->AV} (hn:n=m) (h:∀ i,i<n->f i=g i):OLe (.seq sz n f) (.seq sz m g) where
 kind:=rfl
 stamp:=by subst hn; rfl
 is:=fun c w o hx=>by
  subst hn
  rcases hx with hx | ⟨b,tc,arr,e,cs,h1,h2,h3,h4,h5,h6,h7⟩
  ·exact .inl hx
  ·exact .inr ⟨b,tc,arr,e,cs,h1,h2,h3,h4,fun i hi=>by rw[<- h i hi]; exact h5 i hi,h6,h7⟩
section
variable {α:Type} [Inhabited α] {e:α->DV} {l x:List α}
theorem z2x:(l++x).getD i dF=if i<l.length then l.getD i dF else x.getD (i-l.length) dF:=by
 simp only[yb]
 split
 ·rw[yk aj]
 ·rw[y1c om]
theorem z1a:OLe (.seq sz (l.length+x.length) (catF l.length (fun j=>.d (e (l.getD j dF))) (fun j=>.d (e (x.getD j dF))))) (eS sz e (l++x)) :=
 z3z sj fun i _=>by
  rw[zo6,z2x]
  split <;> rfl
end
theorem z1b {l x:List α}:LeV (.ref o (l.length+x.length) 0 (l.length+x.length)) (.ref o (l++x).length 0 (l++x).length):=by
 rw[ye]
 exact LeV.refl _
theorem z6s {x:DV} (ha:(AV.d x).isAgg=(AV.d y).isAgg) (h:DLe x y):LeV (.d x) (.d y):=fun c u hu=>by
 cases hu with
 | agg _ cs h1 h2 =>
  cases h2 with
  | d _ _ h2=>exact .agg _ cs (ha▸h1) (.d _ _ (h _ _ h2))
 | one _ _ h1 h2 =>
  cases h2 with
  | d _ _ h2=>exact .one _ _ (ha▸h1) (.d _ _ (h _ _ h2))
variable {e:α->DV}
theorem zbp {g:Nat->α} (h:∀ i,i<n->f i=e (g i)):LeV (.d (.arr sz n f)) (.d (eA sz n e g)) :=
 z6s rfl fun M cs hx=>by
  cases hx with
  | arr _ _ _ cs hh hl=>exact .arr _ _ _ cs (fun i hi=>h i hi▸hh i hi) hl
theorem z1f [Inhabited α] {l:List α} {f:Nat->AV} (hf:∀ j,f j=if j=i then .d (e x) else .d (e (l.getD j dF))):OLe (.seq sz l.length f) (eS sz e (l.set i x)) :=
 z3z sj fun j hj=>by
  rw[hf]
  simp only[yb]
  by_cases h:j=i
  ·subst h
   rw[y9 rfl,yx hj]
   rfl
  ·rw[y8 h,yz (fun e=>h e.symm)]
section
variable {α:Type} [Inhabited α] {e:α->DV} {l:List α} {H:Cx->Cx->Prop}
end
theorem za8 (fr:Fr):TrF H fr fr:=fun x hx=>⟨x.2,hx,TrS.keep _⟩
theorem z3f {g:Nat->α}:DLe (.arr sz n fun j=>if j=i then e x else e (g j)) (eA sz n e fun j=>if j=i then x else g j):=fun M cs hx=>by
 cases hx with
 | arr _ _ _ cs hh hl =>
  refine .arr _ _ _ cs (fun k hk=>?_) hl
  have:=hh k hk
  by_cases h:k=i
  ·simpa [h] using this
  ·simpa [h] using this
def LeVs (vs ws:List AV):Prop:=∀ c us,AV.IsVs c vs us->AV.IsVs c ws us
theorem LeVs.nil:LeVs [] []:=fun _ _ h=>h
theorem LeVs.cons {v w:AV} {vs ws:List AV} (h:LeV v w) (ht:LeVs vs ws):LeVs (v :: vs) (w :: ws):=fun c us hu=>by
 cases hu with
 | cons _ _ u us h1 h2=>exact .cons _ _ u us (h c u h1) (ht c us h2)
theorem LeV.tup {vs ws:List AV} (h:LeVs vs ws):LeV (.tup vs) (.tup ws):=fun c u hu=>by
 cases hu with
 | tup _ us hu=>exact .tup _ us (h c us hu)
 | agg _ _ ha _=>cases ha
 | one _ _ _ hx=>cases hx
end Go.TA
namespace Go.TA
open Go Go.ChangeShapes Go.WideShapes Go.ChangeAt Go.RowKit
def noX:Nat->Prop:=fun _=>False
variable {W:World}
theorem zk9 (hg:GlobOk (memOf noX [] W)):Rel noX [] [] W :=
 ⟨rfl,fun b ⟨o,tc,h⟩=>by simp at h,fun b h=>h.elim,fun o o' b tc tc' h=>by simp at h,fun o obj h=>by simp at h,hg⟩
noncomputable def cx0 (W:World):Cx:=cxOf noX [] [] W
theorem zqm {b:Nat} {arr:Array Value} {e:TypeId} {fz:Nat×Nat} (h:W.heap[b]? = some (.cells arr e fz)):(cx0 W).M b=some arr :=
 z19 (fun h=>h) (fun⟨o,tc,h⟩=>by simp at h) h
variable {v:Value}
theorem zcm {a:Addr} (h:W.cell? a=some v):a.spot=none/\∃ c e fr,W.heap[a.block]? = some (.cells c e fr)/\c[a.off]? = some v:=by
 have hs:=World.cell?_spot h
 obtain⟨b,off,sp⟩:=a
 simp only at hs
 subst hs
 exact⟨rfl,Go.Sort.cells_of_cell? h⟩
section
variable {H:Type} {enc:TypeId×Value->H} {P:Program} {W:World} {base:Nat} {spare:Nat->Bool} {held:Bool}
theorem zei {t:TypeId} {k:IntKind} {r:Reach} {b0:Nat} {d:DataW H} {ps:List MemPlace} (ht:P.underlying t=some (.int k)) (hval:Value.okWide P W r b0 t v) (hd:DataW.Trod enc P W base spare held t v d ps):∃ n:Int,AV.IsV (cx0 W) (.d (.i k n)) v/\(Lit.int k n).wf=true:=by
 obtain⟨n,rfl,_,_,hw⟩:=open_int ht hval hd
 exact⟨n,z33 k n,hw⟩
end
theorem zie {P:Program} {f:FuncId} {as:List AV} {us:List Value} (h:CallOk P f as [] (.d (.b true)) []) (hg:GlobOk (memOf noX [] W)) (hu:AV.IsVs (cx0 W) as us) :
  Calls P f us.toArray W fun e W'=>e = .returned (.bool true)/\Below W.heap.size W W':=by
 refine (h noX [] W us (zk9 hg) hu).mono fun e W' ⟨u,ms',h1,h2,h3,h4,h5⟩=>?_
 refine⟨by rw[h1,IsV.b h5],h3.out.os,h3.out.tape,h3.out.output,h3.size,fun k hk=>(h3.keep k hk (fun⟨o,tc,e⟩=>by simp at e)).1⟩
end Go.TA
namespace Go.TA
open Go Go.ChangeShapes Go.WideShapes Go.ChangeAt Go.RowKit
variable {α:Type}
section
variable {H:Type} (enc:TypeId×Value->H) (P:Program) (W:World) (base:Nat) (spare:Nat->Bool) (held:Bool)
def Reads (t:TypeId) (sz:Nat) (e:α->DV) (ok:α->Prop):Prop :=
 ∀ (fuel:Nat) (cs:List Value) (x:DataW H×List MemPlace),DataW.trod enc P W base spare held fuel t cs=some x->∃ a,DV.Is (cx0 W).M (e a) cs/\cs.length=sz/\ok a
def ReadsL (fs:List Field) (off total:Nat) (Q:List DV->Prop):Prop :=
 ∀ cs:List Value,cs.length=total->(∀ f∈fs,∃ fuel x,DataW.trod enc P W base spare held fuel f.type ((cs.drop f.offset).take (P.cellsOf f.type))=some x)->∃ ds,DV.IsL (cx0 W).M ds (cs.drop off)/\Q ds
end
variable {t:TypeId} {ok:α->Prop} {total sz:Nat} {e:α->DV} {Q:List DV->Prop}
section
variable {H:Type} {enc:TypeId×Value->H} {P:Program} {W:World} {base:Nat} {spare:Nat->Bool} {held:Bool}
theorem zcn {k:IntKind} (ht:P.underlying t=some (.int k)):Reads enc P W base spare held t 1 (DV.i k) (fun n=>(Lit.int k n).wf=true):=fun fuel cs x h=>by
 obtain⟨n,rfl,_,hw⟩:=DataW.trod_int ht h
 exact⟨n,.i k n,rfl,hw⟩
theorem zif (ht:P.underlying t=some .bool):Reads enc P W base spare held t 1 DV.b (fun _=>True):=fun fuel cs x h=>by
 obtain⟨n,rfl,_⟩:=DataW.trod_bool ht h
 exact⟨n,.b n,rfl,trivial⟩
theorem zka (ht:P.underlying t=some .string):Reads enc P W base spare held t 1 DV.str (fun l=>l.length<=maxLen):=fun fuel cs x h=>by
 obtain⟨s,rfl,_,hw⟩:=DataW.trod_string ht h
 refine⟨s.data.toList,?_,rfl,by simpa using hw⟩
 have:s=⟨s.data.toList.toArray⟩:=sj
 rw[this]
 exact .str _
theorem z29 {e:TypeId} [Inhabited α] {f:α->DV} (ht:P.underlying t=some (.slice e)) (hc:P.cellsOf e=sz) (hpos:0<sz) (h:Reads enc P W base spare held e sz f ok) :
  Reads enc P W base spare held t 1 (eL f) (fun l=>l.length<=maxLen/\∀ a∈l,ok a):=fun fuel cs x hx=>by
 rcases Deep.open_slice ht hx with ⟨rfl,_⟩ | ⟨a,len,cap,m,n,D,Pl,rfl,_,hl,hm,hmm,_,hel⟩
 ·exact⟨[],.slNil _,rfl,sj,fun a ha=>by cases ha⟩
 ·have hlm:len<=m:=by rw[hmm]; split <;> omega
  obtain⟨A,hA⟩:=Deep.choose_lt (α:=α×List Value) (n:=len) (p:=fun i y=>W.cells? base (a.add (i * P.cellsOf e)) (P.cellsOf e)=some y.2/\DV.Is (cx0 W).M (f y.1) y.2/\y.2.length=sz/\ok y.1) (fun i hi=>by
   obtain⟨cs',h1,h2⟩:=hel i om
   obtain⟨b,b1,b2,b3⟩:=h _ _ _ h2
   exact⟨(b,cs'),h1,b1,b2,b3⟩)
  refine⟨(List.range len).map fun i=>(A i).1,?_,rfl,sk,fun b hb=>?_⟩
  ·have hll:((List.range len).map fun i=>(A i).1).length=len:=sj
   unfold eL
   rw[hll]
   rcases y3v len with h0 | h0
   ·subst h0
    exact .slEmpty _ _ _
   ·obtain⟨b,off,sp⟩:=a
    obtain⟨_,_,hcell⟩:=World.cells?_some (hA 0 h0).1
    rw[hc] at hcell
    have c0:=hcell 0 hpos
    have l0:=(hA 0 h0).2.2.1
    rw[yc om] at c0
    obtain⟨s0,c,e',fr,hb,_⟩:=zcm c0
    simp[Addr.add] at s0 hb
    subst s0
    refine .sl len _ b off cap sz c (fun i=>(A i).2) hl (by have:=hm; unfold maxLen at this; omega) (zqm hb) (fun i hi=>?_) (fun i hi=>(hA i hi).2.2.1) (fun i hi j hj=>?_)
    ·have:((List.range len).map fun i=>(A i).1).getD i dF=(A i).1:=by simp[hi]
     rw[this]
     exact (hA i hi).2.1
    ·obtain⟨_,_,hcell⟩:=World.cells?_some (hA i hi).1
     rw[hc] at hcell
     have ci:=hcell j hj
     have li:=(hA i hi).2.2.1
     rw[yc om] at ci
     rw[z2d,z2d] at ci
     obtain⟨_,c',e'',fr',hb',hc'⟩:=zcm ci
     simp only at hb' hc'
     rw[hb] at hb'
     cases hb'
     rw[hc',yc om]
  ·obtain⟨i,hi,rfl⟩:=y1l.1 hb
   exact (hA i (y27.1 hi)).2.2.2
theorem z2l:ReadsL enc P W base spare held [] total total (fun ds=>ds=[]):=fun cs hl _ =>
 ⟨[],by rw[<- hl,List.drop_length]; exact .nil,rfl⟩
theorem za {f:Field} {fs:List Field} {off:Nat} (hf:f.offset=off) (hc:P.cellsOf f.type=sz) (h:Reads enc P W base spare held f.type sz e ok) (ht:ReadsL enc P W base spare held fs (off+sz) total Q):ReadsL enc P W base spare held (f :: fs) off total (fun ds=>∃ a ds',ds=e a :: ds'/\ok a/\Q ds'):=fun cs hl hx=>by
 obtain⟨fuel,x,h1⟩:=hx f y1h
 rw[hf,hc] at h1
 obtain⟨a,a1,a2,a3⟩:=h _ _ _ h1
 obtain⟨ds,d1,d2⟩:=ht cs hl fun g hg=>hx g (y17 _ hg)
 refine⟨e a :: ds,?_,a,ds,rfl,a3,d2⟩
 have e1:cs.drop off=(cs.drop off).take sz++cs.drop (off+sz):=by
  conv=>lhs; rw[<- y2h sz (cs.drop off)]
  rw[y53]
 rw[e1]
 exact .cons _ _ _ _ a1 d1
theorem z22 {fs:Array Field} (ht:P.underlying t=some (.struct fs)) (hc:P.cellsOf t=total) (h:ReadsL enc P W base spare held fs.toList 0 total Q) (hQ:∀ ds,Q ds->∃ a,DV.agg ds=e a/\ok a):Reads enc P W base spare held t total e ok:=fun fuel cs x hx=>by
 obtain⟨xs,n,_,_,hl,hlen,hf⟩:=DataW.trod_struct ht hx
 obtain⟨ds,d1,d2⟩:=h cs (by rw[hl,hc]) fun f hfm=>by
  obtain⟨i,hi,rfl⟩:=y3f hfm
  have hi':i<fs.size:=by simpa using hi
  have:=hf i fs[i] (by simp[hi'])
  rw[yc om] at this
  exact⟨n,_,by simpa using this⟩
 obtain⟨a,a1,a2⟩:=hQ ds d2
 rw[List.drop_zero] at d1
 exact⟨a,a1▸.agg _ _ d1,by rw[hl,hc],a2⟩
theorem zco {W':World} (hl:laidOutB P=true) (hb:Below W.heap.size W W'):∀ {ts:List TypeId} {vs:List Value} {ds:List (DataW H)} {p:List MemPlace},(∀ t∈ts,P.readableRec t=true/\t<P.types.size) ->
  DataW.TrodAll enc P W 0 (fun _=>true) true ts vs ds p->(∀ x∈p,x.block<W.heap.size)->DataW.TrodAll enc P W' 0 (fun b=>decide (b<W.heap.size)) true ts vs ds p
 | [],_,_,_,_,h,_=>by
  obtain⟨rfl,rfl,rfl⟩:=trodAll_nil h
  rfl
 | t :: ts,_,_,_,ht,h,hx=>by
  obtain⟨v,vs,d,ds,a,b,rfl,rfl,rfl,h1,h2⟩:=trodAll_cons h
  exact trodAll_cons_mk (Below.trod hl (ht t y1h).1 (ht t y1h).2 h1 hb fun x hx'=>hx x (List.mem_append_left _ hx'))
   (zco hl hb (fun t' ht'=>ht t' (y17 _ ht')) h2 fun x hx'=>hx x (List.mem_append_right _ hx'))
theorem zo7 {args:Array Value} {l:List Value} (h:args.toList=l):args=l.toArray:=by rw[<- h]
end
end Go.TA
