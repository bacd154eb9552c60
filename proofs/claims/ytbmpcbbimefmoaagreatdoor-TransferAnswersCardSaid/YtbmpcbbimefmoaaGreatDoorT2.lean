/- A part of the proof: laws over any program of the abstract machine. No condition. -/
import Derived.Test.YtbmpcbbimefmoaaGreatDoorT1
import GoSem.Instr.Next
import GoSem.Instr.Range
import GoSem.Builtin.Delete
import Derived.Scope
import Derived.ProofKit
import Derived.OpenShut
import Derived.ChangeSlices
import Derived.Below
import Derived.Carry
import Derived.Sort.Row
import Derived.Deep.Slices
namespace Go.TA
open Go
def elemsO (L:List Ob):AV->Option (Nat×(Nat->AV)×List Prop)
 | .d (.sl n f)=>some (n,fun i=>.d (f i),[])
 | .full n f=>some (n,fun i=>.d (f i),[])
 | .ref o st off n=>match L[o]? with
  | some (.seq _ m f)=>some (n,fun i=>f (off+i),[m=st])
  | _=>none
 | _=>none
theorem zcj (L:List Ob) (x:AV):elemsOf L x=elemsO L x:=by
 unfold elemsOf elemsO
 split
 ·rfl
 ·rfl
 ·first | (simp only[y1h]; rfl) | simp only[y1h]
 ·rfl
 ·rename_i h1 h2 h3 h4
  split
  ·exact absurd rfl (h1 _ _)
  ·exact absurd rfl (h2 _ _)
  ·exact absurd rfl (h4 _ _ _ _)
  ·rfl
variable {L:List Ob} {w:World} {ms:Blocks} {n k:Nat} {X:Nat->Prop} {u:Value} {C:List Prop}
theorem zis (_hr:Rel X ms L w) {x:AV} {f:Nat->AV} (h:elemsO L x=some (n,f,C)) (hk:k<=n) (hc:AllP C) (hu:AV.IsV (cxOf X ms L w) x u):∃ x' C' a cap,u = .slice a n cap/\elemsOf L x'=some (k,f,C')/\AllP C'/\AV.IsV (cxOf X ms L w) x' (.slice a k cap):=by
 unfold elemsO at h
 split at h
 ·cases h
  have hu':=IsV.is1 rfl sj sj hu
  cases hu' with
  | d _ _ hd =>
  obtain⟨a,cap,rfl,hle⟩:=z6j hd
  rename_i g
  refine⟨.d (.sl k g),[],a,cap,rfl,rfl,trivial,.one _ _ rfl (.d _ _ ?_)⟩
  cases hd with
  | slNil =>
   obtain rfl:k=0:=om
   exact .slNil _
  | slEmpty =>
   obtain rfl:k=0:=om
   exact .slEmpty _ _ _
  | sl _ _ b off cap sz arr cs h1 h2 hb hh hl hcs=>exact .sl _ _ b off cap sz arr cs om om hb (fun i hi=>hh i om) (fun i hi=>hl i om) (fun i hi=>hcs i om)
 ·cases h
  have hu':=IsV.is1 rfl sj sj hu
  cases hu' with
  | full _ _ a hd =>
  rename_i g
  refine⟨.d (.sl k g),[],a,_,rfl,rfl,trivial,.one _ _ rfl (.d _ _ ?_)⟩
  cases hd with
  | slNil =>
   obtain rfl:k=0:=om
   exact .slNil _
  | slEmpty =>
   obtain rfl:k=0:=om
   exact .slEmpty _ _ _
  | sl _ _ b off cap sz arr cs h1 h2 hb hh hl hcs=>exact .sl _ _ b off _ sz arr cs om om hb (fun i hi=>hh i om) (fun i hi=>hl i om) (fun i hi=>hcs i om)
 ·rename_i o st off n'
  split at h
  ·rename_i sz m g hL
   cases h
   have hu':=IsV.is1 rfl sj sj hu
   cases hu' with
   | ref _ _ _ _ _ hr' =>
   obtain⟨r1,⟨ra,rcap,rfl⟩,r3,r4⟩:=hr'
   refine⟨.ref o st off k,[m=st],ra,rcap,rfl,?_,hc,.one _ _ rfl (.ref _ _ _ _ _ ⟨r1,⟨_,_,rfl⟩,r3,fun sz' f' hL'=>?_⟩)⟩
   ·rw[zcj]; simp[elemsO,hL]
   ·obtain⟨q1,q2⟩:=r4 sz' f' hL'
    refine⟨om,?_⟩
    rcases q2 with ⟨q2,a',q3⟩ | ⟨q2,q3⟩ | ⟨b,tc,q2,q3,q4⟩
    ·cases q3
     obtain rfl:k=0:=om
     exact .inl ⟨q2,_,rfl⟩
    ·exact .inr (.inl ⟨q2,om⟩)
    ·cases q4
     exact .inr (.inr ⟨b,tc,q2,q3,rfl⟩)
  ·cases h
 ·cases h
variable {sz m:Nat}
theorem zbl {cap:Nat} {a:Option Addr}:Builtin.firstCells sz k (.slice a n cap)=Builtin.firstCells sz k (.slice a m cap):=by
 cases a <;> rfl
def eCopy (P:Program) (L:List Ob) (t:TypeId) (d x:AV):Option (AV×List Ob×List Prop) :=
 match elemInfo P t,d,elemsO L x with
 | some (_,i),.ref o st off n,some (m,g,C)=>match L[o]? with
  | some (.seq sz m' f)=>if i.size=sz then some (.d (.i .i64 ((min m n:Nat):Int)),L.set o (.seq sz m' fun j=>if off<=j/\j<off+min m n then g (j-off) else f j),C++[m'=st,∀ k,k<m->(g k).wd=sz]) else none
  | _=>none
 | _,_,_=>none
variable {P:Program} {L':List Ob} {G:GFr} {ch:Chain} {t:TypeId} {x:Operand} {xv av:AV}
theorem zmp {o:Oper} {d:Operand} {t':TypeId} {dv:AV} (ho:o.op = .call ⟨.builtin .copy,#[d,x],#[t,t']⟩) (hd:opnd G ch d=some dv) (hx:opnd G ch x=some xv) (h:eCopy P L t dv xv=some (av,L',C)) (hc:AllP C):OpOk P G ch L o av L':=by
 intro z zn X ms w a K Q hr hf hh hK
 unfold eCopy at h
 split at h
 ·rename_i elem i r st off n m g C' he hm
  split at h
  ·rename_i sz m' f hL
   split at h
   ·rename_i hsz
    cases h
    subst hsz
    obtain⟨hc1,hms,hwd,_⟩:=zd.1 hc
    subst hms
    obtain⟨hu,hi⟩:=z1s he
    have hsz:szOf P elem=some i.size:=by simp[szOf,hi]
    have hdv:=IsV.is1 rfl sj sj (zf hd hf hh)
    obtain⟨x',C2,sa,scap,e1,e2,e3,e4⟩:=zis hr hm (Nat.min_le_left m n) hc1 (zf hx hf hh)
    obtain⟨sa',scap',ks,e5,e6,e7,e8⟩:=z3c (P:=P) hr (sz:=i.size) e2 e3 e4 (fun k hk=>hwd k om)
    have hexec:∀ dw w',a.eval d=dw->(Builtin.copy_ #[t,t'] o.type #[dw,a.eval x]).run P w = .ok (.int .i64 ((min m n:Nat):Int)) w'->(execOp a.eval o).run P w = .ok (.value (.int .i64 ((min m n:Nat):Int))) w':=fun dw w' hde hv=>by
     obtain⟨dst,op,ty,pos,after,guard⟩:=o
     subst ho
     exact zx (s:=Builtin.copy_ #[t,t'] ty (#[d,x].map a.eval)) (by simpa [hde] using hv)
    generalize hse:a.eval d=u at hdv
    have hro:r<L.length:=by
     rcases yu r L.length with h' | h'
     ·exact h'
     ·rw[yf h'] at hL; cases hL
    cases hdv with
    | ref _ _ _ _ _ hx' =>
    obtain⟨h1,⟨ad,cap,rfl⟩,h0,h3⟩:=hx'
    have hfc:∀ w1:World,w1.heap=w.heap->(Builtin.firstCells i.size (min m n) (a.eval x)).run P w1 = .ok ((List.range (min m n)).flatMap ks).toArray w1:=fun w1 hw1=>by
     rw[e1,zbl (m:=min m n)]
     exact e8 w1 hw1
    have hlen:(Builtin.lenOf (a.eval x)).run P w = .ok m w:=by rw[e1]; simp[Builtin.lenOf]
    by_cases hn:min m n=0
    ·have hsame:(fun j=>if off<=j/\j<off+min m n then g (j-off) else f j)=f:=by
      funext j; rw[y6 om]
     rw[hsame,z9r hL] at hK
     refine OpOk.value (hexec _ w hse ?_) (hK _ ms w hr (Ext.refl _ _) (Cx.le.refl _) (z31 _ _))
     have hfc':=hfc w rfl
     rw[hn] at hfc'
     have hmn:(m.min n)=0:=hn
     cases ad <;> simp[Builtin.copy_,zl hu w,z19 hsz w,hlen,hmn,hfc',goInt,storeCells]
    ·obtain⟨hb,hcase⟩:=h3 i.size f hL
     rcases hcase with ⟨_,a',he'⟩ | ⟨_,he'⟩ | ⟨b,tc,hms,hle,he'⟩
     ·cases he'; omega
     ·omega
     ·cases he'
      obtain⟨arr,e,cs,g1,g2,g3,g4,g5,g6⟩:=hr.seq hL hms
      have hkl:=zb (min m n) i.size ks e7
      have hbl:off * i.size+((List.range (min m n)).flatMap ks).length<=arr.toList.length:=by
       rw[hkl,y22,g3,<- y28]
       exact yo i.size om
      obtain⟨w',r1,r2,r3,r4⟩:=z1r (P:=P) ((List.range (min m n)).flatMap ks) (off * i.size) 0 arr.toList w (by simpa using g1) om (z2r e6)
      obtain⟨q1,q2,q3⟩:=hr.setOb (w':=w') (obj':=.seq i.size m' fun j=>if off<=j/\j<off+min m n then g (j-off) else f j) hL hms r3 r4 rfl (fun s hs=>⟨s,hs,yc _⟩) (fun hcx=>by
       refine .inr ⟨b,tc,_,e,fun j=>if off<=j/\j<off+min m n then ks (j-off) else cs j,hms,r2,g2,⟨?_,z4b (hr.seqOne hL hms g1) (z2r e6)⟩,?_,?_,?_⟩
       ·have:(splice arr.toList (off * i.size+0) ((List.range (min m n)).flatMap ks)).length=arr.size:=by rw[z1k (by simpa using hbl)]; simp
        rw[y2l,this]; exact g3
       ·intro j hj
        by_cases hjo:off<=j/\j<off+min m n
        ·simp only[y7 hjo]
         exact (e6 (j-off) om).mono hcx
        ·simp only[y6 hjo]
         exact (g4 j hj).mono hcx
       ·intro j hj
        by_cases hjo:off<=j/\j<off+min m n
        ·simp only[y7 hjo]; exact e7 (j-off) om
        ·simp only[y6 hjo]; exact g5 j hj
       ·intro j hj q hq
        simp only[y2h,y43]
        rw[zt? hbl]
        by_cases hjo:off<=j/\j<off+min m n
        ·have k1:off * i.size<=j * i.size:=yo i.size hjo.1
         have k2:(j+1) * i.size<=(off+min m n) * i.size:=yo i.size om
         rw[y1r,y28] at k2
         rw[y7 (by rw[hkl]; omega)]
         simp only[y7 hjo]
         have k3:j * i.size+q-off * i.size=(j-off) * i.size+q:=by rw[Nat.sub_mul]; omega
         rw[k3]
         exact zi? (min m n) i.size ks e7 (j-off) q om hq
        ·rw[y6,y1e]
         ·simp only[y6 hjo]; exact g6 j hj q hq
         ·rw[hkl]
          intro ⟨q1,q2⟩
          rcases yu j off with hlt | hge
          ·have:(j+1) * i.size<=off * i.size:=yo i.size hlt
           rw[y1r] at this; omega
          ·have:(off+min m n) * i.size<=j * i.size:=yo i.size om
           rw[y28] at this; omega)
      refine OpOk.value (hexec _ w' hse ?_) (hK _ _ _ q1 q2 q3 (z31 _ _))
      have hfc':=hfc w rfl
      have hmn:(m.min n)=min m n:=rfl
      simp[Builtin.copy_,zl hu w,z19 hsz w,hlen,hmn,hfc',goInt,r1]
   ·cases h
  ·cases h
 ·cases h
def eAppPre (P:Program) (L:List Ob) (t:TypeId) (r st n:Nat) (x:AV):Option (AV×List Ob×List Prop) :=
 match elemInfo P t,elemsO L x,L[r]? with
 | some (_,i),some (m,g,C),some (.seq sz m' f) =>
  if i.size=sz then some (.ref r st 0 (n+m),L.set r (.seq sz m' fun j=>if n<=j/\j<n+m then g (j-n) else f j),C++[m'=st,n+m<=st,∀ k,k<m->(g k).wd=sz]) else none
 | _,_,_=>none
variable {st:Nat}
theorem zit {o:Oper} {s:Operand} {r:Nat} (ho:o.op = .call ⟨.builtin .append,#[s,x],#[t,t]⟩) (hs:opnd G ch s=some (.ref r st 0 n)) (hx:opnd G ch x=some xv) (h:eAppPre P L t r st n xv=some (av,L',C)) (hc:AllP C):OpOk P G ch L o av L':=by
 intro zz zn X ms w a K Q hr hf hh hK
 unfold eAppPre at h
 split at h
 ·rename_i elem i m g C' sz m' f he hm hL
  split at h
  ·rename_i hsz
   cases h
   subst hsz
   obtain⟨hc1,hms,hns,hwd,_⟩:=zd.1 hc
   subst hms
   obtain⟨hu,hi⟩:=z1s he
   have hsz:szOf P elem=some i.size:=by simp[szOf,hi]
   have hsr:=IsV.is1 rfl sj sj (zf hs hf hh)
   obtain⟨sa,scap,ks,e1,e6,e7,e8⟩:=z3c (P:=P) hr (sz:=i.size) ((zcj L xv).trans hm) hc1 (zf hx hf hh) hwd
   have hexec:∀ u v w',a.eval s=u->(Builtin.append_ #[t,t] o.type #[u,a.eval x]).run P w = .ok v w'->(execOp a.eval o).run P w = .ok (.value v) w':=fun u v w' hse hv=>by
    obtain⟨dst,op,ty,pos,after,guard⟩:=o
    subst ho
    exact zx (s:=Builtin.append_ #[t,t] ty (#[s,x].map a.eval)) (by simpa [hse] using hv)
   generalize hse:a.eval s=u at hsr
   cases hsr with
   | ref _ _ _ _ _ hrr =>
   obtain⟨r1,⟨ra,rcap,rfl⟩,r3,r4⟩:=hrr
   obtain⟨r5,r6⟩:=r4 i.size f hL
   by_cases hm0:m=0
   ·subst hm0
    have hsame:(fun j=>if n<=j/\j<n+0 then g (j-n) else f j)=f:=by
     funext j; rw[y6 om]
    rw[hsame,z9r hL] at hK
    have hcap:n<=rcap:=by
     rcases r6 with ⟨_,a',he'⟩ | ⟨h',_⟩ | ⟨b,tc,_,hle,he'⟩
     ·cases he'; exact yc _
     ·exact absurd rfl h'
     ·cases he'; omega
    have hrun:=z32 (P:=P) (w:=w) (ty:=o.type) (a:=ra) (n:=n) (cap:=rcap) (x:=a.eval x) hu hi ⟨_,_,e1⟩ hcap (fun w1 hw1=>by simpa using e8 w1 hw1)
    exact OpOk.value (hexec _ _ _ hse hrun) (hK _ ms w hr (Ext.refl _ _) (Cx.le.refl _) (.one _ _ rfl (.ref _ _ _ _ _ ⟨r1,⟨_,_,rfl⟩,r3,r4⟩)))
   ·rcases r6 with ⟨r7,a',he'⟩ | ⟨h',_⟩ | ⟨b,tc,hms,hle,he'⟩
    ·have:m'=0:=by
      rcases hr.obs r _ hL with ⟨_,h'⟩ | ⟨b',tc',arr',e',cs',h1',_⟩
      ·exact h'
      ·exact absurd (r7.symm.trans h1') sj
     omega
    ·exact absurd rfl h'
    ·simp only[y3f,Nat.zero_mul,Nat.sub_zero] at he'
     obtain⟨rfl,_,rfl⟩:=he'
     obtain⟨arr,e,cs,g1,g2,g3,g4,g5,g6⟩:=hr.seq hL hms
     have hkl:=zb m i.size ks e7
     have hbl:n * i.size+((List.range m).flatMap ks).length<=arr.toList.length:=by
      rw[hkl,y22,g3,<- y28]
      exact yo i.size om
     obtain⟨w',k1,k2,k3,k4⟩:=z1r (P:=P) ((List.range m).flatMap ks) (n * i.size) 0 arr.toList w (by simpa using g1) om (z2r e6)
     have hfit:n+m<=rcap:=om
     have hrun:(Builtin.append_ #[t,t] o.type #[.slice (some ⟨b,0,none⟩) n rcap,a.eval x]).run P w = .ok (.slice (some ⟨b,0,none⟩) (n+m) rcap) w':=by
      have h4':=e8 w rfl
      rw[e1] at h4' |-
      simp[Builtin.append_,zl hu,z19 hsz,Builtin.lenOf,hfit,h4',z22,k1]
     obtain⟨q1,q2,q3⟩:=hr.setOb (w':=w') (obj':=.seq i.size m' fun j=>if n<=j/\j<n+m then g (j-n) else f j) hL hms k3 k4 rfl (fun s hs=>⟨s,hs,yc _⟩) (fun hcx=>by
      refine .inr ⟨b,rcap,_,e,fun j=>if n<=j/\j<n+m then ks (j-n) else cs j,hms,k2,g2,⟨?_,z4b (hr.seqOne hL hms g1) (z2r e6)⟩,?_,?_,?_⟩
      ·have:(splice arr.toList (n * i.size+0) ((List.range m).flatMap ks)).length=arr.size:=by rw[z1k (by simpa using hbl)]; simp
       rw[y2l,this]; exact g3
      ·intro j hj
       by_cases hjo:n<=j/\j<n+m
       ·simp only[y7 hjo]
        exact (e6 (j-n) om).mono hcx
       ·simp only[y6 hjo]
        exact (g4 j hj).mono hcx
      ·intro j hj
       by_cases hjo:n<=j/\j<n+m
       ·simp only[y7 hjo]; exact e7 (j-n) om
       ·simp only[y6 hjo]; exact g5 j hj
      ·intro j hj q hq
       simp only[y2h,y43]
       rw[zt? hbl]
       by_cases hjo:n<=j/\j<n+m
       ·have k1:n * i.size<=j * i.size:=yo i.size hjo.1
        have k2:(j+1) * i.size<=(n+m) * i.size:=yo i.size om
        rw[y1r,y28] at k2
        rw[y7 (by rw[hkl]; omega)]
        simp only[y7 hjo]
        have k3:j * i.size+q-n * i.size=(j-n) * i.size+q:=by rw[Nat.sub_mul]; omega
        rw[k3]
        exact zi? m i.size ks e7 (j-n) q om hq
       ·rw[y6,y1e]
        ·simp only[y6 hjo]; exact g6 j hj q hq
        ·rw[hkl]
         intro ⟨q1,q2⟩
         rcases yu j n with hlt | hge
         ·have:(j+1) * i.size<=n * i.size:=yo i.size hlt
          rw[y1r] at this; omega
         ·have:(n+m) * i.size<=j * i.size:=yo i.size om
          rw[y28] at this; omega)
     have hro:r<L.length:=r1
     refine OpOk.value (hexec _ _ _ hse hrun) (hK _ _ _ q1 q2 q3 (.one _ _ rfl (.ref _ _ _ _ _ ⟨by simpa [cxOf] using hro,⟨_,_,rfl⟩,fun obj s' ho' hs'=>?_,fun sz' f' hL'=>⟨om,.inr (.inr ⟨b,rcap,hms,g2,sj⟩)⟩⟩)))
     simp only[cxOf] at ho'
     rw[y16 hro] at ho'
     cases ho'
     simp[Ob.stamp] at hs'; omega
  ·cases h
 ·cases h
mutual
def DV.flat:DV->Bool
 | .b _ | .i _ _ | .str _=>true
 | .agg fs=>DV.flatL fs
 | _=>false
def DV.flatL:List DV->Bool
 | []=>true
 | x :: r=>x.flat&&DV.flatL r
end
def leafy:Value->Bool
 | .bool _ | .int _ _ | .string _=>true
 | _=>false
mutual
theorem DV.Is.flat {M M':Mem}:∀ {x:DV} {cs cs':List Value},DV.Is M x cs->DV.Is M' x cs'->x.flat=true->cs=cs'/\∀ v∈cs,leafy v=true
 | _,_,_,.b x,h,_=>by cases h; exact⟨rfl,fun v hv=>by simp at hv; subst hv; rfl⟩
 | _,_,_,.i k n,h,_=>by cases h; exact⟨rfl,fun v hv=>by simp at hv; subst hv; rfl⟩
 | _,_,_,.str l,h,_=>by cases h; exact⟨rfl,fun v hv=>by simp at hv; subst hv; rfl⟩
 | _,_,_,.lit v _,_,hf=>by simp[DV.flat] at hf
 | _,_,_,.agg fs cs hl,h,hf=>by
  cases h with
  | agg _ _ hl'=>exact DV.IsL.flat hl hl' (by simpa [DV.flat] using hf)
 | _,_,_,.arr ..,_,hf=>by simp[DV.flat] at hf
 | _,_,_,.slNil _,_,hf=>by simp[DV.flat] at hf
 | _,_,_,.slEmpty ..,_,hf=>by simp[DV.flat] at hf
 | _,_,_,.sl ..,_,hf=>by simp[DV.flat] at hf
theorem DV.IsL.flat {M M':Mem}:∀ {xs:List DV} {cs cs':List Value},DV.IsL M xs cs->DV.IsL M' xs cs'->DV.flatL xs=true->cs=cs'/\∀ v∈cs,leafy v=true
 | _,_,_,.nil,h,_=>by cases h; exact⟨rfl,fun v hv=>by cases hv⟩
 | _,_,_,.cons x xs c cs h1 h2,h,hf=>by
  cases h with
  | cons _ _ c' cs' k1 k2 =>
   simp only[DV.flatL,ya] at hf
   obtain⟨rfl,p1⟩:=DV.Is.flat h1 k1 hf.1
   obtain⟨rfl,p2⟩:=DV.IsL.flat h2 k2 hf.2
   exact⟨rfl,fun v hv=>(y1c.1 hv).elim (p1 v) (p2 v)⟩
end
theorem z7y {v:Value} (h:leafy v=true) (n:Nat):Instr.sameBits n v v=true:=by
 cases v <;> simp_all [leafy,Instr.sameBits,MapKept.bytes_beq]
variable {c c':Cx}
theorem ziu {x:DV} {v:Value} (hf:x.flat=true) (hu:AV.IsV c (.d x) u) (hv:AV.IsV c' (.d x) v):u=v/\Instr.sameBits 10000 u v=true:=by
 by_cases ha:(AV.d x).isAgg=true
 ·obtain⟨cs,rfl,hcs⟩:=IsV.is ha hu
  obtain⟨ks,rfl,hks⟩:=IsV.is ha hv
  cases hcs with
  | d _ _ hcs =>
  cases hks with
  | d _ _ hks =>
  obtain⟨rfl,hl⟩:=DV.Is.flat hcs hks hf
  refine⟨rfl,?_⟩
  show ((cs.toArray.size==cs.toArray.size)&&_)=true
  simp only[y3s,y1m]
  rw[y18]
  rintro⟨a,b⟩ hab
  have:a=b/\a∈cs:=by
   clear hl hcs hks hu hv
   induction cs with
   | nil=>simp at hab
   | cons x r ih =>
    rcases yv.1 hab with e | e
    ·cases e; exact⟨rfl,y1a⟩
    ·exact⟨(ih e).1,ym _ (ih e).2⟩
  obtain⟨rfl,hm⟩:=this
  exact z7y (hl a hm) _
 ·have hu':=IsV.is1 (by simpa using ha) sj sj hu
  have hv':=IsV.is1 (by simpa using ha) sj sj hv
  cases hu' with
  | d _ _ hu' =>
  cases hv' with
  | d _ _ hv' =>
  obtain⟨e,hl⟩:=DV.Is.flat hu' hv' hf
  cases e
  exact⟨rfl,z7y (hl u sj) _⟩
theorem z4c {P:Program} {w:World} {c:Cx} {em:Bool}:∀ (n d:Nat) (t:TypeId) (x:DV) (r:Bool) (u:Value),eqD P n t x x=some r->n<=d->AV.IsV c (.d x) u ->
  (Instr.checkKey em d t u).run P w = .ok () w
 | 0,d,t,x,r,u,h,_,_=>by simp[eqD] at h
 | n+1,0,t,x,r,u,h,hd,_=>om
 | n+1,d+1,t,x,r,u,h,hd,hu=>by
  unfold eqD at h
  split at h
  ·rename_i hty
   split at h
   ·rw[IsV.b hu]; simp[Instr.checkKey,run_underlying hty]
   ·cases h
  ·rename_i hty
   split at h
   ·rw[IsV.i hu]; simp[Instr.checkKey,run_underlying hty]
   ·cases h
  ·rename_i hty
   split at h
   ·rw[IsV.str hu]; simp[Instr.checkKey,run_underlying hty]
   ·cases h
  ·rename_i fs hty
   split at h
   ·rename_i xs ys
    split at h
    ·cases h
    ·rename_i hxs hst
     obtain⟨cs,rfl,hcs⟩:=IsV.is rfl hu
     rw[Instr.checkKey]
     simp only[y14,y2t hty,yp]
     rw[<- Array.forIn_toList]
     generalize fs.toList=l at h
     generalize 0=i at h
     clear hty
     induction l generalizing i r with
     | nil=>simp
     | cons f l ih =>
      simp only[eqFs] at h
      split at h
      ·cases h
      ·rename_i hname
       split at h
       ·rename_i x y hx hy
        split at h
        ·rename_i b hb
         split at h
         ·rename_i c' hc'
          cases h
          obtain⟨v1,p1,q1⟩:=z6k (P:=P) (w:=w) hx hcs
          have hxy:x=y:=by rw[hx] at hy; exact y15 hy
          subst hxy
          have e:=z4c (w:=w) (em:=em) n d f.type x b v1 hb om q1
          have ihh:=ih _ _ hc'
          simp only[List.forIn_cons,y14,hname,ne_eq,not_false_eq_true,y3h,yp,p1,e,y2d]
          exact ihh
         ·cases h
        ·cases h
       ·cases h
   ·cases h
  ·cases h
variable {α β:Type} {eK:α->DV} {eV:β->DV} {ents:List MapEntry} {l:List (α×β)}
section
variable {α β:Type} [BEq α]
def mget (l:List (α×β)) (k:α) (z:β):β:=match l.find? (fun p=>k==p.1) with
 | some p=>p.2
 | none=>z
def midx (l:List (α×β)) (k:α):Nat:=l.findIdx (fun p=>k==p.1)
def ment (l:List (α×β)) (k:α) (z:β):List (α×β):=if l.any (fun p=>k==p.1) then l else l++[(k,z)]
def msto (l:List (α×β)) (i:Nat) (v:β):List (α×β):=l.modify i fun p=>(p.1,v)
def eM (eK:α->DV) (eV:β->DV) (l:List (α×β)):Ob:=.map (l.map fun p=>(eK p.1,eV p.2))
theorem EntsIs.get:∀ {es:List (DV×DV)} {r:List MapEntry} {i:Nat} {p:DV×DV},EntsIs c es r->es[i]? = some p->∃ e,r[i]? = some e/\AV.IsV c (.d p.1) e.key/\AV.IsV c (.d p.2) e.val
 | (_,_) :: _,e :: _,0,_,h,hp=>by simp at hp; subst hp; exact⟨e,rfl,h.1,h.2.1⟩
 | (_,_) :: es,_ :: r,i+1,_,h,hp=>EntsIs.get (es:=es) (r:=r) h.2.2 hp
 | [],_,_,_,_,hp=>by simp at hp
 | _ :: _,[],_,_,h,_=>h.elim
theorem EntsIs.of_get:∀ {es:List (DV×DV)} {r:List MapEntry},r.length=es.length->(∀ (i:Nat) (p:DV×DV) (e:MapEntry),es[i]? = some p->r[i]? = some e->AV.IsV c (.d p.1) e.key/\AV.IsV c (.d p.2) e.val)->EntsIs c es r
 | [],[],_,_=>trivial
 | (_,_) :: es,e :: r,hl,h=>⟨(h 0 _ e rfl rfl).1,(h 0 _ e rfl rfl).2,EntsIs.of_get (by simpa using hl) (fun i p e h1 h2=>h (i+1) p e (by simpa using h1) (by simpa using h2))⟩
 | [],_ :: _,hl,_=>by simp at hl
 | _ :: _,[],hl,_=>by simp at hl
def Found (l:List (α×β)) (ents:List MapEntry) (k:α) (i:Nat) (q:Option (Nat×Value)):Prop :=
 (q=none/\l.any (fun p=>k==p.1)=false)\/∃ p e,q=some (i+midx l k,e.val)/\l[midx l k]? = some p/\ents[midx l k]? = some e/\(k==p.1)=true
theorem z6s {P:Program} {w:World} {kt:TypeId} {d:TypeDesc} {k:Value} (hd:P.underlying kt=some d):∀ (es:List MapEntry) (i:Nat) (q:Option (Nat×Value)),Instr.findNow d k es i=some q ->
  (Instr.findAsking kt k es i).run P w = .ok q w
 | [],i,q,h=>by simp[Instr.findNow] at h; subst h; simp[Instr.findAsking]
 | e :: es,i,q,h=>by
  simp only[Instr.findNow] at h
  have he:∀ b,Instr.sameNow d k e.key=some b->(Op.equal kt k e.key).run P w = .ok b w:=by
   intro b hb
   unfold Instr.sameNow at hb
   split at hb
   ·split at hb
    ·rename_i hk
     cases hb; subst hk
     rename_i hek
     rw[hek]
     exact run_equalIn_int w 9999 _ _ _ _ _ hd
    ·cases hb
   ·rename_i a b hek
    rw[hek]
    cases hb
    refine (run_equalIn_string w 9999 kt (P:=P) a b hd).trans ?_
    congr 1
    rw[beq_toListBytes]
   ·rename_i hek
    rw[hek]
    cases hb; exact run_equalIn_bool w 9999 _ _ _ hd
   ·cases hb
  cases hs:Instr.sameNow d k e.key with
  | none=>simp[hs] at h
  | some b =>
   simp only[hs] at h
   cases b with
   | true=>simp at h; subst h; simp[Instr.findAsking,he true hs]
   | false=>simp only at h; simp[Instr.findAsking,he false hs,z6s hd es (i+1) q h]
theorem z6t {P:Program} {w:World} {c:Cx} {kt:TypeId} {eK:α->DV} {eV:β->DV} {k:α} {uk:Value} (heq:∀ a b:α,eqD P 8 kt (eK a) (eK b)=some (a==b)) (hk:AV.IsV c (.d (eK k)) uk) :
  ∀ (l:List (α×β)) (ents:List MapEntry) (i:Nat),EntsIs c (l.map fun p=>(eK p.1,eV p.2)) ents->∃ q,(Instr.findAsking kt uk ents i).run P w = .ok q w/\Found l ents k i q
 | [],[],i,_=>⟨none,by simp[Instr.findAsking],.inl ⟨rfl,rfl⟩⟩
 | p :: l,e :: ents,i,h=>by
  obtain⟨h1,h2,h3⟩:=h
  have he:(Op.equal kt uk e.key).run P w = .ok (k==p.1) w:=z8t 8 10000 kt _ _ _ _ _ (heq k p.1) om hk h1
  cases hb:k==p.1 with
  | true =>
   rw[hb] at he
   exact⟨some (i,e.val),by simp[Instr.findAsking,he],.inr ⟨p,e,by simp[midx,List.findIdx_cons,hb],by simp[midx,List.findIdx_cons,hb],by simp[midx,List.findIdx_cons,hb],hb⟩⟩
  | false =>
   rw[hb] at he
   obtain⟨q,hq,hf⟩:=z6t (w:=w) heq hk l ents (i+1) h3
   refine⟨q,by simp[Instr.findAsking,he,hq],?_⟩
   rcases hf with ⟨rfl,hn⟩ | ⟨p',e',rfl,g1,g2,g3⟩
   ·exact .inl ⟨rfl,by simp only[y4b,hb,y3o]; exact hn⟩
   ·exact .inr ⟨p',e',by simp[midx,List.findIdx_cons,hb]; omega,by simpa [midx,List.findIdx_cons,hb] using g1,by simpa [midx,List.findIdx_cons,hb] using g2,g3⟩
 | [],_ :: _,_,h=>h.elim
 | _ :: _,[],_,h=>h.elim
theorem z6m {kt:TypeId} {eK:α->DV} {eV:β->DV} {k:α} {uk:Value} (heq:∀ a b:α,eqD P 8 kt (eK a) (eK b)=some (a==b)) (hk:AV.IsV c (.d (eK k)) uk) {l:List (α×β)} (h:EntsIs c (l.map fun p=>(eK p.1,eV p.2)) ents):∃ q,(Instr.findKey kt uk ents).run P w = .ok q w/\Found l ents k 0 q:=by
 obtain⟨q,hq,hf⟩:=z6t (w:=w) heq hk l ents 0 h
 refine⟨q,?_,hf⟩
 have hu:∃ d,P.underlying kt=some d:=by
  have:=heq k k
  unfold eqD at this
  split at this <;> first | exact⟨_,‹_›⟩ | cases this
 obtain⟨d,hd⟩:=hu
 unfold Instr.findKey
 simp only[y14,y2t hd,yp]
 cases hn:Instr.findNow d uk ents 0 with
 | none=>simpa using hq
 | some q' =>
  have:=z6s (w:=w) hd ents 0 q' hn
  rw[hq] at this
  cases this
  simp
theorem zh4 {l:List (α×β)} {k:α} {z:β} {p:α×β} (h:l[midx l k]? = some p):mget l k z=p.2:=by
 unfold mget
 unfold midx at h
 have hlt:l.findIdx (fun p=>k==p.1)<l.length:=by
  rcases yu (l.findIdx fun p=>k==p.1) l.length with h' | h'
  ·exact h'
  ·rw[yf h'] at h; cases h
 rw[List.find?_eq_getElem?_findIdx,h]
theorem ziv {l:List (α×β)} {k:α} {z:β} (h:l.any (fun p=>k==p.1)=false):mget l k z=z:=by
 unfold mget
 have:l.find? (fun p=>k==p.1)=none:=by
  rw[List.find?_eq_none]
  intro p hp
  rw[y30] at h
  exact h p hp
 rw[this]
theorem zck {l:List (α×β)} {k:α} (h:l.any (fun p=>k==p.1)=false):midx l k=l.length:=by
 unfold midx
 rw[y52]
 intro p hp
 rw[y30] at h
 simpa using h p hp
theorem z81 {l:List (α×β)} {k:α} {p:α×β} (h:l[midx l k]? = some p) (hk:(k==p.1)=true):l.any (fun p=>k==p.1)=true :=
 y1o.2 ⟨p,y33 h,hk⟩
end
def LookOk (P:Program) (L:List Ob) (t:TypeId) (x k:AV) (ok:Bool) (v:AV):Prop :=
 ∀ (X:Nat->Prop) (ms:Blocks) (w:World) (ux uk:Value),Rel X ms L w->AV.IsV (cxOf X ms L w) x ux->AV.IsV (cxOf X ms L w) k uk ->
  ∃ r,(Instr.lookup t ux uk ok).run P w = .ok r w/\AV.IsV (cxOf X ms L w) v r
def EntOk (P:Program) (L:List Ob) (t:TypeId) (m k v:AV) (L':List Ob):Prop :=
 ∀ (X:Nat->Prop) (ms:Blocks) (w:World) (um uk:Value),Rel X ms L w->AV.IsV (cxOf X ms L w) m um->AV.IsV (cxOf X ms L w) k uk ->
  ∃ r w',(Instr.mapEntry t um uk).run P w = .ok r w'/\Rel X ms L' w'/\Ext ms w ms w'/\(cxOf X ms L w).le (cxOf X ms L' w')/\AV.IsV (cxOf X ms L' w') v r
def StoOk (P:Program) (L:List Ob) (t:TypeId) (m s x:AV) (L':List Ob):Prop :=
 ∀ (X:Nat->Prop) (ms:Blocks) (w:World) (um us ux:Value),Rel X ms L w->AV.IsV (cxOf X ms L w) m um->AV.IsV (cxOf X ms L w) s us->AV.IsV (cxOf X ms L w) x ux ->
  ∃ w',(Instr.entryStore t um us ux).run P w = .ok () w'/\Rel X ms L' w'/\Ext ms w ms w'/\(cxOf X ms L w).le (cxOf X ms L' w')
def UpdOk (P:Program) (L:List Ob) (t:TypeId) (m k x:AV) (L':List Ob):Prop :=
 ∀ (X:Nat->Prop) (ms:Blocks) (w:World) (um uk ux:Value),Rel X ms L w->AV.IsV (cxOf X ms L w) m um->AV.IsV (cxOf X ms L w) k uk->AV.IsV (cxOf X ms L w) x ux ->
  ∃ w',(Instr.mapUpdate t um uk ux).run P w = .ok () w'/\Rel X ms L' w'/\Ext ms w ms w'/\(cxOf X ms L w).le (cxOf X ms L' w')
variable {o:Nat} {es:List (DV×DV)}
theorem Rel.mapOf (h:Rel X ms L w) (hL:L[o]? = some (.map es)) (hu:AV.IsV (cxOf X ms L w) (.map o) u) :
  ∃ b tc ents clock,u = .map (some b)/\ms[o]? = some (some (b,tc))/\w.heap[b]? = some (.map ents clock)/\EntsIs (cxOf X ms L w) es ents.toList/\Born es.length clock ents.toList:=by
 have h1:=IsV.is1 rfl sj sj hu
 cases h1 with
 | map _ _ hm =>
 obtain⟨_,_,hm⟩:=hm
 obtain⟨b,tc,hm',rfl⟩:=hm _ hL rfl
 obtain⟨ents,clock,k1,k2,k3⟩:=h.mapAt hL hm'
 exact⟨b,tc,ents,clock,rfl,hm',k1,k2,k3⟩
variable {i b clock:Nat}
section
variable {α β:Type} [BEq α] {P:Program} {L:List Ob} {t kt et:TypeId} {o:Nat} {eK:α->DV} {eV:β->DV} {l:List (α×β)}
theorem zam {ents:Array MapEntry} (h:w.heap[b]? = some (.map ents clock)):(getObj b).run P w = .ok (.map ents clock) w:=by simp[getObj,Sem.run,h]
theorem z5e {ents:Array MapEntry} (ob:Obj) (h:w.heap[b]? = some (.map ents clock)) :
  (setObj b ob).run P w = .ok () { w with heap:=w.heap.setIfInBounds b ob }:=by
 simp[setObj,Sem.run,h]
theorem Rel.setMap (h:Rel X ms L w) {es':List (DV×DV)} {tc:Nat} {ents ents':Array MapEntry} {clock':Nat} (hL:L[o]? = some (.map es)) (hm:ms[o]? = some (some (b,tc))) (hb:w.heap[b]? = some (.map ents clock)) (hi:∀ c,(cxOf X ms L w).le c->EntsIs c es' ents'.toList) (hbo:Born es'.length clock' ents'.toList) :
  Rel X ms (L.set o (.map es')) { w with heap:=w.heap.setIfInBounds b (.map ents' clock') }/\Ext ms w ms { w with heap:=w.heap.setIfInBounds b (.map ents' clock') } /\
   (cxOf X ms L w).le (cxOf X ms (L.set o (.map es')) { w with heap:=w.heap.setIfInBounds b (.map ents' clock') }):=by
 obtain⟨k1,k2,k3⟩:=h.setOb (w':={ w with heap:=w.heap.setIfInBounds b (.map ents' clock') }) (obj':=.map es') hL hm sj ⟨⟨rfl,rfl,rfl⟩,fun b' hne=>by simp[Ne.symm hne]⟩
  rfl (fun s hs=>⟨s,hs,yc _⟩) (fun hc=>⟨b,tc,ents',clock',by simpa [cxOf] using hm,by simp[z49 hb],hi _ hc,hbo⟩)
 exact⟨k1,k2,k3⟩
theorem ze5 (hc:c.le c') (h:EntsIs c es ents) {p:DV×DV} (hp:es[i]? = some p) {v:DV} (hv:AV.IsV c' (.d v) u) :
  EntsIs c' (es.set i (p.1,v)) (ents.modify i fun e=>{ e with val:=u }):=by
 refine EntsIs.of_get (by simp[h.length]) (fun j q e hq he=>?_)
 rw[y42] at he
 by_cases hij:i=j
 ·subst hij
  have hlt:i<es.length:=by
   rcases yu i es.length with h' | h'
   ·exact h'
   ·rw[yf h'] at hp; cases hp
  rw[y16 hlt] at hq
  cases hq
  obtain⟨e0,k1,k2,k3⟩:=EntsIs.get h hp
  rw[k1] at he
  simp at he
  subst he
  exact⟨k2.mono hc,hv⟩
 ·rw[y1d hij] at hq
  obtain⟨e0,k1,k2,k3⟩:=EntsIs.get h hq
  rw[k1] at he
  simp[hij] at he
  subst he
  exact⟨k2.mono hc,k3.mono hc⟩
theorem ze6 (hc:c.le c') (h:EntsIs c es ents) {p:DV×DV} {e:MapEntry} (h1:AV.IsV c' (.d p.1) e.key) (h2:AV.IsV c' (.d p.2) e.val) :
  EntsIs c' (es++[p]) (ents++[e]):=by
 have hl:=h.length
 refine EntsIs.of_get (by simp[hl]) (fun j q e' hq he=>?_)
 rcases getElem?_snoc hq with hq' | ⟨rfl,rfl⟩
 ·obtain⟨e0,k1,k2,k3⟩:=EntsIs.get h hq'
  have:j<ents.length:=by
   rcases yu j ents.length with h' | h'
   ·exact h'
   ·rw[yf h'] at k1; cases k1
  rw[yq this,k1] at he
  cases he
  exact⟨k2.mono hc,k3.mono hc⟩
 ·rw[<- hl] at he
  simp at he
  subst he
  exact⟨h1,h2⟩
theorem map_set {γ δ:Type} (f:γ->δ):∀ (l:List γ) (i:Nat) (g:γ->γ) (p:γ),l[i]? = some p->(l.modify i g).map f=(l.map f).set i (f (g p))
 | [],i,g,p,h=>by simp at h
 | x :: l,0,g,p,h=>by simp at h; subst h; rfl
 | x :: l,i+1,g,p,h=>by simp[map_set f l i g p (by simpa using h)]
def mupd (l:List (α×β)) (k:α) (v:β):List (α×β):=msto (ment l k v) (midx l k) v
theorem zan {k:α} {v:β} (h:l.any (fun p=>k==p.1)=true):mupd l k v=l.modify (midx l k) fun p=>(p.1,v):=by
 unfold mupd msto ment
 rw[y7 h]
theorem zcl {k:α} {v:β} (h:l.any (fun p=>k==p.1)=false):mupd l k v=l++[(k,v)]:=by
 unfold mupd msto ment
 rw[y6 (by simp[h]),zck h]
 apply y2y
 intro j
 rw[y42]
 by_cases hj:l.length=j
 ·subst hj; simp
 ·simp[hj]
theorem znu [LawfulBEq α] {k:α} {v:β} (hu:P.underlying t=some (.map kt et)) (hL:L[o]? = some (eM eK eV l)) (heq:∀ a b:α,eqD P 8 kt (eK a) (eK b)=some (a==b)) (hfl:(eK k).flat=true) :
  UpdOk P L t (.map o) (.d (eK k)) (.d (eV v)) (L.set o (eM eK eV (mupd l k v))):=by
 intro X ms w ux uk uv hr hx hk hv
 obtain⟨b,tc,ents,clock,rfl,h1,h2,h3,h4⟩:=hr.mapOf hL hx
 obtain⟨q,hq,hf⟩:=z6m (w:=w) heq hk h3
 have hck:(Instr.checkKey false 10000 kt uk).run P w = .ok () w:=z4c 8 10000 kt _ _ _ (heq k k) dk hk
 have hg:=zam (P:=P) h2
 rcases hf with ⟨rfl,hn⟩ | ⟨p,e,rfl,g1,g2,g3⟩
 ·have hcl:clock=l.length:=by simpa using h4.1
  obtain⟨r1,r2,r3⟩:=hr.setMap (es':=(mupd l k v).map fun p=>(eK p.1,eV p.2)) (ents':=ents.push { key:=uk,val:=uv,born:=clock }) (clock':=clock+1) hL h1 h2
   (fun c hc=>by
    rw[zcl hn]
    simp only[y37,y2n,List.map_nil,Array.toList_push]
    exact ze6 hc h3 (hk.mono hc) (hv.mono hc))
   (by
    rw[zcl hn]
    simp only[y1q,yb,yd,Array.toList_push]
    refine⟨om,fun i e he=>?_⟩
    rcases getElem?_snoc he with he | ⟨rfl,rfl⟩
    ·exact h4.2 i e he
    ·simp only[y22]; rw[hcl]; have:=h3.length; simp only[y1q] at this; rw[<- this]; simp)
  refine⟨_,?_,r1,r2,r3⟩
  simp[Instr.mapUpdate,run_underlying hu,hg,hck,hq,z5e _ h2]
 ·obtain⟨e',k1,k2,k3⟩:=EntsIs.get h3 (i:=midx l k) (p:=(eK p.1,eV p.2)) (by simp[g1])
  rw[g2] at k1
  cases k1
  have hkp:k=p.1:=eq_of_beq g3
  rw[<- hkp] at k2
  obtain⟨hsame,hbits⟩:=ziu hfl k2 hk
  have hkt:(Instr.keyThatStays e.key uk).run P w = .ok e.key w:=by
   subst hsame
   simp[Instr.keyThatStays,hbits]
  have hi:ents[midx l k]? = some e:=by rw[<- y1e]; exact g2
  have hmod:(ents.toList.modify (midx l k) fun x=>{ x with key:=e.key,val:=uv })=ents.toList.modify (midx l k) fun x=>{ x with val:=uv }:=by
   apply y2y
   intro j
   rw[y42,y42]
   by_cases hj:midx l k=j
   ·subst hj; simp[g2]
   ·simp[hj]
  obtain⟨r1,r2,r3⟩:=hr.setMap (es':=(mupd l k v).map fun p=>(eK p.1,eV p.2)) (ents':=ents.modify (midx l k) fun x=>{ x with key:=e.key,val:=uv }) (clock':=clock) hL h1 h2
   (fun c hc=>by
    have:=ze5 hc h3 (i:=midx l k) (p:=(eK p.1,eV p.2)) (by simp[g1]) (hv.mono hc)
    rw[Array.toList_modify,hmod,zan (z81 g1 g3)]
    rw[map_set (fun p:α×β=>(eK p.1,eV p.2)) l _ _ p g1]
    exact this)
   (by
    rw[Array.toList_modify,hmod,zan (z81 g1 g3)]
    refine⟨by simpa using h4.1,fun j e he=>?_⟩
    rw[y42] at he
    cases hj:ents.toList[j]? with
    | none=>rw[hj] at he; simp at he
    | some e0 =>
     rw[hj] at he
     have:=h4.2 j e0 hj
     by_cases hij:midx l k=j
     ·simp[hij] at he; subst he; exact this
     ·simp[hij] at he; subst he; exact this)
  refine⟨_,?_,r1,r2,r3⟩
  simp[Instr.mapUpdate,run_underlying hu,hg,hck,hq,hi,hkt,z5e _ h2]
end
section
variable {α β:Type} [BEq α] {P:Program} {L:List Ob} {t:TypeId} {o:Nat} {eK:α->DV} {eV:β->DV} {l:List (α×β)}
end
def AV.isBot:AV->Prop
 | .bot=>True
 | _=>False
instance (v:AV):Decidable v.isBot:=by cases v <;> unfold AV.isBot <;> infer_instance
theorem zh5 {o:Oper} (ho:o.op = .makeMap t none):OpOk P G ch L o (.map L.length) (L++[.map []]):=by
 intro z zn X ms w a K Q hr hf hh hK
 obtain⟨h1,h2,h3⟩:=hr.push (w':=w.alloc (.map #[] 0)) (m:=some (w.heap.size,0)) (obj:=.map []) (Grow.alloc w _)
  (fun b tc e=>by cases e; exact⟨yc _,sj⟩)
  (fun hc=>⟨w.heap.size,0,#[],0,by simp[cxOf,<- hr.len],z2b w _,trivial,rfl,fun i e he=>by simp at he⟩)
 refine OpOk.value (u:=.map (some w.heap.size)) (w':=w.alloc (.map #[] 0)) ?_ (hK _ _ _ h1 h2 h3 (.one _ _ rfl (.map _ _ ⟨by simp[cxOf],rfl,fun _ _ _=>⟨w.heap.size,0,by simp[cxOf,<- hr.len],rfl⟩⟩)))
 obtain⟨dst,op,ty,pos,after,guard⟩:=o
 subst ho
 exact zx (by simp[Instr.makeMap])
variable {v kv:AV}
theorem zmq {o:Oper} {k:Operand} {ok:Bool} (ho:o.op = .lookup t x k ok) (hx:opnd G ch x=some xv) (hk:opnd G ch k=some kv) (h:LookOk P L t xv kv ok v):OpOk P G ch L o v L:=by
 intro z zn X ms w a K Q hr hf hh hK
 obtain⟨r,h1,h2⟩:=h X ms w _ _ hr (zf hx hf hh) (zf hk hf hh)
 refine OpOk.value (u:=r) (w':=w) ?_ (hK _ _ _ hr (Ext.refl _ _) (Cx.le.refl _) h2)
 obtain⟨dst,op,ty,pos,after,guard⟩:=o
 subst ho
 exact zx h1
variable {mv:AV}
theorem znv {o:Oper} {m k:Operand} (ho:o.op = .mapEntry t m k) (hm:opnd G ch m=some mv) (hk:opnd G ch k=some kv) (h:EntOk P L t mv kv v L'):OpOk P G ch L o v L':=by
 intro z zn X ms w a K Q hr hf hh hK
 obtain⟨r,w',h1,h2,h3,h4,h5⟩:=h X ms w _ _ hr (zf hm hf hh) (zf hk hf hh)
 refine OpOk.value (u:=r) (w':=w') ?_ (hK _ _ _ h2 h3 h4 h5)
 obtain⟨dst,op,ty,pos,after,guard⟩:=o
 subst ho
 exact zx h1
variable {w':World}
theorem zm9 {s:Sem Unit} (h:s.run P w = .ok () w'):(do s; pure .skip:Sem Next).run P w = .ok .skip w':=by
 simp[h]
variable {sv:AV}
theorem znw {o:Oper} {m s:Operand} (ho:o.op = .entryStore t m s x) (hm:opnd G ch m=some mv) (hs:opnd G ch s=some sv) (hx:opnd G ch x=some xv) (hv:v.isBot) (h:StoOk P L t mv sv xv L'):OpOk P G ch L o v L':=by
 intro z zn X ms w a K Q hr hf hh hK
 obtain⟨w',h1,h2,h3,h4⟩:=h X ms w _ _ _ hr (zf hm hf hh) (zf hs hf hh) (zf hx hf hh)
 cases v <;> simp[AV.isBot] at hv
 refine OpOk.skip (w':=w') ?_ (hK _ _ _ h2 h3 h4 (.bot _))
 obtain⟨dst,op,ty,pos,after,guard⟩:=o
 subst ho
 exact zm9 h1
theorem znx {o:Oper} {m s:Operand} (ho:o.op = .mapUpdate t m s x) (hm:opnd G ch m=some mv) (hs:opnd G ch s=some sv) (hx:opnd G ch x=some xv) (hv:v.isBot) (h:UpdOk P L t mv sv xv L'):OpOk P G ch L o v L':=by
 intro z zn X ms w a K Q hr hf hh hK
 obtain⟨w',h1,h2,h3,h4⟩:=h X ms w _ _ _ hr (zf hm hf hh) (zf hs hf hh) (zf hx hf hh)
 cases v <;> simp[AV.isBot] at hv
 refine OpOk.skip (w':=w') ?_ (hK _ _ _ h2 h3 h4 (.bot _))
 obtain⟨dst,op,ty,pos,after,guard⟩:=o
 subst ho
 exact zm9 h1
def runeAt (l:Y8) (p:Nat):Int:=((Utf8.decode ⟨l.toArray⟩ p).1:Int)
def widAt (l:Y8) (p:Nat):Nat:=(Utf8.decode ⟨l.toArray⟩ p).2
def rangeStr (P:Program) (L:List Ob) (t:TypeId):AV->Option (AV×List Ob)
 | .d (.str l)=>match P.underlying t with
  | some .string=>some (.ptr L.length 0 [],L++[.ex (.stringIter ⟨l.toArray⟩ 0)])
  | _=>none
 | _=>none
theorem zfm {o:Oper} {r:AV×List Ob} (ho:o.op = .range t x) (hx:opnd G ch x=some xv) (h:rangeStr P L t xv=some r) :
  OpOk P G ch L o r.1 r.2:=by
 intro z zn X ms w a K Q hr hf hh hK
 unfold rangeStr at h
 split at h
 ·rename_i l
  split at h
  ·rename_i hu
   cases h
   obtain⟨h1,h2,h3⟩:=hr.push (w':=w.alloc (.stringIter ⟨l.toArray⟩ 0)) (m:=some (w.heap.size,0)) (obj:=.ex (.stringIter ⟨l.toArray⟩ 0)) (Grow.alloc w _)
    (fun b tc e=>by cases e; exact⟨yc _,sj⟩)
    (fun hc=>⟨w.heap.size,0,by simp[cxOf,<- hr.len],z2b w _⟩)
   refine OpOk.value (u:=.pointer (some ⟨w.heap.size,0,none⟩)) (w':=w.alloc (.stringIter ⟨l.toArray⟩ 0)) ?_ (hK _ _ _ h1 h2 h3 (.one _ _ rfl (.ptr _ _ _ _
    ⟨by simp[cxOf],⟨_,rfl⟩,fun _ _ _ _=>y36 _,fun _ _ _=>⟨w.heap.size,0,by simp[cxOf,<- hr.len],rfl⟩⟩)))
   have e:=IsV.str (zf hx hf hh)
   obtain⟨dst,op,ty,pos,after,guard⟩:=o
   subst ho
   exact zx (by simp[Instr.range,e,run_underlying hu])
  ·cases h
 ·cases h
def NextOk (P:Program) (L:List Ob) (x v:AV) (L':List Ob):Prop :=
 ∀ (X:Nat->Prop) (ms:Blocks) (w:World) (ux:Value) (ty:TypeId),Rel X ms L w->AV.IsV (cxOf X ms L w) x ux ->
  ∃ r w',(Instr.next ux true ty).run P w = .ok r w'/\Rel X ms L' w'/\Ext ms w ms w'/\(cxOf X ms L w).le (cxOf X ms L' w')/\AV.IsV (cxOf X ms L' w') v r
theorem zmr {o:Oper} (ho:o.op = .next x true) (hx:opnd G ch x=some xv) (h:NextOk P L xv v L'):OpOk P G ch L o v L':=by
 intro z zn X ms w a K Q hr hf hh hK
 obtain⟨dst,op,ty,pos,after,guard⟩:=o
 subst ho
 obtain⟨r,w',h1,h2,h3,h4,h5⟩:=h X ms w _ ty hr (zf hx hf hh)
 exact OpOk.value (u:=r) (w':=w') (zx h1) (hK _ _ _ h2 h3 h4 h5)
theorem Rel.iterOf (h:Rel X ms L w) {x:Obj} (hL:L[o]? = some (.ex x)) (hu:AV.IsV (cxOf X ms L w) (.ptr o 0 []) u) :
  ∃ b tc,u = .pointer (some ⟨b,0,none⟩)/\ms[o]? = some (some (b,tc))/\w.heap[b]? = some x:=by
 have h1:=IsV.is1 rfl sj sj hu
 cases h1 with
 | ptr _ _ _ _ hp =>
 obtain⟨_,_,_,hp⟩:=hp
 obtain⟨b,tc,hm,rfl⟩:=hp _ hL rfl
 obtain⟨b',tc',k1,k2⟩:=h.obs o _ hL
 have e:=hm.symm.trans k1
 cases e
 exact⟨b,tc,rfl,hm,k2⟩
theorem ziw {l:Y8} {p:Nat} (hL:L[o]? = some (.ex (.stringIter ⟨l.toArray⟩ p))) (hp:p<l.length) :
  NextOk P L (.ptr o 0 []) (.tup [.d (.b true),.d (.i .i64 (p:Int)),.d (.i .i32 (runeAt l p))]) (L.set o (.ex (.stringIter ⟨l.toArray⟩ (p+widAt l p)))):=by
 intro X ms w ux ty hr hx
 obtain⟨b,tc,rfl,hm,hb⟩:=hr.iterOf hL hx
 obtain⟨k1,k2,k3⟩:=hr.setOb (w':={ w with heap:=w.heap.setIfInBounds b (.stringIter ⟨l.toArray⟩ (p+widAt l p)) }) (obj':=.ex (.stringIter ⟨l.toArray⟩ (p+widAt l p))) hL hm sj ⟨⟨rfl,rfl,rfl⟩,fun b' hne=>by simp[Ne.symm hne]⟩
  rfl (fun s hs=>⟨s,hs,yc _⟩) (fun hc=>⟨b,tc,by simpa [cxOf] using hm,by simp[z49 hb]⟩)
 refine⟨.tuple #[.bool true,.int .i64 (p:Int),.int .i32 (runeAt l p)],_,?_,k1,k2,k3,.tup _ [.bool true,.int .i64 (p:Int),.int .i32 (runeAt l p)] (.cons _ _ _ _ (z3o _) (.cons _ _ _ _ (z31 _ _) (.cons _ _ _ _ (z31 _ _) .nil)))⟩
 have hg:(getObj b).run P w = .ok (.stringIter ⟨l.toArray⟩ p) w:=by simp[getObj,Sem.run,hb]
 have hs:∀ ob,(setObj b ob).run P w = .ok () { w with heap:=w.heap.setIfInBounds b ob }:=fun ob=>by simp[setObj,Sem.run,hb]
 have hsz:p<(ByteArray.mk l.toArray).size:=by simpa [ByteArray.size] using hp
 simp[Instr.next,hg,hsz,hs,runeAt,widAt,goInt]
theorem zix {l:Y8} {p:Nat} (hL:L[o]? = some (.ex (.stringIter ⟨l.toArray⟩ p))) (hp:¬ p<l.length) :
  NextOk P L (.ptr o 0 []) (.tup [.d (.b false)]) L:=by
 intro X ms w ux ty hr hx
 obtain⟨b,tc,rfl,hm,hb⟩:=hr.iterOf hL hx
 refine⟨.tuple #[.bool false],w,?_,hr,Ext.refl _ _,Cx.le.refl _,.tup _ [.bool false] (.cons _ _ _ _ (z3o _) .nil)⟩
 have hg:(getObj b).run P w = .ok (.stringIter ⟨l.toArray⟩ p) w:=by simp[getObj,Sem.run,hb]
 have hsz:¬ p<(ByteArray.mk l.toArray).size:=by simpa [ByteArray.size] using hp
 simp[Instr.next,hg,hsz]
def eMd (eK:α->DV) (eV:β->DV) (l:List (α×β)):Ob:=.dmap (l.map fun p=>(eK p.1,eV p.2))
def mdel [BEq α] (l:List (α×β)) (k:α):List (α×β):=l.eraseIdx (midx l k)
def mapEs:Ob->Option (List (DV×DV))
 | .map es=>some es
 | .dmap es=>some es
 | _=>none
def DelOk (P:Program) (L:List Ob) (t:TypeId) (m k v:AV) (L':List Ob):Prop :=
 ∀ (X:Nat->Prop) (ms:Blocks) (w:World) (um uk:Value) (ts:Array TypeId) (ty:TypeId),ts[0]? = some t->Rel X ms L w->AV.IsV (cxOf X ms L w) m um->AV.IsV (cxOf X ms L w) k uk ->
  ∃ r w',(Builtin.delete_ ts ty #[um,uk]).run P w = .ok r w'/\Rel X ms L' w'/\Ext ms w ms w'/\(cxOf X ms L w).le (cxOf X ms L' w')/\AV.IsV (cxOf X ms L' w') v r
variable {ts:Array TypeId}
theorem zny {o:Oper} {m k:Operand} (ho:o.op = .call ⟨.builtin .delete,#[m,k],ts⟩) (ht:ts[0]? = some t) (hm:opnd G ch m=some mv) (hk:opnd G ch k=some kv) (h:DelOk P L t mv kv v L'):OpOk P G ch L o v L':=by
 intro z zn X ms w a K Q hr hf hh hK
 obtain⟨dst,op,ty,pos,after,guard⟩:=o
 subst ho
 obtain⟨r,w',h1,h2,h3,h4,h5⟩:=h X ms w _ _ ts ty ht hr (zf hm hf hh) (zf hk hf hh)
 refine OpOk.value (u:=r) (w':=w') ?_ (hK _ _ _ h2 h3 h4 h5)
 show (do let d <- resolve a.eval ⟨.builtin .delete,#[m,k],ts⟩ ty; invoke d.target d.args:Sem Next).run P w=_
 rw[zfk]
 have e:(#[m,k]:Array Operand).map a.eval = #[a.eval m,a.eval k]:=sj
 rw[e]
 exact zx h1
theorem Rel.mapEsOf (h:Rel X ms L w) {x:Ob} (hL:L[o]? = some x) (hx:mapEs x=some es) (hu:AV.IsV (cxOf X ms L w) (.map o) u) :
  ∃ b tc ents clock,u = .map (some b)/\ms[o]? = some (some (b,tc))/\w.heap[b]? = some (.map ents clock)/\EntsIs (cxOf X ms L w) es ents.toList/\x.kind=1/\x.stamp=some 0:=by
 have h1:=IsV.is1 rfl sj sj hu
 cases h1 with
 | map _ _ hm =>
 obtain⟨_,_,hm⟩:=hm
 have ho:=h.obs o _ hL
 cases x <;> simp only[mapEs,yw,reduceCtorEq] at hx
 ·subst hx
  obtain⟨b,tc,hm',rfl⟩:=hm _ hL rfl
  obtain⟨b',tc',ents,clock,k1,k2,k3,_⟩:=ho
  have e:=hm'.symm.trans k1
  cases e
  exact⟨b,tc,ents,clock,rfl,hm',k2,k3,rfl,rfl⟩
 ·subst hx
  obtain⟨b,tc,hm',rfl⟩:=hm _ hL rfl
  obtain⟨b',tc',ents,clock,k1,k2,k3⟩:=ho
  have e:=hm'.symm.trans k1
  cases e
  exact⟨b,tc,ents,clock,rfl,hm',k2,k3,rfl,rfl⟩
theorem EntsIs.erase:∀ {es:List (DV×DV)} {r:List MapEntry} (i:Nat),EntsIs c es r->EntsIs c (es.eraseIdx i) (r.eraseIdx i)
 | [],[],_,h=>h
 | _ :: _,_ :: _,0,h=>h.2.2
 | _ :: _,_ :: _,i+1,h=>⟨h.1,h.2.1,EntsIs.erase i h.2.2⟩
 | [],_ :: _,_,h=>h.elim
 | _ :: _,[],_,h=>h.elim
theorem z5w {α β:Type} (f:α->β):∀ (l:List α) (i:Nat),(l.eraseIdx i).map f=(l.map f).eraseIdx i
 | [],_=>rfl
 | _ :: _,0=>rfl
 | _ :: l,i+1=>by simp[z5w f l i]
section
variable {α β:Type} [BEq α] {P:Program} {L:List Ob} {t kt et:TypeId} {o:Nat} {eK:α->DV} {eV:β->DV} {l:List (α×β)} {x:Ob}
theorem znz {k:α} (hu:P.underlying t=some (.map kt et)) (hL:L[o]? = some x) (hx:mapEs x=some (l.map fun p=>(eK p.1,eV p.2))) (heq:∀ a b:α,eqD P 8 kt (eK a) (eK b)=some (a==b)) :
  DelOk P L t (.map o) (.d (eK k)) (.tup []) (L.set o (eMd eK eV (mdel l k))):=by
 intro X ms w um uk ts ty ht hr hm hk
 obtain⟨b,tc,ents,clock,rfl,h1,h2,h3,hk1,hs0⟩:=hr.mapEsOf hL hx hm
 obtain⟨q,hq,hf⟩:=z6m (w:=w) heq hk h3
 have hck:∀ em,(Instr.checkKey em 10000 kt uk).run P w = .ok () w:=fun em=>z4c 8 10000 kt _ _ _ (heq k k) dk hk
 have hg:=zam (P:=P) h2
 have go:∀ ents':Array MapEntry,(∀ c,EntsIs c (l.map fun p=>(eK p.1,eV p.2)) ents.toList->EntsIs c ((mdel l k).map fun p=>(eK p.1,eV p.2)) ents'.toList) ->
   Rel X ms (L.set o (eMd eK eV (mdel l k))) { w with heap:=w.heap.setIfInBounds b (.map ents' clock) }/\Ext ms w ms { w with heap:=w.heap.setIfInBounds b (.map ents' clock) } /\
    (cxOf X ms L w).le (cxOf X ms (L.set o (eMd eK eV (mdel l k))) { w with heap:=w.heap.setIfInBounds b (.map ents' clock) }):=fun ents' he =>
  hr.setOb (w':={ w with heap:=w.heap.setIfInBounds b (.map ents' clock) }) (obj':=eMd eK eV (mdel l k)) hL h1 sj ⟨⟨rfl,rfl,rfl⟩,fun b' hne=>by simp[Ne.symm hne]⟩
   hk1 (fun s hs=>⟨s,by rw[hs0] at hs; exact hs,yc _⟩) (fun hc=>⟨b,tc,ents',clock,by simpa [cxOf] using h1,by simp[z49 h2],he _ (h3.mono hc)⟩)
 rcases hf with ⟨rfl,hn⟩ | ⟨p,e,rfl,g1,g2,g3⟩
 ·obtain⟨r1,r2,r3⟩:=go ents (fun c hc=>by
   unfold mdel
   rw[zck hn,List.eraseIdx_of_length_le (yc _)]
   exact hc)
  refine⟨.tuple #[],_,?_,r1,r2,r3,.tup _ [] .nil⟩
  simp[Builtin.delete_,ht,run_underlying hu,hg,hck,hq,z5e _ h2]
 ·have hlt:midx l k<ents.size:=by
   rcases yu (midx l k) ents.toList.length with h' | h'
   ·simpa using h'
   ·rw[yf h'] at g2; cases g2
  obtain⟨r1,r2,r3⟩:=go (ents.eraseIdxIfInBounds (midx l k)) (fun c hc=>by
   unfold mdel
   rw[z5w,Array.eraseIdxIfInBounds,y4a hlt,Array.toList_eraseIdx]
   exact hc.erase _)
  refine⟨.tuple #[],_,?_,r1,r2,r3,.tup _ [] .nil⟩
  simp[Builtin.delete_,ht,run_underlying hu,hg,hck,hq,z5e _ h2]
theorem zkr {k:α} {z:β} (hu:P.underlying t=some (.map kt et)) (hL:L[o]? = some (eMd eK eV l)) (heq:∀ a b:α,eqD P 8 kt (eK a) (eK b)=some (a==b)) (hz:zeroOf P et=some (eV z)) :
  LookOk P L t (.map o) (.d (eK k)) false (.d (eV (mget l k z))):=by
 intro X ms w ux uk hr hx hk
 obtain⟨b,tc,ents,clock,rfl,_,h2,h3,_⟩:=hr.mapEsOf hL rfl hx
 obtain⟨q,hq,hf⟩:=z6m (w:=w) heq hk h3
 have hck:∀ em,(Instr.checkKey em 10000 kt uk).run P w = .ok () w:=fun em=>z4c 8 10000 kt _ _ _ (heq k k) dk hk
 have hg:(getObj b).run P w = .ok (.map ents clock) w:=by simp[getObj,Sem.run,h2]
 obtain⟨zv,z1,z2⟩:=z2h hz
 rcases hf with ⟨rfl,hn⟩ | ⟨p,e,rfl,g1,g2,g3⟩
 ·refine⟨zv,?_,by rw[ziv hn]; exact z2 _⟩
  simp[Instr.lookup,run_underlying hu,hg,hck,hq,z1]
 ·refine⟨e.val,?_,?_⟩
  ·simp[Instr.lookup,run_underlying hu,hg,hck,hq]
  ·rw[zh4 g1]
   obtain⟨e',k1,k2,k3⟩:=EntsIs.get h3 (i:=midx l k) (p:=(eK p.1,eV p.2)) (by simp[g1])
   rw[g2] at k1
   cases k1
   exact k3
end
def CallOk (P:Program) (f:FuncId) (args:List AV) (L:List Ob) (v:AV) (L':List Ob):Prop :=
 ∀ (X:Nat->Prop) (ms:Blocks) (w:World) (us:List Value),Rel X ms L w->AV.IsVs (cxOf X ms L w) args us ->
  Calls P f us.toArray w fun e w'=>∃ u ms',e = .returned u/\Rel X ms' L' w'/\Ext ms w ms' w'/\(cxOf X ms L w).le (cxOf X ms' L' w')/\AV.IsV (cxOf X ms' L' w') v u
def callable (P:Program) (f:FuncId):Bool:=match P.funcs[f]? with
 | some fn => !(fn.name == "runtime.NumGoroutine") && fn.body.isSome
 | none=>false
theorem AV.IsVs.append:∀ {as:List AV} {us:List Value} {bs:List AV} {vs:List Value},AV.IsVs c as us->AV.IsVs c bs vs->AV.IsVs c (as++bs) (us++vs)
 | _,_,_,_,.nil,h=>h
 | _,_,_,_,.cons _ _ _ _ h ht,h'=>.cons _ _ _ _ h (AV.IsVs.append ht h')
def fnArgs:AV->List AV->Option (FuncId×List AV)
 | .fn f caps,as=>some (f,as++caps)
 | .bfn f bs,as=>some (f,bs++as)
 | _,_=>none
variable {f:FuncId} {as bs:List AV}
theorem zcm {us:List Value} (h:fnArgs v as=some (f,bs)) (hv:AV.IsV c v u) (ha:AV.IsVs c as us) :
  ∃ p q:Array Value,u = .func (.func f) p q/\AV.IsVs c bs (p++us.toArray++q).toList:=by
 unfold fnArgs at h
 split at h
 ·cases h
  have hv':=IsV.is1 rfl sj sj hv
  cases hv' with
  | fn _ _ vs hvs=>exact⟨#[],vs.toArray,rfl,by simpa using ha.append hvs⟩
 ·cases h
  have hv':=IsV.is1 rfl sj sj hv
  cases hv' with
  | bfn _ _ vs hvs=>exact⟨vs.toArray,#[],rfl,by simpa using hvs.append ha⟩
 ·cases h
variable {fo:Operand} {args:Array Operand} {fv:AV}
theorem z5p {o:Oper} (ho:o.op = .call ⟨.value fo,args,ts⟩) (hf0:opnd G ch fo=some fv) (ha:opnds G ch args.toList=some as) (hb:fnArgs fv as=some (f,bs)) (hcall:callable P f=true) (h:CallOk P f bs L v L'):OpOk P G ch L o v L':=by
 intro z zn X ms w a K Q hr hf hh hK
 obtain⟨p,q,hfo,hbs⟩:=zcm hb (zf hf0 hf hh) (z3p hf hh ha)
 unfold callable at hcall
 split at hcall
 ·rename_i fn hfn
  simp only[ya,y1i,y1v,ne_eq] at hcall
  have hexec:(execOp a.eval o).run P w = .ok (.enter f (p++(args.toList.map a.eval).toArray++q).toList.toArray) w:=by
   obtain⟨dst,op,ty,pos,after,guard⟩:=o
   subst ho
   have hb:fn.body.isNone=false:=by
    cases hbd:fn.body with
    | none=>simp[hbd] at hcall
    | some _=>rfl
   simp only[execOp,resolve,hfo,Deferred.ofValue,y14,y2d,yp,invoke,callFunc,run_program,hfn,hb,yl,y2g]
   rw[y6 (by simpa using hcall.1)]
   simp
  refine⟨fun f _=>z3q z f,?_⟩
  rw[z5v hexec sj]
  refine⟨z9f z zn,zdk ?_⟩
  refine (h X ms w _ hr hbs).mono fun e w' ⟨u,ms',he,h1,h2,h3,h4⟩=>?_
  subst he
  exact hK u ms' w' h1 h2 h3 h4
 ·cases hcall
def LeV (v v':AV):Prop:=∀ c u,AV.IsV c v u->AV.IsV c v' u
theorem LeV.refl (v:AV):LeV v v:=fun _ _ h=>h
structure OLe (x y:Ob):Prop where
 kind:x.kind=y.kind
 stamp:x.stamp=y.stamp
 is:∀ c w o,ObIs c w o x->ObIs c w o y
theorem Rel.recast (h:Rel X ms L w) {x y:Ob} (hL:L[o]? = some x) (hxy:OLe x y) :
  Rel X ms (L.set o y) w/\(cxOf X ms L w).le (cxOf X ms (L.set o y) w):=by
 have hlt:o<L.length:=by
  rcases yu o L.length with h' | h'
  ·exact h'
  ·rw[yf h'] at hL; cases hL
 have hr:=h.step (ms':=ms) (L':=L.set o y) (w':=w) (Ext.refl _ _) (by simp[h.len]) h.lt h.inj sj (fun i x' hi hl hs=>by
  by_cases hio:o=i
  ·subst hio
   rw[y16 hlt] at hl
   cases hl
   exact⟨x,hL,hxy.kind,fun s hs=>⟨s,by rw[<- hxy.stamp]; exact hs,yc _⟩,fun _=>rfl⟩
  ·rw[y1d hio] at hl
   exact⟨x',hl,rfl,fun s hs=>⟨s,hs,yc _⟩,fun _=>rfl⟩) (fun i x' hl=>by
  by_cases hio:o=i
  ·subst hio
   rw[y16 hlt] at hl
   cases hl
   exact .inr fun hc=>hxy.is _ _ _ ((h.obs o x hL).mono hc rfl (fun _ _ _=>rfl))
  ·rw[y1d hio] at hl
   exact .inl ⟨hl,rfl,fun _ _ _=>rfl⟩)
 exact hr
mutual
def AV.ren (ρ:Nat->Nat):AV->AV
 | .agg fs=>.agg (AV.renL ρ fs)
 | .ptr o st p=>.ptr (ρ o) st p
 | .ref o st off n=>.ref (ρ o) st off n
 | .map o=>.map (ρ o)
 | .fn f caps=>.fn f (AV.renL ρ caps)
 | .bfn f caps=>.bfn f (AV.renL ρ caps)
 | .tup vs=>.tup (AV.renL ρ vs)
 | .d x=>.d x
 | .full n f=>.full n f
 | .nq b n f=>.nq b n f
 | .err b=>.err b
 | .imm x=>.imm x
 | .bot=>.bot
 | .sel b sz x y=>.sel b sz (x.ren ρ) (y.ren ρ)
def AV.renL (ρ:Nat->Nat):List AV->List AV
 | []=>[]
 | x :: xs=>x.ren ρ :: AV.renL ρ xs
end
def Ob.ren (ρ:Nat->Nat):Ob->Ob
 | .box x=>.box (x.ren ρ)
 | .seq sz n f=>.seq sz n fun i=>(f i).ren ρ
 | .map es=>.map es
 | .dmap es=>.dmap es
 | .ex x=>.ex x
 | .dead=>.dead
 | .unb=>.unb
theorem Ob.ren_stamp (ρ:Nat->Nat) (o:Ob):(o.ren ρ).stamp=o.stamp:=by cases o <;> rfl
theorem Ob.ren_kind (ρ:Nat->Nat) (o:Ob):(o.ren ρ).kind=o.kind:=by cases o <;> rfl
theorem AV.ren_isAgg (ρ:Nat->Nat) (x:AV):(x.ren ρ).isAgg=x.isAgg:=by
 cases x <;> simp[AV.ren,AV.isAgg]
structure Ren (cc c:Cx) (ρ:Nat->Nat):Prop where
 M:cc.M=c.M
 lt:∀ k,k<cc.L.length->ρ k<c.L.length
 ge:∀ k,cc.L.length<=k->c.L.length<=ρ k
 L:∀ k,k<cc.L.length->c.L[ρ k]? = (cc.L[k]?).map (Ob.ren ρ)
 ms:∀ k,k<cc.L.length->c.ms[ρ k]? = cc.ms[k]?
section
variable {cc c:Cx} {ρ:Nat->Nat}
theorem Ren.bound (h:Ren cc c ρ):ρ o<c.L.length↔o<cc.L.length :=
 ⟨fun ho=>by
  rcases yu o cc.L.length with h' | h'
  ·exact h'
  ·have:=h.ge o h'; omega,h.lt o⟩
theorem Ren.ptr (h:Ren cc c ρ) {p:List Stp} {v:Value}:PtrOk c (ρ o) st p v↔PtrOk cc o st p v:=by
 unfold PtrOk
 rw[h.bound]
 constructor
 ·rintro⟨h1,h2,h3,h4⟩
  refine⟨h1,h2,fun obj s ho hs=>h3 (obj.ren ρ) s (by rw[h.L o h1,ho]; rfl) (by rw[Ob.ren_stamp]; exact hs),fun obj ho hs=>?_⟩
  rw[<- h.ms o h1]
  exact h4 (obj.ren ρ) (by rw[h.L o h1,ho]; rfl) (by rw[Ob.ren_stamp]; exact hs)
 ·rintro⟨h1,h2,h3,h4⟩
  refine⟨h1,h2,fun obj s ho hs=>?_,fun obj ho hs=>?_⟩
  ·rw[h.L o h1] at ho
   cases hk:cc.L[o]? with
   | none=>rw[hk] at ho; cases ho
   | some x =>
    rw[hk] at ho; cases ho
    exact h3 x s hk (by rw[<- Ob.ren_stamp ρ]; exact hs)
  ·rw[h.L o h1] at ho
   cases hk:cc.L[o]? with
   | none=>rw[hk] at ho; cases ho
   | some x =>
    rw[hk] at ho; cases ho
    rw[h.ms o h1]
    exact h4 x hk (by rw[<- Ob.ren_stamp ρ]; exact hs)
theorem Ren.ref (h:Ren cc c ρ) {off:Nat} {v:Value}:RefOk c (ρ o) st off n v↔RefOk cc o st off n v:=by
 unfold RefOk
 rw[h.bound]
 constructor
 ·rintro⟨h1,h2,h3,h4⟩
  refine⟨h1,h2,fun obj s ho hs=>h3 (obj.ren ρ) s (by rw[h.L o h1,ho]; rfl) (by rw[Ob.ren_stamp]; exact hs),fun sz f ho=>?_⟩
  rw[<- h.ms o h1]
  exact h4 sz _ (by rw[h.L o h1,ho]; rfl)
 ·rintro⟨h1,h2,h3,h4⟩
  refine⟨h1,h2,fun obj s ho hs=>?_,fun sz f ho=>?_⟩
  ·rw[h.L o h1] at ho
   cases hk:cc.L[o]? with
   | none=>rw[hk] at ho; cases ho
   | some x =>
    rw[hk] at ho; cases ho
    exact h3 x s hk (by rw[<- Ob.ren_stamp ρ]; exact hs)
  ·rw[h.L o h1] at ho
   cases hk:cc.L[o]? with
   | none=>rw[hk] at ho; cases ho
   | some x =>
    rw[hk] at ho
    cases x <;> simp[Ob.ren] at ho
    obtain⟨rfl,rfl,_⟩:=ho
    rw[h.ms o h1]
    exact h4 _ _ hk
theorem Ren.map (h:Ren cc c ρ) {v:Value}:MapOk c (ρ o) v↔MapOk cc o v:=by
 unfold MapOk
 rw[h.bound]
 constructor
 ·rintro⟨h1,h2,h3⟩
  refine⟨h1,h2,fun obj ho hk=>?_⟩
  rw[<- h.ms o h1]
  exact h3 (obj.ren ρ) (by rw[h.L o h1,ho]; rfl) (by rw[Ob.ren_kind]; exact hk)
 ·rintro⟨h1,h2,h3⟩
  refine⟨h1,h2,fun obj ho hd=>?_⟩
  rw[h.L o h1] at ho
  cases hk:cc.L[o]? with
  | none=>rw[hk] at ho; cases ho
  | some x =>
   rw[hk] at ho
   cases ho
   rw[h.ms o h1]
   exact h3 x hk (by rw[<- Ob.ren_kind ρ]; exact hd)
mutual
theorem AV.Is.out (h:Ren cc c ρ) {x:AV} {cs:List Value}:AV.Is cc x cs->AV.Is c (x.ren ρ) cs
 | .d x cs hx=>by rw[AV.ren]; exact .d x cs (h.M▸hx)
 | .full n f a hx=>by rw[AV.ren]; exact .full n f a (h.M▸hx)
 | .nq b n f v hx hb=>by rw[AV.ren]; exact .nq b n f v (h.M▸hx) hb
 | .err b v hx=>by rw[AV.ren]; exact .err b v hx
 | .agg gs cs hx=>by rw[AV.ren]; exact .agg _ cs (AV.IsL.out h hx)
 | .ptr o st path v hx=>by rw[AV.ren]; exact .ptr _ st path v (h.ptr.2 hx)
 | .imm x b off ar cs hb hx hc'=>by rw[AV.ren]; exact .imm x b off ar cs (h.M▸hb) (h.M▸hx) hc'
 | .ref o st off n v hx=>by rw[AV.ren]; exact .ref _ st off n v (h.ref.2 hx)
 | .map o v hx=>by rw[AV.ren]; exact .map _ v (h.map.2 hx)
 | .fn f caps vs hx=>by rw[AV.ren]; exact .fn f _ vs (AV.IsVs.out h hx)
 | .bfn f caps vs hx=>by rw[AV.ren]; exact .bfn f _ vs (AV.IsVs.out h hx)
 | .bot v hx=>by rw[AV.ren]; exact .bot v hx
 | .selT sz x y cs hx hl=>by rw[AV.ren]; exact .selT sz _ _ cs (AV.Is.out h hx) hl
 | .selF sz x y cs hx hl=>by rw[AV.ren]; exact .selF sz _ _ cs (AV.Is.out h hx) hl
theorem AV.IsL.out (h:Ren cc c ρ) {xs:List AV} {cs:List Value}:AV.IsL cc xs cs->AV.IsL c (AV.renL ρ xs) cs
 | .nil=>by rw[AV.renL]; exact .nil
 | .cons x xs k ks hx ht=>by rw[AV.renL]; exact .cons _ _ k ks (AV.Is.out h hx) (AV.IsL.out h ht)
theorem AV.IsV.out (h:Ren cc c ρ) {x:AV} {v:Value}:AV.IsV cc x v->AV.IsV c (x.ren ρ) v
 | .agg av cs ha hx=>.agg _ cs (by rw[AV.ren_isAgg]; exact ha) (AV.Is.out h hx)
 | .one av v ha hx=>.one _ v (by rw[AV.ren_isAgg]; exact ha) (AV.Is.out h hx)
 | .tup vs us hx=>by rw[AV.ren]; exact .tup _ us (AV.IsVs.out h hx)
 | .bot v=>by rw[AV.ren]; exact .bot v
theorem AV.IsVs.out (h:Ren cc c ρ) {xs:List AV} {vs:List Value}:AV.IsVs cc xs vs->AV.IsVs c (AV.renL ρ xs) vs
 | .nil=>by rw[AV.renL]; exact .nil
 | .cons x xs v vs hx ht=>by rw[AV.renL]; exact .cons _ _ v vs (AV.IsV.out h hx) (AV.IsVs.out h ht)
end
theorem AV.IsV.into1 (x:AV) (v:Value) (h1:∀ vs,x≠.tup vs) (h2:x≠.bot) (hi:∀ cs,AV.Is c (x.ren ρ) cs->AV.Is cc x cs) (hx:AV.IsV c (x.ren ρ) v):AV.IsV cc x v:=by
 generalize hy:x.ren ρ=y at hx
 cases hx with
 | agg _ cs ha hx=>subst hy; exact .agg _ cs (by rw[<- AV.ren_isAgg ρ]; exact ha) (hi cs hx)
 | one _ _ ha hx=>subst hy; exact .one _ _ (by rw[<- AV.ren_isAgg ρ]; exact ha) (hi _ hx)
 | tup vs us _=>cases x <;> simp[AV.ren] at hy; exact absurd rfl (h1 _)
 | bot=>cases x <;> simp[AV.ren] at hy; exact absurd rfl h2
mutual
theorem AV.Is.into (h:Ren cc c ρ):∀ (x:AV) (cs:List Value),AV.Is c (x.ren ρ) cs->AV.Is cc x cs
 | .d x,cs,hx=>by
  rw[AV.ren] at hx
  cases hx with
  | d _ _ hx=>exact .d _ _ (h.M▸hx)
 | .full n f,cs,hx=>by
  rw[AV.ren] at hx
  cases hx with
  | full _ _ a hx=>exact .full _ _ a (h.M▸hx)
 | .nq b n f,cs,hx=>by
  rw[AV.ren] at hx
  cases hx with
  | nq _ _ _ v hx hb=>exact .nq _ _ _ v (h.M▸hx) hb
 | .err b,cs,hx=>by
  rw[AV.ren] at hx
  cases hx with
  | err _ v hx=>exact .err _ v hx
 | .agg gs,cs,hx=>by
  rw[AV.ren] at hx
  cases hx with
  | agg _ _ hx=>exact .agg _ _ (AV.IsL.into h gs cs hx)
 | .ptr o st p,cs,hx=>by
  rw[AV.ren] at hx
  cases hx with
  | ptr _ _ _ v hx=>exact .ptr _ _ _ v (h.ptr.1 hx)
 | .imm x,cs,hx=>by
  rw[AV.ren] at hx
  cases hx with
  | imm _ b off ar ks hb hx hc=>exact .imm _ b off ar ks (h.M▸hb) (h.M▸hx) hc
 | .ref o st off n,cs,hx=>by
  rw[AV.ren] at hx
  cases hx with
  | ref _ _ _ _ v hx=>exact .ref _ _ _ _ v (h.ref.1 hx)
 | .map o,cs,hx=>by
  rw[AV.ren] at hx
  cases hx with
  | map _ v hx=>exact .map _ v (h.map.1 hx)
 | .fn f caps,cs,hx=>by
  rw[AV.ren] at hx
  cases hx with
  | fn _ _ vs hx=>exact .fn _ _ vs (AV.IsVs.into h caps vs hx)
 | .bfn f caps,cs,hx=>by
  rw[AV.ren] at hx
  cases hx with
  | bfn _ _ vs hx=>exact .bfn _ _ vs (AV.IsVs.into h caps vs hx)
 | .tup vs,cs,hx=>by
  rw[AV.ren] at hx
  cases hx
 | .bot,cs,hx=>by
  rw[AV.ren] at hx
  cases hx with
  | bot v hx=>exact .bot v hx
 | .sel b sz x y,cs,hx=>by
  rw[AV.ren] at hx
  cases hx with
  | selT _ _ _ _ hx hl=>exact .selT _ _ _ _ (AV.Is.into h x cs hx) hl
  | selF _ _ _ _ hx hl=>exact .selF _ _ _ _ (AV.Is.into h y cs hx) hl
theorem AV.IsL.into (h:Ren cc c ρ):∀ (xs:List AV) (cs:List Value),AV.IsL c (AV.renL ρ xs) cs->AV.IsL cc xs cs
 | [],cs,hx=>by
  rw[AV.renL] at hx
  cases hx
  exact .nil
 | x :: xs,cs,hx=>by
  rw[AV.renL] at hx
  cases hx with
  | cons _ _ k ks hx ht=>exact .cons _ _ k ks (AV.Is.into h x k hx) (AV.IsL.into h xs ks ht)
theorem AV.IsV.into (h:Ren cc c ρ):∀ (x:AV) (v:Value),AV.IsV c (x.ren ρ) v->AV.IsV cc x v
 | .tup vs,v,hx=>by
  rw[AV.ren] at hx
  cases hx with
  | agg _ _ ha=>cases ha
  | one _ _ ha hx=>cases hx
  | tup _ us hx=>exact .tup _ us (AV.IsVs.into h vs us hx)
 | .bot,v,hx=>.bot v
 | .d x,v,hx=>AV.IsV.into1 (.d x) v sj sj (fun cs=>AV.Is.into h (.d x) cs) hx
 | .err b,v,hx=>AV.IsV.into1 (.err b) v sj sj (fun cs=>AV.Is.into h (.err b) cs) hx
 | .nq b n f,v,hx=>AV.IsV.into1 (.nq b n f) v sj sj (fun cs=>AV.Is.into h (.nq b n f) cs) hx
 | .full n f,v,hx=>AV.IsV.into1 (.full n f) v sj sj (fun cs=>AV.Is.into h (.full n f) cs) hx
 | .agg gs,v,hx=>AV.IsV.into1 (.agg gs) v sj sj (fun cs=>AV.Is.into h (.agg gs) cs) hx
 | .ptr o st p,v,hx=>AV.IsV.into1 (.ptr o st p) v sj sj (fun cs=>AV.Is.into h (.ptr o st p) cs) hx
 | .imm x,v,hx=>AV.IsV.into1 (.imm x) v sj sj (fun cs=>AV.Is.into h (.imm x) cs) hx
 | .ref o st off n,v,hx=>AV.IsV.into1 (.ref o st off n) v sj sj (fun cs=>AV.Is.into h (.ref o st off n) cs) hx
 | .map o,v,hx=>AV.IsV.into1 (.map o) v sj sj (fun cs=>AV.Is.into h (.map o) cs) hx
 | .sel b sz x y,v,hx=>AV.IsV.into1 (.sel b sz x y) v sj sj (fun cs=>AV.Is.into h (.sel b sz x y) cs) hx
 | .fn f caps,v,hx=>AV.IsV.into1 (.fn f caps) v sj sj (fun cs=>AV.Is.into h (.fn f caps) cs) hx
 | .bfn f caps,v,hx=>AV.IsV.into1 (.bfn f caps) v sj sj (fun cs=>AV.Is.into h (.bfn f caps) cs) hx
theorem AV.IsVs.into (h:Ren cc c ρ):∀ (xs:List AV) (vs:List Value),AV.IsVs c (AV.renL ρ xs) vs->AV.IsVs cc xs vs
 | [],vs,hx=>by
  rw[AV.renL] at hx
  cases hx
  exact .nil
 | x :: xs,vs,hx=>by
  rw[AV.renL] at hx
  cases hx with
  | cons _ _ v vs hx ht=>exact .cons _ _ v vs (AV.IsV.into h x v hx) (AV.IsVs.into h xs vs ht)
end
end
def setAll {α:Type}:List α->List Nat->List α->List α
 | L,[],_=>L
 | L,i :: σ,x :: xs=>setAll (L.set i x) σ xs
 | L,_ :: _,[]=>L
theorem z2d {α:Type}:∀ (σ:List Nat) (xs L:List α),(setAll L σ xs).length=L.length
 | [],xs,L=>by simp[setAll]
 | i :: σ,[],L=>by simp[setAll]
 | i :: σ,x :: xs,L=>by simp[setAll,z2d σ xs]
theorem z7a {α:Type}:∀ (σ:List Nat) (xs L:List α) (i:Nat),i ∉ σ->(setAll L σ xs)[i]? = L[i]?
 | [],xs,L,i,_=>by simp[setAll]
 | j :: σ,[],L,i,_=>by simp[setAll]
 | j :: σ,x :: xs,L,i,h=>by
  simp only[yv,y4l] at h
  rw[setAll,z7a σ xs _ i h.2,y1d (fun e=>h.1 e.symm)]
theorem zao {α:Type}:∀ (σ:List Nat) (xs L:List α) (k i:Nat),σ.Nodup->σ[k]? = some i->k<xs.length->i<L.length->(setAll L σ xs)[i]? = xs[k]?
 | [],xs,L,k,i,_,h,_,_=>by simp at h
 | j :: σ,[],L,k,i,_,_,h,_=>by simp at h
 | j :: σ,x :: xs,L,0,i,hn,h,_,hi=>by
  simp at h; subst h
  rw[setAll,z7a σ xs _ j (y4d.1 hn).1,y16 hi]
  simp
 | j :: σ,x :: xs,L,k+1,i,hn,h,hk,hi=>by
  rw[setAll,zao σ xs _ k i (y4d.1 hn).2 (by simpa using h) (by simpa using hk) (by simpa using hi)]
  simp
def glue (L:List α) (σ:List Nat) (xs:List α):List α:=setAll L σ xs++xs.drop σ.length
def rho (σ:List Nat) (n k:Nat):Nat:=(σ[k]?).getD (n+(k-σ.length))
variable {σ:List Nat}
theorem z2o (hk:k<σ.length):σ[k]? = some (rho σ n k):=by
 simp[rho,List.getElem?_eq_getElem hk]
theorem z82 (hk:σ.length<=k):rho σ n k=n+(k-σ.length):=by
 simp[rho,List.getElem?_eq_none hk]
variable {xs:List α}
theorem z2k {L:List α} (hn:σ.Nodup) (hlt:∀ i∈σ,i<L.length) (hk:k<xs.length) :
  (glue L σ xs)[rho σ L.length k]? = xs[k]? := by
 unfold glue
 rcases yu k σ.length with h | h
 ·have e:=z2o (n:=L.length) h
  have:=hlt _ (y33 e)
  rw[yq (by rw[z2d]; exact this),zao σ xs L k _ hn e hk this]
 ·rw[z82 h,y1j (by rw[z2d]; omega),z2d,y3u]
  congr 1; omega
theorem z1y {L:List α}:(glue L σ xs).length=L.length+(xs.length-σ.length):=by simp[glue,z2d]
theorem z2s {L:List α} (h:i ∉ σ) (hi:i<L.length):(glue L σ xs)[i]? = L[i]? := by
 unfold glue
 rw[yq (by rw[z2d]; exact hi),z7a _ _ _ _ h]
theorem ziy {L:List α} (hlt:∀ i∈σ,i<L.length) (hk:k<xs.length):rho σ L.length k<L.length+(xs.length-σ.length):=by
 rcases yu k σ.length with h | h
 ·have:=hlt _ (y33 (z2o (n:=L.length) h)); omega
 ·rw[z82 h]; omega
theorem z5f {L:List α} (hl:σ.length<=xs.length) (hi:i<L.length+(xs.length-σ.length)):(∃ k,k<xs.length/\i=rho σ L.length k)\/(i<L.length/\i ∉ σ):=by
 by_cases h:i∈σ
 ·obtain⟨k,hk,e⟩:=y2j h
  exact .inl ⟨k,om,by simp[rho,List.getElem?_eq_getElem hk,e]⟩
 ·rcases yu i L.length with h' | h'
  ·exact .inr ⟨h',h⟩
  ·exact .inl ⟨σ.length+(i-L.length),om,by rw[z82 om]; omega⟩
def xOf (X:Nat->Prop) (ms:Blocks) (σ:List Nat) (b:Nat):Prop:=X b\/∃ o tc:Nat,o ∉ σ/\ms[o]? = some (some (b,tc))
variable {ks:Blocks}
theorem zap (hn:σ.Nodup) (hlt:∀ i∈σ,i<ms.length) (hl:σ.length<=ks.length) (b:Nat) :
  (X b\/owned (glue ms σ ks) b)↔(xOf X ms σ b\/owned ks b):=by
 constructor
 ·rintro (h | ⟨o,tc,h⟩)
  ·exact .inl (.inl h)
  ·have hi:o<ms.length+(ks.length-σ.length):=by
    rw[<- z1y]
    rcases yu o (glue ms σ ks).length with h' | h'
    ·exact h'
    ·rw[yf h'] at h; cases h
   rcases z5f hl hi with ⟨k,hk,rfl⟩ | ⟨h1,h2⟩
   ·rw[z2k hn hlt hk] at h
    exact .inr ⟨k,tc,h⟩
   ·rw[z2s h2 h1] at h
    exact .inl (.inr ⟨o,tc,h2,h⟩)
 ·rintro ((h | ⟨o,tc,h1,h2⟩) | ⟨k,tc,h⟩)
  ·exact .inl h
  ·have hi:o<ms.length:=by
    rcases yu o ms.length with h' | h'
    ·exact h'
    ·rw[yf h'] at h2; cases h2
   exact .inr ⟨o,tc,by rw[z2s h1 hi]; exact h2⟩
  ·have hk:k<ks.length:=by
    rcases yu k ks.length with h' | h'
    ·exact h'
    ·rw[yf h'] at h; cases h
   exact .inr ⟨_,tc,by rw[z2k hn hlt hk]; exact h⟩
theorem z9h {Y:Nat->Prop} (h:∀ b,(X b\/owned ms b)↔(Y b\/owned ks b)):memOf X ms w=memOf Y ks w:=by
 funext b
 unfold memOf
 by_cases hb:X b\/owned ms b
 ·rw[y7 hb,y7 ((h b).1 hb)]
 ·rw[y6 hb,y6 (fun h'=>hb ((h b).2 h'))]
theorem zcn {L:List α} (hn:σ.Nodup) (hlt:∀ i∈σ,i<L.length) (hl:σ.length=xs.length) (h:∀ k i:Nat,σ[k]? = some i->L[i]? = xs[k]?):glue L σ xs=L:=by
 apply y2y
 intro i
 rcases yu i L.length with hi | hi
 ·by_cases hm:i∈σ
  ·obtain⟨k,hk,e⟩:=y2j hm
   have e1:σ[k]? = some i:=by rw[yh hk,e]
   have e2:rho σ L.length k=i:=by simp[rho,e1]
   rw[<- e2,z2k hn hlt om,e2]
   exact (h k i e1).symm
  ·exact z2s hm hi
 ·rw[yf hi,yf (by rw[z1y]; omega)]
variable {cc:Cx} {ρ:Nat->Nat}
theorem EntsIs.into (h:Ren cc c ρ):∀ {es:List (DV×DV)} {r:List MapEntry},EntsIs c es r->EntsIs cc es r
 | [],[],_=>trivial
 | (k,v) :: es,e :: r,hx=>⟨AV.IsV.into h (.d k) _ (by rw[AV.ren]; exact hx.1),AV.IsV.into h (.d v) _ (by rw[AV.ren]; exact hx.2.1),EntsIs.into h hx.2.2⟩
 | [],_ :: _,hx=>hx.elim
 | _ :: _,[],hx=>hx.elim
theorem EntsIs.out (h:Ren cc c ρ):∀ {es:List (DV×DV)} {r:List MapEntry},EntsIs cc es r->EntsIs c es r
 | [],[],_=>trivial
 | (k,v) :: es,e :: r,hx=>⟨by have:=hx.1.out h; rw[AV.ren] at this; exact this,by have:=hx.2.1.out h; rw[AV.ren] at this; exact this,EntsIs.out h hx.2.2⟩
 | [],_ :: _,hx=>hx.elim
 | _ :: _,[],hx=>hx.elim
variable {obj:Ob}
theorem ObIs.into (h:Ren cc c ρ) (hk:k<cc.L.length) (hx:ObIs c w (ρ k) (obj.ren ρ)):ObIs cc w k obj:=by
 have hm:=h.ms k hk
 cases obj with
 | box x =>
  rcases hx with hx | ⟨b,tc,arr,e,h1,h2,h3⟩
  ·exact .inl (hm▸hx)
  ·exact .inr ⟨b,tc,arr,e,hm▸h1,h2,AV.Is.into h _ _ h3⟩
 | seq sz m f =>
  rcases hx with hx | ⟨b,tc,arr,e,cs,h1,h2,h3,h4,h5,h6⟩
  ·exact .inl ⟨hm▸hx.1,hx.2⟩
  ·exact .inr ⟨b,tc,arr,e,cs,hm▸h1,h2,h3,h4,fun i hi=>AV.Is.into h _ _ (h5 i hi),h6⟩
 | map es =>
  obtain⟨b,tc,ents,clock,h1,h2,h3,h4⟩:=hx
  exact⟨b,tc,ents,clock,hm▸h1,h2,EntsIs.into h h3,h4⟩
 | dmap es =>
  obtain⟨b,tc,ents,clock,h1,h2,h3⟩:=hx
  exact⟨b,tc,ents,clock,hm▸h1,h2,EntsIs.into h h3⟩
 | ex x =>
  obtain⟨b,tc,h1,h2⟩:=hx
  exact⟨b,tc,hm▸h1,h2⟩
 | dead=>trivial
 | unb=>exact hm.symm.trans hx
theorem ObIs.out (h:Ren cc c ρ) (hk:k<cc.L.length) (hx:ObIs cc w k obj):ObIs c w (ρ k) (obj.ren ρ):=by
 have hm:=h.ms k hk
 cases obj with
 | box x =>
  rcases hx with hx | ⟨b,tc,arr,e,h1,h2,h3⟩
  ·exact .inl (hm.trans hx)
  ·exact .inr ⟨b,tc,arr,e,hm.trans h1,h2,h3.out h⟩
 | seq sz m f =>
  rcases hx with hx | ⟨b,tc,arr,e,cs,h1,h2,h3,h4,h5,h6⟩
  ·exact .inl ⟨hm.trans hx.1,hx.2⟩
  ·exact .inr ⟨b,tc,arr,e,cs,hm.trans h1,h2,h3,h4,fun i hi=>(h5 i hi).out h,h6⟩
 | map es =>
  obtain⟨b,tc,ents,clock,h1,h2,h3,h4⟩:=hx
  exact⟨b,tc,ents,clock,hm.trans h1,h2,h3.out h,h4⟩
 | dmap es =>
  obtain⟨b,tc,ents,clock,h1,h2,h3⟩:=hx
  exact⟨b,tc,ents,clock,hm.trans h1,h2,h3.out h⟩
 | ex x =>
  obtain⟨b,tc,h1,h2⟩:=hx
  exact⟨b,tc,hm.trans h1,h2⟩
 | dead=>trivial
 | unb=>exact hm.trans hx
theorem CallOk.frame {Lc Lc':List Ob} (h:CallOk P f as Lc v Lc') (σ:List Nat) (hn:σ.Nodup) (hlt:∀ i∈σ,i<L.length) (hlen:σ.length=Lc.length) (hlen':Lc.length<=Lc'.length) (hL:∀ k i:Nat,σ[k]? = some i->L[i]? = (Lc[k]?).map (Ob.ren (rho σ L.length))) :
  CallOk P f (AV.renL (rho σ L.length) as) L (v.ren (rho σ L.length)) (glue L σ (Lc'.map (Ob.ren (rho σ L.length)))):=by
 intro X ms w us hr hu
 have hltm:∀ i∈σ,i<ms.length:=fun i hi=>by rw[hr.len]; exact hlt i hi
 have hml:ms.length=L.length:=hr.len
 -- the callee's view
 let ks:Blocks:=σ.map fun i=>(ms[i]?).getD none
 have hks:∀ k i:Nat,σ[k]? = some i->ks[k]? = ms[i]? := fun k i e=>by
  have:=hltm i (y33 e)
  simp[ks,List.getElem?_map,e,List.getElem?_eq_getElem this]
 have hkl:ks.length=σ.length:=by simp[ks]
 have hself:glue ms σ ks=ms:=zcn hn hltm hkl.symm (fun k i e=>(hks k i e).symm)
 have hown:=zap (X:=X) hn hltm (Nat.le_of_eq hkl.symm)
 rw[hself] at hown
 have hmem:memOf (xOf X ms σ) ks w=memOf X ms w:=(z9h hown).symm
 have hren:Ren (cxOf (xOf X ms σ) ks Lc w) (cxOf X ms L w) (rho σ L.length):=by
  refine⟨hmem,fun k hk=>?_,fun k hk=>?_,fun k hk=>?_,fun k hk=>?_⟩
  ·simp only[cxOf] at hk
   exact hlt _ (y33 (z2o (n:=L.length) om))
  ·simp only[cxOf] at hk |-
   rw[z82 om]; omega
  ·simp only[cxOf] at hk |-
   exact hL k _ (z2o om)
  ·simp only[cxOf] at hk |-
   exact (hks k _ (z2o om)).symm
 have hrc:Rel (xOf X ms σ) ks Lc w:=by
  refine⟨om,fun b hb=>?_,fun b hb=>?_,fun o o' b tc tc' h1 h2=>?_,fun k obj hk=>?_,by rw[hmem]; exact hr.glob⟩
  ·obtain⟨k,tc,e⟩:=hb
   have hk:k<σ.length:=by
    rcases yu k ks.length with h' | h'
    ·omega
    ·rw[yf h'] at e; cases e
   have e1:=hks k _ (z2o (n:=L.length) hk)
   rw[e] at e1
   obtain⟨l1,l2⟩:=hr.lt b ⟨_,tc,e1.symm⟩
   refine⟨l1,?_⟩
   rintro (hx | ⟨o,tc',h1,h2⟩)
   ·exact l2 hx
   ·have:=hr.inj _ _ b tc' tc h2 e1.symm
    subst this
    exact h1 (y33 (z2o (n:=L.length) hk))
  ·rcases hb with hb | ⟨o,tc,_,h2⟩
   ·exact hr.xlt b hb
   ·exact (hr.lt b ⟨o,tc,h2⟩).1
  ·have hk:o<σ.length:=by
    rcases yu o ks.length with h' | h'
    ·omega
    ·rw[yf h'] at h1; cases h1
   have hk':o'<σ.length:=by
    rcases yu o' ks.length with h' | h'
    ·omega
    ·rw[yf h'] at h2; cases h2
   have e1:=hks o _ (z2o (n:=L.length) hk)
   have e2:=hks o' _ (z2o (n:=L.length) hk')
   rw[h1] at e1; rw[h2] at e2
   have:=hr.inj _ _ b tc tc' e1.symm e2.symm
   have e3:=z2o (n:=L.length) hk
   have e4:=z2o (n:=L.length) hk'
   rw[this] at e3
   have g1:σ[o]=rho σ L.length o':=by rw[yh hk] at e3; exact y15 e3
   have g2:σ[o']=rho σ L.length o':=by rw[yh hk'] at e4; exact y15 e4
   exact (List.getElem_inj hn).1 (g1.trans g2.symm)
  ·have hkl':k<Lc.length:=by
    rcases yu k Lc.length with h' | h'
    ·exact h'
    ·rw[yf h'] at hk; cases hk
   refine ObIs.into hren hkl' ?_
   refine hr.obs _ _ ?_
   rw[hL k _ (z2o om),hk]; rfl
 refine (h (xOf X ms σ) ks w us hrc (AV.IsVs.into hren as us hu)).mono ?_
 rintro e w' ⟨u,ks',rfl,r1,e1,c1,v1⟩
 have hkl':ks'.length=Lc'.length:=r1.len
 have hsk:σ.length<=ks'.length:=om
 have hsl:σ.length<=(Lc'.map (Ob.ren (rho σ L.length))).length:=sk
 have hown':=zap (X:=X) hn hltm hsk
 have hmem':memOf (xOf X ms σ) ks' w'=memOf X (glue ms σ ks') w':=(z9h hown').symm
 have hglen:(glue ms σ ks').length=(glue L σ (Lc'.map (Ob.ren (rho σ L.length)))).length:=by
  rw[z1y,z1y]; simp; omega
 have hgL:(glue L σ (Lc'.map (Ob.ren (rho σ L.length)))).length=L.length+(Lc'.length-σ.length):=by rw[z1y]; simp
 have hren':Ren (cxOf (xOf X ms σ) ks' Lc' w') (cxOf X (glue ms σ ks') (glue L σ (Lc'.map (Ob.ren (rho σ L.length)))) w') (rho σ L.length):=by
  refine⟨hmem',fun k hk=>?_,fun k hk=>?_,fun k hk=>?_,fun k hk=>?_⟩
  ·simp only[cxOf] at hk |-
   rw[z1y]
   exact ziy hlt (by simpa using hk)
  ·simp only[cxOf] at hk |-
   rw[hgL,z82 om]; omega
  ·simp only[cxOf] at hk |-
   rw[z2k hn hlt (by simpa using hk),y2q]
  ·simp only[cxOf] at hk |-
   rw[<- hml,z2k hn hltm om]
 have hkeep:∀ b,b<w.heap.size->¬ owned ms b->w'.heap[b]? = w.heap[b]? /\ ¬ owned (glue ms σ ks') b:=fun b hb hb'=>by
  have hkn:¬ owned ks b:=fun⟨k,tc,e⟩=>by
   have hk:k<σ.length:=by
    rcases yu k ks.length with h' | h'
    ·omega
    ·rw[yf h'] at e; cases e
   have e1:=hks k _ (z2o (n:=L.length) hk)
   rw[e] at e1
   exact hb' ⟨_,tc,e1.symm⟩
  obtain⟨g1,g2⟩:=e1.keep b hb hkn
  refine⟨g1,fun ho=>?_⟩
  obtain⟨o,tc,ho⟩:=ho
  have hi:o<ms.length+(ks'.length-σ.length):=by
   rw[<- z1y]
   rcases yu o (glue ms σ ks').length with h' | h'
   ·exact h'
   ·rw[yf h'] at ho; cases ho
  rcases z5f hsk hi with ⟨k,hk,rfl⟩ | ⟨l1,l2⟩
  ·rw[z2k hn hltm hk] at ho
   exact g2 ⟨k,tc,ho⟩
  ·rw[z2s l2 l1] at ho
   exact hb' ⟨o,tc,ho⟩
 have hext:Ext ms w (glue ms σ ks') w':=⟨e1.size,hkeep,e1.out⟩
 have hle:(cxOf X ms L w).le (cxOf X (glue ms σ ks') (glue L σ (Lc'.map (Ob.ren (rho σ L.length)))) w'):=by
  refine⟨hext.memLe,by simp only[cxOf]; omega,fun o obj' ho hl hs=>?_⟩
  simp only[cxOf] at ho hl |-
  by_cases hm:o∈σ
  ·obtain⟨k,hk,e⟩:=y2j hm
   have e2:σ[k]? = some o:=by rw[yh hk,e]
   have e3:rho σ L.length k=o:=by simp[rho,e2]
   have hk':k<(Lc'.map (Ob.ren (rho σ L.length))).length:=sk
   have g:=z2k hn hlt hk'
   rw[e3] at g
   rw[g,y2q] at hl
   cases hc':Lc'[k]? with
   | none=>rw[hc'] at hl; cases hl
   | some oc' =>
    rw[hc'] at hl
    simp only[y1z,yw] at hl
    subst hl
    obtain⟨oc,p1,p2,p3,p4⟩:=c1.ob k oc' (by simp only[cxOf]; omega) hc' (by rw[Ob.ren_stamp] at hs; exact hs)
    simp only[cxOf] at p1 p4
    refine⟨oc.ren (rho σ L.length),by rw[hL k o e2,p1]; rfl,by rw[Ob.ren_kind,Ob.ren_kind]; exact p2,fun s hs=>?_,fun es=>?_⟩
    ·rw[Ob.ren_stamp] at hs |-
     exact p3 s hs
    ·rw[Ob.ren_stamp,Ob.ren_stamp] at es
     have g':=z2k (L:=ms) (xs:=ks') hn hltm (k:=k) (by simp at hk'; omega)
     rw[hml,e3] at g'
     rw[g',p4 es,hks k o e2]
  ·rw[z2s hm ho] at hl
   exact⟨obj',hl,rfl,fun s hs=>⟨s,hs,yc _⟩,fun _=>z2s hm om⟩
 refine⟨u,glue ms σ ks',rfl,⟨hglen,fun b hb=>?_,fun b hb=>y1f (hr.xlt b hb) e1.size,fun o o' b tc tc' h1 h2=>?_,fun o obj ho=>?_,by rw[<- hmem']; exact r1.glob⟩,hext,hle,v1.out hren'⟩
 ·have h1:=(hown' b).1 (.inr hb)
  rcases h1 with h1 | h1
  ·have hlt':b<w'.heap.size:=y1f (hrc.xlt b h1) e1.size
   refine⟨hlt',fun hx=>?_⟩
   exact (hkeep b (hr.xlt b hx) (fun ho=>(hr.lt b ho).2 hx)).2 hb
  ·exact⟨(r1.lt b h1).1,fun hx=>(r1.lt b h1).2 (.inl hx)⟩
 ·have hin:∀ {o tc},(glue ms σ ks')[o]? = some (some (b,tc))->(∃ k,k<ks'.length/\o=rho σ ms.length k/\ks'[k]? = some (some (b,tc)))\/(o ∉ σ/\ms[o]? = some (some (b,tc))):=by
   intro o tc e
   have hi:o<ms.length+(ks'.length-σ.length):=by
    rw[<- z1y]
    rcases yu o (glue ms σ ks').length with h' | h'
    ·exact h'
    ·rw[yf h'] at e; cases e
   rcases z5f hsk hi with ⟨k,hk,rfl⟩ | ⟨l1,l2⟩
   ·exact .inl ⟨k,hk,rfl,by rw[<- z2k hn hltm hk]; exact e⟩
   ·exact .inr ⟨l2,by rw[<- z2s l2 l1]; exact e⟩
  rcases hin h1 with ⟨k,_,rfl,p1⟩ | ⟨p0,p1⟩ <;> rcases hin h2 with ⟨k',_,rfl,q1⟩ | ⟨q0,q1⟩
  ·rw[r1.inj k k' b tc tc' p1 q1]
  ·exact absurd (.inr ⟨o',tc',q0,q1⟩) (r1.lt b ⟨k,tc,p1⟩).2
  ·exact absurd (.inr ⟨o,tc,p0,p1⟩) (r1.lt b ⟨k',tc',q1⟩).2
  ·exact hr.inj o o' b tc tc' p1 q1
 ·have hi:o<L.length+((Lc'.map (Ob.ren (rho σ L.length))).length-σ.length):=by
   rw[<- z1y]
   rcases yu o (glue L σ (Lc'.map (Ob.ren (rho σ L.length)))).length with h' | h'
   ·exact h'
   ·rw[yf h'] at ho; cases ho
  rcases z5f hsl hi with ⟨k,hk,rfl⟩ | ⟨l1,l2⟩
  ·rw[z2k hn hlt hk,y2q] at ho
   cases hc':Lc'[k]? with
   | none=>rw[hc'] at ho; cases ho
   | some oc' =>
    rw[hc'] at ho; cases ho
    exact ObIs.out hren' (by simpa [cxOf] using hk) (r1.obs k oc' hc')
  ·rw[z2s l2 l1] at ho
   refine (hr.obs o obj ho).mono hle (z2s l2 om) fun b tc hb=>?_
   have hb':ms[o]? = some (some (b,tc)):=hb
   refine (e1.keep b (hr.lt b ⟨o,tc,hb'⟩).1 fun⟨k,tc',ek⟩=>?_).1
   exact (hrc.lt b ⟨k,tc',ek⟩).2 (.inr ⟨o,tc,l2,hb'⟩)
theorem CallOk.at {P:Program} {f:FuncId} {as as':List AV} {Lc Lc' L L':List Ob} {v v':AV} (h:CallOk P f as Lc v Lc') (σ:List Nat) (hn:σ.Nodup) (hlt:σ.all (fun i=>Nat.blt i L.length)=true)
  (hlen:σ.length=Lc.length) (hlen':Lc.length<=Lc'.length) (hL:σ.map (fun i=>L[i]?)=Lc.map (fun x=>some (x.ren (rho σ L.length)))) (ha:AV.renL (rho σ L.length) as=as')
  (hv:v.ren (rho σ L.length)=v') (hg:glue L σ (Lc'.map (Ob.ren (rho σ L.length)))=L'):CallOk P f as' L v' L':=by
 subst ha; subst hv; subst hg
 refine h.frame σ hn (fun i hi=>?_) hlen hlen' fun k i e=>?_
 ·have:=y18.1 hlt i hi
  exact y38 this
 ·have h1:(σ.map (fun i=>L[i]?))[k]? = some (L[i]?):=by rw[y2q,e]; rfl
  rw[hL,y2q] at h1
  cases hk:Lc[k]? with
  | none=>rw[hk] at h1; cases h1
  | some x=>rw[hk] at h1; exact (y15 h1).symm
structure CR where
 f:FuncId
 as:List AV
 L:List Ob
 v:AV
 L':List Ob
def rdP (c:CR):Bool->Prop
 | true=>c.L'=c.L
 | false=>True
def CR.at (P:Program) (c:CR) (as:List AV) (L:List Ob) (σ:List Nat) (rd:Bool):Prop :=
 CallOk P c.f c.as c.L c.v c.L'/\AV.renL (rho σ L.length) c.as=as/\σ.map (fun i=>L[i]?)=c.L.map (fun x=>some (x.ren (rho σ L.length)))/\rdP c rd
def CR.fits (c:CR) (f:FuncId) (L:List Ob) (σ:List Nat):Bool :=
 Nat.beq c.f f&&(decide σ.Nodup&&(σ.all (fun i=>Nat.blt i L.length)&&(Nat.beq σ.length c.L.length&&Nat.ble c.L.length c.L'.length)))
theorem CR.ok {c:CR} {rd:Bool} (hf:c.fits f L σ=true) (h:c.at P as L σ rd) :
  CallOk P f as L (c.v.ren (rho σ L.length)) (glue L σ (c.L'.map (Ob.ren (rho σ L.length)))):=by
 unfold CR.fits at hf
 simp only[ya] at hf
 obtain⟨h1,h2,h3,h4,h5⟩:=hf
 obtain⟨k1,k2,k3,_⟩:=h
 have e:c.f=f:=y31 h1
 subst e
 exact k1.at σ (y2m h2) h3 (y31 h4) (y38 h5) k3 k2 rfl rfl
theorem CR.okR {c:CR} (hf:c.fits f L σ=true) (h:c.at P as L σ true) :
  CallOk P f as L (c.v.ren (rho σ L.length)) L:=by
 have h0:=h
 obtain⟨_,_,k3,k4⟩:=h
 have h1:=CR.ok hf h0
 have e:glue L σ (c.L'.map (Ob.ren (rho σ L.length)))=L:=by
  have k4':c.L'=c.L:=k4
  rw[k4']
  unfold CR.fits at hf
  simp only[ya] at hf
  obtain⟨_,h2,h3,h4,_⟩:=hf
  refine zcn (y2m h2) (fun i hi=>y38 (y18.1 h3 i hi)) (by simpa using y31 h4) fun k i hk=>?_
  have:=congrArg (fun l:List (Option Ob)=>l[k]?) k3
  simp only[y2q,hk,y1z] at this
  cases hc:c.L[k]? with
  | none=>rw[hc] at this; cases this
  | some x =>
   rw[hc] at this
   simp only[y1z,yw] at this
   rw[this,y2q,hc]; rfl
 rwa [e] at h1
def fitA:AV->AV->AV
 | .full 0 _,.d (.sl 0 g)=>.d (.sl 0 g)
 | a,_=>a
def fitL:List AV->List AV->List AV
 | a :: as,b :: bs=>fitA a b :: fitL as bs
 | as,_=>as
theorem zms {a b:AV} {v:Value} (h:AV.IsV c a v):AV.IsV c (fitA a b) v:=by
 unfold fitA
 split
 ·have h':=IsV.is1 rfl sj sj h
  cases h' with
  | full _ _ a hd =>
   refine .one _ _ rfl (.d _ _ ?_)
   cases hd with
   | slNil=>exact .slNil _
   | slEmpty=>exact .slEmpty _ _ _
   | sl _ _ b off cap sz arr cs h1 h2 hb hh hl hc=>exact .sl _ _ b off 0 sz arr cs h1 h2 hb (fun i hi=>om) hl hc
 ·exact h
theorem zg3 {c:Cx}:∀ {as bs:List AV} {us:List Value},AV.IsVs c as us->AV.IsVs c (fitL as bs) us
 | [],_,_,h=>h
 | _ :: _,[],_,h=>h
 | _ :: _,_ :: _,_,.cons _ _ _ _ h ht=>.cons _ _ _ _ (zms h) (zg3 ht)
theorem CallOk.fit (h:CallOk P f (fitL as bs) L v L'):CallOk P f as L v L' :=
 fun X ms w us hr hu=>h X ms w us hr (zg3 hu)
inductive Hint where
 | none
 | imm
 | obj
 | call (v:AV) (L':List Ob)
 | callq (v:AV)
 | callr (v:AV)
 | born (k:Nat) (full:Bool)
 | callw (v:AV) (ups:List (Nat×Ob)) (new:List Ob)
 | callc (c:CR) (σ:List Nat) (rd:Bool)
def applyUps (L:List Ob) (ups:List (Nat×Ob)):List Ob:=ups.foldl (fun L u=>L.set u.1 u.2) L
inductive Res where
 | val (v:AV) (C:List Prop)
 | eff (v:AV) (L':List Ob) (C:List Prop)
def ExtOk (P:Program) (f:FuncId) (args:List AV) (L:List Ob) (v:AV):Prop :=
 ∀ (X:Nat->Prop) (ms:Blocks) (w:World) (us:List Value),Rel X ms L w->AV.IsVs (cxOf X ms L w) args us ->
  ∃ u,(callFunc f us.toArray).run P w = .ok (.value u) w/\AV.IsV (cxOf X ms L w) v u
theorem zo0 {o:Oper} (ho:o.op = .call ⟨.value fo,args,ts⟩) (hf0:opnd G ch fo=some fv) (ha:opnds G ch args.toList=some as) (hb:fnArgs fv as=some (f,bs)) (h:ExtOk P f bs L v):OpOk P G ch L o v L:=by
 intro z zn X ms w a K Q hr hf hh hK
 obtain⟨p,q,hfo,hbs⟩:=zcm hb (zf hf0 hf hh) (z3p hf hh ha)
 obtain⟨u,h1,h2⟩:=h X ms w _ hr hbs
 refine OpOk.value (u:=u) (w':=w) ?_ (hK u ms w hr (Ext.refl _ _) (Cx.le.refl _) h2)
 obtain⟨dst,op,ty,pos,after,guard⟩:=o
 subst ho
 simp only[execOp,resolve,hfo,Deferred.ofValue,y14,y2d,yp,invoke]
 rw[show (p++args.map a.eval++q)=(p++(args.toList.map a.eval).toArray++q).toList.toArray from sj]
 exact h1
def astep (P:Program) (G:GFr) (ch:Chain) (L:List Ob) (o:Oper) (h:Hint):Option Res :=
 match o.op with
 | .alloc t=>match h with
  | .born k full=>(eBorn P L t k full).map fun p=>.eff p.1 p.2 []
  | .obj=>(eAlloc P L t true).map fun p=>.eff p.1 p.2 []
  | _=>(eAlloc P L t false).map fun p=>.eff p.1 p.2 []
 | .box _ x=>(opnd G ch x).bind fun v=>(eBox L v).map fun p=>.eff p.1 p.2 []
 | .store t p x=>(opnd G ch p).bind fun pv=>(opnd G ch x).bind fun xv=>(eStore P L t pv xv).map fun q=>.eff q.1 q.2.1 q.2.2
 | .buildSlice t len ps=>(partsO G ch ps.toList).bind fun pv=>match h with
  | .obj=>(eBsObj P L t len pv).map fun p=>.eff p.1 p.2 []
  | .born k _=>(eBsBorn P L t k len pv).map fun p=>.eff p.1 p.2 []
  | _=>if len<2 ^ 63 then (eBsImm P t len pv).map fun v=>.val v [] else none
 | .build t ps=>match h with
  | .obj=>(partsO G ch ps.toList).bind fun pv=>(vBuildF P t pv).map fun p=>.val p.1 p.2
  | _=>(aval P G ch L o).map fun p=>.val p.1 p.2
 | .makeSlice t l c=>(opnd G ch l).bind fun lv=>(opnd G ch c).bind fun cv=>match h with
  | .imm=>(eMakeImm P t lv cv).map fun q=>.val q.1 q.2
  | _=>(eMake P L t lv cv).map fun q=>.eff q.1 q.2.1 q.2.2
 | .call ⟨.value fo,args,_⟩=>match opnd G ch fo,opnds G ch args.toList with
  | some fv,some as=>match fnArgs fv as with
   | some (f,bs)=>if callable P f then match h with
    | .call v L'=>some (.eff v L' [CallOk P f bs L v L'])
    | .callw v ups new=>some (.eff v (applyUps L ups++new) [CallOk P f bs L v (applyUps L ups++new)])
    | .callq v=>some (.val v [∀ L,CallOk P f bs L v L])
    | .callr v=>some (.val v [CallOk P f bs L v L])
    | .callc c σ true=>if c.fits f L σ=true then some (.val (c.v.ren (rho σ L.length)) [c.at P (fitL bs c.as) L σ true]) else none
    | .callc c σ false=>if c.fits f L σ=true then some (.eff (c.v.ren (rho σ L.length)) (glue L σ (c.L'.map (Ob.ren (rho σ L.length)))) [c.at P (fitL bs c.as) L σ false]) else none
    | _=>none
    else match h with
    | .callr v=>some (.val v [ExtOk P f bs L v])
    | _=>none
   | none=>none
  | _,_=>none
 | .call ⟨.builtin .append,args,ts⟩=>match args.toList,ts.toList with
  | [s,x],[t,t']=>if t=t' then (opnd G ch x).bind fun xv=>match h,opnd G ch s with
    | .obj,some (.full 0 _)=>(eAppNew P L t xv).map fun q=>.eff q.1 q.2.1 q.2.2
    | _,some (.full n f)=>(eAppImm P L t n f xv).map fun q=>.val q.1 q.2
    | .imm,some (.ref r st 0 n)=>(eAppPre P L t r st n xv).map fun q=>.eff q.1 q.2.1 q.2.2
    | _,some (.ref r st 0 n)=>(eAppRef P L t r st n xv).map fun q=>.eff q.1 q.2.1 q.2.2
    | _,_=>none
   else none
  | _,_=>none
 | .call ⟨.builtin .clear,args,ts⟩=>match args.toList,ts.toList with
  | [x],[t]=>(opnd G ch x).bind fun xv=>(eClear P L t xv).map fun q=>.eff q.1 q.2.1 q.2.2
  | _,_=>none
 | .call ⟨.builtin .copy,args,ts⟩=>match args.toList,ts.toList with
  | [d,x],[t,_]=>(opnd G ch d).bind fun dv=>(opnd G ch x).bind fun xv=>(eCopy P L t dv xv).map fun q=>.eff q.1 q.2.1 q.2.2
  | _,_=>none
 | .call ⟨.builtin .delete,args,ts⟩=>match args.toList,ts.toList with
  | [m,k],t :: _=>(opnd G ch m).bind fun mv=>(opnd G ch k).bind fun kv=>match h with
   | .call v L'=>some (.eff v L' [DelOk P L t mv kv v L'])
   | _=>none
  | _,_=>none
 | .makeMap _ none=>some (.eff (.map L.length) (L++[.map []]) [])
 | .lookup t x k ok=>(opnd G ch x).bind fun xv=>(opnd G ch k).bind fun kv=>match h with
  | .callr v=>some (.val v [LookOk P L t xv kv ok v])
  | _=>none
 | .mapEntry t m k=>(opnd G ch m).bind fun mv=>(opnd G ch k).bind fun kv=>match h with
  | .call v L'=>some (.eff v L' [EntOk P L t mv kv v L'])
  | _=>none
 | .entryStore t m s x=>(opnd G ch m).bind fun mv=>(opnd G ch s).bind fun sv=>(opnd G ch x).bind fun xv=>match h with
  | .call v L'=>if v.isBot/\xv.solid then some (.eff v L' [StoOk P L t mv sv xv L']) else none
  | _=>none
 | .mapUpdate t m k x=>(opnd G ch m).bind fun mv=>(opnd G ch k).bind fun kv=>(opnd G ch x).bind fun xv=>match h with
  | .call v L'=>if v.isBot/\xv.solid then some (.eff v L' [UpdOk P L t mv kv xv L']) else none
  | _=>none
 | .range t x=>(opnd G ch x).bind fun xv=>(rangeStr P L t xv).map fun q=>.eff q.1 q.2 []
 | .next x true=>(opnd G ch x).bind fun xv=>match h with
  | .call v L'=>some (.eff v L' [NextOk P L xv v L'])
  | _=>none
 | _=>(aval P G ch L o).map fun p=>.val p.1 p.2
def Res.ok (P:Program) (G:GFr) (ch:Chain) (L:List Ob) (o:Oper):Res->Prop
 | .val v C=>AllP C->OpOk P G ch L o v L
 | .eff v L' C=>AllP C->OpOk P G ch L o v L'
theorem z7b {o:Oper} {h:Hint} {r:Res} (hs:astep P G ch L o h=some r):r.ok P G ch L o:=by
 unfold astep at hs
 split at hs
 case h_1 t ho =>
  split at hs
  ·rename_i k full
   cases he:eBorn P L t k full with
   | none=>simp[he] at hs
   | some p=>simp[he] at hs; subst hs; exact fun _=>zmn ho he
  ·cases he:eAlloc P L t true with
   | none=>simp[he] at hs
   | some p=>simp[he] at hs; subst hs; exact fun _=>ze2 ho he
  ·cases he:eAlloc P L t false with
   | none=>simp[he] at hs
   | some p=>simp[he] at hs; subst hs; exact fun _=>ze2 ho he
 case h_2 t x ho =>
  cases hx:opnd G ch x with
  | none=>simp[hx] at hs
  | some v =>
   cases he:eBox L v with
   | none=>simp[hx,he] at hs
   | some p=>simp[hx,he] at hs; subst hs; exact fun _=>znt ho hx he
 case h_3 t p x ho =>
  cases hp:opnd G ch p with
  | none=>simp[hp] at hs
  | some pv =>
   cases hx:opnd G ch x with
   | none=>simp[hp,hx] at hs
   | some xv =>
    cases he:eStore P L t pv xv with
    | none=>simp[hp,hx,he] at hs
    | some q=>simp[hp,hx,he] at hs; subst hs; exact fun hc=>zkm ho hp hx he hc
 case h_4 t len ps ho =>
  cases hp:partsO G ch ps.toList with
  | none=>simp[hp] at hs
  | some pv =>
   simp only[hp,y1t] at hs
   split at hs
   ·cases he:eBsObj P L t len pv with
    | none=>simp[he] at hs
    | some p=>simp[he] at hs; subst hs; exact fun _=>zkp ho hp he
   ·rename_i k _
    cases he:eBsBorn P L t k len pv with
    | none=>simp[he] at hs
    | some p=>simp[he] at hs; subst hs; exact fun _=>ziq ho hp he
   ·split at hs
    ·rename_i hlt
     cases he:eBsImm P t len pv with
     | none=>simp[he] at hs
     | some p=>simp[he] at hs; subst hs; exact fun _=>zko ho hp he hlt
    ·cases hs
 case h_5 t ps ho =>
  split at hs
  ·cases hp:partsO G ch ps.toList with
   | none=>simp[hp] at hs
   | some pv =>
    simp only[hp,y1t] at hs
    cases he:vBuildF P t pv with
    | none=>simp[he] at hs
    | some p=>simp[he] at hs; subst hs; exact fun hc=>zir ho hp he hc
  ·cases he:aval P G ch L o with
   | none=>simp[he] at hs
   | some p=>simp[he] at hs; subst hs; exact fun hc=>zg2 he hc
 case h_6 t l c ho =>
  cases hl:opnd G ch l with
  | none=>simp[hl] at hs
  | some lv =>
   cases hc:opnd G ch c with
   | none=>simp[hl,hc] at hs
   | some cv =>
    simp only[hl,hc,y1t] at hs
    split at hs
    ·cases he:eMakeImm P t lv cv with
     | none=>simp[he] at hs
     | some q=>simp[he] at hs; subst hs; exact fun hc'=>zh3 ho hl hc he hc'
    ·cases he:eMake P L t lv cv with
     | none=>simp[he] at hs
     | some q=>simp[he] at hs; subst hs; exact fun hc'=>zmo ho hl hc he hc'
 case h_7 fo args ts ho =>
  split at hs
  ·rename_i fv as hfo has
   split at hs
   ·rename_i f bs hbs
    split at hs
    ·rename_i hcl
     split at hs
     ·cases hs
      exact fun hc=>z5p ho hfo has hbs hcl hc.1
     ·cases hs
      exact fun hc=>z5p ho hfo has hbs hcl hc.1
     ·cases hs
      exact fun hc=>z5p ho hfo has hbs hcl (hc.1 L)
     ·cases hs
      exact fun hc=>z5p ho hfo has hbs hcl hc.1
     ·split at hs
      ·rename_i hfit
       cases hs
       exact fun hc=>z5p ho hfo has hbs hcl (CR.okR hfit hc.1).fit
      ·cases hs
     ·split at hs
      ·rename_i hfit
       cases hs
       exact fun hc=>z5p ho hfo has hbs hcl (CR.ok hfit hc.1).fit
      ·cases hs
     ·cases hs
    ·split at hs
     ·cases hs
      exact fun hc=>zo0 ho hfo has hbs hc.1
     ·cases hs
   ·cases hs
  ·cases hs
 case h_8 args ts ho =>
  split at hs
  ·rename_i s x t t' hargs hts
   split at hs
   ·rename_i ht
    subst ht
    have e1:args = #[s,x]:=by rw[<- y3b]; simpa using hargs
    have e2:ts = #[t,t]:=by rw[<- y3b]; simpa using hts
    subst e1; subst e2
    cases hx:opnd G ch x with
    | none=>simp[hx] at hs
    | some xv =>
     simp only[hx,y1t] at hs
     split at hs
     ·rename_i hso
      cases he:eAppNew P L t xv with
      | none=>simp[he] at hs
      | some q=>simp[he] at hs; subst hs; exact fun hc=>zio ho hso hx he hc
     ·rename_i n' f' _ hso
      cases he:eAppImm P L t n' f' xv with
      | none=>simp[he] at hs
      | some q=>simp[he] at hs; subst hs; exact fun hc=>zil ho hso hx he hc
     ·rename_i r' st' n' hso
      cases he:eAppPre P L t r' st' n' xv with
      | none=>simp[he] at hs
      | some q=>simp[he] at hs; subst hs; exact fun hc=>zit ho hso hx he hc
     ·rename_i r' st' n' _ hso
      cases he:eAppRef P L t r' st' n' xv with
      | none=>simp[he] at hs
      | some q=>simp[he] at hs; subst hs; exact fun hc=>zin ho hso hx he hc
     ·cases hs
   ·cases hs
  ·cases hs
 case h_9 args ts ho =>
  split at hs
  ·rename_i x t hargs hts
   have e1:args = #[x]:=by rw[<- y3b]; simpa using hargs
   have e2:ts = #[t]:=by rw[<- y3b]; simpa using hts
   subst e1; subst e2
   cases hx:opnd G ch x with
   | none=>simp[hx] at hs
   | some xv =>
    cases he:eClear P L t xv with
    | none=>simp[hx,he] at hs
    | some q=>simp[hx,he] at hs; subst hs; exact fun hc=>zkq ho hx he hc
  ·cases hs
 case h_10 args ts ho =>
  split at hs
  ·rename_i d x t t' hargs hts
   have e1:args = #[d,x]:=by rw[<- y3b]; simpa using hargs
   have e2:ts = #[t,t']:=by rw[<- y3b]; simpa using hts
   subst e1; subst e2
   cases hd:opnd G ch d with
   | none=>simp[hd] at hs
   | some dv =>
    cases hx:opnd G ch x with
    | none=>simp[hd,hx] at hs
    | some xv =>
     cases he:eCopy P L t dv xv with
     | none=>simp[hd,hx,he] at hs
     | some q=>simp[hd,hx,he] at hs; subst hs; exact fun hc=>zmp ho hd hx he hc
  ·cases hs
 case h_11 args ts ho =>
  split at hs
  ·rename_i m k t r hargs hts
   have e1:args = #[m,k]:=by rw[<- y3b]; simpa using hargs
   subst e1
   have e2:ts[0]? = some t:=by rw[<- y1e,hts]; rfl
   cases hm:opnd G ch m with
   | none=>simp[hm] at hs
   | some mv =>
    cases hk:opnd G ch k with
    | none=>simp[hm,hk] at hs
    | some kv =>
     simp only[hm,hk,y1t] at hs
     split at hs
     ·cases hs; exact fun hc=>zny ho e2 hm hk hc.1
     ·cases hs
  ·cases hs
 case h_12 t ho =>
  cases hs
  exact fun _=>zh5 ho
 case h_13 t x k ok ho =>
  cases hx:opnd G ch x with
  | none=>simp[hx] at hs
  | some xv =>
   cases hk:opnd G ch k with
   | none=>simp[hx,hk] at hs
   | some kv =>
    simp only[hx,hk,y1t] at hs
    split at hs
    ·cases hs; exact fun hc=>zmq ho hx hk hc.1
    ·cases hs
 case h_14 t m k ho =>
  cases hx:opnd G ch m with
  | none=>simp[hx] at hs
  | some xv =>
   cases hk:opnd G ch k with
   | none=>simp[hx,hk] at hs
   | some kv =>
    simp only[hx,hk,y1t] at hs
    split at hs
    ·cases hs; exact fun hc=>znv ho hx hk hc.1
    ·cases hs
 case h_15 t m s x ho =>
  cases hm:opnd G ch m with
  | none=>simp[hm] at hs
  | some mv =>
   cases hk:opnd G ch s with
   | none=>simp[hm,hk] at hs
   | some sv =>
    cases hx:opnd G ch x with
    | none=>simp[hm,hk,hx] at hs
    | some xv =>
     simp only[hm,hk,hx,y1t] at hs
     split at hs
     ·split at hs
      ·rename_i hb
       cases hs; exact fun hc=>znw ho hm hk hx hb.1 hc.1
      ·cases hs
     ·cases hs
 case h_16 t m s x ho =>
  cases hm:opnd G ch m with
  | none=>simp[hm] at hs
  | some mv =>
   cases hk:opnd G ch s with
   | none=>simp[hm,hk] at hs
   | some sv =>
    cases hx:opnd G ch x with
    | none=>simp[hm,hk,hx] at hs
    | some xv =>
     simp only[hm,hk,hx,y1t] at hs
     split at hs
     ·split at hs
      ·rename_i hb
       cases hs; exact fun hc=>znx ho hm hk hx hb.1 hc.1
      ·cases hs
     ·cases hs
 case h_17 t x ho =>
  cases hx:opnd G ch x with
  | none=>simp[hx] at hs
  | some xv =>
   cases he:rangeStr P L t xv with
   | none=>simp[hx,he] at hs
   | some q=>simp[hx,he] at hs; subst hs; exact fun _=>zfm ho hx he
 case h_18 x ho =>
  cases hx:opnd G ch x with
  | none=>simp[hx] at hs
  | some xv =>
   simp only[hx,y1t] at hs
   split at hs
   ·cases hs; exact fun hc=>zmr ho hx hc.1
   ·cases hs
 case h_19 =>
  cases he:aval P G ch L o with
  | none=>simp[he] at hs
  | some p=>simp[he] at hs; subst hs; exact fun hc=>zg2 he hc
structure HE where
 h:Hint:=.none
 cast:Option AV:=none
 obs:List (Nat×Ob):=[]
def hintOf:List (Nat×HE)->Nat->HE
 | [],_=>{}
 | (j,h) :: r,i=>if j==i then h else hintOf r i
def guardCh (ops:Array Oper) (G:GFr) (o:Oper):Option Chain :=
 match o.guard with
 | none=>some []
 | some (j,want)=>match (ops[j]?).bind (·.dst) with
  | some t=>match G.get t with
   | some (ch,.d (.b _))=>some ((t,want) :: ch)
   | _=>none
  | none=>none
def gP (G:GFr):Chain->List Prop
 | []=>[]
 | (s,want) :: r=>(match G.get s with
  | some (_,.d (.b p))=>[p=want]
  | _=>[])++gP G r
def chainOk (G:GFr):Chain->Bool
 | []=>true
 | (s,_) :: r=>(match G.get s with
  | some (ch,.d (.b _))=>ch.all fun y=>r.contains y
  | _=>false)&&chainOk G r
def underG (G:GFr) (ch:Chain) (C:List Prop):List Prop:=match ch with
 | []=>C
 | _=>C.map fun c=>AllP (gP G ch)->c
def castV (v:AV):Option AV->AV×List Prop
 | none=>(v,[])
 | some v'=>(v',[LeV v v'])
def castObs:List (Nat×Ob)->List Ob->Option (List Ob×List Prop)
 | [],L=>some (L,[])
 | (o,y) :: r,L=>match L[o]? with
  | some x=>match castObs r (L.set o y) with
   | some (L',C)=>some (L',OLe x y :: C)
   | none=>none
  | none=>none
def putG (G:GFr) (N:Nat) (dst:Option Tmp) (ch:Chain) (v:AV):Option GFr :=
 match dst with
 | none=>some G
 | some t=>if t<N/\ch.all (fun y=>y.1 != t)=true then some (G.put t ch v) else none
def runOps (P:Program) (ops:Array Oper) (N:Nat) (hs:List (Nat×HE)):List Nat->GFr->List Ob->Option (GFr×List Ob×List Prop)
 | [],G,L=>some (G,L,[])
 | i :: r,G,L=>match ops[i]? with
  | none=>none
  | some o=>match guardCh ops G o with
   | none=>none
   | some ch=>let e:=hintOf hs i
    match astep P G ch L o e.h with
    | none=>none
    | some (.val v C) =>
     let p:=castV v e.cast
     match putG G N o.dst ch p.1 with
     | none=>none
     | some G1=>match runOps P ops N hs r G1 L with
      | none=>none
      | some (G',L',C')=>some (G',L',underG G ch (C++p.2)++C')
    | some (.eff v L1 C)=>match ch with
     | y :: ys =>
      let p:=castV v e.cast
      if chainOk G (y :: ys)=true/\e.obs.length=0 then match putG G N o.dst (y :: ys) p.1 with
       | none=>none
       | some G1=>match runOps P ops N hs r G1 L1 with
        | none=>none
        | some (G',L',C')=>some (G',L',underG G (y :: ys) (C++p.2)++((¬ AllP (gP G (y :: ys))->L=L1) :: C'))
      else none
     | [] =>
      let p:=castV v e.cast
      match castObs e.obs L1 with
      | none=>none
      | some (L2,C2)=>match putG G N o.dst [] p.1 with
       | none=>none
       | some G1=>match runOps P ops N hs r G1 L2 with
        | none=>none
        | some (G',L',C')=>some (G',L',C++(p.2++(C2++C')))
theorem ze7 {c:Cx} {G:GFr} {tmps:Array Value} (hf:FrIs c G tmps):∀ {ch:Chain},holds ch tmps->AllP (gP G ch)
 | [],_=>trivial
 | (s,want) :: r,h=>by
  simp only[gP]
  rw[zd]
  refine⟨?_,ze7 hf (fun y hy=>h y (ym _ hy))⟩
  have h0:=h (s,want) y1a
  split
  ·rename_i ch' p hg
   have hs:=hf _ (GFr.get_mem hg)
   by_cases hh:holds ch' tmps
   ·have e:=IsV.b (hs.2.1 hh)
    have:Value.bool p=Value.bool want:=e.symm.trans h0
    cases this
    exact⟨rfl,trivial⟩
   ·have e:=hs.2.2 hh
    have:undef=Value.bool want:=e.symm.trans h0
    cases this
  ·trivial
theorem zbm {c:Cx} {G:GFr} {tmps:Array Value} (hf:FrIs c G tmps):∀ {ch:Chain},chainOk G ch=true->AllP (gP G ch)->holds ch tmps
 | [],_,_=>fun y hy=>by cases hy
 | (s,want) :: r,hk,h=>by
  simp only[chainOk,ya] at hk
  simp only[gP] at h
  rw[zd] at h
  have ih:=zbm hf hk.2 h.2
  intro y hy
  rcases yv.1 hy with rfl | hy
  ·have h1:=hk.1
   split at h1
   ·rename_i ch0 p hg
    have hs:=hf _ (GFr.get_mem hg)
    have e:=IsV.b (hs.2.1 (zcf h1 ih))
    simp only[hg] at h
    have hp:p=want:=h.1.1
    subst hp
    exact e
   ·cases h1
  ·exact ih y hy
variable {tmps:Array Value}
theorem z5g (hf:FrIs c G tmps) (hh:holds ch tmps) (h:AllP (underG G ch C)):AllP C:=by
 unfold underG at h
 split at h
 ·exact h
 ·have hg:=ze7 hf hh
  clear hh hf
  induction C with
  | nil=>trivial
  | cons x r ih=>exact⟨h.1 hg,ih h.2⟩
variable {ops:Array Oper}
theorem z83 {o:Oper} (h:guardCh ops G o=some ch) (hf:FrIs c G tmps) :
  Region.wanted o (yielded ops tmps)=true↔holds ch tmps:=by
 unfold guardCh at h
 split at h
 ·rename_i hg
  cases h
  simp[Region.wanted,hg,holds]
 ·rename_i j want hg
  split at h
  ·rename_i t ht
   split at h
   ·rename_i ch0 p hgt
    cases h
    obtain⟨h1,h2,h3⟩:=hf _ (GFr.get_mem hgt)
    simp only at h1 h2 h3
    have hget:tmps[t]? = some (tmps.getD t undef):=by simp[Array.getD_eq_getD_getElem?,h1]
    simp only[Region.wanted,hg,yielded,ht,y1t,hget]
    by_cases hh:holds ch0 tmps
    ·have e:=IsV.b (h2 hh)
     rw[e]
     simp only[yn,yw]
     constructor
     ·rintro rfl y hy
      rcases yv.1 hy with rfl | hy
      ·exact e
      ·exact hh y hy
     ·intro hh'
      have:=hh' (t,want) y1a
      simp only[e] at this
      cases this; rfl
    ·have e:=h3 hh
     rw[e]
     simp only[undef]
     constructor
     ·intro h; cases h
     ·intro hh'
      exact absurd (fun y hy=>hh' y (ym _ hy)) hh
   ·cases h
  ·cases h
theorem z4i {k:Option AV} (h:AllP (castV v k).2) (hv:AV.IsV c v u):AV.IsV c (castV v k).1 u:=by
 cases k with
 | none=>exact hv
 | some v'=>exact h.1 c u hv
theorem z6n {X:Nat->Prop} {ms:Blocks} {w:World}:∀ {l:List (Nat×Ob)} {L L':List Ob} {C:List Prop},castObs l L=some (L',C)->AllP C->Rel X ms L w ->
  Rel X ms L' w/\(cxOf X ms L w).le (cxOf X ms L' w)
 | [],L,L',C,h,_,hr=>by simp[castObs] at h; obtain⟨rfl,rfl⟩:=h; exact⟨hr,Cx.le.refl _⟩
 | (o,y) :: r,L,L',C,h,hc,hr=>by
  simp only[castObs] at h
  split at h
  ·rename_i x hx
   split at h
   ·rename_i L1 C1 h1
    cases h
    obtain⟨k1,k2⟩:=hr.recast hx hc.1
    obtain⟨k3,k4⟩:=z6n h1 hc.2 k1
    exact⟨k3,k2.trans k4⟩
   ·cases h
  ·cases h
variable {a:Act} {N:Nat} {dst:Option Tmp}
theorem z4j {G1:GFr} (h:putG G N dst ch v=some G1) (hN:a.tmps.size=N) (hf:FrIs c G a.tmps) (hv:holds ch a.tmps->AV.IsV c v u) (hu:¬ holds ch a.tmps->u=undef):FrIs c G1 (a.put dst u).tmps/\(a.put dst u).tmps.size=N/\(a.put dst u).defers=a.defers:=by
 unfold putG at h
 cases dst with
 | none=>cases h; exact⟨hf,hN,rfl⟩
 | some t =>
  simp only at h
  split at h
  ·rename_i ht
   cases h
   refine⟨hf.put (by rw[hN]; exact ht.1) ht.2 hv hu,by simp[Act.put,hN],rfl⟩
  ·cases h
theorem z2i {P:Program} {ops:Array Oper} {N:Nat} {hs:List (Nat×HE)} {Q:Exit->Act->World->Prop} {X:Nat->Prop} (z:Option Nat) (zn:Nat):∀ (l:List Nat) (G:GFr) (L:List Ob) (G':GFr) (L':List Ob) (C:List Prop)
  (ms:Blocks) (w:World) (a:Act),runOps P ops N hs l G L=some (G',L',C)->AllP C->Rel X ms L w->FrIs (cxOf X ms L w) G a.tmps->a.tmps.size=N ->
  (∀ a' ms' w',Rel X ms' L' w'->Ext ms w ms' w'->(cxOf X ms L w).le (cxOf X ms' L' w')->FrIs (cxOf X ms' L' w') G' a'.tmps->a'.tmps.size=N->a'.defers=a.defers->Q .normal a' w') ->
  wpOpsIn (fenceOf z) zn P ops Q l a w
 | [],G,L,G',L',C,ms,w,a,h,_,hr,hf,hN,hQ=>by
  simp only[runOps,yw,y34] at h
  obtain⟨rfl,rfl,rfl⟩:=h
  exact hQ a ms w hr (Ext.refl _ _) (Cx.le.refl _) hf hN rfl
 | i :: r,G,L,G',L',C,ms,w,a,h,hc,hr,hf,hN,hQ=>by
  simp only[runOps] at h
  cases ho:ops[i]? with
  | none=>simp[ho] at h
  | some o =>
   simp only[ho] at h
   cases hg:guardCh ops G o with
   | none=>simp[hg] at h
   | some ch =>
    simp only[hg] at h
    have hw:=z83 hg hf
    simp only[wpOpsIn,ho]
    cases hst:astep P G ch L o (hintOf hs i).h with
    | none=>simp[hst] at h
    | some res =>
     have hok:=z7b hst
     cases res with
     | val v C1 =>
      simp only[hst] at h
      cases hp:putG G N o.dst ch (castV v (hintOf hs i).cast).1 with
      | none=>simp[hp] at h
      | some G1 =>
       simp only[hp] at h
       cases hrun:runOps P ops N hs r G1 L with
       | none=>simp[hrun] at h
       | some q =>
        obtain⟨G2,L2,C2⟩:=q
        simp only[hrun,yw,y34] at h
        obtain⟨rfl,rfl,rfl⟩:=h
        obtain⟨hc1,hc2⟩:=zd.1 hc
        by_cases hh:holds ch a.tmps
        ·rw[y7 (hw.2 hh)]
         obtain⟨hc3,hc4⟩:=zd.1 (z5g hf hh hc1)
         refine hok hc3 z zn X ms w a _ Q hr hf hh fun u ms1 w1 k1 k2 k3 k4=>?_
         obtain⟨p1,p2,p3⟩:=z4j hp hN (hf.mono k3) (fun _=>z4i hc4 k4) (fun h=>absurd hh h)
         exact z2i z zn r G1 L G2 L2 C2 ms1 w1 _ hrun hc2 k1 p1 p2 (fun a' ms' w' q1 q2 q3 q4 q5 q6=>hQ a' ms' w' q1 (k2.trans q2) (k3.trans q3) q4 q5 (q6.trans p3))
        ·rw[y6 (fun h=>hh (hw.1 h))]
         refine⟨fun f _=>z3q z f,?_⟩
         obtain⟨p1,p2,p3⟩:=z4j hp hN hf (u:=undef) (fun h=>absurd h hh) (fun _=>rfl)
         exact z2i z zn r G1 L G2 L2 C2 ms w _ hrun hc2 hr p1 p2 (fun a' ms' w' q1 q2 q3 q4 q5 q6=>hQ a' ms' w' q1 q2 q3 q4 q5 (q6.trans p3))
     | eff v L1 C1 =>
      simp only[hst] at h
      cases ch with
      | cons y ys =>
       simp only at h
       split at h
       ·rename_i hco
        cases hp:putG G N o.dst (y :: ys) (castV v (hintOf hs i).cast).1 with
        | none=>simp[hp] at h
        | some G1 =>
         simp only[hp] at h
         cases hrun:runOps P ops N hs r G1 L1 with
         | none=>simp[hrun] at h
         | some q =>
          obtain⟨G3,L3,C3⟩:=q
          simp only[hrun,yw,y34] at h
          obtain⟨rfl,rfl,rfl⟩:=h
          obtain⟨hc1,hc2,hc3⟩:=zd.1 hc
          by_cases hh:holds (y :: ys) a.tmps
          ·rw[y7 (hw.2 hh)]
           obtain⟨hc4,hc5⟩:=zd.1 (z5g hf hh hc1)
           refine hok hc4 z zn X ms w a _ Q hr hf hh fun u ms1 w1 k1 k2 k3 k4=>?_
           obtain⟨p1,p2,p3⟩:=z4j hp hN (hf.mono k3) (fun _=>z4i hc5 k4) (fun h=>absurd hh h)
           exact z2i z zn r G1 L1 G3 L3 C3 ms1 w1 _ hrun hc3 k1 p1 p2 (fun a' ms' w' q1 q2 q3 q4 q5 q6=>hQ a' ms' w' q1 (k2.trans q2) (k3.trans q3) q4 q5 (q6.trans p3))
          ·rw[y6 (fun h=>hh (hw.1 h))]
           refine⟨fun f _=>z3q z f,?_⟩
           have hLL:=hc2 fun hg=>hh (zbm hf hco.1 hg)
           subst hLL
           obtain⟨p1,p2,p3⟩:=z4j hp hN hf (u:=undef) (fun h=>absurd h hh) (fun _=>rfl)
           exact z2i z zn r G1 L G3 L3 C3 ms w _ hrun hc3 hr p1 p2 (fun a' ms' w' q1 q2 q3 q4 q5 q6=>hQ a' ms' w' q1 q2 q3 q4 q5 (q6.trans p3))
       ·cases h
      | nil =>
       simp only at h
       cases hco:castObs (hintOf hs i).obs L1 with
       | none=>simp[hco] at h
       | some q0 =>
        obtain⟨L2,C2⟩:=q0
        simp only[hco] at h
        cases hp:putG G N o.dst [] (castV v (hintOf hs i).cast).1 with
        | none=>simp[hp] at h
        | some G1 =>
         simp only[hp] at h
         cases hrun:runOps P ops N hs r G1 L2 with
         | none=>simp[hrun] at h
         | some q =>
          obtain⟨G3,L3,C3⟩:=q
          simp only[hrun,yw,y34] at h
          obtain⟨rfl,rfl,rfl⟩:=h
          obtain⟨hc1,hc2⟩:=zd.1 hc
          obtain⟨hc3,hc4⟩:=zd.1 hc2
          obtain⟨hc5,hc6⟩:=zd.1 hc4
          have hh:holds [] a.tmps:=fun y hy=>by cases hy
          rw[y7 (hw.2 hh)]
          refine hok hc1 z zn X ms w a _ Q hr hf hh fun u ms1 w1 k1 k2 k3 k4=>?_
          obtain⟨r1,r2⟩:=z6n hco hc5 k1
          obtain⟨p1,p2,p3⟩:=z4j hp hN ((hf.mono k3).mono r2) (fun _=>(z4i hc3 k4).mono r2) (fun h=>absurd hh h)
          exact z2i z zn r G1 L2 G3 L3 C3 ms1 w1 _ hrun hc6 r1 p1 p2 (fun a' ms' w' q1 q2 q3 q4 q5 q6=>hQ a' ms' w' q1 (k2.trans q2) ((k3.trans r2).trans q3) q4 q5 (q6.trans p3))
variable {z:Option Nat}
abbrev Fr:=List (Nat×AV)
def Fr.up (fr:Fr):GFr:=fr.map fun x=>(x.1,[],x.2)
abbrev Post:=Exit->Fr->List Ob->Prop
def AW (z:Option Nat) (P:Program) (N:Nat) (c:Code) (Q:Post) (fr:Fr) (L:List Ob):Prop :=
 ∀ (zn:Nat) (df:List Deferred) (X:Nat->Prop) (ms:Blocks) (w:World) (a:Act),Rel X ms L w->FrIs (cxOf X ms L w) fr.up a.tmps->a.tmps.size=N->a.defers=df ->
  c.wpIn (fenceOf z) zn P (fun e a' w'=>∃ ms' fr' L',Q e fr' L'/\Rel X ms' L' w'/\Ext ms w ms' w'/\(cxOf X ms L w).le (cxOf X ms' L' w')/\FrIs (cxOf X ms' L' w') fr'.up a'.tmps /\
   a'.tmps.size=N/\a'.defers=df) a w
variable {fr':Fr} {cs:List Frame} {F:Fence} {y:Code} {id:Nat} {hs:List (Nat×HE)}
section
variable {P:Program} {N:Nat} {Q:Post} {fr:Fr} {L:List Ob}
theorem zbn {c:Code} {Q':Post} (h:AW z P N c Q' fr L) (hq:∀ e fr L,Q' e fr L->Q e fr L):AW z P N c Q fr L :=
 fun zn df X ms w a hr hf hN hd=>y32 (h zn df X ms w a hr hf hN hd) fun _ _ _ ⟨ms',fr',L',hQ,rest⟩=>⟨ms',fr',L',hq _ _ _ hQ,rest⟩
theorem zbo (h:Q .normal fr L):AW z P N .skip Q fr L :=
 fun _ _ _ ms _ _ hr hf hN hd=>wpIn_skip ⟨ms,fr,L,h,hr,Ext.refl _ _,Cx.le.refl _,hf,hN,hd⟩
theorem zo1 (h:Q .ret fr L):AW z P N .ret Q fr L :=
 fun _ _ _ ms _ _ hr hf hN hd=>wpIn_ret ⟨ms,fr,L,h,hr,Ext.refl _ _,Cx.le.refl _,hf,hN,hd⟩
theorem zmt (h:Q (.exit i) fr L):AW z P N (.exit i) Q fr L :=
 fun _ _ _ ms _ _ hr hf hN hd=>wpIn_exit ⟨ms,fr,L,h,hr,Ext.refl _ _,Cx.le.refl _,hf,hN,hd⟩
theorem zks {l:Nat} (h:Q .normal fr L):AW z P N (.label l) Q fr L :=
 fun _ _ _ ms _ _ hr hf hN hd=>wpIn_label ⟨ms,fr,L,h,hr,Ext.refl _ _,Cx.le.refl _,hf,hN,hd⟩
theorem z3k {b:Frame} {k:List Item} {c:Code}:step P (lone (b.atR a (.code (.scope c) :: k)) cs w) = .next (lone (b.atR a (.code c :: .inScope c :: k)) cs w) :=
 step_lone_go (by simp[stepG,stepG.exec,Frame.atR])
theorem zdl {b:Frame} {k:List Item} {c:Code}:step P (lone (b.atR a (.inScope c :: k)) cs w) = .next (lone (b.atR a k) cs w) :=
 step_lone_go (by simp[stepG,stepG.exec,Frame.atR])
theorem zh6 {Q:Exit->Act->World->Prop} {c:Code} (h:c.wpIn F n P Q a w) (hg:∀ l a w,¬ Q (.goto l) a w):(Code.scope c).wpIn F n P Q a w:=by
 intro b k cs hro hb hr
 have h0:(lone (b.atR a (.code (.scope c) :: k)) cs w).fenced P F:=y53 hb hr rfl
 obtain⟨e,a₁,w₁,hq,harr⟩:=h b (.inScope c :: k) cs hro hb hr
 cases e with
 | normal=>exact⟨.normal,a₁,w₁,hq,.head h0 z3k (StepsIn.trans harr (.one (y53 hb hr rfl) zdl))⟩
 | exit id=>exact⟨_,a₁,w₁,hq,.of_steps (.one h0 z3k) ⟨fun k' hk=>harr.1 k' (by simp[exitTo,hk]),fun hr hk=>harr.2 hr (by simp[exitTo,hk])⟩⟩
 | goto l=>exact absurd hq (hg _ _ _)
 | ret=>exact⟨_,a₁,w₁,hq,.of_steps (.one h0 z3k) harr⟩
 | panic ch=>exact⟨_,a₁,w₁,hq,.of_steps (.one h0 z3k) harr⟩
 | outgrown=>exact⟨_,a₁,w₁,hq,.of_steps (.one h0 z3k) harr⟩
theorem zkt {c:Code} (h:AW z P N c Q fr L) (hg:∀ l fr L,¬ Q (.goto l) fr L):AW z P N (.scope c) Q fr L :=
 fun zn df X ms w a hr hf hN hd=>zh6 (h zn df X ms w a hr hf hN hd) fun l _ _ ⟨_,_,_,hq,_⟩=>hg l _ _ hq
def thenP (k:Fr->List Ob->Prop) (Q:Post):Post
 | .normal,fr,L=>k fr L
 | e,fr,L=>Q e fr L
theorem z4d {x:Code} (h:AW z P N x (thenP (fun fr L=>AW z P N y Q fr L) Q) fr L):AW z P N (.seq x y) Q fr L:=by
 intro zn df X ms w a hr hf hN hd
 refine y57 (y32 (h zn df X ms w a hr hf hN hd) ?_)
 rintro e a1 w1 ⟨ms1,fr1,L1,hq,hr1,he1,hc1,hf1,hN1,hd1⟩
 cases e with
 | normal =>
  refine y32 (hq zn df X ms1 w1 a1 hr1 hf1 hN1 hd1) ?_
  rintro e a2 w2 ⟨ms2,fr2,L2,hq2,hr2,he2,hc2,hf2,hN2,hd2⟩
  exact⟨ms2,fr2,L2,hq2,hr2,he1.trans he2,hc1.trans hc2,hf2,hN2,hd2⟩
 | exit i=>exact⟨ms1,fr1,L1,hq,hr1,he1,hc1,hf1,hN1,hd1⟩
 | goto l=>exact⟨ms1,fr1,L1,hq,hr1,he1,hc1,hf1,hN1,hd1⟩
 | ret=>exact⟨ms1,fr1,L1,hq,hr1,he1,hc1,hf1,hN1,hd1⟩
 | panic ch=>exact⟨ms1,fr1,L1,hq,hr1,he1,hc1,hf1,hN1,hd1⟩
 | outgrown=>exact⟨ms1,fr1,L1,hq,hr1,he1,hc1,hf1,hN1,hd1⟩
def blockP (id:Nat) (Q:Post):Post
 | .exit i,fr,L=>if i=id then Q .normal fr L else Q (.exit i) fr L
 | e,fr,L=>Q e fr L
def AWL (z:Option Nat) (P:Program) (N:Nat) (c:Code) (Q:Post) (fr:Fr) (L:List Ob):Prop :=
 ∀ (zn:Nat) (df:List Deferred) (X:Nat->Prop) (ms:Blocks) (w:World) (a:Act),Rel X ms L w->FrIs (cxOf X ms L w) fr.up a.tmps->a.tmps.size=N->a.defers=df ->
  ∀ (b:Frame) (k:List Item) (cs:List Frame),b.roundOf=(fenceOf z).round->(fenceOf z).fn b.fn->(fenceOf z).room (cs.length+1+zn) ->
  ∃ e a' w',(∃ ms' fr' L',Q e fr' L'/\Rel X ms' L' w'/\Ext ms w ms' w'/\(cxOf X ms L w).le (cxOf X ms' L' w')/\FrIs (cxOf X ms' L' w') fr'.up a'.tmps /\
   a'.tmps.size=N/\a'.defers=df)/\ArrivesIn (Machine.fenced P (fenceOf z)) P (lone (b.atR a (.inLoop c :: k)) cs w) b k cs e a' w'
theorem zaq {c:Code} (h:AW z P N c (thenP (fun fr L=>AWL z P N c Q fr L) Q) fr L) {m:Machine} (zn:Nat) (df:List Deferred) (X:Nat->Prop) (ms:Blocks) (w:World) (a:Act) (hr:Rel X ms L w)
  (hf:FrIs (cxOf X ms L w) fr.up a.tmps) (hN:a.tmps.size=N) (hd:a.defers=df) (b:Frame) (k:List Item) (cs:List Frame) (h1:b.roundOf=(fenceOf z).round) (h2:(fenceOf z).fn b.fn)
  (h3:(fenceOf z).room (cs.length+1+zn)) (hm:StepsIn (Machine.fenced P (fenceOf z)) P m (lone (b.atR a (.code c :: .inLoop c :: k)) cs w)) :
  ∃ e a' w',(∃ ms' fr' L',Q e fr' L'/\Rel X ms' L' w'/\Ext ms w ms' w'/\(cxOf X ms L w).le (cxOf X ms' L' w')/\FrIs (cxOf X ms' L' w') fr'.up a'.tmps /\
   a'.tmps.size=N/\a'.defers=df)/\ArrivesIn (Machine.fenced P (fenceOf z)) P m b k cs e a' w':=by
 obtain⟨e,a1,w1,⟨ms1,fr1,L1,hq,r1,e1,c1,f1,n1,d1⟩,harr⟩:=h zn df X ms w a hr hf hN hd b (.inLoop c :: k) cs h1 h2 h3
 have harr:=ArrivesIn.of_steps hm harr
 cases e with
 | normal =>
  obtain⟨e2,a2,w2,⟨ms2,fr2,L2,q2,r2,e2',c2,f2,n2,d2⟩,harr2⟩:=hq zn df X ms1 w1 a1 r1 f1 n1 d1 b k cs h1 h2 h3
  exact⟨e2,a2,w2,⟨ms2,fr2,L2,q2,r2,e1.trans e2',c1.trans c2,f2,n2,d2⟩,.of_steps harr harr2⟩
 | exit id=>exact⟨_,a1,w1,⟨ms1,fr1,L1,hq,r1,e1,c1,f1,n1,d1⟩,.pass (x:=.inLoop c) rfl (fun _ _=>.inl sj) harr⟩
 | goto l=>exact⟨_,a1,w1,⟨ms1,fr1,L1,hq,r1,e1,c1,f1,n1,d1⟩,.pass (x:=.inLoop c) rfl (fun _ _=>.inl sj) harr⟩
 | ret=>exact⟨_,a1,w1,⟨ms1,fr1,L1,hq,r1,e1,c1,f1,n1,d1⟩,.pass (x:=.inLoop c) rfl (fun _ _=>.inl sj) harr⟩
 | panic ch=>exact⟨_,a1,w1,⟨ms1,fr1,L1,hq,r1,e1,c1,f1,n1,d1⟩,.pass (x:=.inLoop c) rfl (fun _ _=>.inl sj) harr⟩
 | outgrown=>exact⟨_,a1,w1,⟨ms1,fr1,L1,hq,r1,e1,c1,f1,n1,d1⟩,.pass (x:=.inLoop c) rfl (fun _ _=>.inl sj) harr⟩
theorem zku {c:Code} (h:AW z P N c (thenP (fun fr L=>AWL z P N c Q fr L) Q) fr L):AW z P N (.loop c) Q fr L :=
 fun zn df X ms w a hr hf hN hd b k cs h1 h2 h3=>zaq h zn df X ms w a hr hf hN hd b k cs h1 h2 h3 (.one (y53 h2 h3 rfl) stepR_loop)
theorem zov {c:Code} (h:AW z P N c (thenP (fun fr L=>AWL z P N c Q fr L) Q) fr L):AWL z P N c Q fr L :=
 fun zn df X ms w a hr hf hN hd b k cs h1 h2 h3=>zaq h zn df X ms w a hr hf hN hd b k cs h1 h2 h3 (.one (y53 h2 h3 rfl) stepR_inLoop)
theorem z7c {c:Code} (h:AW z P N c (blockP i Q) fr L):AW z P N (.block i c) Q fr L:=by
 intro zn df X ms w a hr hf hN hd
 refine wpIn_block (y32 (h zn df X ms w a hr hf hN hd) ?_)
 rintro e a1 w1 ⟨ms1,fr1,L1,hq,rest⟩
 cases e with
 | exit j =>
  by_cases hj:j=i
  ·simp only[blockP,hj,y3h] at hq
   simp only[Exit.inBlock,hj,y3h]
   exact⟨ms1,fr1,L1,hq,rest⟩
  ·simp only[blockP,y6 hj] at hq
   simp only[Exit.inBlock,y6 hj]
   exact⟨ms1,fr1,L1,hq,rest⟩
 | normal=>exact⟨ms1,fr1,L1,hq,rest⟩
 | goto l=>exact⟨ms1,fr1,L1,hq,rest⟩
 | ret=>exact⟨ms1,fr1,L1,hq,rest⟩
 | panic ch=>exact⟨ms1,fr1,L1,hq,rest⟩
 | outgrown=>exact⟨ms1,fr1,L1,hq,rest⟩
theorem z8v {o:Operand} {x:Code} {b:Bool} (hb:opnd fr.up [] o=some (.d (.b b))) (ht:b=true->AW z P N x Q fr L) (hf':b=false->AW z P N y Q fr L) :
  AW z P N (.cond o x y) Q fr L:=by
 intro zn df X ms w a hr hf hN hd
 have e:=IsV.b (zf hb hf (fun y hy=>by cases hy))
 cases b with
 | true=>exact wpIn_cond_true e (ht rfl zn df X ms w a hr hf hN hd)
 | false=>exact wpIn_cond_false e (hf' rfl zn df X ms w a hr hf hN hd)
def frOf:GFr->Fr
 | []=>[]
 | (t,[],v) :: r=>(t,v) :: frOf r
 | (_,_ :: _,_) :: r=>frOf r
theorem z9s:∀ {G:GFr} {t:Nat} {v:AV},(t,v)∈frOf G->(t,[],v)∈G
 | [],_,_,h=>by cases h
 | (s,[],u) :: r,t,v,h=>by
  rcases yv.1 h with e | h
  ·cases e; exact y1a
  ·exact ym _ (z9s h)
 | (_,_ :: _,_) :: r,t,v,h=>ym _ (z9s (G:=r) h)
theorem zg4 (hf:FrIs c G tmps):FrIs c (frOf G).up tmps:=fun x hx=>by
 obtain⟨y,hy,rfl⟩:=yz.1 hx
 exact hf _ (z9s hy)
def regionRun (P:Program) (ops:Array Oper) (N:Nat) (hs:List (Nat×HE)) (fr:Fr) (L:List Ob):Option (Fr×List Ob×List Prop) :=
 match runOps P ops N hs (List.range ops.size) fr.up L with
 | some (G,L',C)=>some (frOf G,L',C)
 | none=>none
theorem z6b (h:regionRun P ops N hs fr L=some (fr',L',C)) (hc:AllP C) (hQ:Q .normal fr' L'):AW z P N (.region id ops false) Q fr L:=by
 intro zn df X ms w a hr hf hN hd
 unfold regionRun at h
 split at h
 ·rename_i G L1 C1 hrun
  cases h
  refine y5v (z2i z zn _ _ _ _ _ _ ms w a hrun hc hr hf hN fun a' ms' w' q1 q2 q3 q4 q5 q6=>?_)
  exact⟨ms',frOf G,L',hQ,q1,q2,q3,zg4 q4,q5,q6.trans hd⟩
 ·cases h
def Fr.get? : Fr->Nat->Option AV
 | [],_=>none
 | (s,v) :: r,t=>if s==t then some v else Fr.get? r t
def FrLe (fr fr':Fr):Prop:=∀ x∈fr',∃ v,(x.1,v)∈fr/\LeV v x.2
theorem FrLe.refl (fr:Fr):FrLe fr fr:=fun x hx=>⟨x.2,hx,LeV.refl _⟩
theorem FrLe.is {fr:Fr} (h:FrLe fr fr') (hf:FrIs c fr.up tmps):FrIs c fr'.up tmps:=by
 intro x hx
 obtain⟨y,hy,rfl⟩:=yz.1 hx
 obtain⟨v,hv,hle⟩:=h y hy
 obtain⟨h1,h2,h3⟩:=hf (y.1,[],v) (yz.2 ⟨(y.1,v),hv,rfl⟩)
 exact⟨h1,fun hh=>hle c _ (h2 hh),fun hh=>absurd (fun z hz=>by cases hz) hh⟩
theorem ziz {c:Code} (h:AW z P N c Q fr' L) (hle:FrLe fr fr'):AW z P N c Q fr L :=
 fun zn df X ms w a hr hf hN hd=>h zn df X ms w a hr (hle.is hf) hN hd
end
mutual
def AV.lt (n:Nat):AV->Bool
 | .agg fs=>AV.ltL n fs
 | .ptr o _ _=>decide (o<n)
 | .ref o _ _ _=>decide (o<n)
 | .map o=>decide (o<n)
 | .fn _ caps=>AV.ltL n caps
 | .bfn _ caps=>AV.ltL n caps
 | .tup vs=>AV.ltL n vs
 | .sel _ _ x y=>x.lt n&&y.lt n
 | _=>true
def AV.ltL (n:Nat):List AV->Bool
 | []=>true
 | x :: xs=>x.lt n&&AV.ltL n xs
end
def Ob.lt (n:Nat):Ob->Prop
 | .box x=>x.lt n=true
 | .seq _ m f=>∀ i,i<m->(f i).lt n=true
 | .map _=>True
 | .dmap _=>True
 | .ex _=>True
 | .dead=>True
 | .unb=>True
structure Cx.cut (c c':Cx) (n:Nat):Prop where
 M:c.M.le c'.M
 len:n<=c'.L.length
 L:∀ o,o<n->c'.L[o]? = c.L[o]?
 ms:∀ o,o<n->c'.ms[o]? = c.ms[o]?
mutual
theorem AV.Is.cut {c c':Cx} {n:Nat} (hc:c.cut c' n) {x:AV} {cs:List Value}:AV.Is c x cs->x.lt n=true->AV.Is c' x cs
 | .d x cs h,_=>.d x cs (h.mono hc.M)
 | .full n f a h,_=>.full n f a (h.mono hc.M)
 | .nq b n f v h hb,_=>.nq b n f v (h.mono hc.M) hb
 | .err b v h,_=>.err b v h
 | .agg gs cs h,hb=>.agg gs cs (AV.IsL.cut hc h (by simpa [AV.lt] using hb))
 | .ptr o st path v h,hb=>.ptr o st path v (by
  have ho:o<n:=by simpa [AV.lt] using hb
  unfold PtrOk at *
  rw[hc.L o ho,hc.ms o ho]
  exact⟨y1f ho hc.len,h.2⟩)
 | .imm x b off ar cs hb h hc',_=>.imm x b off ar cs (hc.M _ _ hb) (h.mono hc.M) hc'
 | .ref o st off n v h,hb=>.ref o st off n v (by
  have ho:=by simpa [AV.lt] using hb
  unfold RefOk at *
  rw[hc.L o ho,hc.ms o ho]
  exact⟨y1f ho hc.len,h.2⟩)
 | .map o v h,hb=>.map o v (by
  have ho:=by simpa [AV.lt] using hb
  unfold MapOk at *
  rw[hc.L o ho,hc.ms o ho]
  exact⟨y1f ho hc.len,h.2⟩)
 | .fn f caps vs h,hb=>.fn f caps vs (AV.IsVs.cut hc h (by simpa [AV.lt] using hb))
 | .bfn f caps vs h,hb=>.bfn f caps vs (AV.IsVs.cut hc h (by simpa [AV.lt] using hb))
 | .bot v h,_=>.bot v h
 | .selT sz x y cs h hl,hb=>.selT sz x y cs (AV.Is.cut hc h (by simp only[AV.lt,ya] at hb; exact hb.1)) hl
 | .selF sz x y cs h hl,hb=>.selF sz x y cs (AV.Is.cut hc h (by simp only[AV.lt,ya] at hb; exact hb.2)) hl
theorem AV.IsL.cut {c c':Cx} {n:Nat} (hc:c.cut c' n) {xs:List AV} {cs:List Value}:AV.IsL c xs cs->AV.ltL n xs=true->AV.IsL c' xs cs
 | .nil,_=>.nil
 | .cons x xs k ks h ht,hb=>by
  simp only[AV.ltL,ya] at hb
  exact .cons x xs k ks (AV.Is.cut hc h hb.1) (AV.IsL.cut hc ht hb.2)
theorem AV.IsV.cut {c c':Cx} {n:Nat} (hc:c.cut c' n) {x:AV} {v:Value}:AV.IsV c x v->x.lt n=true->AV.IsV c' x v
 | .agg av cs ha h,hb=>.agg av cs ha (AV.Is.cut hc h hb)
 | .one av v ha h,hb=>.one av v ha (AV.Is.cut hc h hb)
 | .tup vs us h,hb=>.tup vs us (AV.IsVs.cut hc h (by simpa [AV.lt] using hb))
 | .bot v,_=>.bot v
theorem AV.IsVs.cut {c c':Cx} {n:Nat} (hc:c.cut c' n) {xs:List AV} {vs:List Value}:AV.IsVs c xs vs->AV.ltL n xs=true->AV.IsVs c' xs vs
 | .nil,_=>.nil
 | .cons x xs v vs h ht,hb=>by
  simp only[AV.ltL,ya] at hb
  exact .cons x xs v vs (AV.IsV.cut hc h hb.1) (AV.IsVs.cut hc ht hb.2)
end
theorem EntsIs.cut (hc:c.cut c' n):∀ {es:List (DV×DV)} {r:List MapEntry},EntsIs c es r->EntsIs c' es r
 | [],[],_=>trivial
 | (_,_) :: _,_ :: _,h=>⟨h.1.cut hc rfl,h.2.1.cut hc rfl,EntsIs.cut hc h.2.2⟩
 | [],_ :: _,h=>h.elim
 | _ :: _,[],h=>h.elim
theorem ObIs.cut (hc:c.cut c' n) (ho:o<n) (hb:obj.lt n) (h:ObIs c w o obj):ObIs c' w o obj:=by
 cases obj with
 | box x =>
  rcases h with h | ⟨b,tc,arr,e,h1,h2,h3⟩
  ·exact .inl ((hc.ms o ho).trans h)
  ·exact .inr ⟨b,tc,arr,e,(hc.ms o ho).trans h1,h2,h3.cut hc hb⟩
 | seq sz m f =>
  rcases h with h | ⟨b,tc,arr,e,cs,h1,h2,h3,h4,h5,h6⟩
  ·exact .inl ⟨(hc.ms o ho).trans h.1,h.2⟩
  ·exact .inr ⟨b,tc,arr,e,cs,(hc.ms o ho).trans h1,h2,h3,h4,fun i hi=>(h5 i hi).cut hc (hb i hi),h6⟩
 | map es =>
  obtain⟨b,tc,ents,clock,h1,h2,h3,h4⟩:=h
  exact⟨b,tc,ents,clock,(hc.ms o ho).trans h1,h2,h3.cut hc,h4⟩
 | dmap es =>
  obtain⟨b,tc,ents,clock,h1,h2,h3⟩:=h
  exact⟨b,tc,ents,clock,(hc.ms o ho).trans h1,h2,h3.cut hc⟩
 | ex x =>
  obtain⟨b,tc,h1,h2⟩:=h
  exact⟨b,tc,(hc.ms o ho).trans h1,h2⟩
 | dead=>trivial
 | unb=>exact (hc.ms o ho).trans h
variable {J:List Ob}
theorem z54:(cxOf X ms (L++J) w).cut (cxOf X (ms.take L.length) L w) L.length where
 M:=fun b arr h=>by
  obtain⟨h1,h2,e,fz,h3⟩:=z26 h
  exact z1j h1 (fun⟨o,tc,ho⟩=>h2 ⟨o,tc,by
   by_cases hlt:o<L.length
   ·rw[y1s hlt] at ho; exact ho
   ·rw[yf sk] at ho; cases ho⟩) h3
 len:=yc _
 L:=fun o ho=>by simp[cxOf,List.getElem?_append_left ho]
 ms:=fun o ho=>by simp[cxOf,List.getElem?_take_of_lt ho]
theorem Rel.forget (h:Rel X ms (L++J) w) (hb:∀ (o:Nat) (obj:Ob),L[o]? = some obj->obj.lt L.length) :
  Rel X (ms.take L.length) L w:=by
 have hget:∀ (o:Nat) b tc,(ms.take L.length)[o]? = some (some (b,tc))->ms[o]? = some (some (b,tc)):=fun o b tc e=>by
  by_cases hlt:o<L.length
  ·rw[y1s hlt] at e; exact e
  ·rw[yf sk] at e; cases e
 refine⟨?_,fun b ⟨o,tc,e⟩=>h.lt b ⟨o,tc,hget o b tc e⟩,h.xlt,fun o o' b tc tc' e e'=>h.inj o o' b tc tc' (hget _ _ _ e) (hget _ _ _ e'),fun o obj ho=>?_,h.glob.mono (z54 (J:=J)).M⟩
 ·have:=h.len
  simp at this
  simp; omega
 ·have hlt:o<L.length:=by
   rcases yu o L.length with h' | h'
   ·exact h'
   ·rw[yf h'] at ho; cases ho
  exact (h.obs o obj (by rw[yq hlt]; exact ho)).cut z54 hlt (hb o obj ho)
variable {ms':Blocks}
theorem Ext.forget (h:Ext ms w ms' w') (n:Nat):Ext ms w (ms'.take n) w' :=
 ⟨h.size,fun b hb ho=>⟨(h.keep b hb ho).1,fun⟨o,tc,e⟩=>(h.keep b hb ho).2 ⟨o,tc,by
  by_cases hlt:o<n
  ·rw[y1s hlt] at e; exact e
  ·rw[yf sk] at e; cases e⟩⟩,h.out⟩
theorem Cx.le.forget (h:c.le (cxOf X ms' (L++J) w')) (hl:c.L.length<=L.length) :
  c.le (cxOf X (ms'.take L.length) L w') where
 M:=h.M.trans (z54 (J:=J)).M
 L:=hl
 ob:=fun o obj' ho hl' hs=>by
  have hlt:o<L.length:=y1f ho hl
  obtain⟨obj,k1,k2,k3,k4⟩:=h.ob o obj' ho (by simp only[cxOf] at hl' |-; rw[yq hlt]; exact hl') hs
  exact⟨obj,k1,k2,k3,fun e=>by rw[<- k4 e]; simp[cxOf,List.getElem?_take_of_lt hlt]⟩
variable {z:Option Nat}
def LLe (L L':List Ob):Prop:=∃ J,L=L'++J/\∀ (o:Nat) (obj:Ob),L'[o]? = some obj->obj.lt L'.length
def StLe (fr:Fr) (L:List Ob) (fr':Fr) (L':List Ob):Prop :=
 FrLe fr fr'/\(L=L'\/(LLe L L'/\∀ x∈fr',x.2.lt L'.length=true))
theorem StLe.refl (fr:Fr) (L:List Ob):StLe fr L fr L:=⟨FrLe.refl _,.inl rfl⟩
variable {fr:Fr}
theorem StLe.rel {ms0:Blocks} {L0:List Ob} {w0:World} (h:StLe fr L fr' L') (hl:L0.length<=L'.length) (hr:Rel X ms L w) (he:Ext ms0 w0 ms w) (hc:(cxOf X ms0 L0 w0).le (cxOf X ms L w)) (hf:FrIs (cxOf X ms L w) fr.up tmps) :
  ∃ ms',Rel X ms' L' w/\Ext ms0 w0 ms' w/\(cxOf X ms0 L0 w0).le (cxOf X ms' L' w)/\FrIs (cxOf X ms' L' w) fr'.up tmps:=by
 obtain⟨h1,h2⟩:=h
 have hf':=h1.is hf
 rcases h2 with rfl | ⟨⟨J,rfl,hb⟩,hlt⟩
 ·exact⟨ms,hr,he,hc,hf'⟩
 ·refine⟨ms.take L'.length,hr.forget hb,he.forget _,hc.forget hl,fun x hx=>?_⟩
  obtain⟨y,hy,rfl⟩:=yz.1 hx
  obtain⟨k1,k2,k3⟩:=hf' _ hx
  exact⟨k1,fun hh=>(k2 hh).cut z54 (hlt y hy),k3⟩
section
variable {P:Program} {N:Nat} {Q:Post} {fr:Fr} {L:List Ob}
theorem ze8 {P:Program} {c:Code} {Q:Exit->Act->World->Prop} {σ:Type} (R:σ->Act->World->Prop) (μ:σ->Nat) (round:∀ s a w,R s a w->c.wpIn F n P (Exit.then (fun a' w'=>∃ s',R s' a' w'/\μ s'<μ s) Q) a w) (s:σ) (a:Act) (w:World) (h:R s a w):(Code.loop c).wpIn F n P Q a w:=by
 intro b k cs hro hb hr
 have key:∀ m s a w,μ s=m->R s a w->∃ e a' w',Q e a' w'/\ArrivesIn (Machine.fenced P F) P (lone (b.atR a (.code c :: .inLoop c :: k)) cs w) b k cs e a' w':=by
  intro m
  induction m using Nat.strongRecOn with
  | _ m ih =>
   intro s a w hn hI
   obtain⟨e,a₁,w₁,hq,harr⟩:=round s a w hI b (.inLoop c :: k) cs hro hb hr
   cases e with
   | normal =>
    obtain⟨s',hI₁,hlt⟩:=hq
    obtain⟨e₂,a₂,w₂,hq₂,harr₂⟩:=ih (μ s') (hn▸hlt) s' a₁ w₁ rfl hI₁
    exact⟨e₂,a₂,w₂,hq₂,.of_steps (StepsIn.trans harr (.one (y53 hb hr rfl) stepR_inLoop)) harr₂⟩
   | exit id=>exact⟨_,a₁,w₁,hq,.pass (x:=.inLoop c) rfl (fun _ _=>.inl sj) harr⟩
   | goto l=>exact⟨_,a₁,w₁,hq,.pass (x:=.inLoop c) rfl (fun _ _=>.inl sj) harr⟩
   | ret=>exact⟨_,a₁,w₁,hq,.pass (x:=.inLoop c) rfl (fun _ _=>.inl sj) harr⟩
   | panic ch=>exact⟨_,a₁,w₁,hq,.pass (x:=.inLoop c) rfl (fun _ _=>.inl sj) harr⟩
   | outgrown=>exact⟨_,a₁,w₁,hq,.pass (x:=.inLoop c) rfl (fun _ _=>.inl sj) harr⟩
 obtain⟨e,a',w',hq,harr⟩:=key _ s a w rfl h
 exact⟨e,a',w',hq,.of_steps (.one (y53 hb hr rfl) stepR_loop) harr⟩
theorem zg5 {c:Code} {σ:Type} (I:σ->Fr) (LI:σ->List Ob) (ok:σ->Prop) (Qs:σ->Post) (μ:σ->Nat)
  (round:∀ s,ok s->AW z P N c (fun e fr' L'=>match e with
   | .normal=>∃ s',ok s'/\StLe fr' L' (I s') (LI s')/\μ s'<μ s/\(LI s).length=(LI s').length/\∀ e fr L,Qs s' e fr L->Qs s e fr L
   | e=>Qs s e fr' L') (I s) (LI s))
  (s:σ) (hs:ok s) (hfr:StLe fr L (I s) (LI s)) (hlen:L.length<=(LI s).length) (hQ:∀ e fr L,Qs s e fr L->Q e fr L):AW z P N (.loop c) Q fr L:=by
 intro zn df X ms w a hr hf hN hd
 refine ze8 (σ:=σ) (fun s' a' w'=>ok s'/\(LI s).length=(LI s').length/\(∀ e fr L,Qs s' e fr L->Qs s e fr L)/\∃ ms',Rel X ms' (LI s') w'/\Ext ms w ms' w'/\(cxOf X ms L w).le (cxOf X ms' (LI s') w') /\
  FrIs (cxOf X ms' (LI s') w') (I s').up a'.tmps/\a'.tmps.size=N/\a'.defers=df) μ ?_ s a w ?_
 ·rintro s1 a1 w1 ⟨hok,hll,hqs,ms1,r1,e1,c1,f1,n1,d1⟩
  refine y32 (round s1 hok zn df X ms1 w1 a1 r1 f1 n1 d1) ?_
  rintro e a2 w2 ⟨ms2,fr2,L2,q2,r2,e2,c2,f2,n2,d2⟩
  cases e with
  | normal =>
   obtain⟨s3,ok3,st3,m3,l3,q3⟩:=q2
   obtain⟨ms3,k1,k2,k3,k4⟩:=st3.rel (by have:=c1.L; simp only[cxOf] at this; omega) r2 (e1.trans e2) (c1.trans c2) f2
   exact⟨s3,⟨ok3,om,fun e fr L h=>hqs e fr L (q3 e fr L h),ms3,k1,k2,k3,k4,n2,d2⟩,m3⟩
  | exit id=>exact⟨ms2,fr2,L2,hQ _ _ _ (hqs _ _ _ q2),r2,e1.trans e2,c1.trans c2,f2,n2,d2⟩
  | goto id=>exact⟨ms2,fr2,L2,hQ _ _ _ (hqs _ _ _ q2),r2,e1.trans e2,c1.trans c2,f2,n2,d2⟩
  | ret=>exact⟨ms2,fr2,L2,hQ _ _ _ (hqs _ _ _ q2),r2,e1.trans e2,c1.trans c2,f2,n2,d2⟩
  | panic id=>exact⟨ms2,fr2,L2,hQ _ _ _ (hqs _ _ _ q2),r2,e1.trans e2,c1.trans c2,f2,n2,d2⟩
  | outgrown=>exact⟨ms2,fr2,L2,hQ _ _ _ (hqs _ _ _ q2),r2,e1.trans e2,c1.trans c2,f2,n2,d2⟩
 ·obtain⟨ms',k1,k2,k3,k4⟩:=hfr.rel hlen hr (Ext.refl _ _) (Cx.le.refl _) hf
  exact⟨hs,rfl,fun _ _ _ h=>h,ms',k1,k2,k3,k4,hN,hd⟩
end
def resL (P:Program) (fr:Fr) (L:List Ob):List ResultVar->Option (List AV×List Prop)
 | []=>some ([],[])
 | .tmp t :: r=>match opnd fr.up [] (.tmp t),resL P fr L r with
  | some v,some (vs,C)=>some (v :: vs,C)
  | _,_=>none
 | .cell a t :: r=>match (opnd fr.up [] (.tmp a)).bind (vLoad P L t),resL P fr L r with
  | some (v,C1),some (vs,C)=>some (v :: vs,C1++C)
  | _,_=>none
def resV (P:Program) (fn:Func) (fr:Fr) (L:List Ob):Option (AV×List Prop) :=
 match resL P fr L fn.results.toList with
 | some ([v],C)=>some (v,C)
 | some (vs,C)=>some (.tup vs,C)
 | none=>none
theorem zh7 {a:Addr}:(asAddr (.pointer (some a))).run P w = .ok a w:=rfl
def resRead (tmps:Array Value):ResultVar->Sem Value
 | .tmp t=>pure (tmps.getD t undef)
 | .cell x t=>do loadVar t (<- asAddr (tmps.getD x undef))
theorem z8w {P:Program} {X:Nat->Prop} {ms:Blocks} {L:List Ob} {w:World} {fr:Fr} {a:Act} (hr:Rel X ms L w) (hf:FrIs (cxOf X ms L w) fr.up a.tmps) :
  ∀ {l:List ResultVar} {vs:List AV} {C:List Prop},resL P fr L l=some (vs,C)->AllP C ->
  ∃ us,(l.mapM (resRead a.tmps)).run P w = .ok us w/\AV.IsVs (cxOf X ms L w) vs us
 | [],vs,C,h,_=>by simp[resL] at h; obtain⟨rfl,rfl⟩:=h; exact⟨[],rfl,.nil⟩
 | .tmp t :: r,vs,C,h,hc=>by
  simp only[resL] at h
  split at h
  ·rename_i v vs' C' ho hrest
   cases h
   obtain⟨us,k1,k2⟩:=z8w hr hf hrest hc
   have:=zf ho hf (fun y hy=>by cases hy)
   refine⟨a.tmps.getD t undef :: us,?_,.cons _ _ _ _ this k2⟩
   simp only[List.mapM_cons,resRead,y14,y2d,yp,k1]
  ·cases h
 | .cell x t :: r,vs,C,h,hc=>by
  simp only[resL] at h
  split at h
  ·rename_i v C1 vs' C' ho hrest
   cases h
   obtain⟨hc1,hc2⟩:=zd.1 hc
   obtain⟨us,k1,k2⟩:=z8w hr hf hrest hc2
   cases hx:opnd fr.up [] (.tmp x) with
   | none=>simp[hx] at ho
   | some xv =>
    simp[hx] at ho
    have hxv:=zf hx hf (fun y hy=>by cases hy)
    obtain⟨u,l1,l2⟩:=zdv (P:=P) hr ho hc1 hxv
    refine⟨u :: us,?_,.cons _ _ _ _ l2 k2⟩
    have hptr:∃ ad,a.eval (.tmp x) = .pointer (some ad):=by
     generalize hu:a.eval (.tmp x)=u0 at l1
     cases u0 with
     | pointer p =>
      cases p with
      | none=>simp[Instr.loadAt,Instr.sureAddr] at l1
      | some ad=>exact⟨ad,rfl⟩
     | _=>simp[Instr.loadAt,Instr.sureAddr] at l1
    obtain⟨ad,had⟩:=hptr
    rw[had] at l1
    have had':a.tmps.getD x undef = .pointer (some ad):=had
    simp only[Instr.loadAt,Instr.sureAddr,y14,y2d,yp] at l1
    simp only[List.mapM_cons,resRead,y14,had',zh7,yp,l1,k1,y2d]
  ·cases h
variable {fn:Func}
theorem z8x (hr:Rel X ms L w) (hf:FrIs (cxOf X ms L w) fr.up a.tmps) (h:resV P fn fr L=some (v,C)) (hc:AllP C):∃ u,(results fn a.tmps).run P w = .ok u w/\AV.IsV (cxOf X ms L w) v u:=by
 unfold resV at h
 have hrun:∀ us,(fn.results.toList.mapM (resRead a.tmps)).run P w = .ok us w ->
   (results fn a.tmps).run P w = .ok (if h:us.length=1 then us[0] else .tuple us.toArray) w:=fun us e=>by
  have hres:results fn a.tmps=(fn.results.mapM (resRead a.tmps) >>= fun vs=>pure (if h:vs.size=1 then vs[0] else .tuple vs)):=rfl
  rw[hres,y4o]
  simp only[y14,Sem.run_map,e,yp,y2d]
  congr 1
 split at h
 ·rename_i v' C' hl
  cases h
  obtain⟨us,k1,k2⟩:=z8w hr hf hl hc
  cases k2 with
  | cons _ _ u us' h1 h2 =>
  cases h2
  exact⟨u,by rw[hrun _ k1]; simp,h1⟩
 ·rename_i vs C' hne hl
  cases h
  obtain⟨us,k1,k2⟩:=z8w hr hf hl hc
  refine⟨.tuple us.toArray,?_,.tup _ _ k2⟩
  rw[hrun _ k1,dif_neg]
  intro h1
  cases k2 with
  | nil=>simp at h1
  | cons x xs u us' h2 h3 =>
   cases h3 with
   | nil=>exact hne x rfl
   | cons=>simp at h1
 ·cases h
def argFr:List AV->Nat->Fr
 | [],_=>[]
 | v :: r,i=>(i,v) :: argFr r (i+1)
theorem z7d {c:Cx}:∀ {as:List AV} {us:List Value} (i:Nat) (tmps:Array Value),AV.IsVs c as us->(∀ k,k<us.length->tmps.getD (i+k) undef=us.getD k undef/\i+k<tmps.size) ->
  FrIs c (argFr as i).up tmps
 | _,_,i,tmps,.nil,_=>fun x hx=>by cases hx
 | _,_,i,tmps,.cons v vs u us h ht,hk=>by
  intro x hx
  rcases yv.1 hx with rfl | hx
  ·have:=hk 0 sj
   simp at this
   refine⟨this.2,fun _=>?_,fun hh=>absurd (fun y hy=>by cases hy) hh⟩
   show AV.IsV c v (tmps.getD i undef)
   have e:tmps.getD i undef=u:=by simpa using this.1
   rw[e]; exact h
  ·refine z7d (i+1) tmps ht (fun k hk'=>?_) x hx
   have:=hk (k+1) (by simpa using hk')
   rw[y3n,Nat.add_comm 1 k]
   simpa using this
theorem ze9 {c:Code} {args:List AV} (hf:P.funcs[f]? = some fn) (hb:fn.body=some c) (hn:args.length<=fn.ntmps) (hl:L.length<=L'.length) (hv:v.lt L'.length=true) (hLb:∀ (o:Nat) (obj:Ob),L'[o]? = some obj->obj.lt L'.length) (h:AW none P fn.ntmps c (fun e fr1 L1=>(e = .normal\/e = .ret)/\∃ v1 C J,resV P fn fr1 L1=some (v1,C)/\AllP C/\LeV v1 v/\L1=L'++J) (argFr args 0) L) :
  CallOk P f args L v L':=by
 intro X ms w us hr hu
 refine calls_of_wp hf hb (wpIn_wide (n:=0).1 ?_)
 have hlen:∀ {as:List AV} {us:List Value},AV.IsVs (cxOf X ms L w) as us->us.length=as.length:=by
  intro as us h
  induction as generalizing us with
  | nil=>cases h; rfl
  | cons x xs ih=>cases h with | cons _ _ _ _ _ ht=>simp[ih ht]
 have hul:=hlen hu
 have hfr:FrIs (cxOf X ms L w) (argFr args 0).up (us.toArray++Array.replicate (fn.ntmps-us.toArray.size) undef) :=
  z7d 0 _ hu (fun k hk=>by
   refine⟨?_,sk⟩
   simp only[y1h,y1g]
   rw[y4m (by simpa using hk)]
   simp[List.getD])
 refine y32 (h 0 [] X ms w _ hr hfr sk rfl) ?_
 rintro e a1 w1 ⟨ms1,fr1,L1,⟨he,v1,C,J,hres,hC,hle,rfl⟩,r1,e1,c1,f1,_,d1⟩
 obtain⟨u,k1,k2⟩:=z8x r1 f1 hres hC
 have hpost:∃ v',(results fn a1.tmps).run P w1 = .ok v' w1/\∃ u ms',Ending.returned v' = .returned u/\Rel X ms' L' w1/\Ext ms w ms' w1/\(cxOf X ms L w).le (cxOf X ms' L' w1)/\AV.IsV (cxOf X ms' L' w1) v u :=
  ⟨u,k1,u,ms1.take L'.length,rfl,r1.forget hLb,e1.forget _,c1.forget hl,(hle _ _ k2).cut z54 hv⟩
 rcases he with rfl | rfl
 ·exact⟨d1,hpost⟩
 ·exact⟨d1,hpost⟩
def dpreds (ops:Array Oper) (j:Nat):List Nat:=match ops[j]? with
 | some o=>(o.after.toList.filter (Region.binds .any)).map (·.on)
 | none=>[]
structure DS where
 ps:List (List Nat)
 effs:List Nat
def DS.p (D:DS) (j:Nat):List Nat:=(D.ps[j]?).getD []
def wrs (ops:Array Oper) (t:Nat):List Nat:=(List.range ops.size).filter fun k=>match (ops[k]?).bind (·.dst) with
 | some t'=>t'==t
 | none=>false
def okBase (ops:Array Oper) (D:DS) (j t:Nat):Bool:=(wrs ops t).all fun k=>k==j||(D.p k).contains j
def okFact (ops:Array Oper) (D:DS) (j i t:Nat):Bool:=(D.p j).contains i&&(wrs ops t).all fun k=>k==i||(D.p i).contains k||k==j||(D.p k).contains j
abbrev VS:=List (Chain×AV)
abbrev HS:=List (List Nat×List Ob)
def factOf (ops:Array Oper) (vs:VS) (i:Nat):Option (Nat×Chain×AV):=match (ops[i]?).bind (·.dst),vs[i]? with
 | some t,some (ch,v)=>some (t,ch,v)
 | _,_=>none
def gmin (ops:Array Oper) (D:DS) (vs:VS) (base:GFr) (j:Nat):GFr :=
 base.filter (fun x=>okBase ops D j x.1)++(List.range vs.length).filterMap fun i=>match factOf ops vs i with
  | some x=>if okFact ops D j i x.1 then some x else none
  | none=>none
def gfin (ops:Array Oper) (D:DS) (vs:VS) (base:GFr):GFr :=
 base.filter (fun x=>(wrs ops x.1).isEmpty)++(List.range vs.length).filterMap fun i=>match factOf ops vs i with
  | some x=>if (wrs ops x.1).all fun k=>k==i||(D.p i).contains k then some x else none
  | none=>none
def stepD (P:Program) (G:GFr) (ch:Chain) (L:List Ob) (o:Oper) (e:HE):Option ((AV×List Ob)×List Prop) :=
 match astep P G ch L o e.h with
 | some (.val v C)=>some (((castV v e.cast).1,L),underG G ch (C++(castV v e.cast).2))
 | some (.eff v L1 C)=>match ch with
  | []=>match castObs e.obs L1 with
   | some (L2,C2)=>some (((castV v e.cast).1,L2),C++((castV v e.cast).2++C2))
   | none=>none
  | y :: ys=>if chainOk G (y :: ys)=true/\e.obs.length=0 then some (((castV v e.cast).1,L1),underG G (y :: ys) (C++(castV v e.cast).2)++[¬ AllP (gP G (y :: ys))->L=L1]) else none
 | none=>none
def consB (D:DS) (j:Nat) (K:List Nat):Bool:=!K.contains j&&(D.p j).all (fun i=>!D.effs.contains i||K.contains i)&&K.all fun k=>!(D.p k).contains j
def keyAdd (D:DS) (K:List Nat) (j:Nat):List Nat:=D.effs.filter fun e=>K.contains e||e==j
def lookH:HS->List Nat->Option (List Ob)
 | [],_=>none
 | (K,L) :: r,K'=>if K==K' then some L else lookH r K'
def z9t (P:Program) (ops:Array Oper) (hs:List (Nat×HE)) (D:DS) (base:GFr):List Nat->VS->HS->Option (VS×HS)
 | [],vs,H=>some (vs,H)
 | j :: r,vs,H=>match ops[j]? with
  | none=>none
  | some o=>match guardCh ops (gmin ops D vs base j) o with
   | none=>none
   | some ch=>match H.find? fun h=>consB D j h.1 with
    | none=>none
    | some h=>match stepD P (gmin ops D vs base j) ch h.2 o (hintOf hs j) with
     | none=>none
     | some q=>z9t P ops hs D base r (vs++[(ch,q.1.1)]) (H++if D.effs.contains j then H.filterMap (fun h=>if consB D j h.1 then match stepD P (gmin ops D vs base j) ch h.2 o (hintOf hs j) with
      | some q=>some (keyAdd D h.1 j,q.1.2)
      | none=>none else none) else [])
def stepJ (P:Program) (ops:Array Oper) (hs:List (Nat×HE)) (D:DS) (base:GFr) (vs:VS) (j:Nat) (L:List Ob):Option ((AV×List Ob)×List Prop) :=
 match ops[j]?,vs[j]? with
 | some o,some (ch,_)=>if guardCh ops (gmin ops D vs base j) o=some ch then stepD P (gmin ops D vs base j) ch L o (hintOf hs j) else none
 | _,_=>none
def jobsD (D:DS) (H:HS) (n:Nat):List (Nat×List Nat×List Ob):=(List.range n).flatMap fun j=>(H.filter fun h=>consB D j h.1).map fun h=>(j,h.1,h.2)
def wantD (D:DS) (vs:VS) (H:HS) (j:Nat) (K:List Nat) (L:List Ob):Option (AV×List Ob) :=
 match vs[j]?,(if D.effs.contains j then lookH H (keyAdd D K j) else some L) with
 | some (_,v),some L'=>some (v,L')
 | _,_=>none
def condsD (P:Program) (ops:Array Oper) (hs:List (Nat×HE)) (D:DS) (base:GFr) (vs:VS) (H:HS):List Prop :=
 (jobsD D H ops.size).flatMap fun q=>match stepJ P ops hs D base vs q.1 q.2.2 with
  | some r=>r.2
  | none=>[]
def dchk (ops:Array Oper) (N:Nat) (D:DS) (vs:VS):Bool :=
 (vs.length==ops.size)&&D.effs.all (fun e=>decide (e<ops.size))&&(List.range ops.size).all fun j =>
  ((D.p j).all fun i=>decide (i<j)&&((dpreds ops j).contains i||(dpreds ops j).any fun m=>(D.p m).contains i)) &&
  ((dpreds ops j).all fun i=>(D.p j).contains i) &&
  (match factOf ops vs j with
   | some x=>decide (x.1<N)&&x.2.1.all (fun y=>y.1 != x.1&&(wrs ops y.1).all fun k=>(D.p j).contains k)
   | none=>true)
def drawnRun (P:Program) (ops:Array Oper) (N:Nat) (hs:List (Nat×HE)) (D:DS) (fr:Fr) (L:List Ob):Option (Fr×List Ob×List Prop) :=
 match z9t P ops hs D fr.up (List.range ops.size) [] [([],L)] with
 | some (vs,H)=>if dchk ops N D vs=true/\((jobsD D H ops.size).all fun q=>(stepJ P ops hs D fr.up vs q.1 q.2.2).isSome)=true then match lookH H D.effs with
   | some L'=>some (frOf (gfin ops D vs fr.up),L',condsD P ops hs D fr.up vs H)
   | none=>none
  else none
 | none=>none
def drawnL (P:Program) (ops:Array Oper) (hs:List (Nat×HE)) (D:DS) (fr:Fr) (L:List Ob):List (Option (AV×List Ob)) :=
 match z9t P ops hs D fr.up (List.range ops.size) [] [([],L)] with
 | some (vs,H)=>(jobsD D H ops.size).map fun q=>(stepJ P ops hs D fr.up vs q.1 q.2.2).map (·.1)
 | none=>[]
def drawnR (P:Program) (ops:Array Oper) (hs:List (Nat×HE)) (D:DS) (fr:Fr) (L:List Ob):List (Option (AV×List Ob)) :=
 match z9t P ops hs D fr.up (List.range ops.size) [] [([],L)] with
 | some (vs,H)=>(jobsD D H ops.size).map fun q=>wantD D vs H q.1 q.2.1 q.2.2
 | none=>[]
def Fact (c:Cx) (x:Nat×Chain×AV) (tmps:Array Value):Prop :=
 x.1<tmps.size/\(holds x.2.1 tmps->AV.IsV c x.2.2 (tmps.getD x.1 undef))/\(¬ holds x.2.1 tmps->tmps.getD x.1 undef=undef)
structure Inv (ops:Array Oper) (N:Nat) (D:DS) (vs:VS) (H:HS) (base:GFr) (X:Nat->Prop) (ms0:Blocks) (L0:List Ob) (w0:World) (a0:Act) (listed:Array Bool) (a:Act) (ms:Blocks) (L:List Ob) (w:World):Prop where
 size:listed.size=ops.size
 down:∀ j,listed.getD j false=true->∀ i∈D.p j,listed.getD i false=true
 key:lookH H (D.effs.filter fun e=>listed.getD e false)=some L
 rel:Rel X ms L w
 ext:Ext ms0 w0 ms w
 le:(cxOf X ms0 L0 w0).le (cxOf X ms L w)
 base:∀ x∈base,(∀ k∈wrs ops x.1,listed.getD k false=false)->Fact (cxOf X ms L w) x a.tmps
 facts:∀ i x,listed.getD i false=true->factOf ops vs i=some x->(∀ k∈wrs ops x.1,k≠i->listed.getD k false=true->k∈D.p i)->Fact (cxOf X ms L w) x a.tmps
 tmps:a.tmps.size=N
 defers:a.defers=a0.defers
theorem zmu {t:Nat}:k∈wrs ops t↔∃ o,ops[k]? = some o/\o.dst=some t:=by
 unfold wrs
 rw[y1x,y1l]
 cases ho:ops[k]? with
 | none=>simp
 | some o =>
  have:k<ops.size:=(y29.1 ho).1
  cases hd:o.dst with
  | none=>simp[hd]
  | some t'=>simp[hd,this]
theorem Fact.mono (hc:c.le c') {x:Nat×Chain×AV} (h:Fact c x tmps):Fact c' x tmps:=⟨h.1,fun hh=>(h.2.1 hh).mono hc,h.2.2⟩
theorem Fact.put {x:Nat×Chain×AV} (h:Fact c x a.tmps) (h1:∀ t,dst=some t->t≠x.1) (h2:∀ t,dst=some t->∀ y∈x.2.1,y.1≠t):Fact c x (a.put dst u).tmps:=by
 cases dst with
 | none=>exact h
 | some t =>
  have hne:=h1 t rfl
  have hch:=h2 t rfl
  have hget:∀ s,s≠t->(a.put (some t) u).tmps.getD s undef=a.tmps.getD s undef:=fun s hs=>by
   simp only[Act.put,y1g]
   rw[y2s (fun e=>hs e.symm)]
  have hh:holds x.2.1 (a.put (some t) u).tmps↔holds x.2.1 a.tmps:=by
   constructor
   ·intro q y hy
    have:=q y hy
    rwa [hget y.1 (hch y hy)] at this
   ·intro q y hy
    rw[hget y.1 (hch y hy)]
    exact q y hy
  refine⟨by simpa [Act.put] using h.1,fun q=>?_,fun q=>?_⟩
  ·rw[hget x.1 (Ne.symm hne)]; exact h.2.1 (hh.1 q)
  ·rw[hget x.1 (Ne.symm hne)]; exact h.2.2 (fun q'=>q (hh.2 q'))
variable {z:Option Nat}
variable {Q:Exit->Act->World->Prop} {e:HE}
theorem zkv {o:Oper} (h:stepD P G ch L o e=some ((v,L'),C)) {K:Act->World->Prop} (hc:AllP C) (hr:Rel X ms L w) (hf:FrIs (cxOf X ms L w) G a.tmps) (hh:holds ch a.tmps) (hK:∀ u ms' w',Rel X ms' L' w'->Ext ms w ms' w'->(cxOf X ms L w).le (cxOf X ms' L' w')->AV.IsV (cxOf X ms' L' w') v u->K (a.put o.dst u) w') (zn:Nat):o.wpIn (fenceOf z) zn P a w K Q:=by
 unfold stepD at h
 split at h
 ·rename_i v1 C1 hs
  simp only[yw,y34] at h
  obtain⟨⟨rfl,rfl⟩,rfl⟩:=h
  obtain⟨hc1,hc2⟩:=zd.1 (z5g hf hh hc)
  exact z7b hs hc1 z zn X ms w a K Q hr hf hh fun u ms1 w1 k1 k2 k3 k4=>hK u ms1 w1 k1 k2 k3 (z4i hc2 k4)
 ·rename_i v1 L1 C1 hs
  split at h
  ·split at h
   ·rename_i L2 C2 hco
    simp only[yw,y34] at h
    obtain⟨⟨rfl,rfl⟩,rfl⟩:=h
    obtain⟨hc1,hc2⟩:=zd.1 hc
    obtain⟨hc3,hc4⟩:=zd.1 hc2
    refine z7b hs hc1 z zn X ms w a K Q hr hf hh fun u ms1 w1 k1 k2 k3 k4=>?_
    obtain⟨r1,r2⟩:=z6n hco hc4 k1
    exact hK u ms1 w1 r1 k2 (k3.trans r2) ((z4i hc3 k4).mono r2)
   ·cases h
  ·split at h
   ·simp only[yw,y34] at h
    obtain⟨⟨rfl,rfl⟩,rfl⟩:=h
    obtain⟨hc1,hc2⟩:=zd.1 hc
    obtain⟨hc4,hc5⟩:=zd.1 (z5g hf hh hc1)
    exact z7b hs hc4 z zn X ms w a K Q hr hf hh fun u ms1 w1 k1 k2 k3 k4=>hK u ms1 w1 k1 k2 k3 (z4i hc5 k4)
   ·cases h
 ·cases h
theorem zj0 {o:Oper} (h:stepD P G ch L o e=some ((v,L'),C)) (hc:AllP C) (hf:FrIs c G tmps) (hh:¬ holds ch tmps):L'=L:=by
 unfold stepD at h
 split at h
 ·simp only[yw,y34] at h
  exact h.1.2.symm
 ·split at h
  ·exact absurd (fun y hy=>by cases hy) hh
  ·split at h
   ·rename_i hco
    simp only[yw,y34] at h
    obtain⟨⟨rfl,rfl⟩,rfl⟩:=h
    exact ((zd.1 hc).2.1 fun hg=>hh (zbm hf hco.1 hg)).symm
   ·cases h
 ·cases h
theorem zco:∀ {H:HS} {K:List Nat} {L:List Ob},lookH H K=some L->(K,L)∈H
 | [],K,L,h=>by cases h
 | (K0,L0) :: r,K,L,h=>by
  simp only[lookH] at h
  split at h
  ·rename_i he
   cases h
   rw[yn.1 he]
   exact y1a
  ·exact ym _ (zco h)
variable {j:Nat} {listed:Array Bool}
section
variable {P:Program} {ops:Array Oper} {N:Nat} {hs:List (Nat×HE)} {D:DS} {base:GFr} {vs:VS} {H:HS} {X:Nat->Prop} {ms0:Blocks} {L0:List Ob} {w0:World} {a0:Act}
structure DChk (ops:Array Oper) (N:Nat) (D:DS) (vs:VS):Prop where
 len:vs.length=ops.size
 eff:∀ e∈D.effs,e<ops.size
 cl:∀ j,j<ops.size->∀ i∈D.p j,i<j/\(i∈dpreds ops j\/∃ m∈dpreds ops j,i∈D.p m)
 di:∀ j,j<ops.size->∀ i∈dpreds ops j,i∈D.p j
 sl:∀ j,j<ops.size->∀ x,factOf ops vs j=some x->x.1<N/\∀ y∈x.2.1,y.1≠x.1/\∀ k∈wrs ops y.1,k∈D.p j
theorem zj1 (h:dchk ops N D vs=true):DChk ops N D vs:=by
 simp only[dchk,ya,yn,y18,y1l,y8,yj,y2a,y1o] at h
 obtain⟨⟨h1,h0⟩,h2⟩:=h
 refine⟨h1,h0,fun j hj i hi=>(h2 j hj).1.1 i hi,fun j hj i hi=>(h2 j hj).1.2 i hi,fun j hj x hx=>?_⟩
 have h3:=(h2 j hj).2
 rw[hx] at h3
 simp only[ya,y8,y18,y5h,ne_eq,y2a] at h3
 exact h3
theorem zea {l:Array Bool} (h:l.getD j true=false):(l.setIfInBounds j true).toList.countP (!·)<l.toList.countP (!·):=by
 have hlt:j<l.size:=by
  rcases yu j l.size with h' | h'
  ·exact h'
  ·simp[Array.getElem?_eq_none h'] at h
 have e:l.toList[j]'(by simpa using hlt)=false:=by simpa [hlt] using h
 rw[Array.toList_setIfInBounds,List.countP_set (by simpa using hlt)]
 have hpos:0<l.toList.countP (!·):=List.countP_pos_iff.2 ⟨false,by rw[<- e]; exact y58 _,rfl⟩
 generalize l.toList.countP (!·)=n at hpos |-
 simp only[e,Bool.not_false,y55,y3h]
 simp
 omega
theorem zh8 {l:Array Bool} (h:l.toList.countP (!·)<=0) (j:Nat) (hj:j<l.size):l.getD j false=true:=by
 have h0:l.toList.countP (!·)=0:=om
 rw[List.countP_eq_zero] at h0
 have:=h0 (l.toList[j]'(by simpa using hj)) (y58 _)
 simpa [hj] using this
theorem zbp {l:Array Bool} (hj:j<l.size):l.getD j true=l.getD j false:=by simp[hj]
theorem zdm (hd:DChk ops N D vs) {l:Array Bool} (hs:l.size=ops.size) (h:Region.ready .any ops l=[]):∀ j,j<ops.size->l.getD j false=true:=by
 intro j
 induction j using Nat.strongRecOn with
 | _ j ih =>
  intro hj
  cases hl:l.getD j false with
  | true=>rfl
  | false =>
   have:j∈Region.ready .any ops l:=mem_ready.2 ⟨by rw[zbp om]; exact hl,ops[j],Array.getElem?_eq_getElem hj,fun e he hb=>by
    have hp:e.on∈dpreds ops j:=by
     unfold dpreds
     rw[Array.getElem?_eq_getElem hj]
     exact yz.2 ⟨e,y1x.2 ⟨by simpa using he,hb⟩,rfl⟩
    have hlt:=(hd.cl j hj _ (hd.di j hj _ hp)).1
    exact ih _ hlt om⟩
   rw[h] at this
   cases this
theorem Inv.final (hi:Inv ops N D vs H base X ms0 L0 w0 a0 listed a ms L w) (hd:DChk ops N D vs) (heff:∀ e∈D.effs,e<ops.size) (h:∀ j,j<ops.size->listed.getD j false=true):lookH H D.effs=some L/\FrIs (cxOf X ms L w) (gfin ops D vs base) a.tmps:=by
 constructor
 ·have:=hi.key
  rwa [y3q.2 (fun e he=>h e (heff e he))] at this
 ·intro x hx
  rcases y1c.1 hx with hx | hx
  ·obtain⟨h1,h2⟩:=y1x.1 hx
   refine hi.base x h1 fun k hk=>?_
   rw[List.isEmpty_iff.1 h2] at hk
   cases hk
  ·obtain⟨i,hi1,hi2⟩:=List.mem_filterMap.1 hx
   cases hf:factOf ops vs i with
   | none=>rw[hf] at hi2; cases hi2
   | some y =>
    rw[hf] at hi2
    simp only at hi2
    split at hi2
    ·rename_i hall
     cases hi2
     have hlt:i<ops.size:=by rw[<- hd.len]; exact y1l.1 hi1
     refine hi.facts i x (h i hlt) hf fun k hk hne _=>?_
     simp only[y18,yj,yn,y2a] at hall
     exact (hall k hk).resolve_left hne
    ·cases hi2
theorem Inv.gmin {listed:Array Bool} {a:Act} {ms:Blocks} {L:List Ob} {w:World} (hi:Inv ops N D vs H base X ms0 L0 w0 a0 listed a ms L w) {j:Nat} (hj:listed.getD j false=false)
  (hp:∀ i∈D.p j,listed.getD i false=true):FrIs (cxOf X ms L w) (gmin ops D vs base j) a.tmps:=by
 intro x hx
 rcases y1c.1 hx with hx | hx
 ·obtain⟨h1,h2⟩:=y1x.1 hx
  refine hi.base x h1 fun k hk=>?_
  simp only[okBase,y18,yj,yn,y2a] at h2
  rcases h2 k hk with rfl | h2
  ·exact hj
  ·cases hl:listed.getD k false with
   | false=>rfl
   | true=>rw[hi.down k hl j h2] at hj; cases hj
 ·obtain⟨i,hi1,hi2⟩:=List.mem_filterMap.1 hx
  cases hf:factOf ops vs i with
  | none=>rw[hf] at hi2; cases hi2
  | some y =>
   rw[hf] at hi2
   simp only at hi2
   split at hi2
   ·rename_i hall
    cases hi2
    simp only[okFact,ya,y18,yj,yn,y2a] at hall
    obtain⟨h1,h2⟩:=hall
    refine hi.facts i x (hp i h1) hf fun k hk hne hl=>?_
    rcases h2 k hk with ((h2 | h2) | h2) | h2
    ·exact absurd h2 hne
    ·exact h2
    ·subst h2; rw[hl] at hj; cases hj
    ·rw[hi.down k hl j h2] at hj; cases hj
   ·cases hi2
theorem Inv.step (hi:Inv ops N D vs H base X ms0 L0 w0 a0 listed a ms L w) (hd:DChk ops N D vs) (hb0:∀ x∈base,x.2.1=[]) {o:Oper} (ho:ops[j]? = some o) (hv:vs[j]? = some (ch,v)) (hj:listed.getD j false=false) (hp:∀ i∈D.p j,listed.getD i false=true) (hkey:wantD D vs H j (D.effs.filter fun e=>listed.getD e false) L=some (v,L')) (r:Rel X ms' L' w') (e:Ext ms w ms' w') (c:(cxOf X ms L w).le (cxOf X ms' L' w')) (hu:holds ch a.tmps->AV.IsV (cxOf X ms' L' w') v u) (hn:¬ holds ch a.tmps->u=undef) :
  Inv ops N D vs H base X ms0 L0 w0 a0 (listed.setIfInBounds j true) (a.put o.dst u) ms' L' w':=by
 have hjlt:j<ops.size:=(y29.1 ho).1
 have hset:∀ k,(listed.setIfInBounds j true).getD k false=true↔(listed.getD k false=true\/k=j):=fun k=>by
  by_cases hjk:j=k
  ·subst hjk
   simp[hi.size,hjlt]
  ·rw[getD_set_ne false hjk]
   exact⟨.inl,fun h=>h.resolve_right (fun e=>hjk e.symm)⟩
 have hdst:∀ t,o.dst=some t->factOf ops vs j=some (t,ch,v):=fun t ht=>by simp[factOf,ho,ht,hv]
 have hwj:∀ t,o.dst=some t->j∈wrs ops t:=fun t ht=>zmu.2 ⟨o,ho,ht⟩
 have hfilt:(D.effs.filter fun e=>(listed.setIfInBounds j true).getD e false)=if D.effs.contains j then keyAdd D (D.effs.filter fun e=>listed.getD e false) j else D.effs.filter fun e=>listed.getD e false:=by
  split
  ·unfold keyAdd
   refine List.filter_congr fun x hx=>?_
   rw[y1k,hset]
   simp only[yj,y2a,y1x,yn]
   exact⟨fun h=>h.imp (fun h=>⟨hx,h⟩) id,fun h=>h.imp (fun h=>h.2) id⟩
  ·rename_i hne
   refine List.filter_congr fun x hx=>?_
   rw[y1k,hset]
   exact⟨fun h=>h.resolve_right (fun e=>hne (by subst e; exact y2a.2 hx)),.inl⟩
 refine⟨by simp[hi.size],fun k hk i hik=>?_,?_,r,hi.ext.trans e,hi.le.trans c,fun x hx hw=>?_,fun i x hl hf hw=>?_,?_,?_⟩
 ·rw[hset] at hk |-
  rcases hk with hk | rfl
  ·exact .inl (hi.down k hk i hik)
  ·exact .inl (hp i hik)
 ·rw[hfilt]
  unfold wantD at hkey
  split at hkey
  ·rename_i v' L'' h1 h2
   cases hkey
   split at h2
   ·rename_i hc
    rw[y7 hc]; exact h2
   ·rename_i hc
    cases h2
    rw[y6 hc]; exact hi.key
  ·cases hkey
 ·have hold:=hi.base x hx fun k hk=>by
   cases hl:listed.getD k false with
   | false=>rfl
   | true =>
    have h1:=(hset k).2 (.inl hl)
    rw[hw k hk] at h1; cases h1
  refine (hold.mono c).put (fun t ht e=>?_) (fun t _ y hy=>by rw[hb0 x hx] at hy; cases hy)
  subst e
  have h1:=(hset j).2 (.inr rfl)
  rw[hw j (hwj _ ht)] at h1; cases h1
 ·by_cases hij:i=j
  ·subst hij
   cases hd0:o.dst with
   | none=>simp[factOf,ho,hd0] at hf
   | some t =>
    have e1:=hdst t hd0
    rw[e1] at hf
    cases hf
    obtain⟨s1,s2⟩:=hd.sl i hjlt _ e1
    simp only at s1 s2
    have hget:∀ s,s≠t->(a.put (some t) u).tmps.getD s undef=a.tmps.getD s undef:=fun s hs=>by
     simp only[Act.put,y1g]
     rw[y2s (fun e=>hs e.symm)]
    have hself:(a.put (some t) u).tmps.getD t undef=u:=by
     simp only[Act.put,y1g]
     rw[y2o (by rw[hi.tmps]; exact s1)]
     rfl
    have hh:holds ch (a.put (some t) u).tmps↔holds ch a.tmps:=by
     constructor
     ·intro q y hy
      have:=q y hy
      rwa [hget y.1 (s2 y hy).1] at this
     ·intro q y hy
      rw[hget y.1 (s2 y hy).1]
      exact q y hy
    refine⟨by simpa [Act.put,hi.tmps] using s1,fun q=>?_,fun q=>?_⟩
    ·rw[hself]; exact hu (hh.1 q)
    ·rw[hself]; exact hn (fun q'=>q (hh.2 q'))
  ·have hl0:listed.getD i false=true:=((hset i).1 hl).resolve_right hij
   have hilt:i<ops.size:=by
    rcases yu i listed.size with h' | h'
    ·rw[<- hi.size]; exact h'
    ·simp[Array.getElem?_eq_none h'] at hl0
   have hold:=hi.facts i x hl0 hf fun k hk hne hlk=>hw k hk hne ((hset k).2 (.inl hlk))
   refine (hold.mono c).put (fun t ht e=>?_) (fun t ht y hy e=>?_)
   ·subst e
    have h1:=hw j (hwj _ ht) (fun e=>hij e.symm) ((hset j).2 (.inr rfl))
    rw[hi.down i hl0 j h1] at hj; cases hj
   ·subst e
    have h1:=((hd.sl i hilt x hf).2 y hy).2 j (hwj _ ht)
    rw[hi.down i hl0 j h1] at hj; cases hj
 ·cases o.dst <;> simp[Act.put,hi.tmps]
 ·cases o.dst <;> exact hi.defers
theorem zj2 (zn:Nat) (hd:DChk ops N D vs) (hb0:∀ x∈base,x.2.1=[]) (heff:∀ e∈D.effs,e<ops.size) (hj:∀ j K L,j<ops.size->lookH H K=some L->consB D j K=true->∃ r C,stepJ P ops hs D base vs j L=some (r,C)/\AllP C/\wantD D vs H j K L=some r) (hQ:∀ a ms L w,lookH H D.effs=some L->Rel X ms L w->Ext ms0 w0 ms w->(cxOf X ms0 L0 w0).le (cxOf X ms L w)->FrIs (cxOf X ms L w) (gfin ops D vs base) a.tmps->a.tmps.size=N ->
   a.defers=a0.defers->Q .normal a w) :
  ∀ (fuel:Nat) (listed:Array Bool) (a:Act) (ms:Blocks) (L:List Ob) (w:World),listed.toList.countP (!·)<=fuel->Inv ops N D vs H base X ms0 L0 w0 a0 listed a ms L w ->
   wpAnyIn (fenceOf z) zn P .any ops Q fuel listed a w:=by
 have hfin:∀ (listed:Array Bool) (a:Act) (ms:Blocks) (L:List Ob) (w:World),Inv ops N D vs H base X ms0 L0 w0 a0 listed a ms L w ->
   (∀ j,j<ops.size->listed.getD j false=true)->Q .normal a w:=fun listed a ms L w hi hall=>by
  obtain⟨h1,h2⟩:=hi.final hd heff hall
  exact hQ a ms L w h1 hi.rel hi.ext hi.le h2 hi.tmps hi.defers
 intro fuel
 induction fuel with
 | zero =>
  intro listed a ms L w hc hi
  have hall:∀ j,j<ops.size->listed.getD j false=true:=fun j hj=>zh8 hc j (by rw[hi.size]; exact hj)
  refine⟨?_,hfin _ _ _ _ _ hi hall⟩
  apply List.eq_nil_iff_forall_not_mem.2
  intro j hjr
  obtain⟨h0,o,ho,_⟩:=mem_ready.1 hjr
  have hjlt:j<ops.size:=(y29.1 ho).1
  rw[zbp (by rw[hi.size]; exact hjlt),hall j hjlt] at h0
  cases h0
 | succ fuel ih =>
  intro listed a ms L w hc hi
  refine⟨fun hnil=>hfin _ _ _ _ _ hi (zdm hd hi.size hnil),fun j hjr=>?_⟩
  obtain⟨h0,o,ho,hall⟩:=mem_ready.1 hjr
  have hjlt:j<ops.size:=(y29.1 ho).1
  have hj0:listed.getD j false=false:=by rw[<- zbp (by rw[hi.size]; exact hjlt)]; exact h0
  have hdp:∀ i∈dpreds ops j,listed.getD i false=true:=fun i hi'=>by
   unfold dpreds at hi'
   rw[ho] at hi'
   obtain⟨e,he,rfl⟩:=yz.1 hi'
   obtain⟨h1,h2⟩:=y1x.1 he
   exact hall e (by simpa using h1) h2
  have hp:∀ i∈D.p j,listed.getD i false=true:=fun i hip=>by
   rcases (hd.cl j hjlt i hip).2 with h | ⟨m,hm,hm'⟩
   ·exact hdp i h
   ·exact hi.down m (hdp m hm) i hm'
  have hcons:consB D j (D.effs.filter fun e=>listed.getD e false)=true:=by
   simp only[consB,ya,y1i,y18,yj]
   refine⟨⟨?_,fun i hip=>?_⟩,fun k hk=>?_⟩
   ·rw[yk]
    intro hc'
    have:=(y1x.1 (y2a.1 hc')).2
    rw[hj0] at this; cases this
   ·by_cases hie:D.effs.contains i=true
    ·exact .inr (y2a.2 (y1x.2 ⟨y2a.1 hie,hp i hip⟩))
    ·exact .inl (by simpa using hie)
   ·rw[yk]
    intro hc'
    have:=hi.down k (y1x.1 hk).2 j (y2a.1 hc')
    rw[hj0] at this; cases this
  obtain⟨⟨v,L'⟩,C,h1,h2,h3⟩:=hj j _ L hjlt hi.key hcons
  have hcount:(listed.setIfInBounds j true).toList.countP (!·)<=fuel:=by
   have:=zea h0; omega
  unfold stepJ at h1
  rw[ho] at h1
  split at h1
  ·rename_i o' ch v' e1 hv
   cases e1
   split at h1
   ·rename_i hg
    have hv':vs[j]? = some (ch,v):=by
     unfold wantD at h3
     split at h3
     ·rename_i ch2 v2 L2 hv2 _
      rw[hv] at hv2
      cases hv2
      cases h3
      exact hv
     ·cases h3
    have hgm:=hi.gmin hj0 hp
    have hw:=z83 hg hgm
    unfold wpOpIn
    rw[ho]
    simp only
    by_cases hh:holds ch a.tmps
    ·rw[y7 (hw.2 hh)]
     refine zkv h1 h2 hi.rel hgm hh (fun u ms1 w1 k1 k2 k3 k4=>?_) zn
     exact ih _ _ ms1 L' w1 hcount (hi.step hd hb0 ho hv' hj0 hp h3 k1 k2 k3 (fun _=>k4) (fun h=>absurd hh h))
    ·rw[y6 (fun h=>hh (hw.1 h))]
     refine⟨fun f _=>z3q z f,?_⟩
     have hLL:=zj0 h1 h2 hgm hh
     subst hLL
     exact ih _ _ ms L' w hcount (hi.step hd hb0 ho hv' hj0 hp h3 hi.rel (Ext.refl _ _) (Cx.le.refl _) (fun h=>absurd h hh) (fun _=>rfl))
   ·cases h1
  ·cases h1
end
theorem zeb {P:Program} {ops:Array Oper} {hs:List (Nat×HE)} {D:DS} {base:GFr}:∀ (l:List Nat) (vs:VS) (H:HS) (vs':VS) (H':HS),z9t P ops hs D base l vs H=some (vs',H')->∃ J,H'=H++J
 | [],vs,H,vs',H',h=>by
  simp only[z9t,yw,y34] at h
  exact⟨[],by simp[h.2]⟩
 | j :: r,vs,H,vs',H',h=>by
  simp only[z9t] at h
  split at h
  ·cases h
  ·split at h
   ·cases h
   ·split at h
    ·cases h
    ·split at h
     ·cases h
     ·obtain⟨J,e⟩:=zeb r _ _ _ _ h
      exact⟨_,by rw[e,y25]⟩
theorem zec {l:List α} {f:α->List Prop} (h:AllP (l.flatMap f)) {x:α} (hx:x∈l):AllP (f x):=by
 induction l with
 | nil=>cases hx
 | cons y r ih =>
  rw[y4z,zd] at h
  rcases yv.1 hx with rfl | hx
  ·exact h.1
  ·exact ih h.2 hx
theorem zkw {Q:Post} {D:DS} (hm:P.follows .mixedOrders=true) (h:drawnRun P ops N hs D fr L=some (fr',L',C)) (hj:drawnL P ops hs D fr L=drawnR P ops hs D fr L) (hc:AllP C) (hQ:Q .normal fr' L') :
  AW z P N (.region id ops true) Q fr L:=by
 intro zn df X ms w a hr hf hN hd
 refine wpIn_region_any hm ?_
 unfold drawnRun at h
 unfold drawnL drawnR at hj
 split at h
 ·rename_i vs H hrun
  rw[hrun] at hj
  simp only at hj
  split at h
  ·rename_i hchk
   split at h
   ·rename_i L1 hl
    cases h
    obtain⟨r1,c1⟩:=hr.grow (w':={ w with drawn:=w.drawn+1 }) (Grow.drew w)
    have hdc:=zj1 hchk.1
    obtain⟨J,hJ⟩:=zeb _ _ _ _ _ hrun
    have hempty:∀ j,(Array.replicate ops.size false).getD j false=false:=fun j=>by
     rw[y1g]
     cases he:(Array.replicate ops.size false)[j]? with
     | none=>rfl
     | some b=>exact (Array.mem_replicate.1 (Array.mem_of_getElem? he)).2
    refine zj2 zn (hs:=hs) (D:=D) (base:=fr.up) (vs:=vs) (H:=H) (N:=N) (ms0:=ms) (L0:=L) (w0:=w) (a0:=a) hdc (fun x hx=>?_) hdc.eff (fun j K L2 hjl hlk hcb=>?_)
     (fun a2 ms2 L2 w2 k0 k1 k2 k3 k4 k5 k6=>?_) _ _ _ ms L _ ?_ ⟨sj,fun j hj'=>?_,?_,r1,Grow.ext (Grow.drew w) ms,c1,fun x hx _=>?_,fun i x hl'=>?_,hN,rfl⟩
    ·obtain⟨y,_,rfl⟩:=yz.1 hx
     rfl
    ·have hmem:(j,K,L2)∈jobsD D H ops.size:=y3r.2 ⟨j,y1l.2 hjl,yz.2 ⟨(K,L2),y1x.2 ⟨zco hlk,hcb⟩,rfl⟩⟩
     have hsome:=y18.1 hchk.2 _ hmem
     have heq:=List.map_inj_left.1 hj _ hmem
     have hcj:=zec hc hmem
     simp only at hsome heq hcj
     cases hst:stepJ P ops hs D fr.up vs j L2 with
     | none=>rw[hst] at hsome; cases hsome
     | some rc =>
      rw[hst] at heq hcj
      exact⟨rc.1,rc.2,rfl,hcj,heq.symm⟩
    ·rw[hl] at k0
     cases k0
     exact⟨ms2,_,L',hQ,k1,k2,k3,zg4 k4,k5,k6.trans hd⟩
    ·refine y2c List.countP_le_length sj
    ·rw[hempty] at hj'; cases hj'
    ·rw[List.filter_eq_nil_iff.2 (fun e _=>by rw[hempty]; simp),hJ]
     rfl
    ·exact (hf.mono c1) x hx
    ·rw[hempty] at hl'; cases hl'
   ·cases h
  ·cases h
 ·cases h
variable {z:Option Nat}
open Classical in
noncomputable def guardP (p:Prop) (k:Option α):Option α:=if p then k else none
variable {r:α}
theorem z2x {p:Prop} {k:Option α} (h:guardP p k=some r):p/\k=some r:=by
 unfold guardP at h
 split at h
 ·exact⟨aj,h⟩
 ·cases h
theorem z6 {p:Prop} {k:Option α} (h:p):guardP p k=k:=by
 unfold guardP; rw[y7 h]
theorem zar {x:Option α} {f:α->Option β} {r:β} (h:x.bind f=some r):∃ a,x=some a/\f a=some r:=by
 cases x with
 | none=>cases h
 | some a=>exact⟨a,rfl,h⟩
inductive Step (σ ρ:Type) where
 | cont (s:σ)
 | brk (s:σ)
 | ret (r:ρ)
inductive Out (σ ρ:Type) where
 | next (s:σ)
 | ret (r:ρ)
section
variable {σ ρ:Type}
def rangeM (body:Nat->σ->Option (Step σ ρ)):Nat->Nat->σ->Option (Out σ ρ)
 | 0,_,s=>some (.next s)
 | k+1,i,s=>match body i s with
  | none=>none
  | some (.cont s')=>rangeM body k (i+1) s'
  | some (.brk s')=>some (.next s')
  | some (.ret r)=>some (.ret r)
def iterN (step:σ->Option (Step σ ρ)):Nat->σ->Option (Out σ ρ)
 | 0,_=>none
 | k+1,s=>match step s with
  | none=>none
  | some (.cont s')=>iterN step k s'
  | some (.brk s')=>some (.next s')
  | some (.ret r)=>some (.ret r)
theorem z9u {step:σ->Option (Step σ ρ)} {r:Out σ ρ}:∀ {k:Nat} {s:σ},iterN step k s=some r->∀ {k':Nat},k<=k'->iterN step k' s=some r
 | k+1,s,h,k'+1,hk=>by
  simp only[iterN] at h |-
  split at h
  ·cases h
  ·exact z9u h om
  ·exact h
  ·exact h
open Classical in
noncomputable def iterM (step:σ->Option (Step σ ρ)) (s:σ):Option (Out σ ρ):=if h:∃ r k,iterN step k s=some r then some h.choose else none
theorem z5h {step:σ->Option (Step σ ρ)} {s:σ} {r:Out σ ρ} (h:iterM step s=some r):∃ k,iterN step k s=some r:=by
 unfold iterM at h
 split at h
 ·rename_i he
  cases h
  exact he.choose_spec
 ·cases h
theorem z7e {step:σ->Option (Step σ ρ)} {s:σ} {r:Out σ ρ} (h:iterN step k s=some r):iterM step s=some r:=by
 have he:∃ r k,iterN step k s=some r:=⟨r,k,h⟩
 unfold iterM
 rw[y4a he]
 obtain⟨k',h'⟩:=he.choose_spec
 have h1:=z9u h (Nat.le_max_left k k')
 have h2:=z9u h' (Nat.le_max_right k k')
 rw[h1] at h2
 exact h2.symm
theorem zu (step:σ->Option (Step σ ρ)) (s:σ):iterM step s=match step s with
  | none=>none
  | some (.cont s')=>iterM step s'
  | some (.brk s')=>some (.next s')
  | some (.ret r)=>some (.ret r):=by
 cases hs:step s with
 | none =>
  cases hm:iterM step s with
  | none=>rfl
  | some r =>
   obtain⟨k,hk⟩:=z5h hm
   cases k with
   | zero=>cases hk
   | succ k=>simp only[iterN,hs] at hk; cases hk
 | some x =>
  cases x with
  | brk s'=>exact z7e (k:=1) (by simp[iterN,hs])
  | ret r=>exact z7e (k:=1) (by simp[iterN,hs])
  | cont s' =>
   simp only
   cases hm:iterM step s' with
   | some r =>
    obtain⟨k,hk⟩:=z5h hm
    exact z7e (k:=k+1) (by simp[iterN,hs,hk])
   | none =>
    cases hm':iterM step s with
    | none=>rfl
    | some r =>
     obtain⟨k,hk⟩:=z5h hm'
     cases k with
     | zero=>cases hk
     | succ k =>
      simp only[iterN,hs] at hk
      rw[z7e hk] at hm; cases hm
end
section
variable {P:Program} {N:Nat} {Q:Post} {fr:Fr} {L:List Ob} {x y:Code} {cs:List Code}
end
variable {A:Nat}
section
variable {P:Program} {N:Nat} {σ ρ:Type}
def StepQ (A:Nat) (I:σ->Fr) (LI:σ->List Ob) (J:σ->Fr->List Ob->Prop) (R:ρ->Fr->List Ob->Prop) (RX:ρ->Nat->Fr->List Ob->Prop) (r:Step σ ρ):Post
 | .normal,fr,L=>∃ s,r = .cont s/\StLe fr L (I s) (LI s)
 | .exit j,fr,L=>(j=A/\∃ s,r = .brk s/\J s fr L)\/∃ x,r = .ret x/\RX x j fr L
 | .ret,fr,L=>∃ x,r = .ret x/\R x fr L
 | _,_,_=>False
def OutQ (A:Nat) (J:σ->Fr->List Ob->Prop) (R:ρ->Fr->List Ob->Prop) (RX:ρ->Nat->Fr->List Ob->Prop) (r:Out σ ρ):Post
 | .exit j,fr,L=>(j=A/\∃ s,r = .next s/\J s fr L)\/∃ x,r = .ret x/\RX x j fr L
 | .ret,fr,L=>∃ x,r = .ret x/\R x fr L
 | _,_,_=>False
theorem zed {c:Code} {I:Nat->σ->Fr} {LI:Nat->σ->List Ob} {J:σ->Fr->List Ob->Prop} {R:ρ->Fr->List Ob->Prop} {RX:ρ->Nat->Fr->List Ob->Prop} {body:Nat->σ->Option (Step σ ρ)} (hround:∀ i s r,i<n->body i s=some r->AW z P N c (StepQ A (I (i+1)) (LI (i+1)) J R RX r) (I i s) (LI i s)) (hend:∀ s,AW z P N c (StepQ A (I (n+1)) (LI (n+1)) J R RX (.brk s)) (I n s) (LI n s)) (hm:∀ i s,(LI i s).length=m) {s:σ} {out:Out σ ρ} (hi:i+k=n) (h:rangeM body k i s=some out) (hfr:StLe fr L (I i s) (LI i s)) (hL:L.length<=m) :
  AW z P N (.loop c) (OutQ A J R RX out) fr L:=by
 refine zg5 (σ:={ q:Nat×Nat×σ // q.2.1+q.1=n/\rangeM body q.1 q.2.1 q.2.2=some out }) (fun q=>I q.1.2.1 q.1.2.2) (fun q=>LI q.1.2.1 q.1.2.2) (fun _=>True)
  (fun _=>OutQ A J R RX out) (fun q=>q.1.1) ?_ ⟨(k,i,s),hi,h⟩ trivial hfr (by rw[hm]; exact hL) (fun _ _ _ h=>h)
 rintro⟨⟨k,i,s⟩,hki,hr⟩ _
 simp only at hki hr |-
 cases k with
 | zero =>
  simp only[rangeM,yw] at hr
  have:i=n:=om
  subst this
  refine zbn (hend s) fun e fr L hq=>?_
  subst hr
  cases e with
  | normal=>obtain⟨s',hs,_⟩:=hq; cases hs
  | exit j =>
   rcases hq with ⟨h1,s',h2,h3⟩ | ⟨x,hx,_⟩
   ·cases h2; exact .inl ⟨h1,s,rfl,h3⟩
   ·cases hx
  | ret=>obtain⟨x,hx,_⟩:=hq; cases hx
  | goto l=>exact hq.elim
  | panic ch=>exact hq.elim
  | outgrown=>exact hq.elim
 | succ k =>
  simp only[rangeM] at hr
  cases hb:body i s with
  | none=>simp[hb] at hr
  | some r =>
   refine zbn (hround i s r om hb) fun e fr L hq=>?_
   cases e with
   | normal =>
    obtain⟨s',rfl,hst⟩:=hq
    simp only[hb] at hr
    exact⟨⟨(k,i+1,s'),by simp only; omega,hr⟩,trivial,hst,sj,by rw[hm,hm],fun _ _ _ h=>h⟩
   | exit j =>
    rcases hq with ⟨h1,s',rfl,h3⟩ | ⟨x,rfl,h3⟩
    ·simp only[hb,yw] at hr
     subst hr
     exact .inl ⟨h1,s',rfl,h3⟩
    ·simp only[hb,yw] at hr
     subst hr
     exact .inr ⟨x,rfl,h3⟩
   | ret =>
    obtain⟨x,rfl,h3⟩:=hq
    simp only[hb,yw] at hr
    subst hr
    exact⟨x,rfl,h3⟩
   | goto l=>exact hq.elim
   | panic ch=>exact hq.elim
   | outgrown=>exact hq.elim
theorem zmv {c:Code} {I:σ->Fr} {LI:σ->List Ob} {J:σ->Fr->List Ob->Prop} {R:ρ->Fr->List Ob->Prop} {RX:ρ->Nat->Fr->List Ob->Prop} {step:σ->Option (Step σ ρ)} (hround:∀ s r,step s=some r->AW z P N c (StepQ A I LI J R RX r) (I s) (LI s)) (hm:∀ s,(LI s).length=m) {s:σ} {out:Out σ ρ} (h:iterM step s=some out) (hfr:StLe fr L (I s) (LI s)) (hL:L.length<=m) :
  AW z P N (.loop c) (OutQ A J R RX out) fr L:=by
 obtain⟨k,hk⟩:=z5h h
 refine zg5 (σ:={ q:Nat×σ // iterN step q.1 q.2=some out }) (fun q=>I q.1.2) (fun q=>LI q.1.2) (fun _=>True)
  (fun _=>OutQ A J R RX out) (fun q=>q.1.1) ?_ ⟨(k,s),hk⟩ trivial hfr (by rw[hm]; exact hL) (fun _ _ _ h=>h)
 rintro⟨⟨k,s⟩,hr⟩ _
 simp only at hr |-
 cases k with
 | zero=>cases hr
 | succ k =>
  simp only[iterN] at hr
  cases hb:step s with
  | none=>simp[hb] at hr
  | some r =>
   refine zbn (hround s r hb) fun e fr L hq=>?_
   cases e with
   | normal =>
    obtain⟨s',rfl,hst⟩:=hq
    simp only[hb] at hr
    exact⟨⟨(k,s'),hr⟩,trivial,hst,sj,by rw[hm,hm],fun _ _ _ h=>h⟩
   | exit j =>
    rcases hq with ⟨h1,s',rfl,h3⟩ | ⟨x,rfl,h3⟩
    ·simp only[hb,yw] at hr
     subst hr
     exact .inl ⟨h1,s',rfl,h3⟩
    ·simp only[hb,yw] at hr
     subst hr
     exact .inr ⟨x,rfl,h3⟩
   | ret =>
    obtain⟨x,rfl,h3⟩:=hq
    simp only[hb,yw] at hr
    subst hr
    exact⟨x,rfl,h3⟩
   | goto l=>exact hq.elim
   | panic ch=>exact hq.elim
   | outgrown=>exact hq.elim
end
variable {z:Option Nat}
variable {g:Nat->DV}
section
variable {P:Program} {N:Nat} {Q:Post} {fr:Fr} {L:List Ob} {x y:Code} {cs:List Code}
theorem z84 {c:Code} {Q0:Post} (h:AW z P N c Q0 fr L) (hq:∀ e fr1 L1,L.length<=L1.length->Q0 e fr1 L1->∃ fr2 L2,StLe fr1 L1 fr2 L2/\L.length<=L2.length/\Q e fr2 L2):AW z P N c Q fr L:=by
 intro zn df X ms w a hr hf hN hd
 refine y32 (h zn df X ms w a hr hf hN hd) ?_
 rintro e a1 w1 ⟨ms1,fr1,L1,q1,r1,e1,c1,f1,n1,d1⟩
 obtain⟨fr2,L2,st,hl,q2⟩:=hq e fr1 L1 c1.L q1
 obtain⟨ms2,k1,k2,k3,k4⟩:=st.rel hl r1 e1 c1 f1
 exact⟨ms2,fr2,L2,q2,k1,k2,k3,k4,n1,d1⟩
theorem zee:FrLe fr []:=fun x hx=>by cases hx
theorem z6c {s:Nat} {w:AV} {r:Fr} (hm:(s,v)∈fr) (h:LeV v w) (hr:FrLe fr r):FrLe fr ((s,w) :: r):=fun x hx=>by
 rcases yv.1 hx with rfl | hx
 ·exact⟨v,hm,h⟩
 ·exact hr x hx
theorem LeV.of_eq {w:AV} (h:v=w):LeV v w:=h▸LeV.refl _
theorem z6u {f:Nat->DV} (hn:n=m) (h:∀ i,i<n->f i=g i):LeV (.d (.sl n f)) (.d (.sl m g)):=by
 subst hn
 intro c u hu
 cases hu with
 | agg _ _ ha=>cases ha
 | one _ _ _ hx =>
  refine .one _ _ rfl ?_
  cases hx with
  | d _ _ hx =>
   refine .d _ _ ?_
   cases hx with
   | slNil=>exact .slNil _
   | slEmpty=>exact .slEmpty _ _ _
   | sl _ _ b off cap sz arr cs h1 h2 hb hh hl hc=>exact .sl _ _ b off cap sz arr cs h1 h2 hb (fun i hi=>by rw[<- h i hi]; exact hh i hi) hl hc
theorem z9v {f:Nat->DV} (hn:n=m) (h:∀ i,i<n->f i=g i):LeV (.full n f) (.d (.sl m g)):=by
 intro c u hu
 refine z6u hn h c u ?_
 cases hu with
 | agg _ _ ha=>cases ha
 | one _ _ _ hx =>
  cases hx with
  | full _ _ a hx=>exact .one _ _ rfl (.d _ _ hx)
end
variable {z:Option Nat}
def outM {σ ρ:Type} (x:Option (Out σ ρ)) (k:σ->Option α) (kr:ρ->Option α):Option α :=
 match x with
 | none=>none
 | some (.next s)=>k s
 | some (.ret r)=>kr r
def outK {σ ρ:Type} (k:σ->Option α) (kr:ρ->Option α):Out σ ρ->Option α
 | .next s=>k s
 | .ret r=>kr r
theorem z6d {σ ρ:Type} {x:Option (Out σ ρ)} {k:σ->Option α} {kr:ρ->Option α} (h:outM x k kr=some r):∃ o,x=some o/\outK k kr o=some r:=by
 unfold outM at h
 split at h
 ·cases h
 ·exact⟨_,rfl,h⟩
 ·exact⟨_,rfl,h⟩
open Classical in
noncomputable def optD (gs:List Prop) (k:Option α) (d:α):Option α:=if AllP gs then k else some d
variable {gs:List Prop} {d:α}
theorem zj3 {k:Option α} (h:optD gs k d=some r) (hg:AllP gs):k=some r:=by
 unfold optD at h
 rwa [y7 hg] at h
theorem zkx {k:Option α} (h:optD gs k d=some r) (hg:¬ AllP gs):d=r:=by
 unfold optD at h
 rw[y6 hg] at h
 exact y15 h
def FR (P:Program) (fn:Func) (v:AV) (L':List Ob) (fr:Fr) (L:List Ob):Prop:=∃ v1 C J,resV P fn fr L=some (v1,C)/\AllP C/\LeV v1 v/\L=L'++J
def FQ (P:Program) (fn:Func) (v:AV) (L':List Ob):Post:=fun e fr L=>(e = .normal\/e = .ret)/\FR P fn v L' fr L
def LsOk (n:Nat):List Ob->Prop
 | []=>True
 | x :: r=>x.lt n/\LsOk n r
theorem lsOk {n:Nat}:∀ {L:List Ob},LsOk n L->∀ (o:Nat) (obj:Ob),L[o]? = some obj->obj.lt n
 | [],_,o,obj,h=>by simp at h
 | x :: r,hk,0,obj,h=>by simp at h; subst h; exact hk.1
 | x :: r,hk,o+1,obj,h=>lsOk hk.2 o obj (by simpa using h)
def eL [Inhabited α] (e:α->DV) (l:List α):DV:=.sl l.length fun j=>e (l.getD j dF)
def eA (sz n:Nat) (e:α->DV) (f:Nat->α):DV:=.arr sz n fun j=>e (f j)
def eS [Inhabited α] (sz:Nat) (e:α->DV) (l:List α):Ob:=.seq sz l.length fun j=>.d (e (l.getD j dF))
section
variable {α:Type} [Inhabited α] {e:α->DV} {l:List α}
theorem zmw {f:Nat->DV}:LeV (.full 0 f) (.d (eL e ([]:List α))):=z9v rfl fun i hi=>om
theorem zky {h:Nat} (hh:h<=l.length):LeV (.d (.sl (h-0) fun j=>e (l.getD j dF))) (.d (eL e (l.take h))) :=
 z6u sk fun i hi=>by
  have:(l.take h).getD i dF=l.getD i dF:=by
   simp only[List.getD_eq_getElem?_getD]
   rw[y1s om]
  rw[this]
theorem zkz:LeV (.d (.sl (l.length-n) fun j=>e (l.getD (n+j) dF))) (.d (eL e (l.drop n))) :=
 z6u sj fun i _=>by
  have:(l.drop n).getD i dF=l.getD (n+i) dF:=by simp[List.getD_eq_getElem?_getD]
  rw[this]
theorem z7 (e:α->DV) (l:List α):LeV (.d (.sl l.length (listF (.b false) (l.map e)))) (.d (eL e l)) :=
 z6u rfl fun i hi=>by
  simp[listF,List.getD_eq_getElem?_getD,List.getElem?_eq_getElem hi]
end
theorem z33 {n:Int} (h1:-(2 ^ 63)<=n) (h2:n<2 ^ 63):IntKind.i64.wrap n=n:=by
 have e1:IntKind.i64.bits=64:=rfl
 have e2:IntKind.i64.signed=true:=rfl
 simp only[IntKind.wrap,e1,e2,y1m,y8]
 split <;> omega
theorem zj4 (h:i+1<2 ^ 63):IntKind.i64.wrap ((i:Int)+1)=((i+1:Nat):Int):=by
 rw[z33 om om]
 omega
def DLe (x y:DV):Prop:=∀ M cs,DV.Is M x cs->DV.Is M y cs
def DLeL (xs ys:List DV):Prop:=∀ M cs,DV.IsL M xs cs->DV.IsL M ys cs
theorem DLe.refl (x:DV):DLe x x:=fun _ _ h=>h
theorem DLe.sl0 {f:Nat->DV}:DLe (.sl 0 f) (.sl 0 g):=fun _ _ h=>by
 cases h with
 | slNil=>exact .slNil _
 | slEmpty=>exact .slEmpty _ _ _
 | sl _ _ b off cap sz arr cs h1 h2 hb hh hl hc=>exact .sl _ _ b off cap sz arr cs h1 h2 hb (fun i hi=>om) hl hc
theorem DLe.agg {xs ys:List DV} (h:DLeL xs ys):DLe (.agg xs) (.agg ys):=fun M cs hx=>by
 cases hx with
 | agg _ _ hx=>exact .agg _ _ (h M cs hx)
theorem DLeL.nil:DLeL [] []:=fun _ _ h=>h
theorem DLeL.cons {x y:DV} {xs ys:List DV} (h:DLe x y) (ht:DLeL xs ys):DLeL (x :: xs) (y :: ys):=fun M cs hx=>by
 cases hx with
 | cons _ _ c cs h1 h2=>exact .cons _ _ c cs (h M c h1) (ht M cs h2)
theorem z8y {x y:DV} (h:DLe x y):OLe (.box (.d x)) (.box (.d y)) where
 kind:=rfl
 stamp:=rfl
 is:=fun c w o hx=>by
  rcases hx with hx | ⟨b,tc,arr,e,h1,h2,h3⟩
  ·exact .inl hx
  ·refine .inr ⟨b,tc,arr,e,h1,h2,?_⟩
   cases h3 with
   | d _ _ h3=>exact .d _ _ (h _ _ h3)
variable {z:Option Nat}
section
variable {P:Program} {N:Nat} {Q:Post} {fr fr':Fr} {L:List Ob}
theorem Rel.freeze (h:Rel X ms L w) (ho:o<L.length) :
  Rel X (ms.set o none) (L.set o .dead) w/\Ext ms w (ms.set o none) w/\(cxOf X ms L w).le (cxOf X (ms.set o none) (L.set o .dead) w):=by
 have hlt':o<ms.length:=by rw[h.len]; exact ho
 have hget:∀ i b tc,(ms.set o none)[i]? = some (some (b,tc))->i≠o/\ms[i]? = some (some (b,tc)):=fun i b tc e=>by
  by_cases hio:o=i
  ·subst hio
   rw[y16 hlt'] at e
   cases e
  ·rw[y1d hio] at e
   exact⟨fun e'=>hio e'.symm,e⟩
 have he:Ext ms w (ms.set o none) w:=⟨yc _,fun b _ hn=>⟨rfl,fun⟨i,tc,e⟩=>hn ⟨i,tc,(hget i b tc e).2⟩⟩,SameOut.refl w⟩
 have hr:=h.step (ms':=ms.set o none) (L':=L.set o .dead) (w':=w) he (by simp[h.len]) (fun b ⟨i,tc,e⟩=>h.lt b ⟨i,tc,(hget i b tc e).2⟩)
  (fun i j b t1 t2 e1 e2=>h.inj i j b t1 t2 (hget i b t1 e1).2 (hget j b t2 e2).2) sj
  (fun i x hi hl hs=>by
   by_cases hio:o=i
   ·subst hio
    rw[y16 ho] at hl
    cases hl
    exact absurd rfl hs
   ·rw[y1d hio] at hl
    exact⟨x,hl,rfl,fun s hs=>⟨s,hs,yc _⟩,fun _=>by rw[y1d hio]⟩)
  (fun i x hl=>by
   by_cases hio:o=i
   ·subst hio
    rw[y16 ho] at hl
    cases hl
    exact .inr fun _=>trivial
   ·rw[y1d hio] at hl
    exact .inl ⟨hl,by rw[y1d hio],fun _ _ _=>rfl⟩)
 exact⟨hr.1,he,hr.2⟩
end
section
variable {fr r:Fr} {o n:Nat} {g:Nat->DV}
end
variable {z:Option Nat}
def TrV (H:Cx->Cx->Prop) (v v':AV):Prop:=∀ c c':Cx,c.le c'->H c c'->∀ cs,AV.Is c v cs->AV.Is c' v' cs
def TrL (H:Cx->Cx->Prop) (v v':List AV):Prop:=∀ c c':Cx,c.le c'->H c c'->∀ cs,AV.IsL c v cs->AV.IsL c' v' cs
def TrS (H:Cx->Cx->Prop) (v v':AV):Prop:=∀ c c':Cx,c.le c'->H c c'->∀ u,AV.IsV c v u->AV.IsV c' v' u
def FzH (o n:Nat) (g:Nat->DV) (c c':Cx):Prop:=∀ m u,m<=n->AV.Is c (.ref o n 0 m) [u]->AV.Is c' (.d (.sl m g)) [u]
def BnH (o:Nat) (c c':Cx):Prop:=∀ f u,AV.Is c (.full 0 f) [u]->AV.Is c' (.ref o 0 0 0) [u]
def NoH (_ _:Cx):Prop:=True
theorem AV.IsL.to_d:∀ {xs:List DV} {cs:List Value},AV.IsL c (xs.map AV.d) cs->DV.IsL c.M xs cs
 | [],_,h=>by cases h; exact .nil
 | x :: xs,_,h=>by
  cases h with
  | cons _ _ k ks h1 h2 =>
   cases h1 with
   | d _ _ h1=>exact .cons _ _ k ks h1 (AV.IsL.to_d h2)
section
variable {H:Cx->Cx->Prop}
theorem TrV.keep (v:AV):TrV H v v:=fun _ _ hc _ _ h=>h.mono hc
theorem TrL.nil:TrL H [] []:=fun _ _ _ _ cs h=>by cases h; exact .nil
theorem TrL.cons {x y:AV} {xs ys:List AV} (h:TrV H x y) (ht:TrL H xs ys):TrL H (x :: xs) (y :: ys):=fun c c' hc hr cs hx=>by
 cases hx with
 | cons _ _ k ks h1 h2=>exact .cons _ _ k ks (h c c' hc hr k h1) (ht c c' hc hr ks h2)
theorem TrV.agg {xs ys:List AV} (h:TrL H xs ys):TrV H (.agg xs) (.agg ys):=fun c c' hc hr cs hx=>by
 cases hx with
 | agg _ _ hx=>exact .agg _ _ (h c c' hc hr cs hx)
theorem TrV.aggD {xs:List AV} {ys:List DV} (h:TrL H xs (ys.map AV.d)):TrV H (.agg xs) (.d (.agg ys)):=fun c c' hc hr cs hx=>by
 cases hx with
 | agg _ _ hx=>exact .d _ _ (.agg _ _ (AV.IsL.to_d (h c c' hc hr cs hx)))
theorem TrV.full {f g:Nat->DV}:TrV H (.full 0 f) (.d (.sl 0 g)):=fun c c' hc _ cs hx=>by
 cases hx with
 | full _ _ a hx =>
  refine .d _ _ ?_
  cases hx with
  | slNil=>exact .slNil _
  | slEmpty=>exact .slEmpty _ _ _
  | sl _ _ b off cap sz arr cs h1 h2 hb h hl hc=>exact .slEmpty _ _ _
theorem TrS.keep (v:AV):TrS H v v:=fun _ _ hc _ _ h=>h.mono hc
theorem TrS.of {v':AV} (ha:v.isAgg=v'.isAgg) (hs:v.isAgg=true\/v.solid=true) (h:TrV H v v'):TrS H v v':=fun c c' hc hr u hx=>by
 cases hx with
 | agg _ cs h1 h2=>exact .agg _ cs (ha▸h1) (h c c' hc hr cs h2)
 | one _ _ h1 h2=>exact .one _ _ (ha▸h1) (h c c' hc hr _ h2)
 | tup vs us _=>rcases hs with hs | hs <;> cases hs
 | bot=>rcases hs with hs | hs <;> cases hs
theorem TrV.ref {o n m:Nat} {g:Nat->DV} (hm:m<=n):TrV (FzH o n g) (.ref o n 0 m) (.d (.sl m g)):=fun c _ _ hr cs h=>by
 have:∃ u,cs=[u]:=by cases h with | ref _ _ _ _ v _=>exact⟨v,rfl⟩
 obtain⟨u,rfl⟩:=this
 exact hr m u hm h
theorem TrV.born {f:Nat->DV}:TrV (BnH o) (.full 0 f) (.ref o 0 0 0):=fun c _ _ hr cs h=>by
 have:∃ u,cs=[u]:=by cases h with | full _ _ a _=>exact⟨_,rfl⟩
 obtain⟨u,rfl⟩:=this
 exact hr f u h
end
inductive TrO (H:Cx->Cx->Prop) (o:Nat):Nat->List Ob->List Ob->Prop
 | nil (k:Nat):TrO H o k [] []
 | keep (k:Nat) (x:Ob) (r r':List Ob) (hk:k≠o) (h:TrO H o (k+1) r r'):TrO H o k (x :: r) (x :: r')
 | box (k:Nat) (x y:AV) (r r':List Ob) (hk:k≠o) (hx:TrV H x y) (h:TrO H o (k+1) r r'):TrO H o k (.box x :: r) (.box y :: r')
 | here (k:Nat) (x:Ob) (r r':List Ob) (hk:k=o) (h:TrO H o (k+1) r r'):TrO H o k (x :: r) (.dead :: r')
variable {H:Cx->Cx->Prop}
theorem TrO.get (h:TrO H o k L L'):L.length=L'.length/\∀ (i:Nat) (y:Ob),L'[i]? = some y ->
  (k+i=o/\y = .dead)\/(k+i≠o/\∃ x,L[i]? = some x/\(x=y\/∃ a b,x = .box a/\y = .box b/\TrV H a b)):=by
 induction h with
 | nil k=>exact⟨rfl,fun i y e=>by simp at e⟩
 | keep k x r r' hk h ih =>
  refine⟨by simp[ih.1],fun i y e=>?_⟩
  cases i with
  | zero=>simp at e; subst e; exact .inr ⟨om,x,rfl,.inl rfl⟩
  | succ i =>
   rcases ih.2 i y (by simpa using e) with ⟨h1,h2⟩ | ⟨h1,h2⟩
   ·exact .inl ⟨om,h2⟩
   ·exact .inr ⟨om,by simpa using h2⟩
 | box k x z r r' hk hx h ih =>
  refine⟨by simp[ih.1],fun i y e=>?_⟩
  cases i with
  | zero=>simp at e; subst e; exact .inr ⟨om,_,rfl,.inr ⟨x,z,rfl,rfl,hx⟩⟩
  | succ i =>
   rcases ih.2 i y (by simpa using e) with ⟨h1,h2⟩ | ⟨h1,h2⟩
   ·exact .inl ⟨om,h2⟩
   ·exact .inr ⟨om,by simpa using h2⟩
 | here k x r r' hk h ih =>
  refine⟨by simp[ih.1],fun i y e=>?_⟩
  cases i with
  | zero=>simp at e; subst e; exact .inl ⟨om,rfl⟩
  | succ i =>
   rcases ih.2 i y (by simpa using e) with ⟨h1,h2⟩ | ⟨h1,h2⟩
   ·exact .inl ⟨om,h2⟩
   ·exact .inr ⟨om,by simpa using h2⟩
theorem zcp (h:Rel X ms L w) (hL:L[o]? = some (.seq sz n fun j=>.d (g j))) (hn:n<2 ^ 63) :
  FzH o n g (cxOf X ms L w) (cxOf X (ms.set o none) L' w):=by
 intro m u hmn h1
 have ho:o<L.length:=by
  rcases yu o L.length with h' | h'
  ·exact h'
  ·rw[yf h'] at hL; cases hL
 obtain⟨_,_,hc⟩:=h.freeze ho
 cases h1 with
 | ref _ _ _ _ _ hr =>
 obtain⟨_,_,_,h3⟩:=hr
 obtain⟨_,h4⟩:=h3 sz _ hL
 refine .d _ _ ?_
 rcases h4 with ⟨h5,a,rfl⟩ | ⟨h5,_⟩ | ⟨b,tc,h5,h6,rfl⟩
 ·have hob:=h.obs o _ hL
  rcases hob with ⟨_,h0⟩ | ⟨b,tc,_,_,_,h6,_⟩
  ·obtain rfl:m=0:=om
   cases a with
   | none=>exact .slNil _
   | some a=>exact .slEmpty _ _ _
  ·have:=h5.symm.trans h6; cases this
 ·exact absurd rfl h5
 ·have hob:=h.obs o _ hL
  rcases hob with ⟨h0,_⟩ | ⟨b',tc',arr,e,cs,k1,k2,k3,k4,k5,k6,k7⟩
  ·have:=h0.symm.trans h5; cases this
  ·have e1:=k1.symm.trans h5
   cases e1
   have hlt':o<ms.length:=by rw[h.len]; exact ho
   have hb:memOf X (ms.set o none) w b=some arr:=z1j (h.lt b ⟨o,tc,h5⟩).2 (fun⟨i,t,ei⟩=>by
    by_cases hio:o=i
    ·subst hio
     rw[y16 hlt'] at ei
     cases ei
    ·rw[y1d hio] at ei
     exact hio (h.inj o i b tc t h5 ei)) k2
   refine .sl m g b (0 * sz) (tc-0) sz arr cs om om hb (fun i hi=>?_) (fun i hi=>k6 i om) (fun i hi j hj=>?_)
   ·cases k5 i om with
    | d _ _ hx=>exact hx.mono hc.M
   ·rw[Nat.zero_mul,y1h]; exact k7 i om j hj
def Shifts (H:Cx->Cx->Prop) (L L':List Ob):Prop:=∀ (X:Nat->Prop) (ms:Blocks) (w:World),Rel X ms L w ->
 ∃ ms',Rel X ms' L' w/\Ext ms w ms' w/\(cxOf X ms L w).le (cxOf X ms' L' w)/\H (cxOf X ms L w) (cxOf X ms' L' w)
theorem zef (hL:L[o]? = some (.seq sz n fun j=>.d (g j))) (hn:n<2 ^ 63) (hO:TrO (FzH o n g) o 0 L L'):Shifts (FzH o n g) L L':=by
 intro X ms w h
 have ho:o<L.length:=by
  rcases yu o L.length with h' | h'
  ·exact h'
  ·rw[yf h'] at hL; cases hL
 obtain⟨r1,e1,_⟩:=h.freeze ho
 obtain⟨hlen,hget⟩:=hO.get
 have hm:∀ i,i≠o->(ms.set o none)[i]? = ms[i]? := fun i hi=>by rw[y1d (fun e=>hi e.symm)]
 have hr:=h.step (ms':=ms.set o none) (L':=L') (w':=w) e1 (by simp[h.len,hlen]) r1.lt r1.inj om
  (fun i y hi hl hs=>by
   rcases hget i y hl with ⟨_,rfl⟩ | ⟨hk,x,hx,rfl | ⟨a,b,rfl,rfl,_⟩⟩
   ·exact absurd rfl hs
   ·exact⟨x,hx,rfl,fun s hs=>⟨s,hs,yc _⟩,fun _=>hm i om⟩
   ·exact⟨_,hx,rfl,fun s hs=>⟨s,hs,yc _⟩,fun _=>hm i om⟩)
  (fun i y hl=>by
   rcases hget i y hl with ⟨_,rfl⟩ | ⟨hk,x,hx,rfl | ⟨a,b,rfl,rfl,hfz⟩⟩
   ·exact .inr fun _=>trivial
   ·exact .inl ⟨hx,hm i om,fun _ _ _=>rfl⟩
   ·refine .inr fun hc=>?_
    rcases h.obs i _ hx with h1 | ⟨bb,tc,arr,e,h1,h2,h3⟩
    ·exact .inl ((hm i om).trans h1)
    ·exact .inr ⟨bb,tc,arr,e,(hm i om).trans h1,h2,hfz _ _ hc (zcp h hL hn) _ h3⟩)
 exact⟨_,hr.1,e1,hr.2,zcp h hL hn⟩
theorem zh9 (ho:o<L.length):Shifts NoH L (L.set o .dead):=fun _ _ _ h=>by
 obtain⟨r1,e1,c1⟩:=h.freeze ho
 exact⟨_,r1,e1,c1,trivial⟩
theorem z6e:Shifts NoH L (L++[.unb]):=fun X ms w h=>by
 obtain⟨r1,e1,c1⟩:=h.push (Grow.refl w) (m:=none) (obj:=.unb) (fun b tc e=>by cases e) (fun _=>by simp[ObIs,cxOf,<- h.len])
 exact⟨_,r1,e1,c1,trivial⟩
theorem z1z {f:Nat->AV} (hO:TrO (BnH L.length) L.length 0 L L'):Shifts (BnH L.length) L (L'++[.seq sz 0 f]):=by
 intro X ms w h
 obtain⟨hlen,hget⟩:=hO.get
 obtain⟨r1,e1,c1⟩:=h.push (Grow.refl w) (m:=none) (obj:=.seq sz 0 f) (fun b tc e=>by cases e) (fun _=>.inl ⟨by simp[cxOf,<- h.len],rfl⟩)
 have hH:∀ L'':List Ob,L''.length=L.length->BnH L.length (cxOf X ms L w) (cxOf X (ms++[none]) (L''++[.seq sz 0 f]) w):=fun L'' hl g u hu=>by
  cases hu with
  | full _ _ ad hx =>
   refine .ref _ _ _ _ _ ⟨by simp[cxOf,hl],⟨ad,0,rfl⟩,fun obj s e1 e2=>om,fun sz' f' e=>?_⟩
   exact⟨om,.inl ⟨by simp[cxOf,<- h.len],ad,rfl⟩⟩
 have hms:∀ i,i<L.length->(ms++[none])[i]? = ms[i]? := fun i hi=>by rw[yq (by rw[h.len]; exact hi)]
 have hltL:∀ {i:Nat} {x:Ob},L[i]? = some x->i<L.length:=fun {i x} e=>by
  rcases yu i L.length with h' | h'
  ·exact h'
  ·rw[yf h'] at e; cases e
 have hr:=h.step (ms':=ms++[none]) (L':=L'++[.seq sz 0 f]) (w':=w) e1 (by simp[h.len,hlen]) r1.lt r1.inj sk
  (fun i y hi hl hs=>by
   rw[yq om] at hl
   rcases hget i y hl with ⟨_,rfl⟩ | ⟨hk,x,hx,rfl | ⟨a,b,rfl,rfl,_⟩⟩
   ·exact absurd rfl hs
   ·exact⟨x,hx,rfl,fun s hs=>⟨s,hs,yc _⟩,fun _=>hms i hi⟩
   ·exact⟨_,hx,rfl,fun s hs=>⟨s,hs,yc _⟩,fun _=>hms i hi⟩)
  (fun i y hl=>by
   rcases getElem?_snoc hl with hl | ⟨rfl,rfl⟩
   ·rcases hget i y hl with ⟨_,rfl⟩ | ⟨hk,x,hx,rfl | ⟨a,b,rfl,rfl,hfz⟩⟩
    ·exact .inr fun _=>trivial
    ·exact .inl ⟨hx,hms i (hltL hx),fun _ _ _=>rfl⟩
    ·refine .inr fun hc=>?_
     rcases h.obs i _ hx with h1 | ⟨bb,tc,arr,e,h1,h2,h3⟩
     ·exact .inl ((hms i (hltL hx)).trans h1)
     ·exact .inr ⟨bb,tc,arr,e,(hms i (hltL hx)).trans h1,h2,hfz _ _ hc (hH L' hlen.symm) _ h3⟩
   ·have hml:ms.length=L'.length:=by rw[h.len,hlen]
    exact .inr fun _=>.inl ⟨by simp[cxOf,<- hml],rfl⟩)
 exact⟨_,hr.1,e1,hr.2,hH L' hlen.symm⟩
theorem zas (hO:TrO NoH L.length 0 L L'):Shifts NoH L L':=by
 intro X ms w h
 obtain⟨hlen,hget⟩:=hO.get
 have hr:=h.step (ms':=ms) (L':=L') (w':=w) (Ext.refl _ _) (by simp[h.len,hlen]) h.lt h.inj om
  (fun i y hi hl hs=>by
   rcases hget i y hl with ⟨_,rfl⟩ | ⟨hk,x,hx,rfl | ⟨a,b,rfl,rfl,_⟩⟩
   ·exact absurd rfl hs
   ·exact⟨x,hx,rfl,fun s hs=>⟨s,hs,yc _⟩,fun _=>rfl⟩
   ·exact⟨_,hx,rfl,fun s hs=>⟨s,hs,yc _⟩,fun _=>rfl⟩)
  (fun i y hl=>by
   rcases hget i y hl with ⟨_,rfl⟩ | ⟨hk,x,hx,rfl | ⟨a,b,rfl,rfl,hfz⟩⟩
   ·exact .inr fun _=>trivial
   ·exact .inl ⟨hx,rfl,fun _ _ _=>rfl⟩
   ·refine .inr fun hc=>?_
    rcases h.obs i _ hx with h1 | ⟨bb,tc,arr,e,h1,h2,h3⟩
    ·exact .inl h1
    ·exact .inr ⟨bb,tc,arr,e,h1,h2,hfz _ _ hc trivial _ h3⟩)
 exact⟨_,hr.1,Ext.refl _ _,hr.2,trivial⟩
section
variable {P:Program} {N:Nat} {Q:Post} {fr fr' fr1 fr2:Fr} {L L' L1 L2:List Ob} {c:Code} {cs:List Code} {H:Cx->Cx->Prop}
def TrF (H:Cx->Cx->Prop) (fr fr':Fr):Prop:=∀ x∈fr',∃ v,(x.1,v)∈fr/\TrS H v x.2
theorem z2e:TrF H fr []:=fun x hx=>by cases hx
theorem z1a {s:Nat} {w:AV} {r:Fr} (hm:fr[k]? = some (s,v)) (h:TrS H v w) (hr:TrF H fr r):TrF H fr ((s,w) :: r):=fun x hx=>by
 rcases yv.1 hx with rfl | hx
 ·exact⟨v,y33 hm,h⟩
 ·exact hr x hx
end
theorem zmx (n:Nat) (f g:Nat->α) (i:Nat):catF n f g i=if i<n then f i else g (i-n):=by
 cases n with
 | zero=>simp[catF]
 | succ n=>rfl
theorem z40 {f g:Nat->AV} (hn:n=m) (h:∀ i,i<n->f i=g i):OLe (.seq sz n f) (.seq sz m g) where
 kind:=rfl
 stamp:=by subst hn; rfl
 is:=fun c w o hx=>by
  subst hn
  rcases hx with hx | ⟨b,tc,arr,e,cs,h1,h2,h3,h4,h5,h6,h7⟩
  ·exact .inl hx
  ·exact .inr ⟨b,tc,arr,e,cs,h1,h2,h3,h4,fun i hi=>by rw[<- h i hi]; exact h5 i hi,h6,h7⟩
section
variable {α:Type} [Inhabited α] {e:α->DV} {l x:List α}
theorem zeg:(l++x).getD i dF=if i<l.length then l.getD i dF else x.getD (i-l.length) dF:=by
 simp only[List.getD_eq_getElem?_getD]
 split
 ·rw[yq aj]
 ·rw[y1j om]
theorem zj:OLe (.seq sz (l.length+x.length) (catF l.length (fun j=>.d (e (l.getD j dF))) (fun j=>.d (e (x.getD j dF))))) (eS sz e (l++x)) :=
 z40 sj fun i _=>by
  rw[zmx,zeg]
  split <;> rfl
theorem z3r:LeV (.d (.sl (0+x.length) fun j=>e (x.getD j dF))) (.d (eL e x)):=z6u om fun _ _=>rfl
end
theorem zk {l x:List α}:LeV (.ref o (l.length+x.length) 0 (l.length+x.length)) (.ref o (l++x).length 0 (l++x).length):=by
 rw[yb]
 exact LeV.refl _
theorem z8z {x y:DV} (ha:(AV.d x).isAgg=(AV.d y).isAgg) (h:DLe x y):LeV (.d x) (.d y):=fun c u hu=>by
 cases hu with
 | agg _ cs h1 h2 =>
  cases h2 with
  | d _ _ h2=>exact .agg _ cs (ha▸h1) (.d _ _ (h _ _ h2))
 | one _ _ h1 h2 =>
  cases h2 with
  | d _ _ h2=>exact .one _ _ (ha▸h1) (.d _ _ (h _ _ h2))
theorem z29 [Inhabited α] {e:α->DV} {l:List α} {x:α} {f:Nat->AV} (hf:∀ j,f j=if j=i then .d (e x) else .d (e (l.getD j dF))):OLe (.seq sz l.length f) (eS sz e (l.set i x)) :=
 z40 sj fun j hj=>by
  rw[hf]
  simp only[List.getD_eq_getElem?_getD]
  by_cases h:j=i
  ·subst h
   rw[y7 rfl,y16 hj]
   rfl
  ·rw[y6 h,y1d (fun e=>h e.symm)]
section
variable {α:Type} [Inhabited α] {e:α->DV} {l:List α} {H:Cx->Cx->Prop}
end
theorem z4k (fr:Fr):TrF H fr fr:=fun x hx=>⟨x.2,hx,TrS.keep _⟩
theorem zl0:OLe (eM eK eV l) (eMd eK eV l) where
 kind:=rfl
 stamp:=rfl
 is:=fun __ __ __ ⟨b,tc,ents,clock,h1,h2,h3,_⟩=>⟨b,tc,ents,clock,h1,h2,h3⟩
theorem zha {P D:List Ob}:Shifts NoH (P++eM eK eV l :: D) (P++eMd eK eV l :: D):=fun X ms w hr=>by
 obtain⟨h1,h2⟩:=hr.recast (o:=P.length) (x:=eM eK eV l) (y:=eMd eK eV l) sj zl0
 have e:(P++eM eK eV l :: D).set P.length (eMd eK eV l)=P++eMd eK eV l :: D:=sj
 rw[e] at h1 h2
 exact⟨ms,h1,Ext.refl _ _,h2,trivial⟩
def LeVs (vs ws:List AV):Prop:=∀ c us,AV.IsVs c vs us->AV.IsVs c ws us
theorem LeVs.nil:LeVs [] []:=fun _ _ h=>h
theorem LeVs.cons {v w:AV} {vs ws:List AV} (h:LeV v w) (ht:LeVs vs ws):LeVs (v :: vs) (w :: ws):=fun c us hu=>by
 cases hu with
 | cons _ _ u us h1 h2=>exact .cons _ _ u us (h c u h1) (ht c us h2)
theorem LeV.tup {vs ws:List AV} (h:LeVs vs ws):LeV (.tup vs) (.tup ws):=fun c u hu=>by
 cases hu with
 | tup _ us hu=>exact .tup _ us (h c us hu)
 | agg _ _ ha _=>cases ha
 | one _ _ _ hx=>cases hx
end Go.TA
namespace Go.TA
open Go Go.ChangeShapes Go.WideShapes Go.ChangeAt Go.RowKit
def noX:Nat->Prop:=fun _=>False
variable {W:World}
theorem zj5 (hg:GlobOk (memOf noX [] W)):Rel noX [] [] W :=
 ⟨rfl,fun b ⟨o,tc,h⟩=>by simp at h,fun b h=>h.elim,fun o o' b tc tc' h=>by simp at h,fun o obj h=>by simp at h,hg⟩
noncomputable def cx0 (W:World):Cx:=cxOf noX [] [] W
theorem zo2 {b:Nat} {arr:Array Value} {e:TypeId} {fz:Nat×Nat} (h:W.heap[b]? = some (.cells arr e fz)):(cx0 W).M b=some arr :=
 z1j (fun h=>h) (fun⟨o,tc,h⟩=>by simp at h) h
variable {v:Value}
theorem z6f {a:Addr} (h:W.cell? a=some v):a.spot=none/\∃ c e fr,W.heap[a.block]? = some (.cells c e fr)/\c[a.off]? = some v:=by
 have hs:=World.cell?_spot h
 obtain⟨b,off,sp⟩:=a
 simp only at hs
 subst hs
 exact⟨rfl,Go.Sort.cells_of_cell? h⟩
section
variable {H:Type} {enc:TypeId×Value->H} {P:Program} {W:World} {base:Nat} {spare:Nat->Bool} {held:Bool}
theorem zeh {t:TypeId} {k:IntKind} {r:Reach} {b0:Nat} {d:DataW H} {ps:List MemPlace} (ht:P.underlying t=some (.int k)) (hval:Value.okWide P W r b0 t v) (hd:DataW.Trod enc P W base spare held t v d ps):∃ n:Int,AV.IsV (cx0 W) (.d (.i k n)) v/\(Lit.int k n).wf=true:=by
 obtain⟨n,rfl,_,_,hw⟩:=open_int ht hval hd
 exact⟨n,z31 k n,hw⟩
end
theorem zhb {P:Program} {f:FuncId} {as:List AV} {us:List Value} (h:CallOk P f as [] (.d (.b true)) []) (hg:GlobOk (memOf noX [] W)) (hu:AV.IsVs (cx0 W) as us) :
  Calls P f us.toArray W fun e W'=>e = .returned (.bool true)/\Below W.heap.size W W':=by
 refine (h noX [] W us (zj5 hg) hu).mono fun e W' ⟨u,ms',h1,h2,h3,h4,h5⟩=>?_
 refine⟨by rw[h1,IsV.b h5],h3.out.os,h3.out.tape,h3.out.output,h3.size,fun k hk=>(h3.keep k hk (fun⟨o,tc,e⟩=>by simp at e)).1⟩
end Go.TA
namespace Go.TA
open Go Go.ChangeShapes Go.WideShapes Go.ChangeAt Go.RowKit
variable {α:Type}
section
variable {H:Type} (enc:TypeId×Value->H) (P:Program) (W:World) (base:Nat) (spare:Nat->Bool) (held:Bool)
def Reads (t:TypeId) (sz:Nat) (e:α->DV) (ok:α->Prop):Prop :=
 ∀ (fuel:Nat) (cs:List Value) (x:DataW H×List MemPlace),DataW.trod enc P W base spare held fuel t cs=some x->∃ a,DV.Is (cx0 W).M (e a) cs/\cs.length=sz/\ok a
def ReadsL (fs:List Field) (off total:Nat) (Q:List DV->Prop):Prop :=
 ∀ cs:List Value,cs.length=total->(∀ f∈fs,∃ fuel x,DataW.trod enc P W base spare held fuel f.type ((cs.drop f.offset).take (P.cellsOf f.type))=some x)->∃ ds,DV.IsL (cx0 W).M ds (cs.drop off)/\Q ds
end
variable {t:TypeId} {ok:α->Prop} {total sz:Nat} {e:α->DV} {Q:List DV->Prop}
section
variable {H:Type} {enc:TypeId×Value->H} {P:Program} {W:World} {base:Nat} {spare:Nat->Bool} {held:Bool}
theorem zj6 {k:IntKind} (ht:P.underlying t=some (.int k)):Reads enc P W base spare held t 1 (DV.i k) (fun n=>(Lit.int k n).wf=true):=fun fuel cs x h=>by
 obtain⟨n,rfl,_,hw⟩:=DataW.trod_int ht h
 exact⟨n,.i k n,rfl,hw⟩
theorem zj7 (ht:P.underlying t=some .string):Reads enc P W base spare held t 1 DV.str (fun l=>l.length<=maxLen):=fun fuel cs x h=>by
 obtain⟨s,rfl,_,hw⟩:=DataW.trod_string ht h
 refine⟨s.data.toList,?_,rfl,by simpa using hw⟩
 have:s=⟨s.data.toList.toArray⟩:=sj
 rw[this]
 exact .str _
theorem z4z {e:TypeId} [Inhabited α] {f:α->DV} (ht:P.underlying t=some (.slice e)) (hc:P.cellsOf e=sz) (hpos:0<sz) (h:Reads enc P W base spare held e sz f ok) :
  Reads enc P W base spare held t 1 (eL f) (fun l=>l.length<=maxLen/\∀ a∈l,ok a):=fun fuel cs x hx=>by
 rcases Deep.open_slice ht hx with ⟨rfl,_⟩ | ⟨a,len,cap,m,n,D,Pl,rfl,_,hl,hm,hmm,_,hel⟩
 ·exact⟨[],.slNil _,rfl,sj,fun a ha=>by cases ha⟩
 ·have hlm:len<=m:=by rw[hmm]; split <;> omega
  obtain⟨A,hA⟩:=Deep.choose_lt (α:=α×List Value) (n:=len) (p:=fun i y=>W.cells? base (a.add (i * P.cellsOf e)) (P.cellsOf e)=some y.2/\DV.Is (cx0 W).M (f y.1) y.2/\y.2.length=sz/\ok y.1) (fun i hi=>by
   obtain⟨cs',h1,h2⟩:=hel i om
   obtain⟨b,b1,b2,b3⟩:=h _ _ _ h2
   exact⟨(b,cs'),h1,b1,b2,b3⟩)
  refine⟨(List.range len).map fun i=>(A i).1,?_,rfl,sk,fun b hb=>?_⟩
  ·have hll:((List.range len).map fun i=>(A i).1).length=len:=sj
   unfold eL
   rw[hll]
   rcases y2u len with h0 | h0
   ·subst h0
    exact .slEmpty _ _ _
   ·obtain⟨b,off,sp⟩:=a
    obtain⟨_,_,hcell⟩:=y50 (hA 0 h0).1
    rw[hc] at hcell
    have c0:=hcell 0 hpos
    have l0:=(hA 0 h0).2.2.1
    rw[yh om] at c0
    obtain⟨s0,c,e',fr,hb,_⟩:=z6f c0
    simp[Addr.add] at s0 hb
    subst s0
    refine .sl len _ b off cap sz c (fun i=>(A i).2) hl (by have:=hm; unfold maxLen at this; omega) (zo2 hb) (fun i hi=>?_) (fun i hi=>(hA i hi).2.2.1) (fun i hi j hj=>?_)
    ·have:((List.range len).map fun i=>(A i).1).getD i dF=(A i).1:=by simp[hi]
     rw[this]
     exact (hA i hi).2.1
    ·obtain⟨_,_,hcell⟩:=y50 (hA i hi).1
     rw[hc] at hcell
     have ci:=hcell j hj
     have li:=(hA i hi).2.2.1
     rw[yh om] at ci
     rw[z22,z22] at ci
     obtain⟨_,c',e'',fr',hb',hc'⟩:=z6f ci
     simp only at hb' hc'
     rw[hb] at hb'
     cases hb'
     rw[hc',yh om]
  ·obtain⟨i,hi,rfl⟩:=yz.1 hb
   exact (hA i (y1l.1 hi)).2.2.2
theorem z7f:ReadsL enc P W base spare held [] total total (fun ds=>ds=[]):=fun cs hl _ =>
 ⟨[],by rw[<- hl,List.drop_length]; exact .nil,rfl⟩
theorem z20 {f:Field} {fs:List Field} {off:Nat} (hf:f.offset=off) (hc:P.cellsOf f.type=sz) (h:Reads enc P W base spare held f.type sz e ok) (ht:ReadsL enc P W base spare held fs (off+sz) total Q):ReadsL enc P W base spare held (f :: fs) off total (fun ds=>∃ a ds',ds=e a :: ds'/\ok a/\Q ds'):=fun cs hl hx=>by
 obtain⟨fuel,x,h1⟩:=hx f y1a
 rw[hf,hc] at h1
 obtain⟨a,a1,a2,a3⟩:=h _ _ _ h1
 obtain⟨ds,d1,d2⟩:=ht cs hl fun g hg=>hx g (ym _ hg)
 refine⟨e a :: ds,?_,a,ds,rfl,a3,d2⟩
 have e1:cs.drop off=(cs.drop off).take sz++cs.drop (off+sz):=by
  conv=>lhs; rw[<- y2b sz (cs.drop off)]
  rw[List.drop_drop]
 rw[e1]
 exact .cons _ _ _ _ a1 d1
theorem z5x {fs:Array Field} (ht:P.underlying t=some (.struct fs)) (hc:P.cellsOf t=total) (h:ReadsL enc P W base spare held fs.toList 0 total Q) (hQ:∀ ds,Q ds->∃ a,DV.agg ds=e a/\ok a):Reads enc P W base spare held t total e ok:=fun fuel cs x hx=>by
 obtain⟨xs,n,_,_,hl,hlen,hf⟩:=DataW.trod_struct ht hx
 obtain⟨ds,d1,d2⟩:=h cs (by rw[hl,hc]) fun f hfm=>by
  obtain⟨i,hi,rfl⟩:=y2j hfm
  have hi':i<fs.size:=by simpa using hi
  have:=hf i fs[i] (by simp[hi'])
  rw[yh om] at this
  exact⟨n,_,by simpa using this⟩
 obtain⟨a,a1,a2⟩:=hQ ds d2
 rw[y4x] at d1
 exact⟨a,a1▸.agg _ _ d1,by rw[hl,hc],a2⟩
theorem zcq {W':World} (hl:laidOutB P=true) (hb:Below W.heap.size W W'):∀ {ts:List TypeId} {vs:List Value} {ds:List (DataW H)} {p:List MemPlace},(∀ t∈ts,P.readableRec t=true/\t<P.types.size) ->
  DataW.TrodAll enc P W 0 (fun _=>true) true ts vs ds p->(∀ x∈p,x.block<W.heap.size)->DataW.TrodAll enc P W' 0 (fun b=>decide (b<W.heap.size)) true ts vs ds p
 | [],_,_,_,_,h,_=>by
  obtain⟨rfl,rfl,rfl⟩:=trodAll_nil h
  rfl
 | t :: ts,_,_,_,ht,h,hx=>by
  obtain⟨v,vs,d,ds,a,b,rfl,rfl,rfl,h1,h2⟩:=trodAll_cons h
  exact trodAll_cons_mk (Below.trod hl (ht t y1a).1 (ht t y1a).2 h1 hb fun x hx'=>hx x (List.mem_append_left _ hx'))
   (zcq hl hb (fun t' ht'=>ht t' (ym _ ht')) h2 fun x hx'=>hx x (List.mem_append_right _ hx'))
theorem zmy {args:Array Value} {l:List Value} (h:args.toList=l):args=l.toArray:=by rw[<- h]
end
end Go.TA
