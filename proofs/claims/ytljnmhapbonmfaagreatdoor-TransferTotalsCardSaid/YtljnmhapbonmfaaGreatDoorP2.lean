/- A part of the proof: plain laws of what the functions compute. No condition. -/
import Derived.Test.YtljnmhapbonmfaaGreatDoorP1
/- Leaves lie under nothing but their own; earmarks, conditions, amendments of a law that is made. No condition. -/
namespace Go.Proofs.YtljnmhapbonmfaaGreatDoor
open Go Go.TA
open Go.IntKind (i64)
attribute [-simp] List.getD_eq_getElem?_getD
theorem zep (c:Y8) {i:Nat} (hi:(c.getD i 0).toNat=46):∀ k,i<k->i<=ldot c k
 | 0,h=>om
 | k+1,h=>by
  unfold ldot
  split
  ·omega
  ·rename_i e
   have:i≠k:=fun h0=>e (h0▸hi)
   exact zep c hi k om
variable {c s:Y8}
theorem zls (hc:good c=true) (h:und c s=true) (hne:c≠s) (hp:good (par c)=true\/par c=[]):par c≠[]/\und (par c) s=true:=by
 unfold und at h
 simp only[y6,yc,y5,ym] at h
 obtain⟨⟨⟨⟨g1,g2⟩,g3⟩,g4⟩,g5⟩:=h
 have hs0:0<s.length:=by
  rcases y2r s.length with e | e
  ·rw[y1r.1 e] at g2; exact absurd g2 dk
  ·exact e
 have hl:s.length≠c.length:=fun e=>hne (by rw[<- g4,e,y1z])
 have h46:(c.getD s.length 0).toNat=46:=g5.elim (fun e=>absurd e.symm hl) id
 have hk:=zep c h46 c.length om
 have hpar:par c=c.take (ldot c c.length):=by unfold par; rw[y4 hc]
 obtain⟨h1,h2⟩:=zaq c c.length om
 have hlen:(par c).length=ldot c c.length:=by rw[hpar,y13]; omega
 have hne':par c≠[]:=fun e=>by rw[e] at hlen; simp at hlen; omega
 have hg:good (par c)=true:=hp.elim id fun e=>absurd e hne'
 refine⟨hne',?_⟩
 unfold und
 simp only[y6,yc,y5,ym]
 refine⟨⟨⟨⟨hg,g2⟩,om⟩,?_⟩,?_⟩
 ·rw[hpar,List.take_take,Nat.min_eq_left hk,g4]
 ·by_cases e:ldot c c.length=s.length
  ·left; omega
  ·right
   rw[hpar]
   have:(c.take (ldot c c.length)).getD s.length 0=c.getD s.length 0:=by
    simp only[List.getD_eq_getElem?_getD]
    rw[y1j om]
   rw[this]; exact h46
variable {t:List THe}
theorem zj7 (h:CL (t.map (·.B))) (hs:leafT t s=true):∀ (n:Nat) (c:Y8),c.length<=n->c∈t.map (·.B)->und c s=true->c=s:=by
 intro n
 induction n with
 | zero =>
  intro c hn hc _
  have:=h.gd c hc
  rw[y1r.1 (by omega:c.length=0)] at this
  exact absurd this dk
 | succ n ih =>
  intro c hn hc hu
  by_cases hne:c=s
  ·exact hne
  exfalso
  have hg:=h.gd c hc
  have hp:good (par c)=true\/par c=[]:=(h.pa c hc).elim .inr fun hm=>.inl (h.gd _ hm)
  obtain⟨k1,k2⟩:=zls hg hu hne hp
  have hm:par c∈t.map (·.B):=(h.pa c hc).resolve_left k1
  have hl:=(zar hg k1 k2).2
  have e:=ih (par c) om hm k2
  unfold leafT at hs
  simp only[y6] at hs
  obtain⟨x,hx,rfl⟩:=yv.1 hc
  have:=y1c.1 hs.2 x hx
  rw[e] at this
  simp at this
theorem T5.und (h:T5 t) (hc:leafT t c=true) (hs:leafT t s=true):Go.Proofs.YtljnmhapbonmfaaGreatDoor.und c s=true↔c=s:=by
 have hm:c∈t.map (·.B):=by
  unfold leafT at hc
  simp only[y6] at hc
  exact z49.1 hc.1.2
 refine⟨fun hu=>zj7 h.cl hs _ c (y7 _) hm hu,fun e=>?_⟩
 subst e
 have hg:=leafGood hc
 unfold Go.Proofs.YtljnmhapbonmfaaGreatDoor.und
 rw[hg]; simp
theorem zde (h:leafT t c=true):has t c=true:=by
 unfold leafT at h
 simp only[y6] at h
 exact h.1.2
theorem zj8 (ht:T5 t) {l:List TEa} (h1:∀ x∈l,leafT t x.T=true/\0<=x.R/\x.R<=50) (h2:l.Pairwise fun a b=>ltK a.T b.T=true):shareE t l=0:=by
 unfold shareE
 rw[y3]
 rw[y3m,y2y]
 intro c hc
 have hlc:=zj.1 hc
 have key:∀ l:List TEa,(∀ x∈l,leafT t x.T=true/\0<=x.R/\x.R<=50)->l.Pairwise (fun a b=>ltK a.T b.T=true)->∀ a:Int,0<=a->(a<=50/\∀ x∈l,x.T≠c)\/a=0->(l.foldl (fun s x=>if und c x.T=true then i64.wrap (s+x.R) else s) a)<=50:=by
  intro l
  induction l with
  | nil=>intro _ _ a _ h; rw[List.foldl_nil]; omega
  | cons x l ih =>
   intro g1 g2 a ha h
   obtain⟨p1,p2⟩:=y2n.1 g2
   have hx:=g1 x y16
   rw[y3e]
   by_cases e:c=x.T
   ·rw[y4 ((ht.und hlc hx.1).2 e)]
    have ha0:a=0:=h.elim (fun h=>absurd e.symm (h.2 x y16)) id
    rw[wrapId om om]
    refine ih (fun y hy=>g1 y (yh _ hy)) p2 _ om (.inl ⟨om,fun y hy e'=>?_⟩)
    have:=p1 y hy
    rw[e',e] at this
    unfold ltK at this
    rw[z2p] at this
    exact absurd this dk
   ·rw[y3 (fun hu=>e ((ht.und hlc hx.1).1 hu))]
    exact ih (fun y hy=>g1 y (yh _ hy)) p2 a ha (h.elim (fun h=>.inl ⟨h.1,fun y hy=>h.2 y (yh _ hy)⟩) .inr)
 have:=key l h1 h2 0 om (.inr rfl)
 unfold shSum
 simp only[y5]
 omega
section
variable {f y:Int} (hf:0<=f/\f<=12) (hy:1<=y/\y<=2) {t:List THe} (ht:T5 t)
include hf hy ht
theorem ru5 (am:List TAm) {s:TTape} (hs:TapeOk s) :
  ∃ s' ea,rangeM (fun i s=>(S_q0_b5 (leavesU t [57]) i s).den) (leavesU t [57]).length 0 (s,f,y,t,am,[])=some (.next (s',f,y,t,am,ea))/\TapeOk s'/\ea.length<=10/\fstE ea.length (earE t ea)=0/\shareE t ea=0:=by
 have hle:=ht.le
 have hrl:=zu t [57]
 obtain⟨r,e,h1,h2,h3,h4,h5,h6,h7,h8,_⟩:=zl (body:=fun i s=>(S_q0_b5 (leavesU t [57]) i s).den) (n:=(leavesU t [57]).length)
  (fun i r=>TapeOk r.1/\r.2.1=f/\r.2.2.1=y/\r.2.2.2.1=t/\r.2.2.2.2.1=am/\r.2.2.2.2.2.length<=i/\(r.2.2.2.2.2.Pairwise fun a b=>ltK a.T b.T=true)/\(∀ x∈r.2.2.2.2.2,leafT t x.T=true/\leafT t x.B=true/\0<=x.R/\x.R<=50)/\∀ x∈r.2.2.2.2.2,∃ j,j<i/\x.T=(leavesU t [57]).getD j dF) (s0:=(s,f,y,t,am,[])) ⟨hs,rfl,rfl,rfl,rfl,sj,y3g,sj,sj⟩
  (fun i s hi ⟨o,q1,q2,q3,q4,q5,q6,q7,q8⟩=>by
   obtain⟨s0,f0,y0,t0,a0,ea⟩:=s
   simp only at o q1 q2 q3 q4 q5 q6 q7 q8
   subst q1 q2 q3 q4
   simp only[S_q0_b5,Scr.den]
   have hm:=z4 hi
   have hlf:=zj.1 (z3g hm)
   obtain⟨n1,s1,e1,o1,l1,u1⟩:=zi (n:=3) o om om
   rw[e1,obind]
   by_cases hn:n1>0
   ·rw[y4 (by simpa using hn)]
    obtain⟨c,s2,e2,o2,hc⟩:=ht.Leaf o1
    obtain⟨w,s3,e3,o3,m3⟩:=z14 (l:=[10,33,50]) o2 sj sj
    have hw:0<=w/\w<=50:=by simp at m3; omega
    rw[e2,obind,e3,obind,Ga]
    refine⟨_,rfl,o3,rfl,rfl,rfl,rfl,by simp only[yb,yk]; omega,?_,fun x hx=>?_,fun x hx=>?_⟩
    ·show List.Pairwise _ (ea++_)
     rw[y2a]
     refine⟨q6,y2l _ _,fun a ha b hb=>?_⟩
     obtain rfl:=y10.1 hb
     obtain⟨j,hj,e⟩:=q8 a ha
     rw[e]
     exact zeo (ht.ord [57]) hj hi
    ·rcases y12.1 hx with hx | hx
     ·exact q7 x hx
     ·obtain rfl:=y10.1 hx
      exact⟨hlf,hc,hw⟩
    ·rcases y12.1 hx with hx | hx
     ·obtain⟨j,hj,e⟩:=q8 x hx; exact⟨j,om,e⟩
     ·obtain rfl:=y10.1 hx
      exact⟨i,om,rfl⟩
   ·rw[y3 (by simpa using hn)]
    exact⟨_,rfl,o1,rfl,rfl,rfl,rfl,by simp only; omega,q6,q7,fun x hx=>by obtain⟨j,hj,e⟩:=q8 x hx; exact⟨j,om,e⟩⟩)
 obtain⟨s9,f9,y9,t9,a9,ea⟩:=r
 simp only at h1 h2 h3 h4 h5 h6 h7 h8
 subst h2 h3 h4 h5
 refine⟨s9,ea,e,h1,om,?_,zj8 ht (fun x hx=>⟨(h8 x hx).1,(h8 x hx).2.2⟩) h7⟩
 rw[z10]
 intro i hi
 unfold earE
 rw[z3d]
 obtain⟨k1,k2,k3,k4⟩:=h8 _ (z4 hi)
 refine⟨?_,fun h0=>?_⟩
 ·unfold z4u
  rw[y3 (by rw[zde k1,k2]; simp),y3 om]
 ·unfold ltC
  have h1:=y1u.1 h7 (i-1) i om hi om
  rw[za om,za hi]
  unfold ltK at h1
  rw[h1]; rfl
theorem ru6 (am:List TAm) (x6:TTape×Int×Int×(List THe)×(List TAm)×(List TLi)) (x7:TTape×Int×Int×(List THe)×(List TAm)×(List TRu)×Int)
  (x12:TTape×Int×Int×(List THe)×(List TAm)×(List TBo)×(List TBo)) (x22:TTape×Int×Int×(List THe)×(List TAm)×(List TEa)) {n:Int} (hn:0<=n/\n<=2) {s:TTape} (hs:TapeOk s) :
  ∃ s' co i',iterM (fun s=>(S_q0_b6 x6 x7 x12 x22 s).den) (s,f,y,t,am,[],n)=some (.next (s',f,y,t,am,co,i'))/\TapeOk s'/\co.length<=2/\∀ x∈co,z1l t f y x=0:=by
 obtain⟨st,e,g1,g2,g3,g4,g5,g6,g7⟩:=z1b (step:=fun s=>(S_q0_b6 x6 x7 x12 x22 s).den) (fun s=>s.2.2.2.2.2.2.toNat)
  (fun s=>TapeOk s.1/\s.2.1=f/\s.2.2.1=y/\s.2.2.2.1=t/\s.2.2.2.2.1=am/\((s.2.2.2.2.2.1.length:Int)+s.2.2.2.2.2.2=n/\0<=s.2.2.2.2.2.2)/\∀ x∈s.2.2.2.2.2.1,z1l t f y x=0)
  (fun s=>TapeOk s.1/\s.2.1=f/\s.2.2.1=y/\s.2.2.2.1=t/\s.2.2.2.2.1=am/\s.2.2.2.2.2.1.length<=2/\∀ x∈s.2.2.2.2.2.1,z1l t f y x=0) (fun s ⟨o,q1,q2,q3,q4,q5,q6⟩=>by
   obtain⟨s0,f0,y0,t0,a0,co,i⟩:=s
   simp only at o q1 q2 q3 q4 q5 q6
   subst q1 q2 q3 q4
   simp only[S_q0_b6,Scr.den]
   by_cases hk:i>0
   ·left
    rw[y4 (by simpa using hk)]
    obtain⟨c,s1,e1,o1,hc⟩:=ht.Leaf o
    obtain⟨n2,s2,e2,o2,l2,u2⟩:=zi (n:=y0) o1 om om
    obtain⟨n3,s3,e3,o3,m3⟩:=z14 (l:=[50,200]) o2 sj sj
    obtain⟨n4,s4,e4,o4,l4,u4⟩:=zi (n:=300) o3 om om
    obtain⟨n5,s5,e5,o5,l5,u5⟩:=zi (n:=2) o4 om om
    have hn3:amt n3=true:=z4a.2 (by simp at m3; omega)
    have hY:inY f0 y0 (f0+n2)=true:=(z52 om om om).2 ⟨om,om⟩
    rw[e1,obind,e2,obind,e3,obind,e4,obind,e5,obind,wrapId (n:=i-1) om om,wrapId (n:=f0+n2) om om,wrapId (n:=360 * f0) om om,wrapId (n:=360 * f0+n4) om om]
    have h9:has t0 [57]=true:=z49.2 ht.h9
    by_cases h5:n5=0
    ·rw[y4 (by simpa using h5)]
     obtain⟨n6,s6,e6,o6,l6,u6⟩:=zi (n:=1500) o5 om om
     rw[e6,obind]
     simp only[outM]
     rw[Ga]
     have hn6:amt n6=true:=z4a.2 ⟨om,om⟩
     refine⟨_,rfl,⟨o6,rfl,rfl,rfl,rfl,by simp only[yb,yk]; omega,fun x hx=>?_⟩,by simp only; omega⟩
     rcases y12.1 hx with hx | hx
     ·exact q6 x hx
     ·obtain rfl:=y10.1 hx
      unfold z1l
      rw[y3 (by unfold condBad; simp),y3 (by rw[hc,h9]; simp),y3 (by rw[hY]; simp),y3 (by rw[hn3,hn6]; simp)]
    ·rw[y3 (by simpa using h5)]
     simp only[outM]
     rw[Ga]
     refine⟨_,rfl,⟨o5,rfl,rfl,rfl,rfl,by simp only[yb,yk]; omega,fun x hx=>?_⟩,by simp only; omega⟩
     rcases y12.1 hx with hx | hx
     ·exact q6 x hx
     ·obtain rfl:=y10.1 hx
      unfold z1l
      rw[y3 (by unfold condBad; simp),y3 (by rw[hc]; simp),y3 (by rw[hY]; simp),y3 (by rw[hn3,show amt 0=true from dk]; simp; omega)]
   ·right
    rw[y3 (by simpa using hk)]
    exact⟨_,rfl,o,rfl,rfl,rfl,rfl,by simp only; omega,q6⟩) _ (s,f,y,t,am,[],n) (y2v _)
  ⟨hs,rfl,rfl,rfl,rfl,sk,sj⟩
 obtain⟨s9,f9,y9,t9,a9,co,i9⟩:=st
 simp only at g1 g2 g3 g4 g5 g6 g7
 subst g2 g3 g4 g5
 exact⟨s9,co,i9,e,g1,g6,g7⟩
end
end Go.Proofs.YtljnmhapbonmfaaGreatDoor
/- Laws with rules that are made: they are valid. No condition. -/
namespace Go.Proofs.YtljnmhapbonmfaaGreatDoor
open Go Go.TA
open Go.IntKind (i64)
attribute [-simp] List.getD_eq_getElem?_getD
structure RL (l:TLa):Prop where
 ml:ML l
 t5:T5 l.E
 fi:0<=l.G/\l.G<=12
 ye:1<=l.J/\l.J<=2
 rn:l.I.length=3
 a1:l.A.length<=1
 ru:∀ x∈l.I,1<=x.F/\x.F<=3/\0<=x.R/\x.R<=100/\x.K∈l.E.map (·.B)/\x.V∈l.E.map (·.B)
def AmOk (t:List THe) (f y:Int) (am:List TAm):Prop:=am.length<=1/\(∀ a∈am,a.M.length=1)/\fstE am.length (amdE t f y am)=0
theorem zkk {f y:Int} (hf:0<=f/\f<=12) (hy:1<=y/\y<=2) {t:List THe} (ht:T5 t) {ρ:Type} (n:Int) {s:TTape} (hs:TapeOk s) :
  ∃ s' am,(if (n==0)=true then ((F_q1 200 s).bind fun r=>(F_q2c t r.2).bind fun r1=>(F_q6 [0,50,5000] r1.2).bind fun r2=>some (Out.next (r2.2,f,y,t,[(⟨i64.wrap (i64.wrap (360 * f)+r.1),1,[(⟨1,r1.1,f,r2.1⟩:TCh)]⟩:TAm)]))) else some (Out.next (s,f,y,t,[])):Option (Out (TTape×Int×Int×List THe×List TAm) ρ))=some (Out.next (s',f,y,t,am))/\TapeOk s'/\AmOk t f y am:=by
 by_cases h:n=0
 ·rw[y4 (by simpa using h)]
  obtain⟨n1,s1,e1,o1,l1,u1⟩:=zi (n:=200) hs om om
  obtain⟨c,s2,e2,o2,hc⟩:=ht.Leaf o1
  obtain⟨w,s3,e3,o3,m3⟩:=z14 (l:=[0,50,5000]) o2 sj sj
  have hw:amt w=true:=z4a.2 (by simp at m3; omega)
  have hY:inY f y f=true:=(z52 om om om).2 ⟨om,om⟩
  rw[e1,obind,e2,obind,e3,obind,wrapId (n:=360 * f) om om,wrapId (n:=360 * f+n1) om om]
  refine⟨_,_,rfl,o3,sj,sj,?_⟩
  rw[z10]
  intro i hi
  have hi0:i=0:=by simpa using hi
  subst hi0
  unfold amdE
  simp only[y4g]
  rw[y3 om,y3 om,y3 sj,z10]
  intro j hj
  have hj0:j=0:=by simpa using hj
  subst hj0
  unfold chgE
  rw[z3d]
  refine⟨?_,fun h=>absurd h om⟩
  simp only[y4g]
  unfold z1e
  rw[y3 (by simp only; omega),y3 (by rw[zde hc,hc]; simp),y3 (by rw[hY]; simp),y3 (by rw[hw]; simp)]
 ·rw[y3 (by simpa using h)]
  exact⟨_,_,rfl,hs,sj,sj,rfl⟩
theorem z6q {s:TTape} (hs:TapeOk s):∃ l s',F_q0 s=some (l,s')/\TapeOk s'/\RL l:=by
 obtain⟨f,s1,e1,o1,hf⟩:=z14 (l:=[0,12]) hs sj sj
 obtain⟨y,s2,e2,o2,y1,y2⟩:=z25 (lo:=1) (hi:=2) o1 om om om
 obtain⟨t,s3,e3,o3,ht⟩:=zfr o2
 have hf':0<=f/\f<=12:=by simp at hf; omega
 have hy:1<=y/\y<=2:=⟨y1,y2⟩
 have hle:=ht.le
 have hll:=zu t []
 simp only[F_q0,S_q0,Scr.den,e1,e2,e3,obind,zy ht.mt.sm (show t.length<=1000000 from om) (show ([]:Y8).length<=1000000 from sj)]
 obtain⟨s4,ls,e4,o4,l1,l2,l3⟩:=ru1 hf' hy (t:=t) [] (leavesU t []) (fun c hc=>zj.1 hc) (ht.ord []) om o3
 rw[e4]
 simp only[outM]
 obtain⟨s5,ru,e5,o5,r1,r2,r3⟩:=ru2 hf' hy ht [] o4
 rw[e5]
 simp only
 obtain⟨s6,fl,ce,e6,o6,b1,b2,b3,b4,b5,b6⟩:=ru3 hf' hy ht [] (s4,f,y,t,[],ls) s5 ru 4 o5
 rw[e6]
 simp only
 obtain⟨n7,s7,e7,o7,_,_⟩:=zi (n:=2) o6 om om
 rw[e7,obind]
 obtain⟨s8,am,e8,o8,m1,m2,m3⟩:=zkk hf' hy ht (ρ:=R_q0) n7 o7
 rw[e8]
 simp only[zy ht.mt.sm (show t.length<=1000000 from om) (show ([57]:Y8).length<=1000000 from sj),obind]
 obtain⟨s9,ea,e9,o9,a1,a2,a3⟩:=ru5 hf' hy ht am o8
 rw[e9]
 simp only
 obtain⟨n10,s10,e10,o10,l10,u10⟩:=zi (n:=3) o9 om om
 rw[e10,obind]
 obtain⟨s11,co,i11,e11,o11,c1,c2⟩:=ru6 hf' hy ht am (s4,f,y,t,[],ls) (s5,f,y,t,[],ru,4) (s6,f,y,t,[],fl,ce) (s9,f,y,t,am,ea) (n:=n10) ⟨l10,om⟩ o10
 rw[e11]
 simp only
 rw[Ga,Ga,Ga,Ga,Ga,Ga]
 have hok:errL ⟨f,y,t,ls,ce,fl,ea,co,ru,am⟩=0:=by
  refine z1s.2 ⟨⟨?_,ht.mt.ok,?_,a2,a3,?_,r2,m3⟩,⟨l2,l3,b4,b6,b3,b5⟩,?_⟩
  ·unfold yrB; simp only; omega
  ·rintro (h | h | h | h | h)
   ·simp only at h; omega
   ·simp only at h; omega
   ·simp only at h; omega
   ·simp only at h; omega
   ·obtain⟨x,hx,h⟩:=y1m.1 h
    have:=m2 x hx
    simp only[y5] at h
    omega
  ·rw[z10]
   intro i hi
   exact c2 _ (z4 hi)
  ·unfold bigL; simp only; omega
 exact⟨_,_,rfl,o11,⟨⟨by simp only; omega,by simp only; omega,ht.mt,hok,z6p hok,by simp only; omega,by simp only; omega,by simp only; omega,by simp only; omega,fun x hx=>by have:=m2 x hx; omega⟩,ht,hf',hy,r1,m1,r3⟩⟩
end Go.Proofs.YtljnmhapbonmfaaGreatDoor
/- Transfers that are made. No condition. -/
namespace Go.Proofs.YtljnmhapbonmfaaGreatDoor
open Go Go.TA
open Go.IntKind (i64)
attribute [-simp] List.getD_eq_getElem?_getD
structure TrX (l:TLa) (x:TTr):Prop where
 nu:1<=x.F/\x.F<=100
 da:360 * l.G<=x.H/\x.H<=360 * l.G+800
 ye:l.G<=x.D/\x.D<l.G+l.J
 ru:1<=x.Q/\x.Q<=3
 fr:leafT l.E x.K=true
 to:leafT l.E x.V=true
 am:1<=x.C/\x.C<=100000
def ltT (a b:TTr):Prop:=a.H<b.H\/(a.H=b.H/\a.F<b.F)
structure TL (l:TLa) (L:List TTr):Prop where
 ok:∀ x∈L,TrX l x
 so:L.Pairwise ltT
 nu:∀ x∈L,x.F<=8
 dd:L.Pairwise fun a b=>a.H<=b.H
variable {l:TLa} {n:Int} {s:TTape}
theorem zkl (hl:RL l) (hn:0<=n/\n<=8) (hs:TapeOk s) :
  ∃ s' L d i,iterM (fun s=>(S_ql_b1 l (leavesU l.E []) s).den) (s,[],360 * l.G,n)=some (.next (s',L,d,i))/\TapeOk s'/\(L.length:Int)<=n/\TL l L:=by
 have ht:=hl.t5
 have hf:=hl.fi; have hy:=hl.ye; have hrn:=hl.rn
 have hle:=ht.le
 have hll:=zu l.E []
 have hl0:1<=(leavesU l.E []).length:=by
  rcases y2r (leavesU l.E []).length with e | e
  ·exact absurd (y1r.1 e) ht.leaves
  ·exact e
 obtain⟨st,e,g1,g2,g3⟩:=z1b (step:=fun s=>(S_ql_b1 l (leavesU l.E []) s).den) (fun s=>s.2.2.2.toNat)
  (fun s=>TapeOk s.1/\((s.2.1.length:Int)+s.2.2.2=n/\0<=s.2.2.2)/\TL l s.2.1/\(∀ x∈s.2.1,x.F<=s.2.1.length/\x.H<=s.2.2.1)/\(360 * l.G<=s.2.2.1/\s.2.2.1<=360 * l.G+90 * s.2.1.length))
  (fun s=>TapeOk s.1/\(s.2.1.length:Int)<=n/\TL l s.2.1) (fun s ⟨o,⟨q1,q1'⟩,q2,q3,q4⟩=>by
   obtain⟨s0,L,d,i⟩:=s
   simp only at o q1 q1' q2 q3 q4
   simp only[S_ql_b1,Scr.den]
   by_cases hk:i>0
   ·left
    rw[y4 (by simpa using hk)]
    obtain⟨n1,s1,e1,o1,l1,u1⟩:=zi (n:=90) o om om
    obtain⟨n2,s2,e2,o2,m2⟩:=z14 (l:=[0,1,n1]) o1 sj sj
    obtain⟨n3,s3,e3,o3,l3,u3⟩:=zi (n:=l.J) o2 om om
    obtain⟨n4,s4,e4,o4,l4,u4⟩:=z25 (lo:=1) (hi:=3) o3 om om om
    obtain⟨n5,s5,e5,o5,l5,u5⟩:=zi (n:=((leavesU l.E []).length:Int)) o4 om om
    obtain⟨n6,s6,e6,o6,l6,u6⟩:=zi (n:=((leavesU l.E []).length:Int)) o5 om om
    obtain⟨n7,s7,e7,o7,l7,u7⟩:=z25 (lo:=1) (hi:=500) o6 om om om
    obtain⟨n8,s8,e8,o8,l8,u8⟩:=z25 (lo:=1) (hi:=100000) o7 om om om
    obtain⟨n9,s9,e9,o9,m9⟩:=z14 (l:=[1,10,n7,n8]) o8 sj sj
    obtain⟨n10,s10,e10,o10,l10,u10⟩:=zi (n:=5) o9 om om
    have h2:0<=n2/\n2<=89:=by simp at m2; omega
    have h9:1<=n9/\n9<=100000:=by simp at m9; omega
    have w1:i64.wrap ((L.length:Int)+1)=(L.length:Int)+1:=wrapId om om
    have w2:i64.wrap (d+n2)=d+n2:=wrapId om om
    have w3:i64.wrap (l.G+n3)=l.G+n3:=wrapId om om
    have w4:i64.wrap (i-1)=i-1:=wrapId om om
    rw[e1,obind,e2,obind,e3,obind,e4,obind,e5,obind,e6,obind,e7,obind,e8,obind,e9,obind,z3 ⟨l5,by simp only; omega,l6,by simp only; omega,trivial⟩,y11 (show (l.I.length:Int)>0 from om),Gg,e10,obind,w1,w2,w3,w4]
    have f1:leafT l.E ((leavesU l.E []).getD n5.toNat dF)=true:=zj.1 (z4 om)
    have f2:leafT l.E ((leavesU l.E []).getD n6.toNat dF)=true:=zj.1 (z4 om)
    have fin:∀ (s':TTape) (ru:Int) (fr to:Y8),TapeOk s'->1<=ru/\ru<=3->leafT l.E fr=true->leafT l.E to=true->∃ s2,guardP (AllP [(L.length+1) * (2 * 72)<=2 ^ 48]) (some (Step.cont (s',L++[(⟨(L.length:Int)+1,d+n2,l.G+n3,ru,fr,to,n9⟩:TTr)],d+n2,i-1)))=(some (Step.cont s2):Option (Step (TTape×(List TTr)×Int×Int) R_ql)) /\
      ((TapeOk s2.1/\((s2.2.1.length:Int)+s2.2.2.2=n/\0<=s2.2.2.2)/\TL l s2.2.1/\(∀ x∈s2.2.1,x.F<=s2.2.1.length/\x.H<=s2.2.2.1)/\(360 * l.G<=s2.2.2.1/\s2.2.2.1<=360 * l.G+90 * s2.2.1.length))/\s2.2.2.2.toNat<i.toNat):=fun s' ru fr to o' hru hfr hto=>by
     rw[Ga]
     refine⟨_,rfl,⟨o',⟨by simp only[yb,yk]; omega,by simp only; omega⟩,⟨fun x hx=>?_,?_,fun x hx=>?_,?_⟩,fun x hx=>?_,by simp only; omega,by simp only[yb,yk]; omega⟩,by simp only; omega⟩
     ·rcases y12.1 hx with hx | hx
      ·exact q2.ok x hx
      ·obtain rfl:=y10.1 hx
       exact⟨by simp only; omega,by simp only; omega,by simp only; omega,hru,hfr,hto,h9⟩
     ·show List.Pairwise ltT (L++_)
      rw[y2a]
      refine⟨q2.so,y2l _ _,fun a ha b hb=>?_⟩
      obtain rfl:=y10.1 hb
      have:=q3 a ha
      unfold ltT
      simp only
      omega
     ·rcases y12.1 hx with hx | hx
      ·exact q2.nu x hx
      ·obtain rfl:=y10.1 hx
       simp only; omega
     ·show List.Pairwise _ (L++_)
      rw[y2a]
      refine⟨q2.dd,y2l _ _,fun a ha b hb=>?_⟩
      obtain rfl:=y10.1 hb
      have:=q3 a ha
      simp only
      omega
     ·simp only[yb,yk]
      rcases y12.1 hx with hx | hx
      ·have:=q3 x hx; omega
      ·obtain rfl:=y10.1 hx
       simp only; omega
    by_cases hb:n10>0
    ·rw[y11 hb,y4 (by rfl)]
     obtain⟨n11,s11,e11,o11,l11,u11⟩:=zi (n:=(l.I.length:Int)) o10 om om
     have hru:=hl.ru _ (z4 (show n11.toNat<l.I.length from om))
     have gF:good (l.I.getD n11.toNat dF).K=true:=ht.cl.gd _ hru.2.2.2.2.1
     have gT:good (l.I.getD n11.toNat dF).V=true:=ht.cl.gd _ hru.2.2.2.2.2
     have k1:=zu l.E (l.I.getD n11.toNat dF).K
     have k2:=zu l.E (l.I.getD n11.toNat dF).V
     simp only[e11,obind,zy ht.mt.sm (show l.E.length<=1000000 from om) (lenC gF),zy ht.mt.sm (show l.E.length<=1000000 from om) (lenC gT)]
     rw[z3 ⟨l11,om,trivial⟩]
     obtain⟨s12,fr,eF,oF,hF⟩:∃ s12 fr,(if decide (((leavesU l.E (l.I.getD n11.toNat dF).K).length:Int)>0)=true then ((F_q1 ((leavesU l.E (l.I.getD n11.toNat dF).K).length:Int) s11).bind fun r=>guardP (AllP [(0:Int)<=r.1,r.1.toNat<(leavesU l.E (l.I.getD n11.toNat dF).K).length]) (some (Out.next (r.2,(⟨(L.length:Int)+1,d+n2,l.G+n3,(l.I.getD n11.toNat dF).F,(leavesU l.E (l.I.getD n11.toNat dF).K).getD r.1.toNat dF,(leavesU l.E []).getD n6.toNat dF,n9⟩:TTr))))) else some (Out.next (s11,(⟨(L.length:Int)+1,d+n2,l.G+n3,(l.I.getD n11.toNat dF).F,(leavesU l.E []).getD n5.toNat dF,(leavesU l.E []).getD n6.toNat dF,n9⟩:TTr))):Option (Out (TTape×TTr) (Out (TTape×TTr) (Step (TTape×(List TTr)×Int×Int) R_ql))))=some (Out.next (s12,⟨(L.length:Int)+1,d+n2,l.G+n3,(l.I.getD n11.toNat dF).F,fr,(leavesU l.E []).getD n6.toNat dF,n9⟩))/\TapeOk s12/\leafT l.E fr=true:=by
      by_cases h0:((leavesU l.E (l.I.getD n11.toNat dF).K).length:Int)>0
      ·rw[y4 (by simpa using h0)]
       obtain⟨n12,s12,e12,o12,l12,u12⟩:=zi (n:=((leavesU l.E (l.I.getD n11.toNat dF).K).length:Int)) o11 om om
       rw[e12,obind,z3 ⟨l12,by first | omega | (simp only; omega),trivial⟩]
       exact⟨_,_,rfl,o12,zj.1 (z3g (z4 (show n12.toNat<(leavesU l.E (l.I.getD n11.toNat dF).K).length from om)))⟩
      ·rw[y3 (by simpa using h0)]
       exact⟨_,_,rfl,o11,f1⟩
     rw[eF]
     simp only[outM]
     by_cases h0:((leavesU l.E (l.I.getD n11.toNat dF).V).length:Int)>0
     ·rw[y4 (by simpa using h0)]
      obtain⟨n13,s13,e13,o13,l13,u13⟩:=zi (n:=((leavesU l.E (l.I.getD n11.toNat dF).V).length:Int)) oF om om
      rw[e13,obind,z3 ⟨l13,by first | omega | (simp only; omega),trivial⟩]
      exact fin s13 _ _ _ o13 ⟨hru.1,hru.2.1⟩ hF (zj.1 (z3g (z4 (show n13.toNat<(leavesU l.E (l.I.getD n11.toNat dF).V).length from om))))
     ·rw[y3 (by simpa using h0)]
      exact fin s12 _ _ _ oF ⟨hru.1,hru.2.1⟩ hF f2
    ·rw[y1x hb,y3 sj]
     simp only[outM]
     exact fin s10 _ _ _ o10 ⟨l4,u4⟩ f1 f2
   ·right
    rw[y3 (by simpa using hk)]
    exact⟨_,rfl,o,by simp only; omega,q2⟩) _ (s,[],360 * l.G,n) (y2v _)
  ⟨hs,sk,⟨sj,y3g,sj,y3g⟩,sj,sj⟩
 obtain⟨s9,L,d,i⟩:=st
 exact⟨s9,L,d,i,e,g1,g2,g3⟩
theorem z64 (hl:RL l) (hn:0<=n/\n<=8) (hs:TapeOk s):∃ L s',F_ql l n s=some (L,s')/\TapeOk s'/\(L.length:Int)<=n/\TL l L:=by
 have hf:=hl.fi
 have hle:=hl.t5.le
 obtain⟨n1,s1,e1,o1,l1,u1⟩:=zi (n:=n+1) hs om om
 obtain⟨s2,L,d,i,e2,o2,h1,h2⟩:=zkl hl (n:=n1) om o1
 simp only[F_ql,S_ql,Scr.den,zy hl.t5.mt.sm (show l.E.length<=1000000 from om) (show ([]:Y8).length<=1000000 from sj),obind]
 rw[wrapId (n:=n+1) om om,e1,obind,wrapId (n:=360 * l.G) om om,e2]
 simp only[outM]
 rw[Ga]
 exact⟨_,_,rfl,o2,om,h2⟩
end Go.Proofs.YtljnmhapbonmfaaGreatDoor
/- Transfers that are made,as a row of our own. No condition. -/
namespace Go.Proofs.YtljnmhapbonmfaaGreatDoor
open Go Go.TA
open Go.IntKind (i64)
attribute [-simp] List.getD_eq_getElem?_getD
variable {l:TLa} {n:Int} {s:TTape}
theorem zhi (hl:RL l) (hn:0<=n/\n<=8) (hs:TapeOk s) :
  ∃ s' L d i,iterM (fun s=>(S_qp_b1 l (leavesU l.E []) s).den) (s,[],360 * l.G,n)=some (.next (s',L,d,i))/\TapeOk s'/\(L.length:Int)<=n/\TL l L:=by
 have ht:=hl.t5
 have hf:=hl.fi; have hy:=hl.ye; have hrn:=hl.rn
 have hle:=ht.le
 have hll:=zu l.E []
 have hl0:1<=(leavesU l.E []).length:=by
  rcases y2r (leavesU l.E []).length with e | e
  ·exact absurd (y1r.1 e) ht.leaves
  ·exact e
 obtain⟨st,e,g1,g2,g3⟩:=z1b (step:=fun s=>(S_qp_b1 l (leavesU l.E []) s).den) (fun s=>s.2.2.2.toNat)
  (fun s=>TapeOk s.1/\((s.2.1.length:Int)+s.2.2.2=n/\0<=s.2.2.2)/\TL l s.2.1/\(∀ x∈s.2.1,x.F<=s.2.1.length/\x.H<=s.2.2.1)/\(360 * l.G<=s.2.2.1/\s.2.2.1<=360 * l.G+90 * s.2.1.length))
  (fun s=>TapeOk s.1/\(s.2.1.length:Int)<=n/\TL l s.2.1) (fun s ⟨o,⟨q1,q1'⟩,q2,q3,q4⟩=>by
   obtain⟨s0,L,d,i⟩:=s
   simp only at o q1 q1' q2 q3 q4
   simp only[S_qp_b1,Scr.den]
   by_cases hk:i>0
   ·left
    rw[y4 (by simpa using hk)]
    obtain⟨n1,s1,e1,o1,l1,u1⟩:=zi (n:=90) o om om
    obtain⟨n2,s2,e2,o2,m2⟩:=z14 (l:=[0,1,n1]) o1 sj sj
    obtain⟨n3,s3,e3,o3,l3,u3⟩:=zi (n:=l.J) o2 om om
    obtain⟨n4,s4,e4,o4,l4,u4⟩:=z25 (lo:=1) (hi:=3) o3 om om om
    obtain⟨n5,s5,e5,o5,l5,u5⟩:=zi (n:=((leavesU l.E []).length:Int)) o4 om om
    obtain⟨n6,s6,e6,o6,l6,u6⟩:=zi (n:=((leavesU l.E []).length:Int)) o5 om om
    obtain⟨n7,s7,e7,o7,l7,u7⟩:=z25 (lo:=1) (hi:=500) o6 om om om
    obtain⟨n8,s8,e8,o8,l8,u8⟩:=z25 (lo:=1) (hi:=100000) o7 om om om
    obtain⟨n9,s9,e9,o9,m9⟩:=z14 (l:=[1,10,n7,n8]) o8 sj sj
    obtain⟨n10,s10,e10,o10,l10,u10⟩:=zi (n:=5) o9 om om
    have h2:0<=n2/\n2<=89:=by simp at m2; omega
    have h9:1<=n9/\n9<=100000:=by simp at m9; omega
    have w1:i64.wrap ((L.length:Int)+1)=(L.length:Int)+1:=wrapId om om
    have w2:i64.wrap (d+n2)=d+n2:=wrapId om om
    have w3:i64.wrap (l.G+n3)=l.G+n3:=wrapId om om
    have w4:i64.wrap (i-1)=i-1:=wrapId om om
    rw[e1,obind,e2,obind,e3,obind,e4,obind,e5,obind,e6,obind,e7,obind,e8,obind,e9,obind,z3 ⟨l5,by simp only; omega,l6,by simp only; omega,trivial⟩,y11 (show (l.I.length:Int)>0 from om),Gg,e10,obind,w1,w2,w3,w4]
    have f1:leafT l.E ((leavesU l.E []).getD n5.toNat dF)=true:=zj.1 (z4 om)
    have f2:leafT l.E ((leavesU l.E []).getD n6.toNat dF)=true:=zj.1 (z4 om)
    have fin:∀ (s':TTape) (ru:Int) (fr to:Y8),TapeOk s'->1<=ru/\ru<=3->leafT l.E fr=true->leafT l.E to=true->∃ s2,guardP (AllP [(L.length+1) * (2 * 72)<=2 ^ 48]) (some (Step.cont (s',L++[(⟨(L.length:Int)+1,d+n2,l.G+n3,ru,fr,to,n9⟩:TTr)],d+n2,i-1)))=(some (Step.cont s2):Option (Step (TTape×(List TTr)×Int×Int) R_qp)) /\
      ((TapeOk s2.1/\((s2.2.1.length:Int)+s2.2.2.2=n/\0<=s2.2.2.2)/\TL l s2.2.1/\(∀ x∈s2.2.1,x.F<=s2.2.1.length/\x.H<=s2.2.2.1)/\(360 * l.G<=s2.2.2.1/\s2.2.2.1<=360 * l.G+90 * s2.2.1.length))/\s2.2.2.2.toNat<i.toNat):=fun s' ru fr to o' hru hfr hto=>by
     rw[Ga]
     refine⟨_,rfl,⟨o',⟨by simp only[yb,yk]; omega,by simp only; omega⟩,⟨fun x hx=>?_,?_,fun x hx=>?_,?_⟩,fun x hx=>?_,by simp only; omega,by simp only[yb,yk]; omega⟩,by simp only; omega⟩
     ·rcases y12.1 hx with hx | hx
      ·exact q2.ok x hx
      ·obtain rfl:=y10.1 hx
       exact⟨by simp only; omega,by simp only; omega,by simp only; omega,hru,hfr,hto,h9⟩
     ·show List.Pairwise ltT (L++_)
      rw[y2a]
      refine⟨q2.so,y2l _ _,fun a ha b hb=>?_⟩
      obtain rfl:=y10.1 hb
      have:=q3 a ha
      unfold ltT
      simp only
      omega
     ·rcases y12.1 hx with hx | hx
      ·exact q2.nu x hx
      ·obtain rfl:=y10.1 hx
       simp only; omega
     ·show List.Pairwise _ (L++_)
      rw[y2a]
      refine⟨q2.dd,y2l _ _,fun a ha b hb=>?_⟩
      obtain rfl:=y10.1 hb
      have:=q3 a ha
      simp only
      omega
     ·simp only[yb,yk]
      rcases y12.1 hx with hx | hx
      ·have:=q3 x hx; omega
      ·obtain rfl:=y10.1 hx
       simp only; omega
    by_cases hb:n10>0
    ·rw[y11 hb,y4 (by rfl)]
     obtain⟨n11,s11,e11,o11,l11,u11⟩:=zi (n:=(l.I.length:Int)) o10 om om
     have hru:=hl.ru _ (z4 (show n11.toNat<l.I.length from om))
     have gF:good (l.I.getD n11.toNat dF).K=true:=ht.cl.gd _ hru.2.2.2.2.1
     have gT:good (l.I.getD n11.toNat dF).V=true:=ht.cl.gd _ hru.2.2.2.2.2
     have k1:=zu l.E (l.I.getD n11.toNat dF).K
     have k2:=zu l.E (l.I.getD n11.toNat dF).V
     simp only[e11,obind,zy ht.mt.sm (show l.E.length<=1000000 from om) (lenC gF),zy ht.mt.sm (show l.E.length<=1000000 from om) (lenC gT)]
     rw[z3 ⟨l11,om,trivial⟩]
     obtain⟨s12,fr,eF,oF,hF⟩:∃ s12 fr,(if decide (((leavesU l.E (l.I.getD n11.toNat dF).K).length:Int)>0)=true then ((F_q1 ((leavesU l.E (l.I.getD n11.toNat dF).K).length:Int) s11).bind fun r=>guardP (AllP [(0:Int)<=r.1,r.1.toNat<(leavesU l.E (l.I.getD n11.toNat dF).K).length]) (some (Out.next (r.2,(⟨(L.length:Int)+1,d+n2,l.G+n3,(l.I.getD n11.toNat dF).F,(leavesU l.E (l.I.getD n11.toNat dF).K).getD r.1.toNat dF,(leavesU l.E []).getD n6.toNat dF,n9⟩:TTr))))) else some (Out.next (s11,(⟨(L.length:Int)+1,d+n2,l.G+n3,(l.I.getD n11.toNat dF).F,(leavesU l.E []).getD n5.toNat dF,(leavesU l.E []).getD n6.toNat dF,n9⟩:TTr))):Option (Out (TTape×TTr) (Out (TTape×TTr) (Step (TTape×(List TTr)×Int×Int) R_qp))))=some (Out.next (s12,⟨(L.length:Int)+1,d+n2,l.G+n3,(l.I.getD n11.toNat dF).F,fr,(leavesU l.E []).getD n6.toNat dF,n9⟩))/\TapeOk s12/\leafT l.E fr=true:=by
      by_cases h0:((leavesU l.E (l.I.getD n11.toNat dF).K).length:Int)>0
      ·rw[y4 (by simpa using h0)]
       obtain⟨n12,s12,e12,o12,l12,u12⟩:=zi (n:=((leavesU l.E (l.I.getD n11.toNat dF).K).length:Int)) o11 om om
       rw[e12,obind,z3 ⟨l12,by first | omega | (simp only; omega),trivial⟩]
       exact⟨_,_,rfl,o12,zj.1 (z3g (z4 (show n12.toNat<(leavesU l.E (l.I.getD n11.toNat dF).K).length from om)))⟩
      ·rw[y3 (by simpa using h0)]
       exact⟨_,_,rfl,o11,f1⟩
     rw[eF]
     simp only[outM]
     by_cases h0:((leavesU l.E (l.I.getD n11.toNat dF).V).length:Int)>0
     ·rw[y4 (by simpa using h0)]
      obtain⟨n13,s13,e13,o13,l13,u13⟩:=zi (n:=((leavesU l.E (l.I.getD n11.toNat dF).V).length:Int)) oF om om
      rw[e13,obind,z3 ⟨l13,by first | omega | (simp only; omega),trivial⟩]
      exact fin s13 _ _ _ o13 ⟨hru.1,hru.2.1⟩ hF (zj.1 (z3g (z4 (show n13.toNat<(leavesU l.E (l.I.getD n11.toNat dF).V).length from om))))
     ·rw[y3 (by simpa using h0)]
      exact fin s12 _ _ _ oF ⟨hru.1,hru.2.1⟩ hF f2
    ·rw[y1x hb,y3 sj]
     simp only[outM]
     exact fin s10 _ _ _ o10 ⟨l4,u4⟩ f1 f2
   ·right
    rw[y3 (by simpa using hk)]
    exact⟨_,rfl,o,by simp only; omega,q2⟩) _ (s,[],360 * l.G,n) (y2v _)
  ⟨hs,sk,⟨sj,y3g,sj,y3g⟩,sj,sj⟩
 obtain⟨s9,L,d,i⟩:=st
 exact⟨s9,L,d,i,e,g1,g2,g3⟩
theorem z93 (hl:RL l) (hn:0<=n/\n<=8) (hs:TapeOk s):∃ L s',F_qp l n s=some (s',L)/\TapeOk s'/\(L.length:Int)<=n/\TL l L:=by
 have hf:=hl.fi
 have hle:=hl.t5.le
 obtain⟨n1,s1,e1,o1,l1,u1⟩:=zi (n:=n+1) hs om om
 obtain⟨s2,L,d,i,e2,o2,h1,h2⟩:=zhi hl (n:=n1) om o1
 simp only[F_qp,S_qp,Scr.den,zy hl.t5.mt.sm (show l.E.length<=1000000 from om) (show ([]:Y8).length<=1000000 from sj),obind]
 rw[wrapId (n:=n+1) om om,e1,obind,wrapId (n:=360 * l.G) om om,e2]
 exact⟨L,s2,rfl,o2,om,h2⟩
end Go.Proofs.YtljnmhapbonmfaaGreatDoor
/- What the judge of transfers computes. No condition. -/
namespace Go.Proofs.YtljnmhapbonmfaaGreatDoor
open Go Go.TA
open Go.IntKind (i64)
attribute [-simp] List.getD_eq_getElem?_getD
def smm {α:Type} (w:α->Int):List α->Int
 | []=>0
 | x :: l=>w x+smm w l
theorem z1g {α:Type} (w:α->Int):∀ l m:List α,smm w (l++m)=smm w l+smm w m
 | [],m=>by simp[smm]
 | x :: l,m=>by rw[y1y]; simp only[smm]; rw[z1g w l m]; omega
variable {α:Type}
theorem z94 [Inhabited α] (w:α->Int) {l:List α} {i:Nat} (hi:i<l.length):smm w (l.take (i+1))=smm w (l.take i)+w (l.getD i dF):=by
 rw[yw hi,z1g,za hi]; simp[smm]
theorem z5d {α:Type} (w:α->Int) (K:Int):∀ l:List α,(∀ x∈l,-K<=w x/\w x<=K)->-(K * (l.length:Int))<=smm w l/\smm w l<=K * (l.length:Int)
 | [],_=>by simp[smm]
 | x :: l,h=>by
  obtain⟨a,b⟩:=z5d w K l fun y hy=>h y (yh _ hy)
  obtain⟨c,d⟩:=h x y16
  simp only[smm,yp]
  rw[show ((l.length+1:Nat):Int)=(l.length:Int)+1 from om,Int.mul_add,Int.mul_one]
  omega
theorem z1q {α:Type} {w v:α->Int}:∀ {l:List α},(∀ x∈l,w x=v x)->smm w l=smm v l
 | [],_=>rfl
 | x :: l,h=>by
  simp only[smm]
  rw[h x y16,z1q fun y hy=>h y (yh _ hy)]
theorem z4v {ρ:Type} [Inhabited α] {body:Nat->Int->Option (Step Int ρ)} (l:List α) (w:α->Int) (K:Int) (hK:∀ x∈l,-K<=w x/\w x<=K) {s0:Int} (hs:∀ i s,i<l.length->s0-K * (i:Int)<=s->s<=s0+K * (i:Int)->body i s=some (.cont (s+w (l.getD i dF)))):rangeM body l.length 0 s0=some (.next (s0+smm w l)):=by
 obtain⟨s',e,h⟩:=zl (body:=body) (n:=l.length) (fun i s=>s=s0+smm w (l.take i)) (s0:=s0) (by simp[smm]) (fun i s hi h=>by
  obtain⟨a,b⟩:=z5d w K (l.take i) fun x hx=>hK x (y1h hx)
  have hl:(l.take i).length=i:=by rw[y13]; omega
  rw[hl] at a b
  refine⟨_,hs i s hi om om,?_⟩
  rw[z94 w hi,h]; omega)
 rw[e,h,y1z]
theorem zj9 (l:TLa) (c:Y8) (y:Int):F_q21 l c y=some (lineA l.P c y):=by
 simp only[F_q21,S_q21,Scr.den]
 rw[z6i l.P (fun x=>x.B==c&&x.D==y) (·.C) fun i hi=>by
  simp only[S_q21_b1,Scr.den,z6]
  split <;> rfl]
 unfold lineA
 cases l.P.find? (fun x=>x.B==c&&x.D==y) <;> rfl
def pctS (n p:Int):Int:=n * p / 100
theorem zfs {n p:Int} (hn:0<=n/\n<=1000000000000) (hp:0<=p/\p<=100):F_q42 n p=some (pctS n p,0):=by
 have h1:0<=n * p:=Int.mul_nonneg hn.1 hp.1
 have h2:n * p<=1000000000000 * 100:=Int.mul_le_mul hn.2 hp.2 hp.1 om
 simp only[F_q42,S_q42,Scr.den,z46,obind,ze]
 rw[y3 (by rw[z4a.2 hn,y1x (show ¬ p<0 from om),y1x (show ¬ p>100 from om)]; simp),wrapId (n:=n * p) om om,y4d h1,wrapId om om]
 rfl
def linC (top:Y8) (y:Int) (x:TLi):Bool:=(y==-1||x.D==y)&&(top==[]||und x.B top)
def totA (l:List TLi) (top:Y8) (y:Int):Int:=smm (fun x=>if linC top y x=true then x.C else 0) l
theorem z6r {α:Type} (p:α->Bool) (f:α->Int):∀ l:List α,smm id ((l.filter p).map f)=smm (fun x=>if p x=true then f x else 0) l
 | []=>rfl
 | x :: l=>by
  rw[y50]
  by_cases h:p x=true
  ·rw[y4 h,y2c]; simp only[smm,y4 h,id]; rw[z6r p f l]
  ·rw[y3 h]; simp only[smm,y3 h]; rw[z6r p f l]; omega
theorem zkm {l:List Int} (hl:l.length<=200) (h:∀ x∈l,0<=x/\x<=1000000000000):F_q23 l=some (smm id l,0):=by
 simp only[F_q23,S_q23,Scr.den]
 rw[Ga]
 rw[z4v l id 1000000000000 (fun x hx=>by have:=h x hx; simp only[id]; omega) fun i s hi h1 h2=>by
  have hx:=h _ (z4 hi)
  simp only[S_q23_b1,Scr.den,F_q43,S_q43,obind,y1l,z6,ze]
  rw[z3 ⟨hi,trivial⟩,wrapId (n:=s+l.getD i dF) om om,y11 (show l.getD i dF>=-1000000000000000 from om),y11 (show l.getD i dF<=1000000000000000 from om),Gg,y11 (show s+l.getD i dF>=-1000000000000000 from om),y11 (show s+l.getD i dF<=1000000000000000 from om)]
  rfl]
 simp only[outM]
 rw[Int.zero_add]
variable {top:Y8} {y:Int}
theorem zkn {l:List TLi} (hl:l.length<=200) (hg:∀ x∈l,x.B.length<=1000000) (ha:∀ x∈l,0<=x.C/\x.C<=1000000000000) (ht:top.length<=1000000):F_q24 l top y=some (totA l top y,0):=by
 simp only[F_q24,S_q24,Scr.den]
 rw[z1j l (linC top y) (·.C) 1000000 om fun i s hi hs=>by
  have hx:=hg _ (z4 hi)
  simp only[S_q24_b1,Scr.den,z2q hx ht,z6,ze]
  unfold linC
  have hgu:(s.length+1) * (2 * 8)<=2 ^ 48:=om
  cases h1:(top==[]) <;> cases h2:(y==-1||(l.getD i dF).D==y) <;> simp[optD,AllP,z3,hgu]
  all_goals (split <;> simp_all [])]
 simp only[outM]
 have hlen:((l.filter (linC top y)).map (·.C)).length<=200:=by rw[y1g]; have:=y51 (linC top y) l; omega
 rw[zkm hlen (fun x hx=>by obtain⟨z,hz,rfl⟩:=yv.1 hx; exact ha z (y1v.1 hz).1),obind,z6r]
 rfl
theorem zhj {l:TLa} (hl:l.P.length<=200) (hg:∀ x∈l.P,x.B.length<=1000000) (ha:∀ x∈l.P,0<=x.C/\x.C<=1000000000000) (ht:top.length<=1000000):F_q44 l top y=some (totA l.P top y,0):=by
 simp only[F_q44,S_q44,Scr.den,zkn hl hg ha ht,obind]
end Go.Proofs.YtljnmhapbonmfaaGreatDoor
/- The judge's parts. No condition. -/
namespace Go.Proofs.YtljnmhapbonmfaaGreatDoor
open Go Go.TA
open Go.IntKind (i64)
attribute [-simp] List.getD_eq_getElem?_getD
structure AcOk (acc:List TTr):Prop where
 le:acc.length<=100
 am:∀ x∈acc,0<=x.C/\x.C<=1000000000000
 fr:∀ x∈acc,x.K.length<=1000000
 to:∀ x∈acc,x.V.length<=1000000
structure NowOk (n:TLa):Prop where
 ll:n.P.length<=200
 lc:∀ x∈n.P,x.B.length<=1000000
 la:∀ x∈n.P,0<=x.C/\x.C<=1000000000000
 ru:∀ x∈n.I,(0<=x.R/\x.R<=100)/\x.K.length<=1000000/\x.V.length<=1000000
 rl:n.I.length<=1000000
 cl:n.S.length<=1000000
 cc:∀ x∈n.S,x.B.length<=1000000
 fl:n.U.length<=1000000
 fc:∀ x∈n.U,x.B.length<=1000000
def givW (x:TTr) (y:TTr):Int:=if (y.Q==x.Q&&y.D==x.D&&y.K==x.K)=true then y.C else 0
def leftS (now:TLa) (acc:List TTr) (r:TRu) (x:TTr):Int:=pctS (lineA now.P x.K x.D) r.R-smm (givW x) acc
def movW (top:Y8) (y d:Int) (x:TTr):Int :=
 if (decide (x.H>d)||(y != -1&&x.D != y))=true then 0 else (if und x.V top=true then x.C else 0)-(if und x.K top=true then x.C else 0)
def hasS (now:TLa) (acc:List TTr) (top:Y8) (y d:Int):Int:=totA now.P top y+smm (movW top y d) acc
variable {l:List TLi}
theorem z95 (h:∀ x∈l,0<=x.C/\x.C<=1000000000000) (c:Y8) (y:Int):0<=lineA l c y/\lineA l c y<=1000000000000:=by
 unfold lineA
 split
 ·rename_i x hx; exact h x (List.mem_of_find?_eq_some hx)
 ·omega
theorem zko {n p:Int} (hn:0<=n/\n<=1000000000000) (hp:0<=p/\p<=100):0<=pctS n p/\pctS n p<=1000000000000:=by
 have h1:0<=n * p:=Int.mul_nonneg hn.1 hp.1
 have h2:n * p<=1000000000000 * 100:=Int.mul_le_mul hn.2 hp.2 hp.1 om
 unfold pctS; omega
theorem zeq (hl:l.length<=200) (h:∀ x∈l,0<=x.C/\x.C<=1000000000000) (top:Y8) (y:Int):-200000000000000<=totA l top y/\totA l top y<=200000000000000:=by
 have:=z5d (fun x:TLi=>if linC top y x=true then x.C else 0) 1000000000000 l fun x hx=>by have:=h x hx; split <;> omega
 unfold totA; omega
variable {acc:List TTr}
theorem zkp (h:AcOk acc) (x:TTr):∀ y∈acc,-1000000000000<=givW x y/\givW x y<=1000000000000:=fun y hy=>by
 have:=h.am y hy
 unfold givW; split <;> omega
theorem zer (h:AcOk acc) (top:Y8) (y d:Int):∀ x∈acc,-1000000000000<=movW top y d x/\movW top y d x<=1000000000000:=fun x hx=>by
 have:=h.am x hx
 unfold movW
 (repeat' split) <;> omega
theorem zes {now:TLa} (hn:NowOk now) (h:AcOk acc) (top:Y8) (y d:Int):-300000000000000<=hasS now acc top y d/\hasS now acc top y d<=300000000000000:=by
 have a:=zeq hn.ll hn.la top y
 have b:=z5d (movW top y d) 1000000000000 acc (zer h top y d)
 have c:=h.le
 unfold hasS; omega
theorem zet {α:Type} (w:α->Int):∀ l:List α,smm (fun x=>-w x) l=-smm w l
 | []=>rfl
 | x :: l=>by simp only[smm]; rw[zet w l]; omega
section
variable {l:TLa} {ask:Bool} {dy fail:Int} {now:TLa} {acc:List TTr} (hn:NowOk now) (ha:AcOk acc)
include hn ha
theorem zkq {r:TRu} (hr:0<=r.R/\r.R<=100) (x:TTr):F_q22 r x l ask dy now fail acc=some (leftS now acc r x):=by
 have hle:=ha.le
 have h1:=z95 hn.la x.K x.D
 have h2:=zko h1 hr
 simp only[F_q22,S_q22,Scr.den,zj9,zfs h1 hr,obind]
 rw[Ga]
 rw[z4v acc (fun y=>-givW x y) 1000000000000 (fun y hy=>by have:=zkp ha x y hy; omega) fun i s hi k1 k2=>by
  have hg:=ha.am _ (z4 hi)
  simp only[S_q22_b1,Scr.den,y1l,z6,givW]
  rw[z3 ⟨hi,trivial⟩]
  split
  ·rw[wrapId om om]; congr 2
  ·congr 2; omega]
 simp only[outM]
 rw[zet]; rfl
theorem z9z {top:Y8} (ht:top.length<=1000000) (y d:Int):F_qt top y d l ask dy now fail acc=some (hasS now acc top y d):=by
 have hle:=ha.le
 have h1:=zeq hn.ll hn.la top y
 simp only[F_qt,S_qt,Scr.den,zhj hn.ll hn.lc hn.la ht,obind]
 rw[Ga]
 rw[z4v acc (movW top y d) 1000000000000 (zer ha top y d) fun i s hi k1 k2=>by
  have hg:=ha.am _ (z4 hi)
  have u1:=ha.to _ (z4 hi)
  have u2:=ha.fr _ (z4 hi)
  simp only[S_qt_b1,Scr.den,y1l,z6,ze,z2q u1 ht,z2q u2 ht,obind,movW]
  rw[z3 ⟨hi,trivial⟩]
  by_cases hb:(decide ((acc.getD i dF).H>d)||(y != -1&&(acc.getD i dF).D != y))=true
  ·rw[y4 hb,y4 hb,Int.add_zero]
  ·rw[y3 hb,y3 hb]
   by_cases c1:und (acc.getD i dF).V top=true
   ·rw[y4 c1,y4 c1]
    simp only[outM]
    rw[wrapId (n:=s+(acc.getD i dF).C) om om]
    by_cases c2:und (acc.getD i dF).K top=true
    ·rw[y4 c2,y4 c2,wrapId om om]; congr 2; omega
    ·rw[y3 c2,y3 c2]; congr 2; omega
   ·rw[y3 c1,y3 c1]
    simp only[outM]
    by_cases c2:und (acc.getD i dF).K top=true
    ·rw[y4 c2,y4 c2,wrapId om om]; congr 2; omega
    ·rw[y3 c2,y3 c2]; congr 2; omega]
 simp only[outM]
 rfl
def matS (b:TBo) (wi wo:Y8) (y:Int):Bool:=(b.D==y||b.D==-1)&&und wi b.B&&!und wo b.B
def bndS (now:TLa) (acc:List TTr) (x:TTr):Bool :=
 now.S.any (fun b=>matS b x.V x.K x.D&&decide (hasS now acc b.B b.D x.H+x.C>b.C)) ||
 now.U.any (fun b=>matS b x.K x.V x.D&&decide (hasS now acc b.B b.D x.H-x.C<b.C))
omit hn ha in
theorem zhk {b:TBo} {wi wo:Y8} (hb:b.B.length<=1000000) (h1:wi.length<=1000000) (h2:wo.length<=1000000) (x:TTr):F_q36 b wi wo x=some (matS b wi wo x.D):=by
 simp only[F_q36,S_q36,Scr.den,z2q h1 hb,z2q h2 hb,z6,ze,matS]
 cases h1:(b.D==x.D||b.D==-1) <;> cases h2:und wi b.B <;> simp[optD,AllP]
theorem zlt {x:TTr} (hf:x.K.length<=1000000) (ht:x.V.length<=1000000) (hx:0<=x.C/\x.C<=1000000000000):F_qo x l ask dy now fail acc=some (bndS now acc x):=by
 have hcl:=hn.cl; have hfl:=hn.fl
 simp only[F_qo,S_qo,Scr.den]
 rw[z1m now.S (fun b=>matS b x.V x.K x.D&&decide (hasS now acc b.B b.D x.H+x.C>b.C)) (fun _=>true) fun i hi=>by
  have hb:=hn.cc _ (z4 hi)
  have hh:=zes hn ha (now.S.getD i dF).B (now.S.getD i dF).D x.H
  simp only[S_qo_b1,Scr.den,zhk hb ht hf,obind,z9z hn ha hb,z6]
  cases hm:matS (now.S.getD i dF) x.V x.K x.D
  ·simp[optD,AllP]
  ·rw[Gg,obind,wrapId om om]; split <;> rfl]
 unfold bndS
 by_cases h1:now.S.any (fun b=>matS b x.V x.K x.D&&decide (hasS now acc b.B b.D x.H+x.C>b.C))=true
 ·rw[y4 h1,h1]; rfl
 ·rw[y3 h1,yq.2 h1]
  simp only[outM]
  rw[z1m now.U (fun b=>matS b x.K x.V x.D&&decide (hasS now acc b.B b.D x.H-x.C<b.C)) (fun _=>true) fun i hi=>by
   have hb:=hn.fc _ (z4 hi)
   have hh:=zes hn ha (now.U.getD i dF).B (now.U.getD i dF).D x.H
   simp only[S_qo_b2,Scr.den,zhk hb hf ht,obind,z9z hn ha hb,z6]
   cases hm:matS (now.U.getD i dF) x.K x.V x.D
   ·simp[optD,AllP]
   ·rw[Gg,obind,wrapId om om]; split <;> rfl]
  by_cases h2:now.U.any (fun b=>matS b x.K x.V x.D&&decide (hasS now acc b.B b.D x.H-x.C<b.C))=true
  ·rw[y4 h2,h2]; rfl
  ·rw[y3 h2,yq.2 h2]; rfl
end
end Go.Proofs.YtljnmhapbonmfaaGreatDoor
/- The code of a transfer. No condition. -/
namespace Go.Proofs.YtljnmhapbonmfaaGreatDoor
open Go Go.TA
open Go.IntKind (i64)
attribute [-simp] List.getD_eq_getElem?_getD
theorem zja {l:TLa} (hs:SmL l) (c:Y8):F_q35 l c=some (leafT l.E c):=by
 simp only[F_q35,S_q35,Scr.den,z7h hs.t hs.tl,z8h,obind]
 congr 1
 rw[y1n,<- zj]
 simp
def numB (n:Int):Bool:=decide (n>=1)&&decide (n<=1000000)
def plainS (l:TLa) (x:TTr):Int :=
 if (!numB x.F||!numB x.Q||decide (x.H<0)||decide (x.H>35990)||!amt x.C||x.C==0)=true then 2
 else if (!leafT l.E x.K||!leafT l.E x.V||x.K==x.V)=true then 5
 else if (!inY l.G l.J x.D||decide (x.H / 360>x.D))=true then 16 else 0
theorem z15 {l:TLa} {x:TTr}:plainS l x=0↔(1<=x.F/\x.F<=1000000)/\(1<=x.Q/\x.Q<=1000000)/\(0<=x.H/\x.H<=35990)/\(1<=x.C/\x.C<=1000000000000)/\leafT l.E x.K=true/\leafT l.E x.V=true/\x.K≠x.V/\inY l.G l.J x.D=true/\x.H / 360<=x.D:=by
 unfold plainS
 by_cases h1:(!numB x.F||!numB x.Q||decide (x.H<0)||decide (x.H>35990)||!amt x.C||x.C==0)=true
 ·rw[y4 h1]
  refine⟨fun e=>absurd e dk,fun⟨a,b,c,d,_⟩=>?_⟩
  exfalso
  simp only[yc,y1e,y5,ym,numB,y2g,y1a,amt] at h1
  omega
 ·rw[y3 h1]
  simp only[yc,y1e,y5,ym,numB,y2g,y1a,amt] at h1
  by_cases h2:(!leafT l.E x.K||!leafT l.E x.V||x.K==x.V)=true
  ·rw[y4 h2]
   refine⟨fun e=>absurd e dk,fun⟨_,_,_,_,a,b,c,_⟩=>?_⟩
   rw[a,b] at h2
   simp[c] at h2
  ·rw[y3 h2]
   simp only[yc,y1e,ym,y4l,y3b] at h2
   by_cases h3:(!inY l.G l.J x.D||decide (x.H / 360>x.D))=true
   ·rw[y4 h3]
    refine⟨fun e=>absurd e dk,fun⟨_,_,_,_,_,_,_,a,b⟩=>?_⟩
    rw[a] at h3
    simp at h3; omega
   ·rw[y3 h3]
    simp only[yc,y1e,y5,y4l,y3b] at h3
    exact⟨fun _=>⟨om,om,om,om,h2.1.1,h2.1.2,h2.2,h3.1,om⟩,fun _=>rfl⟩
section
variable {l:TLa} (he:errL l=0)
include he
omit he in
theorem zkr (d:Int):F_q3t d=some (if 0<=d/\d<=36000 then d / 360 else -1):=by
 simp only[F_q3t,S_q3t,F_q4e,S_q4e,Scr.den,obind,z6]
 by_cases h:0<=d/\d<=36000
 ·rw[y4 h,y3 sk,y4d h.1,wrapId om om]
 ·rw[y3 h,y4 sk]
omit he in
theorem z6s {α:Type} (gs:List Prop) (v d:α):optD gs (some v) d=some (@ite α (AllP gs) (Classical.propDecidable _) v d):=by
 unfold optD
 split <;> rfl
omit he in
theorem lzN (c b d:Bool) (i:Decidable (AllP [c=false])):(c||!(@ite Bool (AllP [c=false]) i b d))=(c||!b):=by
 cases c
 ·rw[y4 (by simp[AllP])]
 ·rfl
omit he in
theorem lzG (c:Bool) (v d w:Int) (i:Decidable (AllP [c=false])):(c||decide (@ite Int (AllP [c=false]) i v d>w))=(c||decide (v>w)):=by
 cases c
 ·rw[y4 (by simp[AllP])]
 ·rfl
theorem zjb (x:TTr) (ask:Bool) (dy fail:Int) (now:TLa) (acc:List TTr):F_q3u x l ask dy now fail acc=some (plainS l x):=by
 have hs:=z6p he
 obtain⟨hr,_,_⟩:=z1s.1 he
 have hy:1<=l.J:=by have:=hr.yr; unfold yrB at this; omega
 have n1:∀ n,F_q34 n=some (numB n):=fun n=>by simp only[F_q34,S_q34,Scr.den,z6,numB]
 simp only[F_q3u,S_q3u,Scr.den,n1,z46,zja hs,z7j hy,zkr,obind,ze,z6s,lzN,lzG]
 unfold plainS
 by_cases h1:(!numB x.F||!numB x.Q||decide (x.H<0)||decide (x.H>35990)||!amt x.C||x.C==0)=true
 ·rw[y4 h1,y4 h1]
 ·rw[y3 h1,y3 h1]
  by_cases h2:(!leafT l.E x.K||!leafT l.E x.V||x.K==x.V)=true
  ·rw[y4 h2,y4 h2]
  ·rw[y3 h2,y3 h2]
   simp only[yc,y1e,y5,ym] at h1
   rw[y4 (show 0<=x.H/\x.H<=36000 from om)]
   split <;> rfl
theorem zjk (d:Int) {ask:Bool} {dy fail:Int} {now:TLa} (hJ:ask=true->inS l dy=(now,fail)) (acc:List TTr):F_q2o d l ask dy now fail acc=some ((inS l d).2,l,true,d,(inS l d).1,(inS l d).2):=by
 simp only[F_q2o,S_q2o,Scr.den,ze]
 by_cases h:(!ask||d != dy)=true
 ·rw[y4 h,zfp (z6p he),obind]; rfl
 ·rw[y3 h]
  simp only[yc,y1e,y4r,ne_eq,y4l,y3b,y47] at h
  obtain⟨h1,rfl⟩:=h
  simp only[outM]
  rw[hJ h1,h1]
theorem za0:NowOk l:=by
 obtain⟨hr,hw,hb⟩:=z1s.1 he
 have hs:=z6p he
 unfold bigL at hb
 refine⟨om,hs.li,fun x hx=>?_,fun x hx=>?_,hs.rl,hs.cl,hs.ce,hs.fll,hs.fl⟩
 ·have:=hw.l1 x hx
  unfold z1d at this
  split at this
  ·cases this
  split at this
  ·cases this
  split at this
  ·cases this
  ·rename_i h; exact z4a.1 (by simpa using h)
 ·obtain⟨i,hi,rfl⟩:=y2z hx
  have:=(z10.1 hr.ru) i hi
  unfold ruleE at this
  have:=(z3d.1 this).1
  rw[za hi] at this
  unfold z62 at this
  split at this
  ·cases this
  split at this
  ·cases this
  ·rename_i h1 h2
   refine⟨om,?_⟩
   have f:has l.E l.I[i].K=true/\has l.E l.I[i].V=true:=by
    cases g1:has l.E l.I[i].K <;> cases g2:has l.E l.I[i].V <;> simp_all
   exact⟨lenC (hasGood hr.tr f.1),lenC (hasGood hr.tr f.2)⟩
theorem zlu {d:Int} (h:(inS l d).2=0):(inS l d).1=forceL l d/\NowOk (forceL l d)/\errL (forceL l d)=0/\0<=d/\d<=36000:=by
 unfold inS at h |-
 rw[y4 he] at h |-
 by_cases h1:d<0\/d>36000
 ·rw[y4 h1] at h; cases h
 ·rw[y3 h1] at h |-
  by_cases h2:bigL (forceL l d)
  ·rw[y4 h2] at h; cases h
  ·rw[y3 h2]
   have:=z48 he d h2
   exact⟨rfl,za0 this,this,om,om⟩
end
end Go.Proofs.YtljnmhapbonmfaaGreatDoor
/- Judging transfers,one after the other. No condition. -/
namespace Go.Proofs.YtljnmhapbonmfaaGreatDoor
open Go Go.TA
open Go.IntKind (i64)
attribute [-simp] List.getD_eq_getElem?_getD
def permS (x:TTr) (r:TRu):Bool:=r.F==x.Q&&und x.K r.K&&und x.V r.V
def codeN (n:TLa) (acc:List TTr) (x:TTr):Int :=
 if n.I.any (permS x)=true then
  (if x.C>leftS n acc (n.I.getD (n.I.findIdx (permS x)) dF) x then 13 else if x.C>hasS n acc x.K x.D x.H then 15 else if bndS n acc x=true then 14 else 0)
 else 12
def codeS (l:TLa) (acc:List TTr) (x:TTr):Int :=
 if plainS l x≠0 then plainS l x else if (inS l x.H).2≠0 then (inS l x.H).2 else codeN (inS l x.H).1 acc x
theorem z2s {t:List THe} {c:Y8} (h:leafT t c=true):c.length<=1000000:=lenC (leafGood h)
structure AcJ (l:TLa) (acc:List TTr):Prop where
 le:acc.length<=61
 ok:∀ x∈acc,plainS l x=0
variable {acc:List TTr} {l:TLa}
theorem AcJ.ac (h:AcJ l acc):AcOk acc:=by
 have hl:=h.le
 refine⟨om,fun x hx=>?_,fun x hx=>z2s (z15.1 (h.ok x hx)).2.2.2.2.1,fun x hx=>z2s (z15.1 (h.ok x hx)).2.2.2.2.2.1⟩
 have:=(z15.1 (h.ok x hx)).2.2.2.1
 omega
variable {x:TTr}
theorem zhl {r:TRu} (h1:r.K.length<=1000000) (h2:r.V.length<=1000000) (h3:x.K.length<=1000000) (h4:x.V.length<=1000000):F_q41 r x=some (permS x r):=by
 simp only[F_q41,S_q41,Scr.den,z2q h3 h1,z2q h4 h2,z6,permS]
 cases g1:(r.F==x.Q) <;> cases g2:und x.K r.K <;> simp[optD,AllP]
theorem zjc {n:TLa} (hn:NowOk n) (h3:x.K.length<=1000000) (h4:x.V.length<=1000000):F_q20 n.I x=some (if n.I.any (permS x)=true then (n.I.findIdx (permS x):Int) else -1):=by
 have hrl:=hn.rl
 simp only[F_q20,S_q20,Scr.den]
 rw[z1m n.I (permS x) (fun i=>(i:Int)) fun i hi=>by
  have:=hn.ru _ (z4 hi)
  simp only[S_q20_b1,Scr.den,zhl this.2.1 this.2.2 h3 h4,obind]
  split <;> rfl]
 split <;> rfl
variable {ask:Bool} {dy fail:Int} {now:TLa}
section
variable {l:TLa} (he:errL l=0)
include he
theorem zas (hJ:ask=true->inS l dy=(now,fail)) (ha:AcJ l acc) (x:TTr) :
  ∃ ask' dy' now' fail',F_q2l x l ask dy now fail acc=some (codeS l acc x,l,ask',dy',now',fail')/\(ask'=true->inS l dy'=(now',fail'))/\(plainS l x=0->ask'=true/\dy'=x.H):=by
 have hac:=ha.ac
 simp only[F_q2l,S_q2l,Scr.den,zjb he,zjk he x.H hJ acc,obind]
 by_cases hp:plainS l x=0
 ·rw[y3 (by simpa using hp)]
  obtain⟨_,_,hd,hm,h3,h4,_⟩:=z15.1 hp
  have h3:=z2s h3
  have h4:=z2s h4
  by_cases hi:(inS l x.H).2=0
  ·have hc:codeS l acc x=codeN (inS l x.H).1 acc x:=by unfold codeS; rw[y3 (by simpa using hp),y3 (by simpa using hi)]
   rw[y3 (by simpa using hi),hc]
   obtain⟨e1,hn,_⟩:=zlu he hi
   rw[e1,zjc hn h3 h4,obind]
   unfold codeN
   have hJ':true=true->inS l x.H=(forceL l x.H,0):=fun _=>by rw[<- e1,<- hi]
   by_cases hr:(forceL l x.H).I.any (permS x)=true
   ·have hlt:(forceL l x.H).I.findIdx (permS x)<(forceL l x.H).I.length:=y44.2 (by obtain⟨r,a,b⟩:=y1m.1 hr; exact⟨r,a,b⟩)
    rw[y4 hr,y4 hr,y3 sj]
    simp only[yf]
    have hru:=hn.ru _ (z4 hlt)
    simp only[zkq hn hac hru.1,z9z hn hac h3,zlt hn hac h3 h4 (show 0<=x.C/\x.C<=1000000000000 from om),obind]
    rw[z3 ⟨om,hlt,trivial⟩,hi]
    by_cases k1:x.C>leftS (forceL l x.H) acc ((forceL l x.H).I.getD ((forceL l x.H).I.findIdx (permS x)) dF) x
    ·rw[y4 (by simpa using k1),y4 k1]; exact⟨_,_,_,_,rfl,hJ',fun _=>⟨rfl,rfl⟩⟩
    rw[y3 (by simpa using k1),y3 k1]
    by_cases k2:x.C>hasS (forceL l x.H) acc x.K x.D x.H
    ·rw[y4 (by simpa using k2),y4 k2]; exact⟨_,_,_,_,rfl,hJ',fun _=>⟨rfl,rfl⟩⟩
    rw[y3 (by simpa using k2),y3 k2]
    by_cases k3:bndS (forceL l x.H) acc x=true
    ·rw[y4 k3,y4 k3]; exact⟨_,_,_,_,rfl,hJ',fun _=>⟨rfl,rfl⟩⟩
    rw[y3 k3,y3 k3]; exact⟨_,_,_,_,rfl,hJ',fun _=>⟨rfl,rfl⟩⟩
   ·rw[y3 hr,y3 hr,y4 dk,hi]; exact⟨_,_,_,_,rfl,hJ',fun _=>⟨rfl,rfl⟩⟩
  ·have hc:codeS l acc x=(inS l x.H).2:=by unfold codeS; rw[y3 (by simpa using hp),y4 (by simpa using hi)]
   rw[y4 (by simpa using hi),hc]
   exact⟨_,_,_,_,rfl,fun _=>rfl,fun _=>⟨rfl,rfl⟩⟩
 ·have hc:codeS l acc x=plainS l x:=by unfold codeS; rw[y4 (by simpa using hp)]
  rw[y4 (by simpa using hp),hc]
  exact⟨_,_,_,_,rfl,hJ,fun h=>absurd h hp⟩
end
theorem z3x (h:codeS l acc x=0):plainS l x=0:=by
 unfold codeS at h
 split at h
 ·exact h
 ·rename_i h'; exact y47.1 h'
def stepJ (l:TLa) (s:List TTr×List Int) (x:TTr):List TTr×List Int:=(if codeS l s.1 x=0 then s.1++[x] else s.1,s.2++[codeS l s.1 x])
def runJ (l:TLa) (L:List TTr):List TTr×List Int:=L.foldl (stepJ l) ([],[])
theorem z5e (l:TLa) (L:List TTr) (x:TTr):runJ l (L++[x])=stepJ l (runJ l L) x:=by
 unfold runJ; rw[List.foldl_append]; rfl
theorem z2j (l:TLa) (L:List TTr):(runJ l L).1.length<=L.length/\(runJ l L).2.length=L.length/\(∀ x∈(runJ l L).1,plainS l x=0)/\(runJ l L).1.Sublist L:=by
 suffices h:∀ n,∀ L:List TTr,L.length=n->(runJ l L).1.length<=L.length/\(runJ l L).2.length=L.length/\(∀ x∈(runJ l L).1,plainS l x=0)/\(runJ l L).1.Sublist L from h _ L rfl
 intro n
 induction n with
 | zero=>intro L h; rw[y1r.1 h]; exact⟨y7 _,rfl,by simp[runJ],List.Sublist.refl _⟩
 | succ n ih =>
  intro L h
  rcases List.eq_nil_or_concat L with rfl | ⟨M,x,rfl⟩
  ·cases h
  ·rw[List.concat_eq_append] at h |-
   rw[yb,yk] at h
   obtain⟨a,b,c,d⟩:=ih M om
   rw[z5e]
   unfold stepJ
   refine⟨?_,by simp only[yb,yk]; omega,?_,?_⟩
   ·simp only[yb,yk]
    split
    ·rw[yb,yk]; omega
    ·omega
   ·simp only
    split
    ·rename_i hc
     intro y hy
     rcases y12.1 hy with hy | hy
     ·exact c y hy
     ·obtain rfl:=y10.1 hy; exact z3x hc
    ·exact c
   ·simp only
    split
    ·exact List.Sublist.append d (List.Sublist.refl _)
    ·exact d.trans (List.sublist_append_left M [x])
theorem zat (a b:TTr):F_q2k a b=some (orE [cmpI a.H b.H,cmpI a.F b.F]):=by
 simp only[F_q2k,S_q2k,Scr.den,z3n,obind,z5c]
theorem zau {a b:TTr} (h:ltT a b):decide (orE [cmpI a.H b.H,cmpI a.F b.F]>=0)=false:=by
 simp only[z20,z30,cmpI,y1a]
 unfold ltT at h
 (repeat' split) <;> omega
section
variable {l:TLa} (he:errL l=0) {L:List TTr} (hl:L.length<=60) (hs:L.Pairwise ltT)
include he hl hs
theorem zjd {i:Nat} (hi:i<L.length) (hJ:ask=true->inS l dy=(now,fail)) :
  ∃ ask' dy' now' fail',(S_qa_b1 L i (l,ask,dy,now,fail,(runJ l (L.take i)).1,(runJ l (L.take i)).2)).den=some (.cont (l,ask',dy',now',fail',(runJ l (L.take (i+1))).1,(runJ l (L.take (i+1))).2))/\(ask'=true->inS l dy'=(now',fail')):=by
 obtain⟨a,b,c,_⟩:=z2j l (L.take i)
 have hlen:(L.take i).length=i:=by rw[y13]; omega
 rw[hlen] at a b
 obtain⟨ask',dy',now',fail',e,hJ',_⟩:=zas he hJ ⟨om,c⟩ (L.getD i dF)
 refine⟨ask',dy',now',fail',?_,hJ'⟩
 rw[yw hi,<- za hi,z5e]
 simp only[S_qa_b1,Scr.den,zat,e,obind,z6]
 rw[z6s,obind]
 have w:0<i->i64.wrap ((i:Int)-1)=((i-1:Nat):Int):=fun h=>wp h om
 have hi0:AllP [decide ((i:Int)>0)=true]->0<i:=fun h=>by have:=h.1; simp at this; omega
 rw[z3 ⟨fun h=>by rw[w (hi0 h)]; omega,fun h=>by rw[w (hi0 h),yf]; omega,trivial⟩]
 have hb:(decide ((i:Int)>0)&&decide ((@ite Int (AllP [decide ((i:Int)>0)=true]) (Classical.propDecidable _) (orE [cmpI (L.getD (i64.wrap ((i:Int)-1)).toNat dF).H (L.getD i dF).H,cmpI (L.getD (i64.wrap ((i:Int)-1)).toNat dF).F (L.getD i dF).F]) dF)>=0))=false:=by
  by_cases h0:0<i
  ·have hd:decide ((i:Int)>0)=true:=sk
   rw[y4 ⟨hd,trivial⟩,w h0,yf]
   have hlt:ltT (L.getD (i-1) dF) (L.getD i dF):=by
    rw[za om,za hi]
    exact y1u.1 hs (i-1) i om hi om
   rw[zau hlt,y48]
  ·rw[y1x (show ¬ (i:Int)>0 from om),y2x]
 rw[z3 ⟨hb,trivial⟩]
 unfold stepJ
 by_cases hc:codeS l (runJ l (L.take i)).1 (L.getD i dF)=0
 ·rw[y4 (by simpa using hc),Ga]
  simp only[outM]
  rw[Ga,y4 hc]
 ·rw[y3 (by simpa using hc)]
  simp only[outM]
  rw[Ga,y3 hc]
theorem zdf:∃ ask dy now fail,F_qa l L=some ((runJ l L).2,0,l,ask,dy,now,fail,(runJ l L).1)/\(ask=true->inS l dy=(now,fail)):=by
 have hsm:=z6p he
 obtain⟨a,b,c,_⟩:=z2j l L
 simp only[F_qa,S_qa,Scr.den,z7l hsm,he,obind,F_q2j,S_q2j]
 rw[z3 ⟨rfl,trivial⟩,z3 ⟨sk,trivial⟩]
 obtain⟨r,e,ask,dy,now,fail,h1,h2⟩:=zl (body:=fun i s=>(S_qa_b1 L i s).den) (n:=L.length) (fun i s=>∃ ask dy now fail,s=(l,ask,dy,now,fail,(runJ l (L.take i)).1,(runJ l (L.take i)).2)/\(ask=true->inS l dy=(now,fail)))
  (s0:=(l,false,0,(⟨0,0,[],[],[],[],[],[],[],[]⟩:TLa),0,[],[])) ⟨_,_,_,_,rfl,fun h=>by cases h⟩ (fun i s hi ⟨ask,dy,now,fail,e,hJ⟩=>by
   subst e
   obtain⟨ask',dy',now',fail',e',hJ'⟩:=zjd he hl hs hi hJ
   exact⟨_,e',_,_,_,_,rfl,hJ'⟩)
 rw[e,h1,y1z]
 simp only[outM]
 rw[Ga]
 exact⟨_,_,_,_,rfl,h2⟩
theorem zlv:F_q1h l L=some ((runJ l L).2,0):=by
 have hsm:=z6p he
 obtain⟨a,b,c,_⟩:=z2j l L
 simp only[F_q1h,S_q1h,Scr.den,z7l hsm,he,obind,F_q2j,S_q2j]
 rw[y3 sj,y3 sk]
 obtain⟨r,e,ask,dy,now,fail,h1,h2⟩:=zl (body:=fun i s=>(S_q1h_b1 L i s).den) (n:=L.length) (fun i s=>∃ ask dy now fail,s=(l,ask,dy,now,fail,(runJ l (L.take i)).1,(runJ l (L.take i)).2)/\(ask=true->inS l dy=(now,fail)))
  (s0:=(l,false,0,(⟨0,0,[],[],[],[],[],[],[],[]⟩:TLa),0,[],[])) ⟨_,_,_,_,rfl,fun h=>by cases h⟩ (fun i s hi ⟨ask,dy,now,fail,e,hJ⟩=>by
   subst e
   obtain⟨a,b,c,_⟩:=z2j l (L.take i)
   have hlen:(L.take i).length=i:=by rw[y13]; omega
   rw[hlen] at a b
   obtain⟨ask',dy',now',fail',e,hJ',_⟩:=zas he hJ ⟨om,c⟩ (L.getD i dF)
   refine⟨_,?_,ask',dy',now',fail',rfl,hJ'⟩
   rw[yw hi,<- za hi,z5e]
   simp only[S_q1h_b1,Scr.den,zat,e,obind,z6]
   rw[z6s,obind]
   have w:0<i->i64.wrap ((i:Int)-1)=((i-1:Nat):Int):=fun h=>wp h om
   have hi0:AllP [decide ((i:Int)>0)=true]->0<i:=fun h=>by have:=h.1; simp at this; omega
   rw[z3 ⟨fun h=>by rw[w (hi0 h)]; omega,fun h=>by rw[w (hi0 h),yf]; omega,trivial⟩]
   have hb:(decide ((i:Int)>0)&&decide ((@ite Int (AllP [decide ((i:Int)>0)=true]) (Classical.propDecidable _) (orE [cmpI (L.getD (i64.wrap ((i:Int)-1)).toNat dF).H (L.getD i dF).H,cmpI (L.getD (i64.wrap ((i:Int)-1)).toNat dF).F (L.getD i dF).F]) dF)>=0))=false:=by
    by_cases h0:0<i
    ·have hd:decide ((i:Int)>0)=true:=sk
     rw[y4 ⟨hd,trivial⟩,w h0,yf]
     have hlt:ltT (L.getD (i-1) dF) (L.getD i dF):=by
      rw[za om,za hi]
      exact y1u.1 hs (i-1) i om hi om
     rw[zau hlt,y48]
    ·rw[y1x (show ¬ (i:Int)>0 from om),y2x]
   rw[hb,y3 sj]
   unfold stepJ
   by_cases hc:codeS l (runJ l (L.take i)).1 (L.getD i dF)=0
   ·rw[y4 (by simpa using hc),Ga]
    simp only[outM]
    rw[Ga,y4 hc]
   ·rw[y3 (by simpa using hc)]
    simp only[outM]
    rw[Ga,y3 hc])
 rw[e,h1,y1z]
 simp only[outM]
 rw[Ga]
theorem zhm:F_q37 l L=some ((runJ l L).2,0):=by
 simp only[F_q37,S_q37,Scr.den,zlv he hl hs,obind]
theorem z33:F_qb l L=some ((runJ l L).1,0):=by
 obtain⟨ask,dy,now,fail,e,_⟩:=zdf he hl hs
 obtain⟨a,_⟩:=z2j l L
 simp only[F_qb,S_qb,Scr.den,e,obind]
 rw[y5j,y4 rfl,z3 ⟨rfl,trivial⟩,Ga]
end
end Go.Proofs.YtljnmhapbonmfaaGreatDoor
/- Room: the search for the greatest amount. No condition. -/
namespace Go.Proofs.YtljnmhapbonmfaaGreatDoor
open Go Go.TA
open Go.IntKind (i64)
attribute [-simp] List.getD_eq_getElem?_getD
def ruleS (n:TLa) (x:TTr):TRu:=n.I.getD (n.I.findIdx (permS x)) dF
structure OkN (n:TLa) (acc:List TTr) (x:TTr):Prop where
 ru:n.I.any (permS x)=true
 le:x.C<=leftS n acc (ruleS n x) x
 fu:x.C<=hasS n acc x.K x.D x.H
 bo:bndS n acc x=false
variable {x:TTr} {acc:List TTr}
theorem zft {n:TLa}:codeN n acc x=0↔OkN n acc x:=by
 unfold codeN
 by_cases h1:n.I.any (permS x)=true
 ·rw[y4 h1]
  by_cases h2:x.C>leftS n acc (n.I.getD (n.I.findIdx (permS x)) dF) x
  ·rw[y4 h2]; exact⟨fun h=>(by cases h),fun h=>absurd h.le (by unfold ruleS; omega)⟩
  rw[y3 h2]
  by_cases h3:x.C>hasS n acc x.K x.D x.H
  ·rw[y4 h3]; exact⟨fun h=>(by cases h),fun h=>absurd h.fu om⟩
  rw[y3 h3]
  by_cases h4:bndS n acc x=true
  ·rw[y4 h4]; exact⟨fun h=>(by cases h),fun h=>by rw[h.bo] at h4; cases h4⟩
  rw[y3 h4]
  exact⟨fun _=>⟨h1,by unfold ruleS; omega,om,yq.2 h4⟩,fun _=>rfl⟩
 ·rw[y3 h1]; exact⟨fun h=>(by cases h),fun h=>absurd h.ru h1⟩
variable {l:TLa}
theorem z3y:codeS l acc x=0↔plainS l x=0/\(inS l x.H).2=0/\OkN (inS l x.H).1 acc x:=by
 unfold codeS
 by_cases h1:plainS l x=0
 ·rw[y3 (by simpa using h1)]
  by_cases h2:(inS l x.H).2=0
  ·rw[y3 (by simpa using h2),zft]; exact⟨fun h=>⟨h1,h2,h⟩,fun h=>h.2.2⟩
  ·rw[y4 (by simpa using h2)]; exact⟨fun h=>absurd h h2,fun h=>absurd h.2.1 h2⟩
 ·rw[y4 (by simpa using h1)]; exact⟨fun h=>absurd h h1,fun h=>absurd h.1 h1⟩
def setA (x:TTr) (a:Int):TTr:=⟨x.F,x.H,x.D,x.Q,x.K,x.V,a⟩
variable {a b:Int}
theorem zhn (h:plainS l (setA x a)=0) (hb:1<=b/\b<=1000000000000):plainS l (setA x b)=0:=by
 obtain⟨h1,h2,h3,_,h5⟩:=z15.1 h
 exact z15.2 ⟨h1,h2,h3,hb,h5⟩
theorem z7q (h:codeS l acc (setA x a)=0) (hb:1<=b/\b<=a):codeS l acc (setA x b)=0:=by
 obtain⟨h1,h2,h3⟩:=z3y.1 h
 have ha:=(z15.1 h1).2.2.2.1
 have ha':a<=1000000000000:=ha.2
 refine z3y.2 ⟨zhn h1 ⟨hb.1,om⟩,h2,⟨h3.ru,?_,?_,?_⟩⟩
 ·exact Int.le_trans (show (setA x b).C<=(setA x a).C from hb.2) h3.le
 ·exact Int.le_trans (show (setA x b).C<=(setA x a).C from hb.2) h3.fu
 ·have h4:=h3.bo
  unfold bndS at h4 |-
  rw[y23,y2y,y2y] at h4 |-
  refine⟨fun z hz=>?_,fun z hz=>?_⟩
  ·have:=h4.1 z hz
   simp only[y6,y5,not_and] at this |-
   intro hm
   have:=this hm
   show ¬ hasS (inS l x.H).1 acc z.B z.D x.H+b>z.C
   have h5:¬ hasS (inS l x.H).1 acc z.B z.D x.H+a>z.C:=this
   omega
  ·have:=h4.2 z hz
   simp only[y6,y5,not_and] at this |-
   intro hm
   have:=this hm
   show ¬ hasS (inS l x.H).1 acc z.B z.D x.H-b<z.C
   have h5:¬ hasS (inS l x.H).1 acc z.B z.D x.H-a<z.C:=this
   omega
theorem half {n:Int} (h:0<=n/\n<=2000000000000):i64.wrap ((IntKind.u64.wrap (i64.wrap n)).fdiv (2 ^ (min (1:Int).toNat IntKind.u64.bits)))=n / 2:=by
 rw[wrapId (n:=n) om om,z9y om om]
 rw[show (2:Int) ^ (min (1:Int).toNat IntKind.u64.bits)=2 from rfl]
 rw[show n.fdiv 2=n / 2 by rw[Int.fdiv_eq_ediv_of_nonneg]; omega]
 exact wrapId om om
section
variable {l:TLa} (he:errL l=0) {acc:List TTr} (ha:AcJ l acc) (x:TTr)
include he ha
theorem zho {ask:Bool} {dy fail:Int} {now:TLa} (hJ:ask=true->inS l dy=(now,fail)) :
  ∃ r,F_q1g 1000000000000 x l ask dy now fail acc=some r/\(0<=r.1/\r.1<=1000000000000)/\(∀ m:Int,0<=m->m<r.1->codeS l acc (setA x (m+1))=0)/\∀ m:Int,r.1<=m->m<1000000000000->codeS l acc (setA x (m+1))≠0:=by
 obtain⟨st,e,h1,h2,h3⟩:=z1b (step:=fun s=>(S_q1g_b1 acc s).den) (fun s=>(s.2.2.2.2.2.2.2-s.2.2.2.2.2.2.1).toNat)
  (fun s=>(∃ a,s.1=setA x a)/\s.2.1=l/\(s.2.2.1=true->inS l s.2.2.2.1=(s.2.2.2.2.1,s.2.2.2.2.2.1))/\(0<=s.2.2.2.2.2.2.1/\s.2.2.2.2.2.2.1<=s.2.2.2.2.2.2.2/\s.2.2.2.2.2.2.2<=1000000000000)/\(∀ m:Int,0<=m->m<s.2.2.2.2.2.2.1->codeS l acc (setA x (m+1))=0)/\∀ m:Int,s.2.2.2.2.2.2.2<=m->m<1000000000000->codeS l acc (setA x (m+1))≠0)
  (fun s=>(0<=s.2.2.2.2.2.2.1/\s.2.2.2.2.2.2.1<=1000000000000)/\(∀ m:Int,0<=m->m<s.2.2.2.2.2.2.1->codeS l acc (setA x (m+1))=0)/\∀ m:Int,s.2.2.2.2.2.2.1<=m->m<1000000000000->codeS l acc (setA x (m+1))≠0) (fun s ⟨⟨a,q1⟩,q2,q3,q4,q5,q6⟩=>by
   obtain⟨s0,l0,ask,dy,now,fail,i,j⟩:=s
   simp only at q1 q2 q3 q4 q5 q6
   subst q1 q2
   simp only[S_q1g_b1,Scr.den]
   by_cases hk:i<j
   ·left
    rw[y4 (by simpa using hk),half om]
    have hw:i64.wrap ((i+j) / 2+1)=(i+j) / 2+1:=wrapId om om
    obtain⟨ask',dy',now',fail',e,hJ',_⟩:=zas he q3 ha (setA x ((i+j) / 2+1))
    simp only[F_q4m,S_q4m,Scr.den,hw]
    rw[show (⟨(setA x a).F,(setA x a).H,(setA x a).D,(setA x a).Q,(setA x a).K,(setA x a).V,(i+j) / 2+1⟩:TTr)=setA x ((i+j) / 2+1) from rfl,e]
    simp only[obind]
    by_cases hc:codeS l0 acc (setA x ((i+j) / 2+1))=0
    ·rw[y4 (by simpa using hc)]
     refine⟨_,rfl,⟨⟨_,rfl⟩,rfl,hJ',by simp only; omega,fun m h0 hm=>?_,q6⟩,by simp only; omega⟩
     exact z7q hc ⟨om,by simp only at hm; omega⟩
    ·rw[y3 (by simpa using hc)]
     refine⟨_,rfl,⟨⟨_,rfl⟩,rfl,hJ',by simp only; omega,q5,fun m h0 hm hz=>?_⟩,by simp only; omega⟩
     exact hc (z7q hz ⟨om,by simp only at h0; omega⟩)
   ·right
    rw[y3 (by simpa using hk)]
    have:i=j:=om
    subst this
    exact⟨_,rfl,by simp only; omega,q5,q6⟩) _ (x,l,ask,dy,now,fail,0,1000000000000) (y2v _)
  ⟨⟨x.C,rfl⟩,rfl,hJ,sj,fun m h0 hm=>absurd hm (by simp only; omega),fun m h0 hm=>absurd hm (by simp only at h0; omega)⟩
 simp only[F_q1g,S_q1g,Scr.den,e,outM]
 exact⟨_,rfl,h1,h2,h3⟩
end
theorem zks (he:errL l=0) {L:List TTr} (hl:L.length<=59) (hs:L.Pairwise ltT) (x:TTr) (hx:∀ a∈L,ltT a x) :
  ∃ n,F_q45 l L x=some (n,0)/\0<=n/\∀ y:Int,y<=1000000000001->(codeS l (runJ l L).1 (setA x y)=0↔1<=y/\y<=n):=by
 obtain⟨ask,dy,now,fail,e,hJ⟩:=zdf he om hs
 obtain⟨a,b,c,_⟩:=z2j l L
 obtain⟨r,e2,h1,h2,h3⟩:=zho he ⟨om,c⟩ x hJ
 simp only[F_q45,S_q45,Scr.den,e,zat,obind]
 rw[y5j,y4 rfl,z3 ⟨rfl,trivial⟩,z6s,obind]
 simp only[z6]
 have w:0<L.length->i64.wrap ((L.length:Int)-1)=((L.length-1:Nat):Int):=fun h=>wp h om
 have hi0:AllP [decide ((L.length:Int)>0)=true]->0<L.length:=fun h=>by have:=h.1; simp at this; omega
 rw[z3 ⟨fun h=>by rw[w (hi0 h)]; omega,fun h=>by have:=hi0 h; rw[w (hi0 h),yf]; omega,trivial⟩]
 have hb:(decide ((L.length:Int)>0)&&decide ((@ite Int (AllP [decide ((L.length:Int)>0)=true]) (Classical.propDecidable _) (orE [cmpI (L.getD (i64.wrap ((L.length:Int)-1)).toNat dF).H x.H,cmpI (L.getD (i64.wrap ((L.length:Int)-1)).toNat dF).F x.F]) dF)>=0))=false:=by
  by_cases h0:0<L.length
  ·have hd:decide ((L.length:Int)>0)=true:=sk
   rw[y4 ⟨hd,trivial⟩,w h0,yf,zau (hx _ (z4 om)),y48]
  ·rw[y1x (show ¬ (L.length:Int)>0 from om),y2x]
 rw[hb,y3 sj,y3 sk,e2,obind]
 refine⟨r.1,rfl,h1.1,fun y hy=>?_⟩
 constructor
 ·intro h
  have hp:=(z15.1 (z3x h)).2.2.2.1
  have hp':1<=y/\y<=1000000000000:=hp
  refine⟨hp'.1,?_⟩
  rcases Int.lt_or_le r.1 y with h' | h'
  ·exact absurd (by rw[show y-1+1=y from om]; exact h) (h3 (y-1) om om)
  ·exact h'
 ·rintro⟨k1,k2⟩
  have:=h2 (y-1) om om
  rwa [show y-1+1=y from om] at this
end Go.Proofs.YtljnmhapbonmfaaGreatDoor
/- The law TransferRoom. No condition. -/
namespace Go.Proofs.YtljnmhapbonmfaaGreatDoor
open Go Go.TA
open Go.IntKind (i64)
attribute [-simp] List.getD_eq_getElem?_getD
def pw:TLa:=⟨0,1,[⟨[49],[97]⟩,⟨[49,46,49],[98]⟩,⟨[50],[99]⟩],[⟨[49,46,49],0,500⟩,⟨[50],0,100⟩],[],[],[],[],[⟨1,[49],[50],10⟩],[]⟩
def px:TTr:=⟨1,0,0,1,[49,46,49],[50],0⟩
def pt:List TTr:=[⟨1,0,0,1,[49,46,49],[50],50⟩,⟨2,0,0,1,[49,46,49],[50],1⟩]
theorem pw0:errL pw=0:=kj
theorem pw1:(runJ pw pt).2=[0,13]:=kj
theorem pw2:codeS pw [] (setA px 50)=0:=kj
theorem pw3:codeS pw [] (setA px 51)=13:=kj
theorem z96:F_q2w=some true:=by
 have hp:pt.Pairwise ltT:=y2n.2 ⟨fun b hb=>by obtain rfl:=y10.1 hb; exact .inr ⟨rfl,dk⟩,y2l _ _⟩
 have e1:F_q37 pw pt=some ([0,13],0):=by rw[zhm pw0 dk hp,pw1]
 obtain⟨n,e2,h0,h1⟩:=zks pw0 (L:=[]) sj y3g px sj
 have hn:n=50:=by
  have a:=(h1 50 om).1 pw2
  have b:=fun h=>(h1 51 om).2 h
  rcases Int.lt_or_le n 51 with c | c
  ·omega
  ·have:=b ⟨om,c⟩
   rw[show (runJ pw []).1=[] from rfl,pw3] at this
   cases this
 subst hn
 have e0:F_q4n=some pw:=rfl
 simp only[F_q2w,S_q2w,Scr.den,e0,obind]
 rw[show ([(⟨1,0,0,1,[49,46,49],[50],50⟩:TTr),⟨2,0,0,1,[49,46,49],[50],1⟩]:List TTr)=pt from rfl,show (⟨1,0,0,1,[49,46,49],[50],0⟩:TTr)=px from rfl,e1,obind,e2,obind,z3 ⟨fun _=>dk,fun _=>dk,trivial⟩]
 rfl
end Go.Proofs.YtljnmhapbonmfaaGreatDoor
/- The reference's law in force. No condition. -/
namespace Go.Proofs.YtljnmhapbonmfaaGreatDoor
open Go Go.TA
open Go.IntKind (i64)
attribute [-simp] List.getD_eq_getElem?_getD
variable {b:List TBo}
theorem zm9 (h:OrdG plB b) {c:Y8} (hc:good c=true) (y:Int):F_q29 b c y=some ((posP (b.map plB) ⟨c,y⟩:Int),hasP (b.map plB) c y):=by
 have h1:(decide (posP (b.map plB) ⟨c,y⟩<(b.map plB).length)&&(cmpP ((b.map plB).getD (posP (b.map plB) ⟨c,y⟩) dF) ⟨c,y⟩==0))=hasP (b.map plB) c y:=(z84 h.srt h.gd (r:=⟨c,y⟩) ⟨hc,trivial⟩).1
 have hp:posP (b.map plB) ⟨c,y⟩=b.findIdx (fun x=>decide (0<=cmpP (plB x) ⟨c,y⟩)):=by unfold posP; rw[List.findIdx_map]; rfl
 simp only[F_q29,S_q29,Scr.den]
 rw[z1m b (fun x=>decide (0<=cmpP (plB x) ⟨c,y⟩)) (fun i=>((i:Int),(cmpP (plB (b.getD i dF)) ⟨c,y⟩==0))) fun i hi=>by
  have hg:=h.good _ (z4 hi)
  have hg':good (b.getD i dF).B=true:=hg
  simp only[S_q29_b1,Scr.den,z1x hg' hc,obind,ze,z6]
  have e1:(decide (lexC (parts (b.getD i dF).B) (parts c)>0)||(lexC (parts (b.getD i dF).B) (parts c)==0&&decide ((b.getD i dF).D>=y)))=decide (0<=cmpP (plB (b.getD i dF)) ⟨c,y⟩):=by
   have:=z47 (a:=plB (b.getD i dF)) (b:=⟨c,y⟩) (.inl hg)
   rw[y1n,yc,y6,ym,y5,y5,y5]
   have h2:(plB (b.getD i dF)).code=(b.getD i dF).B:=rfl
   have h3:(plB (b.getD i dF)).year=(b.getD i dF).D:=rfl
   rw[h2,h3] at this
   simp only at this
   omega
  have e2:(lexC (parts (b.getD i dF).B) (parts c)==0&&(b.getD i dF).D==y)=(cmpP (plB (b.getD i dF)) ⟨c,y⟩==0):=by
   have:=z50 (a:=plB (b.getD i dF)) (b:=⟨c,y⟩) hg hc
   rw[y1n,y6,ym,ym,ym,this]
   exact⟨fun⟨u,v⟩=>⟨z5n hg' hc (z3m u),v⟩,fun⟨u,v⟩=>⟨by rw[show (b.getD i dF).B=c from u]; exact z2p _,v⟩⟩
  rw[e1,e2]
  split <;> rfl]
 rw[<- h1,hp]
 by_cases ha:(b.any fun x=>decide (0<=cmpP (plB x) ⟨c,y⟩))=true
 ·have hlt:b.findIdx (fun x=>decide (0<=cmpP (plB x) ⟨c,y⟩))<b.length:=y44.2 (by obtain⟨r,a,e⟩:=y1m.1 ha; exact⟨r,a,e⟩)
  rw[y4 ha]
  simp only[outM,id]
  rw[y1g,y11 hlt,y1s,za hlt,za (by rw[y1g]; exact hlt),y3w]
 ·rw[y3 ha]
  have hge:b.findIdx (fun x=>decide (0<=cmpP (plB x) ⟨c,y⟩))=b.length:=by
   rw[y4t]
   intro x hx
   rw[y3m,y2y] at ha
   simpa using ha x hx
  simp only[outM]
  rw[hge,y1g,y1x om,y2x]
variable {x:TCh}
theorem zav (hl:b.length<=100000) (h:OrdG plB b) (hx:good x.B=true) (none:Int):F_q2y b x none=some (putG plB b ⟨x.B,x.D,x.C⟩ (x.C==none)):=by
 have hpl:=z51 (b.map plB) ⟨x.B,x.D⟩
 rw[y1g] at hpl
 simp only[F_q2y,S_q2y,Scr.den,zm9 h hx,obind,yf]
 have ht:(b.take (posP (b.map plB) ⟨x.B,x.D⟩)).length=posP (b.map plB) ⟨x.B,x.D⟩:=by rw[y13]; omega
 rw[z3 ⟨om,hpl,om,trivial⟩]
 have hlt:hasP (b.map plB) x.B x.D=true->posP (b.map plB) ⟨x.B,x.D⟩<b.length:=fun hh=>(z9w (x:=(⟨x.B,x.D,x.C⟩:TBo)) h hx hh).1
 unfold putG
 rw[show (plB ⟨x.B,x.D,x.C⟩).code=x.B from rfl,show (plB ⟨x.B,x.D,x.C⟩).year=x.D from rfl,show plB ⟨x.B,x.D,x.C⟩=⟨x.B,x.D⟩ from rfl]
 generalize posP (b.map plB) ⟨x.B,x.D⟩=p at *
 by_cases hr:x.C=none
 ·rw[y3 (by simpa using hr),show (x.C==none)=true by simpa using hr]
  simp only[outM]
  by_cases hh:hasP (b.map plB) x.B x.D=true
  ·have:=hlt hh
   rw[y4 hh,y4 hh]
   simp only
   rw[wrapId (n:=(p:Int)+1) om om,show ((p:Int)+1).toNat=p+1 from om,z3 ⟨om,om,by rw[y1p]; omega,trivial⟩,z3 ⟨by rw[yb,y1p]; omega,trivial⟩,y4 trivial,y52]
  ·rw[y3 hh,y3 hh]
   simp only[yf]
   rw[z3 ⟨om,om,by rw[y1p]; omega,trivial⟩,z3 ⟨by rw[yb,y1p]; omega,trivial⟩,y4 trivial,y2e]
 ·rw[y4 (by simpa using hr),show (x.C==none)=false by simpa using hr,Ga]
  simp only[outM]
  by_cases hh:hasP (b.map plB) x.B x.D=true
  ·have:=hlt hh
   rw[y4 hh,y4 hh]
   simp only
   rw[wrapId (n:=(p:Int)+1) om om,show ((p:Int)+1).toNat=p+1 from om,z3 ⟨om,om,by rw[yb,yk,y1p]; omega,trivial⟩,z3 ⟨by rw[yb,yb,yk,y1p]; omega,trivial⟩,y3 sj,List.set_eq_take_append_cons_drop,y4 this,y1o]
   rfl
  ·rw[y3 hh,y3 hh]
   simp only[yf]
   rw[z3 ⟨om,om,by rw[yb,yk,y1p]; omega,trivial⟩,z3 ⟨by rw[yb,yb,yk,y1p]; omega,trivial⟩,y3 sj,y1o]
   rfl
def lb (x:TLi):TBo:=⟨x.B,x.D,x.C⟩
def bl (x:TBo):TLi:=⟨x.B,x.D,x.C⟩
theorem zjl (l:List TLi):(l.map lb).map plB=l.map plL:=by rw[List.map_map]; rfl
variable {l:List TLi}
theorem zlw (h:OrdG plL l):OrdG plB (l.map lb):=⟨by rw[zjl]; exact h.pw,fun x hx=>by obtain⟨y,hy,rfl⟩:=yv.1 hx; exact h.good y hy⟩
theorem zlx (l:List TLi) (x:TLi) (rm:Bool):putG plB (l.map lb) (lb x) rm=(putG plL l x rm).map lb:=by
 unfold putG
 rw[zjl,show (plB (lb x)).code=(plL x).code from rfl,show (plB (lb x)).year=(plL x).year from rfl,show plB (lb x)=plL x from rfl]
 split
 ·split
  ·simp only[y52,y30,y5k,List.map_drop]
  ·rw[List.map_set]
 ·split
  ·rfl
  ·unfold insL
   simp only[y30,y5k,List.map_drop,y2c]
theorem zma (l:List TLi):(l.map lb).map bl=l:=by rw[List.map_map]; exact List.map_id l
theorem zfu (hl:l.length<=100000):F_q28 l=some (l.map lb):=by
 simp only[F_q28,S_q28,Scr.den]
 rw[z1j l (fun _=>true) lb 1000000 om fun i s hi hs=>by
  simp only[S_q28_b1,Scr.den]
  rw[Ga]; rfl]
 simp only[outM]
 rw[show l.filter (fun _=>true)=l from y3x.2 fun _ _=>rfl]
 rw[z3 ⟨by rw[y1g]; omega,trivial⟩]
theorem zhp {l:List TBo} (hl:l.length<=1000000):F_q2a l=some (l.map bl):=by
 simp only[F_q2a,S_q2a,Scr.den]
 rw[z1j l (fun _=>true) bl 1000000 om fun i s hi hs=>by
  simp only[S_q2a_b1,Scr.den]
  rw[Ga]; rfl]
 simp only[outM]
 rw[show l.filter (fun _=>true)=l from y3x.2 fun _ _=>rfl]
 rw[z3 ⟨by rw[y1g]; omega,trivial⟩]
theorem ze0 {n:Nat} {l:TLa} {cs:List TCh} (h:WL n l) (hc:∀ x∈cs,good x.B=true/\(x.N=1\/x.N=2\/x.N=3)) (hn:n+cs.length<=100000) :
  F_q1q l cs=some (if bigL (applyS cs l) then (zL,3) else (applyS cs l,0)):=by
 have hll:=h.ll
 simp only[F_q1q,S_q1q,Scr.den,zfu (show l.P.length<=100000 from om),obind]
 rw[Ga]
 obtain⟨r,e,h1,h2⟩:=zl (body:=fun i s=>(S_q1q_b1 cs i s).den) (n:=cs.length) (fun i s=>s.1={ applyS (cs.take i) l with P:=l.P }/\s.2=(applyS (cs.take i) l).P.map lb) (s0:=(l,l.P.map lb)) ⟨rfl,rfl⟩ (fun i s hi ⟨q1,q2⟩=>by
  obtain⟨s1,s2⟩:=s
  simp only at q1 q2
  subst q1 q2
  have hw:=z5o (cs:=cs.take i) (fun x hx=>(hc x (y1h hx)).1) h
  have hlen:(cs.take i).length=i:=by rw[y13]; omega
  rw[hlen] at hw
  have k1:=hw.ll; have k2:=hw.cl; have k3:=hw.fl
  obtain⟨hg,hk⟩:=hc _ (z4 hi)
  simp only[S_q1q_b1,Scr.den,y1l]
  rw[z3 ⟨hi,trivial⟩,yw hi,<- za hi,z9x,show applyS [cs.getD i dF] (applyS (cs.take i) l)=setS (cs.getD i dF) (applyS (cs.take i) l) from rfl]
  unfold setS
  rcases hk with hk | hk | hk
  ·rw[y4 (by simpa using hk),zav (by rw[y1g]; omega) (zlw hw.lo) hg,obind,y4 hk]
   exact⟨_,rfl,rfl,zlx _ ⟨(cs.getD i dF).B,(cs.getD i dF).D,(cs.getD i dF).C⟩ _⟩
  ·rw[y3 (by rw[hk]; decide),y4 (by rw[hk]; decide),zav om hw.co hg,obind,y3 om,y4 hk]
   exact⟨_,rfl,rfl,rfl⟩
  ·rw[y3 (by rw[hk]; decide),y3 (by rw[hk]; decide),zav om hw.fo hg,obind,y3 om,y3 om,y4 hk]
   exact⟨_,rfl,rfl,rfl⟩)
 obtain⟨r1,r2⟩:=r
 simp only at h1 h2
 subst h1 h2
 rw[y1z] at e
 have hw:=z5o (cs:=cs) (fun x hx=>(hc x hx).1) h
 have k1:=hw.ll
 rw[e]
 simp only[outM,ze]
 rw[zhp (by rw[y1g]; omega),obind,zma]
 by_cases hb:bigL (applyS cs l)
 ·rw[y4 hb,y4 (by unfold bigL at hb; simp only[yc,y5]; omega)]; rfl
 ·rw[y3 hb,y3 (by unfold bigL at hb; simp only[yc,y5]; omega)]
theorem zje {t:List THe} {f y:Int} (h:z1e t f y x=0):x.N=1\/x.N=2\/x.N=3:=by
 unfold z1e at h
 split at h
 ·cases h
 ·omega
theorem z8i {l:TLa} (he:errL l=0) (ha:l.A.length<=1) (d:Int):F_qd l d=some (inS l d):=by
 have hs:=z6p he
 obtain⟨hr,hw,hb⟩:=z1s.1 he
 have hf:=z6n hr
 simp only[F_qd,S_qd,Scr.den,zfm hs,he,obind,F_q4o,S_q4o,z6]
 rw[y3 sj]
 unfold inS
 rw[y4 he]
 by_cases hd:d<0\/d>36000
 ·rw[y4 hd,y4 sk]; rfl
 ·rw[y3 hd,y3 sk]
  have hloop:rangeM (fun i s=>(S_qd_b1 l d i s).den) l.A.length 0 (([]:List TCh),([]:List TAm))=some (.next (nowC l d,l.A.drop (laterI l d))):=by
   unfold nowC laterI
   match hA:l.A,ha with
   | [],_=>rfl
   | [a],_ =>
    have hl:a.M.length<=20:=hf.2 a (by rw[hA]; exact y10.2 rfl)
    by_cases h:a.H<=d
    ·have hb:(S_qd_b1 l d 0 ([],[])).den=some (.cont (a.M,[])):=by
      simp only[S_qd_b1,Scr.den,hA,y4g]
      rw[y4 (by simpa using h),z3 ⟨by simp only[y1d]; omega,trivial⟩]; rfl
     show rangeM _ 1 0 _=_
     simp only[rangeM,hb]
     rw[show ([a].findIdx fun a=>decide (a.H>d))=1 by simp[List.findIdx_cons,show ¬ d<a.H from om]]
     simp
    ·have hb:(S_qd_b1 l d 0 ([],[])).den=some (.cont ([],[a])):=by
      simp only[S_qd_b1,Scr.den,hA,y4g]
      rw[y3 (by simpa using h),z3 ⟨sj,trivial⟩]; rfl
     show rangeM _ 1 0 _=_
     simp only[rangeM,hb]
     rw[show ([a].findIdx fun a=>decide (a.H>d))=0 by simp[List.findIdx_cons,show d<a.H from om]]
     simp
  rw[hloop]
  simp only[outM]
  rw[z3 ⟨by rw[y1p]; omega,trivial⟩]
  have h0:WL 120 { l with A:=l.A.drop (laterI l d) }:=by
   have:=zjj hw hb
   exact⟨this.lo,this.ll,this.co,this.cl,this.fo,this.fl⟩
  have hc:=z85 hr d
  have hn:=zek hr d
  rw[ze0 h0 (fun x hx=>⟨chgG hr.tr (hc x hx),zje (hc x hx)⟩) om,obind]
  unfold forceL
  split <;> rfl
end Go.Proofs.YtljnmhapbonmfaaGreatDoor
/- Accepted transfers alone are all accepted; lines,sums under a leaf. No condition. -/
namespace Go.Proofs.YtljnmhapbonmfaaGreatDoor
open Go Go.TA
open Go.IntKind (i64)
attribute [-simp] List.getD_eq_getElem?_getD
def AllOk (l:TLa) (acc:List TTr):Prop:=∀ i,i<acc.length->codeS l (acc.take i) (acc.getD i dF)=0
variable {l:TLa} {acc:List TTr}
theorem zfv (h:AllOk l acc) {x:TTr} (hx:codeS l acc x=0):AllOk l (acc++[x]):=fun i hi=>by
 rw[yb,yk] at hi
 by_cases hi':i<acc.length
 ·have:=h i hi'
  rw[y45 om,za (by rw[yb]; omega),List.getElem_append_left hi',<- za hi']
  exact this
 ·have e:i=acc.length:=om
  subst e
  rw[y45 (y7 _),y1z,za (by rw[yb,yk]; omega),List.getElem_append_right (y7 _)]
  simpa using hx
theorem zhq (l:TLa):∀ (n:Nat) (L:List TTr),L.length=n->AllOk l (runJ l L).1:=by
 intro n
 induction n with
 | zero=>intro L h; rw[y1r.1 h]; intro i hi; exact absurd hi (by simp[runJ])
 | succ n ih =>
  intro L h
  rcases List.eq_nil_or_concat L with rfl | ⟨M,x,rfl⟩
  ·cases h
  ·rw[List.concat_eq_append] at h |-
   rw[yb,yk] at h
   have:=ih M om
   rw[z5e]
   unfold stepJ
   simp only
   split
   ·rename_i hc; exact zfv this hc
   ·exact this
theorem zhr (h:AllOk l acc):(runJ l acc).1=acc:=by
 have key:∀ i,i<=acc.length->(runJ l (acc.take i)).1=acc.take i:=by
  intro i
  induction i with
  | zero=>intro _; rfl
  | succ i ih =>
   intro hi
   have h1:=ih om
   rw[yw om,z5e]
   unfold stepJ
   simp only
   rw[h1,<- za om,y4 (h i om)]
 have:=key acc.length (y7 _)
 rwa [y1z] at this
theorem za1 {L:List TTr}:F_q1i L L=some true:=by
 simp only[F_q1i,S_q1i,Scr.den]
 rw[y3 sj]
 rw[z4e fun i hi=>by
  simp only[S_q1i_b1,Scr.den]
  rw[z3 ⟨hi,trivial⟩,y3 sj]]
 rfl
theorem zkt {l:List TLi} (h:OrdG plL l) (c:Y8) (y:Int):smm (fun x=>if (x.B==c&&x.D==y)=true then x.C else 0) l=lineA l c y:=by
 have hp:=h.pw
 have hg:=h.good
 unfold lineA
 induction l with
 | nil=>rfl
 | cons x l ih =>
  obtain⟨p1,p2⟩:=y2n.1 (show List.Pairwise _ (plL x :: l.map plL) from hp)
  have ih':=ih ⟨p2,fun z hz=>hg z (yh _ hz)⟩ p2 (fun z hz=>hg z (yh _ hz))
  simp only[smm,y4j]
  by_cases hx:(x.B==c&&x.D==y)=true
  ·rw[y4 hx,hx]
   have h0:smm (fun x=>if (x.B==c&&x.D==y)=true then x.C else 0) l=0:=by
    have hz:∀ z∈l,(if (z.B==c&&z.D==y)=true then z.C else 0)=0:=fun z hz=>by
     rw[y3]
     intro e
     simp only[y6,ym] at e hx
     have h1:=p1 (plL z) (yv.2 ⟨z,hz,rfl⟩)
     have h2:cmpP (plL x) (plL z)=0:=(z50 (hg x y16) (hg z (yh _ hz))).2 ⟨by show x.B=z.B; rw[hx.1,e.1],by show x.D=z.D; rw[hx.2,e.2]⟩
     omega
    rw[z1q (v:=fun _=>0) hz]
    have:∀ m:List TLi,smm (fun _=>(0:Int)) m=0:=fun m=>by
     induction m with
     | nil=>rfl
     | cons a m ih=>simp only[smm,ih]; omega
    exact this l
   rw[h0]; simp
  ·rw[y3 hx,ih',yq.2 hx]; simp
variable {d:Int}
section
variable {l:TLa} (hl:RL l)
include hl
theorem za2 (_hd:0<=d/\d<=36000):∀ x∈(forceL l d).P,leafT l.E x.B=true:=fun x hx=>by
 have he:=z48 hl.ml.ok d (hl.ml.nbig d)
 obtain⟨_,hw,_⟩:=z1s.1 he
 have:=hw.l1 x hx
 have ht:(forceL l d).E=l.E:=(z6o l d).2.2.1
 unfold z1d at this
 rw[ht] at this
 cases h:leafT l.E x.B
 ·rw[h] at this; simp at this
 ·rfl
theorem zhs (d:Int):OrdG plL (forceL l d).P:=(z1s.1 (z48 hl.ml.ok d (hl.ml.nbig d))).2.1.lo
theorem zdg (hd:0<=d/\d<=36000) {c:Y8} (hc:leafT l.E c=true) {y:Int} (hy:y≠-1):totA (forceL l d).P c y=lineA (forceL l d).P c y:=by
 rw[<- zkt (zhs hl d)]
 unfold totA
 refine z1q fun x hx=>?_
 have hx':=za2 hl hd x hx
 have hu:=hl.t5.und hx' hc
 have hne:c≠[]:=fun e=>by rw[e] at hc; exact absurd (leafGood hc) dk
 have:linC c y x=(x.B==c&&x.D==y):=by
  unfold linC
  rw[y1n]
  simp only[y6,yc,ym]
  constructor
  ·rintro⟨a,b⟩
   exact⟨hu.1 (b.resolve_left hne),a.resolve_left hy⟩
  ·rintro⟨a,b⟩
   exact⟨.inr b,.inr (hu.2 a)⟩
 rw[this]
theorem zht:∀ {k i:Nat},k<i->i<l.I.length->(l.I.getD k dF).F<(l.I.getD i dF).F:=by
 have hr:=(z1s.1 hl.ml.ok).1.ru
 have h1:∀ i,0<i->i<l.I.length->(l.I.getD (i-1) dF).F<(l.I.getD i dF).F:=fun i h0 hi=>by
  have:=(z10.1 hr) i hi
  unfold ruleE at this
  simpa using (z3d.1 this).2 h0
 intro k i hki
 induction i with
 | zero=>omega
 | succ i ih =>
  intro hi
  have h2:=h1 (i+1) om hi
  rw[Nat.add_sub_cancel] at h2
  by_cases e:k=i
  ·subst e; exact h2
  ·have:=ih om om; omega
end
end Go.Proofs.YtljnmhapbonmfaaGreatDoor
/- The law TransferFunds. No condition. -/
namespace Go.Proofs.YtljnmhapbonmfaaGreatDoor
open Go Go.TA
open Go.IntKind (i64)
attribute [-simp] List.getD_eq_getElem?_getD
def inW (c:Y8) (y:Int) (z:TTr):Int:=(if (z.D==y&&z.V==c)=true then z.C else 0)-(if (z.D==y&&z.K==c)=true then z.C else 0)
def gvW (c:Y8) (y ru:Int) (z:TTr):Int:=if (z.D==y&&z.K==c)=true then (if (z.Q==ru)=true then z.C else 0) else 0
section
variable {l:TLa} (hl:RL l) {acc:List TTr} {x:TTr} (ha:∀ y∈acc,plainS l y=0) (hd:∀ y∈acc,y.H<=x.H) (hc:codeS l acc x=0)
include hl ha hd hc
omit hl ha hd in
theorem zdh:0<=x.H/\x.H<=36000:=by have:=(z15.1 (z3x hc)).2.2.1; omega
omit ha hd in
theorem zhu:OkN (forceL l x.H) acc x:=by
 obtain⟨_,_,h⟩:=z3y.1 hc
 rwa [hl.ml.inS (zdh hc)] at h
theorem zly (y:TTr) (hy:y∈acc):movW x.K x.D x.H y=inW x.K x.D y:=by
 obtain⟨_,_,_,_,f1,f2,_,hyr,_⟩:=z15.1 (z3x hc)
 obtain⟨_,_,_,_,g1,g2,_⟩:=z15.1 (ha y hy)
 have hyr':x.D≠-1:=fun e=>by
  rw[e] at hyr
  have hf:=hl.fi; have hy:=hl.ye
  have:=(z52 om om om).1 hyr
  omega
 have u1:=hl.t5.und g2 f1
 have u2:=hl.t5.und g1 f1
 unfold movW inW
 rw[y1x (show ¬ y.H>x.H by have:=hd y hy; omega),y4a,show (x.D != -1)=true by simpa using hyr',y1s]
 by_cases e:y.D=x.D
 ·rw[y3 (by simpa using e),show (y.D==x.D)=true by simpa using e,y1s,y1s]
  have a1:(und y.V x.K=true)↔((y.V==x.K)=true):=by rw[u1,ym]
  have a2:(und y.K x.K=true)↔((y.K==x.K)=true):=by rw[u2,ym]
  simp only[a1,a2]
 ·rw[y4 (by simpa using e),show (y.D==x.D)=false by simpa using e,y2x,y2x]
  rfl
theorem funds:x.C<=lineA (forceL l x.H).P x.K x.D+smm (inW x.K x.D) acc:=by
 have h:=(zhu hl hc).fu
 obtain⟨_,_,_,_,f1,f2,_,hyr,_⟩:=z15.1 (z3x hc)
 have hyr':x.D≠-1:=fun e=>by
  rw[e] at hyr
  have hf:=hl.fi; have hy:=hl.ye
  have:=(z52 om om om).1 hyr
  omega
 unfold hasS at h
 rw[zdg hl (zdh hc) f1 hyr',z1q (zly hl ha hd hc)] at h
 exact h
omit ha hd in
theorem zku:∃ k,k<l.I.length/\(l.I.getD k dF).F=x.Q/\smm (gvW x.K x.D x.Q) acc+x.C<=pctS (lineA (forceL l x.H).P x.K x.D) (l.I.getD k dF).R:=by
 have h:=zhu hl hc
 have hru:(forceL l x.H).I=l.I:=(z6o l x.H).2.2.2.2.2.1
 have h1:=h.ru; have h2:=h.le
 unfold ruleS leftS at h2
 rw[hru] at h1 h2
 have hk:l.I.findIdx (permS x)<l.I.length:=y44.2 (by obtain⟨r,a,e⟩:=y1m.1 h1; exact⟨r,a,e⟩)
 have hp:=y5a (xs:=l.I) (p:=permS x) (w:=hk)
 refine⟨_,hk,?_,?_⟩
 ·rw[za hk]
  unfold permS at hp
  simp only[y6,ym] at hp
  exact hp.1.1
 ·have:∀ y∈acc,givW x y=gvW x.K x.D x.Q y:=fun y _=>by
   unfold givW gvW
   cases g1:(y.Q==x.Q) <;> cases g2:(y.D==x.D) <;> cases g3:(y.K==x.K) <;> simp
  rw[z1q this] at h2
  omega
end
theorem z7r (a:List Int):F_q7 a=some true:=by
 obtain⟨s0,e0,o0⟩:=z8x a
 obtain⟨l,s1,e1,o1,hl⟩:=z6q o0
 obtain⟨L,s2,e2,o2,hlen,hL⟩:=z64 hl (n:=8) om o1
 have he:=hl.ml.ok
 have hf:=hl.fi; have hy:=hl.ye
 have hlen':L.length<=8:=om
 obtain⟨k1,_,k3,k4⟩:=z2j l L
 have hgs:(runJ l L).1.Pairwise ltT:=hL.so.sublist k4
 have hgd:(runJ l L).1.Pairwise fun a b=>a.H<=b.H:=hL.dd.sublist k4
 have hok:=zhq l _ L rfl
 obtain⟨G,hG⟩:∃ G,G=(runJ l L).1:=⟨_,rfl⟩
 have hrun:(runJ l G).1=G:=by rw[hG]; exact zhr hok
 have eA:F_qb l L=some (G,0):=by rw[z33 he om hL.so,<- hG]
 rw[<- hG] at k1 k3 hgs hgd hok k4
 have eB:F_qb l G=some (G,0):=by rw[z33 he om hgs,hrun]
 simp only[F_q7,S_q7,Scr.den,e0,e1,e2,eA,eB,obind,ze]
 rw[Gg,za1,obind,y3 sj]
 rw[z4e fun i hi=>by
  have hx:=z4 hi
  have hc:=hok i hi
  have hacc:∀ y∈G.take i,plainS l y=0:=fun y hy=>k3 y (y1h hy)
  have hdd:∀ y∈G.take i,y.H<=(G.getD i dF).H:=fun y hy=>by
   obtain⟨j,hj,rfl⟩:=y2z hy
   rw[y13] at hj
   rw[y5o,za hi]
   exact y1u.1 hgd j i om hi om
  have hday:=zdh hc
  have hfun:=funds hl hacc hdd hc
  obtain⟨k,hk,hkn,hkp⟩:=zku hl hc
  obtain⟨_,_,_,hxa,f1,f2,fne,hyr,_⟩:=z15.1 (k3 _ hx)
  have hnow:=za0 (z48 he (G.getD i dF).H (hl.ml.nbig _))
  have hline:=z95 hnow.la (G.getD i dF).K (G.getD i dF).D
  have hin:=hl.ml.inS hday
  obtain⟨x,hxd⟩:∃ x,x=G.getD i dF:=⟨_,rfl⟩
  have hG1:G.take (i+1)=G.take i++[x]:=by rw[yw hi,<- za hi,hxd]
  have w:(i64.wrap ((i:Int)+1)).toNat=i+1:=by rw[wrapId om om]; omega
  have w0:(0:Int)<=i64.wrap ((i:Int)+1):=by rw[wrapId om om]; omega
  simp only[S_q7_b3,Scr.den,z8i he hl.a1,hin,zel,obind]
  rw[y3 sj,z3 ⟨w0,by rw[w]; omega,trivial⟩,w,<- hxd]
  rw[<- hxd] at hc hday hfun hkn hkp hxa f1 f2 fne hyr hline hin hdd
  have hGa:∀ y∈G.take (i+1),1<=y.C/\y.C<=1000000000000:=fun y hy=>(z15.1 (k3 y (y1h hy))).2.2.2.1
  have hGl:(G.take (i+1)).length=i+1:=by rw[y13]; omega
  obtain⟨r,e,q1,q2⟩:=zl (body:=fun j s=>(S_q7_b1 (G,0) i j s).den) (n:=(G.take (i+1)).length)
   (fun j s=>s.1=lineA (forceL l x.H).P x.K x.D+smm (inW x.K x.D) ((G.take (i+1)).take j)/\s.2=smm (gvW x.K x.D x.Q) ((G.take (i+1)).take j)) (s0:=(lineA (forceL l x.H).P x.K x.D,0)) ⟨by simp[smm],by simp[smm]⟩ (fun j s hj ⟨q1,q2⟩=>by
    have hz:=hGa _ (z4 hj)
    have b1:=z5d (inW x.K x.D) 1000000000000 ((G.take (i+1)).take j) fun y hy=>by
     have:=hGa y (y1h hy)
     unfold inW; (repeat' split) <;> omega
    have b2:=z5d (gvW x.K x.D x.Q) 1000000000000 ((G.take (i+1)).take j) fun y hy=>by
     have:=hGa y (y1h hy)
     unfold gvW; (repeat' split) <;> omega
    have hjl:((G.take (i+1)).take j).length=j:=by rw[y13]; omega
    rw[hjl] at b1 b2
    rw[z94 _ hj,z94 _ hj]
    obtain⟨u,v⟩:=s
    simp only at q1 q2
    simp only[S_q7_b1,Scr.den,z6,w]
    rw[<- hxd]
    obtain⟨z,hzd⟩:∃ z,z=(G.take (i+1)).getD j dF:=⟨_,rfl⟩
    rw[<- hzd] at hz |-
    have hj8:j<=8:=om
    rw[show inW x.K x.D z=(if (z.D==x.D&&z.V==x.K)=true then z.C else 0)-(if (z.D==x.D&&z.K==x.K)=true then z.C else 0) from rfl,show gvW x.K x.D x.Q z=if (z.D==x.D&&z.K==x.K)=true then (if (z.Q==x.Q)=true then z.C else 0) else 0 from rfl]
    by_cases c1:(z.D==x.D&&z.V==x.K)=true
    ·rw[y4 c1,y4 c1]
     simp only[outM]
     rw[wrapId (n:=u+z.C) om om]
     by_cases c2:(z.D==x.D&&z.K==x.K)=true
     ·rw[y4 c2,y4 c2,y4 c2,wrapId (n:=u+z.C-z.C) om om]
      by_cases c3:(z.Q==x.Q)=true
      ·rw[y4 c3,y4 c3,wrapId (n:=v+z.C) om om]
       exact⟨_,rfl,by simp only; omega,by simp only; omega⟩
      ·rw[y3 c3,y3 c3]
       exact⟨_,rfl,by simp only; omega,by simp only; omega⟩
     ·rw[y3 c2,y3 c2,y3 c2]
      exact⟨_,rfl,by simp only; omega,by simp only; omega⟩
    ·rw[y3 c1,y3 c1]
     simp only[outM]
     by_cases c2:(z.D==x.D&&z.K==x.K)=true
     ·rw[y4 c2,y4 c2,y4 c2,wrapId (n:=u-z.C) om om]
      by_cases c3:(z.Q==x.Q)=true
      ·rw[y4 c3,y4 c3,wrapId (n:=v+z.C) om om]
       exact⟨_,rfl,by simp only; omega,by simp only; omega⟩
      ·rw[y3 c3,y3 c3]
       exact⟨_,rfl,by simp only; omega,by simp only; omega⟩
     ·rw[y3 c2,y3 c2,y3 c2]
      exact⟨_,rfl,by simp only; omega,by simp only; omega⟩)
  rw[y1z] at q1 q2
  rw[e]
  simp only[outM]
  obtain⟨sh,e',hsh⟩:=zl (body:=fun j s=>(S_q7_b2 (l,s1) (G,0) i (forceL l x.H,0) j s).den) (n:=l.I.length)
   (fun j s=>k<j->s=pctS (lineA (forceL l x.H).P x.K x.D) (l.I.getD k dF).R) (s0:=(0:Int)) (fun h=>om) (fun j s hj h=>by
    simp only[S_q7_b2,Scr.den,zel,obind]
    rw[<- hxd]
    have hpr:=(hl.ru _ (z4 hj)).2.2
    have h1:0<=lineA (forceL l x.H).P x.K x.D * (l.I.getD j dF).R:=Int.mul_nonneg hline.1 hpr.1
    have h2:lineA (forceL l x.H).P x.K x.D * (l.I.getD j dF).R<=1000000000000 * 100:=Int.mul_le_mul hline.2 hpr.2.1 hpr.1 om
    by_cases hn:(l.I.getD j dF).F=x.Q
    ·rw[y4 (by simpa using hn),wrapId (n:=lineA (forceL l x.H).P x.K x.D * (l.I.getD j dF).R) om om,y4d h1,wrapId om om]
     refine⟨_,rfl,fun hkj=>?_⟩
     have:k=j:=by
      rcases Nat.lt_trichotomy k j with c | c | c
      ·have:=zht hl c hj; omega
      ·exact c
      ·omega
     subst this
     rfl
    ·rw[y3 (by simpa using hn)]
     refine⟨_,rfl,fun hkj=>h ?_⟩
     rcases yl k j with c | c
     ·exact c
     ·have:k=j:=om
      subst this
      exact absurd hkn hn)
  rw[e']
  simp only
  have hs:=hsh hk
  rw[hG1,z1g] at q1 q2
  have t1:smm (inW x.K x.D) [x]=-x.C:=by
   simp only[smm,inW]
   rw[y3 (by simp; exact fun h=>fne h.symm),y4 sj]; omega
  have t2:smm (gvW x.K x.D x.Q) [x]=x.C:=by
   simp only[smm,gvW]
   rw[y4 sj,y4 sj]; omega
  rw[t1] at q1
  rw[t2] at q2
  rw[ze,y3 (by simp only[yc,y5]; omega)]]
 simp only[outM,z96,obind]
end Go.Proofs.YtljnmhapbonmfaaGreatDoor
