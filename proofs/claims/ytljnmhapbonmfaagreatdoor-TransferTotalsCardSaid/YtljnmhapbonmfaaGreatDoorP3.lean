/- A part of the proof: plain laws of what the functions compute. No condition. -/
import Derived.Test.YtljnmhapbonmfaaGreatDoorP2
/- What the leaves have; rows of accepted transfers, step by step. No condition. -/
namespace Go.Proofs.YtljnmhapbonmfaaGreatDoor
open Go Go.TA
attribute [-simp] List.getD_eq_getElem?_getD
theorem za3 {σ ρ:Type} {body:Nat->σ->Option (Step σ ρ)} {n:Nat} (I:σ->Prop) (hs:∀ i s,i<n->I s->(∃ s',body i s=some (.cont s')/\I s')\/∃ s',body i s=some (.brk s')) :
  ∀ (k i:Nat) (s:σ),i+k=n->I s->∃ s',rangeM body k i s=some (.next s')
 | 0,i,s,_,_=>⟨s,rfl⟩
 | k+1,i,s,hk,h=>by
  rcases hs i s om h with ⟨s1,e,h1⟩ | ⟨s1,e⟩
  ·obtain⟨s2,e2⟩:=za3 I hs k (i+1) s1 om h1
   exact⟨s2,by simp only[rangeM,e]; exact e2⟩
  ·exact⟨s1,by simp only[rangeM,e]⟩
def rowS (n:TLa) (acc:List TTr) (f d:Int) (k:Nat) (c:Y8):List TLi :=
 ((List.range k).filter fun i:Nat=>hasS n acc c (f+(i:Int)) d != 0).map fun i:Nat=>⟨c,f+(i:Int),hasS n acc c (f+(i:Int)) d⟩
def linesS (n:TLa) (acc:List TTr) (t:List THe) (f y d:Int):List TLi:=(leavesU t []).flatMap (rowS n acc f d y.toNat)
theorem z6t (n:TLa) (acc:List TTr) (f d:Int) (k:Nat) (c:Y8):(rowS n acc f d k c).length<=k:=by
 unfold rowS
 rw[y1g]
 have:=y51 (fun i:Nat=>hasS n acc c (f+(i:Int)) d != 0) (List.range k)
 rwa [List.length_range] at this
theorem z6u {α β:Type} (f:α->List β) (k:Nat):∀ l:List α,(∀ x∈l,(f x).length<=k)->(l.flatMap f).length<=k * l.length
 | [],_=>sj
 | x :: l,h=>by
  have a:=z6u f k l fun y hy=>h y (yh _ hy)
  have b:=h x y16
  rw[y46,yb,yp,Nat.mul_add]
  omega
variable {l:TLa}
theorem z97 (hl:RL l) {L:List TTr} (hL:L.length<=60) (hs:L.Pairwise ltT) {d:Int} (hd:0<=d/\d<=36000) :
  F_q8 l L d=some (linesS (forceL l d) (runJ l L).1 l.E l.G l.J d,0):=by
 have he:=hl.ml.ok
 have hf:=hl.fi; have hy:=hl.ye
 have hle:=hl.t5.le
 have hll:=zu l.E []
 obtain⟨ask,dy,now,fail,e,hJ⟩:=zdf he hL hs
 obtain⟨k1,_,k3,_⟩:=z2j l L
 have hac:AcOk (runJ l L).1:=AcJ.ac (l:=l) ⟨om,k3⟩
 have hnow:=za0 (z48 he d (hl.ml.nbig d))
 simp only[F_q8,S_q8,Scr.den,e,obind]
 rw[y5j,y4 rfl,z3 ⟨rfl,trivial⟩]
 simp only[zjk he d hJ,hl.ml.inS hd,obind,z7h hl.t5.mt.sm (show l.E.length<=1000000 from om)]
 rw[y3 sj]
 obtain⟨r,e2,h2⟩:=zl (body:=fun i s=>(S_q8_b2 l d ((runJ l L).2,0,l,ask,dy,now,fail,(runJ l L).1) (0,l,true,d,forceL l d,0) (leavesU l.E []) i s).den) (n:=(leavesU l.E []).length)
  (fun i s=>s=((leavesU l.E []).take i).flatMap (rowS (forceL l d) (runJ l L).1 l.G d l.J.toNat)) (s0:=[]) sj (fun i s hi hs=>by
   have hlen:s.length<=20:=by
    rw[hs]
    have:=z6u (rowS (forceL l d) (runJ l L).1 l.G d l.J.toNat) 2 ((leavesU l.E []).take i) fun c _=>by
     have:=z6t (forceL l d) (runJ l L).1 l.G d l.J.toNat c; omega
    rw[y13] at this
    omega
   have hc:=z2s (zj.1 (z4 hi))
   obtain⟨r,e3,h3⟩:=zl (body:=fun j s=>(S_q8_b1 l d ((runJ l L).2,0,l,ask,dy,now,fail,(runJ l L).1) (0,l,true,d,forceL l d,0) (leavesU l.E []) i j s).den) (n:=l.J.toNat)
    (fun j s'=>s'=s++rowS (forceL l d) (runJ l L).1 l.G d j ((leavesU l.E []).getD i dF)) (s0:=s) (by simp[rowS]) (fun j s' hj hs'=>by
     have hl2:s'.length<=22:=by
      rw[hs',yb]
      have:=z6t (forceL l d) (runJ l L).1 l.G d j ((leavesU l.E []).getD i dF); omega
     simp only[S_q8_b1,Scr.den]
     rw[wrapId (n:=l.G+(j:Int)) om om,z9z hnow hac hc,obind]
     have hr:rowS (forceL l d) (runJ l L).1 l.G d (j+1) ((leavesU l.E []).getD i dF)=rowS (forceL l d) (runJ l L).1 l.G d j ((leavesU l.E []).getD i dF)++(if (hasS (forceL l d) (runJ l L).1 ((leavesU l.E []).getD i dF) (l.G+(j:Int)) d != 0)=true then [⟨(leavesU l.E []).getD i dF,l.G+(j:Int),hasS (forceL l d) (runJ l L).1 ((leavesU l.E []).getD i dF) (l.G+(j:Int)) d⟩] else []):=by
      unfold rowS
      rw[List.range_succ,List.filter_append,y30]
      congr 1
      by_cases h:(hasS (forceL l d) (runJ l L).1 ((leavesU l.E []).getD i dF) (l.G+(j:Int)) d != 0)=true
      ·rw[y50,y4 h,y4 h]; rfl
      ·rw[y50,y3 h,y3 h]; rfl
     rw[hr]
     by_cases h:(hasS (forceL l d) (runJ l L).1 ((leavesU l.E []).getD i dF) (l.G+(j:Int)) d != 0)=true
     ·rw[y4 h,y4 h,Ga]
      exact⟨_,rfl,by rw[hs',y1o]⟩
     ·rw[y3 h,y3 h,y31]
      exact⟨_,rfl,hs'⟩)
   simp only[S_q8_b2,Scr.den]
   rw[Ga,e3]
   simp only[outM]
   refine⟨_,rfl,?_⟩
   rw[h3,yw hi,y4e,<- hs,<- za hi]
   simp)
 rw[e2,h2,y1z]
 simp only[outM]
 have:=z6u (rowS (forceL l d) (runJ l L).1 l.G d l.J.toNat) 2 (leavesU l.E []) fun c _=>by
  have:=z6t (forceL l d) (runJ l L).1 l.G d l.J.toNat c; omega
 rw[Ga]
 rfl
def okF (l:TLa):List TTr->List TTr->Prop
 | _,[]=>True
 | acc,z :: Q=>codeS l acc z=0/\okF l (acc++[z]) Q
theorem zaw (l:TLa):∀ (P acc Q:List TTr),okF l acc (P++Q)↔okF l acc P/\okF l (acc++P) Q
 | [],acc,Q=>by simp[okF]
 | z :: P,acc,Q=>by
  simp only[y1y,okF]
  rw[zaw l P (acc++[z]) Q,y1o,y3d,and_assoc]
theorem zlz {acc:List TTr} (h:AllOk l acc):okF l [] acc:=by
 have key:∀ k i,i+k=acc.length->okF l (acc.take i) (acc.drop i):=by
  intro k
  induction k with
  | zero=>intro i hi; rw[y1f om]; trivial
  | succ k ih =>
   intro i hi
   have hi':i<acc.length:=om
   rw[y19 hi']
   refine⟨?_,?_⟩
   ·rw[<- za hi']; exact h i hi'
   ·have:=ih (i+1) om
    rwa [yw hi'] at this
 have:=key acc.length 0 om
 simpa using this
theorem zeu {l:TLa}:∀ (Q acc:List TTr) (out:List Int),okF l acc Q->(Q.foldl (stepJ l) (acc,out)).1=acc++Q
 | [],acc,out,_=>sj
 | z :: Q,acc,out,h=>by
  have e:stepJ l (acc,out) z=(acc++[z],out++[codeS l acc z]):=by unfold stepJ; simp only; rw[y4 h.1]
  rw[y3e,e,zeu Q (acc++[z]) _ h.2,y1o,y3d]
structure EqS (a b:List TTr):Prop where
 g:∀ z,smm (givW z) a=smm (givW z) b
 m:∀ c y d,smm (movW c y d) a=smm (movW c y d) b
variable {a b:List TTr}
theorem EqS.app (h:EqS a b) (c:List TTr):EqS (a++c) (b++c):=⟨fun z=>by rw[z1g,z1g,h.g],fun t y d=>by rw[z1g,z1g,h.m]⟩
theorem EqS.has (h:EqS a b) (n:TLa) (c:Y8) (y d:Int):hasS n a c y d=hasS n b c y d:=by unfold hasS; rw[h.m]
theorem EqS.code (h:EqS a b) (l:TLa) (z:TTr):codeS l a z=codeS l b z:=by
 unfold codeS codeN leftS bndS
 simp only[h.g,h.has]
theorem zbu {l:TLa}:∀ (Q:List TTr) {a b:List TTr},EqS a b->okF l a Q->okF l b Q
 | [],_,_,_,_=>trivial
 | z :: Q,a,b,h,hq=>⟨by rw[<- h.code l z]; exact hq.1,zbu Q (h.app [z]) hq.2⟩
end Go.Proofs.YtljnmhapbonmfaaGreatDoor
/- The law TransferParts. No condition. -/
namespace Go.Proofs.YtljnmhapbonmfaaGreatDoor
open Go Go.TA
attribute [-simp] List.getD_eq_getElem?_getD
def setN (x:TTr) (n a:Int):TTr:=⟨n,x.H,x.D,x.Q,x.K,x.V,a⟩
theorem givN (z x:TTr) (m r:Int):givW z (setN x m r)=if (x.Q==z.Q&&x.D==z.D&&x.K==z.K)=true then r else 0:=rfl
theorem movN (c:Y8) (y d:Int) (x:TTr) (m r:Int):movW c y d (setN x m r)=if (decide (x.H>d)||(y != -1&&x.D != y))=true then 0 else (if und x.V c=true then r else 0)-(if und x.K c=true then r else 0):=rfl
theorem ze1 {L:List TLi}:F_q2b L L=some true:=by
 simp only[F_q2b,S_q2b,Scr.den]
 rw[y3 sj]
 rw[z4e fun i hi=>by
  simp only[S_q2b_b1,Scr.den]
  rw[z3 ⟨hi,trivial⟩,y3 sj]]
 rfl
section
variable {l:TLa} (hl:RL l) {P:List TTr} {x:TTr} (hc:codeS l P x=0) {r:Int} (hr:1<=r/\r<x.C)
theorem zhv (P:List TTr) (x:TTr) (m n r:Int):EqS (P++[x]) (P++[setN x m r,setN x n (x.C-r)]):=by
 refine⟨fun z=>?_,fun c y d=>?_⟩
 ·rw[z1g,z1g]
  simp only[smm,givN]
  unfold givW
  cases (x.Q==z.Q&&x.D==z.D&&x.K==z.K) <;> simp <;> omega
 ·rw[z1g,z1g]
  simp only[smm,movN]
  unfold movW
  cases (decide (x.H>d)||(y != -1&&x.D != y)) <;> cases und x.V c <;> cases und x.K c <;> simp <;> omega
include hc hr
theorem zmb:codeS l P (setN x x.F r)=0:=z7q (x:=x) (a:=x.C) hc ⟨hr.1,om⟩
include hl
theorem zmc (hn:x.F+1<=1000000):codeS l (P++[setN x x.F r]) (setN x (x.F+1) (x.C-r))=0:=by
 obtain⟨h1,h2,h3⟩:=z3y.1 hc
 obtain⟨p1,p2,p3,p4,p5,p6,p7,p8,p9⟩:=z15.1 h1
 have hd:(setN x (x.F+1) (x.C-r)).H=x.H:=rfl
 refine z3y.2 ⟨z15.2 ⟨⟨by show 1<=x.F+1; omega,hn⟩,p2,p3,⟨by show 1<=x.C-r; omega,by show x.C-r<=1000000000000; omega⟩,p5,p6,p7,p8,p9⟩,h2,⟨h3.ru,?_,?_,?_⟩⟩
 ·show x.C-r<=pctS _ _-smm (givW x) (P++[setN x x.F r])
  have h4:x.C<=pctS _ _-smm (givW x) P:=h3.le
  rw[z1g]
  have:smm (givW x) [setN x x.F r]=r:=by
   simp only[smm,givN]
   rw[y4 sj]; omega
  rw[this]
  have h5:x.C-r<=pctS _ _-smm (givW x) P-r:=Int.sub_le_sub_right h4 r
  refine Int.le_trans h5 (Int.le_of_eq ?_)
  rw[Int.sub_sub]
  rfl
 ·show x.C-r<=totA _ _ _+smm (movW x.K x.D x.H) (P++[setN x x.F r])
  have h4:x.C<=totA _ _ _+smm (movW x.K x.D x.H) P:=h3.fu
  rw[z1g]
  have u1:und x.V x.K=false:=by
   rw[yq]; intro e; exact p7 ((hl.t5.und p6 p5).1 e).symm
  have u2:und x.K x.K=true:=(hl.t5.und p5 p5).2 rfl
  have:smm (movW x.K x.D x.H) [setN x x.F r]=-r:=by
   simp only[smm,movN,u1,u2]
   rw[y3 sj]; simp
  rw[this]
  have h5:x.C-r<=totA _ _ _+smm (movW x.K x.D x.H) P-r:=Int.sub_le_sub_right h4 r
  refine Int.le_trans h5 (Int.le_of_eq ?_)
  rw[Int.add_sub_assoc,Int.sub_eq_add_neg]
  rfl
 ·have h4:=h3.bo
  unfold bndS at h4 |-
  rw[y23,y2y,y2y] at h4 |-
  refine⟨fun z hz=>?_,fun z hz=>?_⟩
  ·have h5:=h4.1 z hz
   simp only[y6,y5,not_and] at h5 |-
   intro hm
   have hm':matS z x.V x.K x.D=true:=hm
   have h6:=h5 hm'
   unfold matS at hm'
   simp only[y6,yc,ym,y1e] at hm'
   show ¬ hasS (inS l x.H).1 (P++[setN x x.F r]) z.B z.D x.H+(x.C-r)>z.C
   have e:hasS (inS l x.H).1 (P++[setN x x.F r]) z.B z.D x.H=hasS (inS l x.H).1 P z.B z.D x.H+r:=by
    unfold hasS
    rw[z1g]
    have:smm (movW z.B z.D x.H) [setN x x.F r]=r:=by
     simp only[smm,movN,hm'.1.2,hm'.2]
     rw[y3 (by rcases hm'.1.1 with e | e <;> simp[e])]; simp
    rw[this]; omega
   rw[e]; omega
  ·have h5:=h4.2 z hz
   simp only[y6,y5,not_and] at h5 |-
   intro hm
   have hm':matS z x.K x.V x.D=true:=hm
   have h6:=h5 hm'
   unfold matS at hm'
   simp only[y6,yc,ym,y1e] at hm'
   show ¬ hasS (inS l x.H).1 (P++[setN x x.F r]) z.B z.D x.H-(x.C-r)<z.C
   have e:hasS (inS l x.H).1 (P++[setN x x.F r]) z.B z.D x.H=hasS (inS l x.H).1 P z.B z.D x.H-r:=by
    unfold hasS
    rw[z1g]
    have:smm (movW z.B z.D x.H) [setN x x.F r]=-r:=by
     simp only[smm,movN,hm'.1.2,hm'.2]
     rw[y3 (by rcases hm'.1.1 with e | e <;> simp[e])]; simp
    rw[this]; omega
   rw[e]; omega
end
theorem zhw (a:List Int):F_qj a=some true:=by
 obtain⟨s0,e0,o0⟩:=z8x a
 obtain⟨l,s1,e1,o1,hl⟩:=z6q o0
 obtain⟨L,s2,e2,o2,hlen,hL⟩:=z93 hl (n:=6) om o1
 have he:=hl.ml.ok
 have hf:=hl.fi; have hy:=hl.ye
 have hlen':L.length<=6:=om
 simp only[F_qj,S_qj,Scr.den,e0,e1,e2,obind]
 rw[Ga]
 obtain⟨M,e3,m1,m2⟩:=zl (body:=fun i s=>(S_qj_b1 (l,s1) (s2,L) i s).den) (n:=L.length)
  (fun i s=>s.length=L.length/\∀ j,j<L.length->s.getD j dF=if j<i then setN (L.getD j dF) (10 * ((j:Int)+1)) (L.getD j dF).C else L.getD j dF) (s0:=L) ⟨rfl,fun j _=>sj⟩ (fun i s hi ⟨q1,q2⟩=>by
   simp only[S_qj_b1,Scr.den,y1l]
   rw[Gb,wrapId (n:=(i:Int)+1) om om,wrapId (n:=10 * ((i:Int)+1)) om om,q2 i hi,y3 om]
   refine⟨_,rfl,by rw[y41]; exact q1,fun j hj=>?_⟩
   by_cases e:j=i
   ·subst e
    rw[y4 om,za (by rw[y41]; omega),List.getElem_set_self]
    rfl
   ·have:=q2 j hj
    rw[za (by rw[y41]; omega),List.getElem_set_ne om,<- za om,this]
    by_cases h:j<i
    ·rw[y4 h,y4 om]
    ·rw[y3 h,y3 om])
 rw[e3]
 simp only[outM]
 have hM:∀ j,j<L.length->M.getD j dF=setN (L.getD j dF) (10 * ((j:Int)+1)) (L.getD j dF).C:=fun j hj=>by rw[m2 j hj,y4 hj]
 have hMs:M.Pairwise ltT:=by
  rw[y1u]
  intro i j hi hj hij
  rw[<- za hi,<- za hj,hM i om,hM j om]
  have:=y1u.1 hL.dd i j om om hij
  rw[za om,za om]
  unfold ltT setN
  simp only
  omega
 have hM10:∀ z∈M,z.F % 10=0/\10<=z.F/\z.F<=60:=fun z hz=>by
  obtain⟨i,hi,rfl⟩:=y2z hz
  rw[<- za hi,hM i om]
  unfold setN
  simp only
  omega
 rw[Ga]
 obtain⟨k1,_,k3,k4⟩:=z2j l M
 have hok:=zhq l _ M rfl
 obtain⟨G,hG⟩:∃ G,G=(runJ l M).1:=⟨_,rfl⟩
 have eA:F_qb l M=some (G,0):=by rw[z33 he om hMs,<- hG]
 rw[<- hG] at k1 k3 k4 hok
 have hGs:G.Pairwise ltT:=hMs.sublist k4
 have hG10:∀ z∈G,z.F % 10=0/\10<=z.F/\z.F<=60:=fun z hz=>hM10 z (k4.subset hz)
 have hrunG:(runJ l G).1=G:=zhr hok
 rw[eA,obind,y3 sj]
 obtain⟨s9,e9⟩:=za3 (body:=fun i s=>(S_qj_b2 (l,s1) (G,0) i s).den) (n:=G.length) (fun s=>TapeOk s) (fun i s hi hs=>by
  have hx:=z4 hi
  obtain⟨x,hxd⟩:∃ x,x=G.getD i dF:=⟨_,rfl⟩
  simp only[S_qj_b2,Scr.den]
  rw[<- hxd] at hx |-
  by_cases h2:x.C<2
  ·left
   rw[y4 (by simpa using h2)]
   exact⟨_,rfl,hs⟩
  ·right
   rw[y3 (by simpa using h2)]
   have hp:=z15.1 (k3 x hx)
   have hxa:=hp.2.2.2.1
   have hn:=hG10 x hx
   rw[wrapId (n:=x.C-1) om om]
   obtain⟨r,s3,e4,o3,r1,r2⟩:=z25 (lo:=1) (hi:=x.C-1) hs om om om
   rw[e4,obind]
   simp only
   have w:(IntKind.i64.wrap ((i:Int)+1)).toNat=i+1:=by rw[wrapId om om]; omega
   have w0:(0:Int)<=IntKind.i64.wrap ((i:Int)+1):=by rw[wrapId om om]; omega
   rw[w,wrapId (n:=x.F+1) om om,wrapId (n:=x.C-r) om om]
   rw[show (⟨x.F,x.H,x.D,x.Q,x.K,x.V,r⟩:TTr)=setN x x.F r from rfl,show (⟨x.F+1,x.H,x.D,x.Q,x.K,x.V,x.C-r⟩:TTr)=setN x (x.F+1) (x.C-r) from rfl]
   have hsplit:G=G.take i++x :: G.drop (i+1):=by
    conv=>lhs; rw[<- y2e i G,y19 hi]
    rw[<- za hi,hxd]
   obtain⟨P,hP⟩:∃ P,P=G.take i:=⟨_,rfl⟩
   obtain⟨Q,hQ⟩:∃ Q,Q=G.drop (i+1):=⟨_,rfl⟩
   have hPl:P.length<=6:=by rw[hP,y13]; omega
   have hPQ:P.length+Q.length+1=G.length:=by rw[hP,hQ,y13,y1p]; omega
   rw[<- hP,<- hQ] at hsplit |-
   have hokG:=zlz hok
   rw[hsplit,zaw] at hokG
   obtain⟨g1,g2,g3⟩:=hokG
   rw[y1w] at g2 g3
   have hcut:okF l [] ((P++[setN x x.F r,setN x (x.F+1) (x.C-r)])++Q):=by
    rw[y1o,zaw]
    refine⟨g1,?_⟩
    rw[y1w]
    refine⟨zmb g2 ⟨r1,om⟩,zmc hl g2 ⟨r1,om⟩ om,?_⟩
    rw[y1o,y3d]
    exact zbu Q (zhv P x _ _ r) g3
   have hrunC:(runJ l ((P++[setN x x.F r,setN x (x.F+1) (x.C-r)])++Q)).1=(P++[setN x x.F r,setN x (x.F+1) (x.C-r)])++Q:=by
    have:=zeu _ _ [] hcut
    rw[y1w] at this
    exact this
   rw[hsplit,y2a,y2n] at hGs
   obtain⟨p1,⟨p2,p3⟩,p4⟩:=hGs
   have hQ10:∀ z∈Q,z.F % 10=0:=fun z hz=>(hG10 z (by rw[hsplit]; simp[hz])).1
   have hsC:((P++[setN x x.F r,setN x (x.F+1) (x.C-r)])++Q).Pairwise ltT:=by
    rw[y1o,y2a]
    refine⟨p1,?_,fun u hu v hv=>?_⟩
    ·show List.Pairwise ltT (setN x x.F r :: setN x (x.F+1) (x.C-r) :: Q)
     rw[y2n,y2n]
     refine⟨fun v hv=>?_,fun v hv=>?_,p3⟩
     ·rcases yn.1 hv with rfl | hv
      ·exact .inr ⟨rfl,by show x.F<x.F+1; omega⟩
      ·exact p2 v hv
     ·have h:=p2 v hv
      have h10:=hQ10 v hv
      unfold ltT at h |-
      have hd:(setN x (x.F+1) (x.C-r)).H=x.H:=rfl
      have hnn:(setN x (x.F+1) (x.C-r)).F=x.F+1:=rfl
      rw[hd,hnn]
      omega
    ·have hux:=p4 u hu x y16
     simp only[y1y,y1w,yn] at hv
     rcases hv with rfl | rfl | hv
     ·exact hux
     ·unfold ltT at hux |-
      have hd:(setN x (x.F+1) (x.C-r)).H=x.H:=rfl
      have hnn:(setN x (x.F+1) (x.C-r)).F=x.F+1:=rfl
      rw[hd,hnn]
      omega
     ·exact p4 u hu v (yh _ hv)
   have hCl:((P++[setN x x.F r,setN x (x.F+1) (x.C-r)])++Q).length<=60:=by simp only[yb,yp,y1d]; omega
   have hGs':G.Pairwise ltT:=hMs.sublist k4
   have l1:=z97 hl (L:=G) om hGs' (d:=36000) om
   have l2:=z97 hl hCl hsC (d:=36000) om
   rw[hrunG] at l1
   rw[hrunC] at l2
   have hE:EqS G ((P++[setN x x.F r,setN x (x.F+1) (x.C-r)])++Q):=by
    rw[hsplit]
    have:=(zhv P x x.F (x.F+1) r).app Q
    rwa [y1o,y3d] at this
   have hll:linesS (forceL l 36000) ((P++[setN x x.F r,setN x (x.F+1) (x.C-r)])++Q) l.E l.G l.J 36000=linesS (forceL l 36000) G l.E l.G l.J 36000:=by
    unfold linesS rowS
    simp only[hE.has]
   rw[hll] at l2
   rw[z3 ⟨om,om,om,w0,om,by simp only[yb,yp,y1d]; omega,trivial⟩,Ga]
   simp only[z33 he hCl hsC,hrunC,l1,l2,obind,ze]
   rw[Gg,za1,obind,Gg,ze1,obind,y3 sj]
   exact⟨_,rfl⟩) G.length 0 s2 om o2
 rw[e9]
 simp only[z96,obind]
end Go.Proofs.YtljnmhapbonmfaaGreatDoor
/- The law TransferTotals. No condition. -/
namespace Go.Proofs.YtljnmhapbonmfaaGreatDoor
open Go Go.TA
attribute [-simp] List.getD_eq_getElem?_getD
theorem zev {α β:Type} (f:α->β) (w:β->Int):∀ l:List α,smm w (l.map f)=smm (fun x=>w (f x)) l
 | []=>rfl
 | x :: l=>by rw[y2c]; simp only[smm]; rw[zev f w l]
theorem zdi {α β:Type} (f:α->List β) (w:β->Int):∀ l:List α,smm w (l.flatMap f)=smm (fun x=>smm w (f x)) l
 | []=>rfl
 | x :: l=>by rw[y46,z1g]; simp only[smm]; rw[zdi f w l]
theorem z98 {α:Type} (p:α->Bool) (w:α->Int):∀ l:List α,smm w (l.filter p)=smm (fun x=>if p x=true then w x else 0) l
 | []=>rfl
 | x :: l=>by
  rw[y50]
  by_cases h:p x=true
  ·rw[y4 h]; simp only[smm,y4 h]; rw[z98 p w l]
  ·rw[y3 h]; simp only[smm,y3 h]; rw[z98 p w l]; omega
theorem zax {α:Type} (u v:α->Int):∀ l:List α,smm (fun x=>u x+v x) l=smm u l+smm v l
 | []=>rfl
 | x :: l=>by simp only[smm]; rw[zax u v l]; omega
theorem zew {α:Type} (u v:α->Int):∀ l:List α,smm (fun x=>u x-v x) l=smm u l-smm v l
 | []=>rfl
 | x :: l=>by simp only[smm]; rw[zew u v l]; omega
theorem z3h {α:Type} {w:α->Int}:∀ {l:List α},(∀ x∈l,w x=0)->smm w l=0
 | [],_=>rfl
 | x :: l,h=>by simp only[smm]; rw[h x y16,z3h fun y hy=>h y (yh _ hy)]; rfl
theorem z99 {α β:Type} (g:α->β->Int) (m:List β):∀ l:List α,smm (fun x=>smm (g x) m) l=smm (fun y=>smm (fun x=>g x y) l) m
 | []=>(z3h fun _ _=>rfl).symm
 | x :: l=>by
  simp only[smm]
  rw[z99 g m l,<- zax]
theorem z86 {α:Type} [DecidableEq α] {w:α->Int} {c:α} {K:Int}:∀ {l:List α},l.Nodup->c∈l->(∀ x∈l,w x=if x=c then K else 0)->smm w l=K
 | [],_,h,_=>by cases h
 | x :: l,hn,h,hw=>by
  obtain⟨h1,h2⟩:=y40.1 hn
  have hx:=hw x y16
  simp only[smm]
  by_cases e:x=c
  ·subst e
   rw[y4 rfl] at hx
   rw[hx,z3h fun y hy=>by rw[hw y (yh _ hy),y3 (show ¬ y=x from fun e=>h1 (by rw[<- e]; exact hy))]]
   omega
  ·rw[y3 e] at hx
   rw[hx,z86 h2 ((yn.1 h).resolve_left fun h=>e h.symm) fun y hy=>hw y (yh _ hy)]
   omega
def coT (top c:Y8):Bool:=top==[]||und c top
def movT (top:Y8) (y d:Int) (z:TTr):Int :=
 if (decide (z.H>d)||z.D != y)=true then 0 else (if coT top z.V=true then z.C else 0)-(if coT top z.K=true then z.C else 0)
theorem zkv {a b:Int} (h1:-1000000000000000<=a/\a<=1000000000000000) (h2:-1000000000000000<=b/\b<=1000000000000000) (h3:-1000000000000000<=a+b/\a+b<=1000000000000000):F_q47 a b=some (a+b,0):=by
 simp only[F_q47,S_q47,Scr.den,F_q38,S_q38,obind,z6,ze]
 rw[wrapId (n:=a+b) om om,y11 h1.1,y11 h1.2,y11 h2.1,y11 h2.2,y11 h3.1,y11 h3.2]
 simp[optD,AllP]
variable {y:Int} {top:Y8}
theorem zex {l:List TLi} (hl:l.length<=200) (hg:∀ x∈l,x.B.length<=1000000) (ha:∀ x∈l,-2000000000000<=x.C/\x.C<=2000000000000) (ht:top.length<=1000000):F_q1s l top y=some (totA l top y,0):=by
 simp only[F_q1s,S_q1s,Scr.den]
 rw[z4v l (fun x=>if linC top y x=true then x.C else 0) 2000000000000 (fun x hx=>by have:=ha x hx; split <;> omega) fun i s hi h1 h2=>by
  have hx:=hg _ (z4 hi); have hm:=ha _ (z4 hi)
  simp only[S_q1s_b1,Scr.den,z29 hx ht,z6,ze,zkv (a:=s) (b:=(l.getD i dF).C) om om om]
  unfold linC
  generalize l.getD i dF=x
  by_cases e1:top=[] <;> by_cases e2:y=-1 <;> by_cases e3:x.D=y <;> cases e4:und x.B top <;> simp[e1,e2,e3,optD,AllP]]
 simp only[outM,Int.zero_add]
 rfl
theorem zhx {l:TLa} (hl:l.P.length<=200) (hg:∀ x∈l.P,x.B.length<=1000000) (ha:∀ x∈l.P,0<=x.C/\x.C<=1000000000000) (ht:top.length<=1000000):F_q48 l top y=some (totA l.P top y,0):=by
 simp only[F_q48,S_q48,Scr.den,zex hl hg (fun x hx=>by have:=ha x hx; omega) ht,obind]
variable {d:Int}
section
variable {l:TLa} (hl:RL l)
include hl
theorem zbv:(leavesU l.E []).Nodup:=(hl.t5.ord []).imp fun {a b} h e=>by
 subst e
 unfold ltK at h
 rw[z2p] at h
 exact absurd h dk
theorem zkw (hd:0<=d/\d<=36000) (top:Y8) (hy:y≠-1):smm (fun c=>if coT top c=true then totA (forceL l d).P c y else 0) (leavesU l.E [])=totA (forceL l d).P top y:=by
 have e1:smm (fun c=>if coT top c=true then totA (forceL l d).P c y else 0) (leavesU l.E [])=smm (fun c=>smm (fun x=>if coT top c=true then (if linC c y x=true then x.C else 0) else 0) (forceL l d).P) (leavesU l.E []):=z1q fun c _=>by
  by_cases h:coT top c=true
  ·simp only[y4 h]; rfl
  ·simp only[y3 h]; exact (z3h fun _ _=>rfl).symm
 rw[e1,z99]
 unfold totA
 refine z1q fun x hx=>?_
 have hx':=za2 hl hd x hx
 refine z86 (zbv hl) (zj.2 hx') fun c hc=>?_
 have hc':=zj.1 hc
 have hu:=hl.t5.und hx' hc'
 have hne:c≠[]:=fun e=>by rw[e] at hc'; exact absurd (leafGood hc') dk
 unfold linC coT
 by_cases e:c=x.B
 ·rw[y4 e]
  subst e
  have:und x.B x.B=true:=hu.2 rfl
  simp only[this,y4p,y5m,y21.2 hy,y4a]
  by_cases a:(top==[]||und x.B top)=true
  ·rw[y4 a,a,y5m]
  ·rw[y3 a,y3m _ |>.mp a,y48,y3 dk]
 ·rw[y3 e]
  have hf:und x.B c=false:=by
   cases h:und x.B c
   ·rfl
   ·exact absurd (hu.1 h).symm e
  rw[hf,y21.2 hne]
  simp
theorem zkx (d:Int) (top:Y8) (hy:y≠-1) {z:TTr} (hf:leafT l.E z.K=true) (ht:leafT l.E z.V=true):smm (fun c=>if coT top c=true then movW c y d z else 0) (leavesU l.E [])=movT top y d z:=by
 unfold movT
 by_cases h:(decide (z.H>d)||z.D != y)=true
 ·rw[y4 h]
  refine z3h fun c _=>?_
  have e0:movW c y d z=0:=by unfold movW; rw[y4 (by simpa [hy] using h)]
  rw[e0]
  split <;> rfl
 ·rw[y3 h]
  have one:∀ {b:Y8},leafT l.E b=true->smm (fun c=>if coT top c=true then (if und b c=true then z.C else 0) else 0) (leavesU l.E [])=if coT top b=true then z.C else 0:=fun {b} hb=>by
   refine z86 (zbv hl) (zj.2 hb) fun c hc=>?_
   have hu:=hl.t5.und hb (zj.1 hc)
   by_cases e:c=b
   ·subst e; rw[y4 rfl,y4 (hu.2 rfl)]
   ·rw[y3 e,y3 fun h=>e (hu.1 h).symm]; split <;> rfl
  rw[<- one ht,<- one hf,<- zew]
  refine z1q fun c _=>?_
  have e1:movW c y d z=(if und z.V c=true then z.C else 0)-(if und z.K c=true then z.C else 0):=by unfold movW; rw[y3 (by simpa [hy] using h)]
  rw[e1]
  by_cases a:coT top c=true
  ·simp only[y4 a]
  ·simp only[y3 a]; rfl
theorem zhy {acc:List TTr} (ha:∀ z∈acc,leafT l.E z.K=true/\leafT l.E z.V=true) (hd:0<=d/\d<=36000) (top:Y8) (hy:l.G<=y/\y<l.G+l.J) :
  totA (linesS (forceL l d) acc l.E l.G l.J d) top y=totA (forceL l d).P top y+smm (movT top y d) acc:=by
 have hf:=hl.fi
 have hy1:y≠-1:=om
 unfold linesS
 show smm _ _=_
 rw[zdi]
 have e1:∀ c,smm (fun x=>if linC top y x=true then x.C else 0) (rowS (forceL l d) acc l.G d l.J.toNat c)=if coT top c=true then hasS (forceL l d) acc c y d else 0:=fun c=>by
  unfold rowS
  rw[zev,z98]
  refine z86 (c:=(y-l.G).toNat) List.nodup_range (y2b.2 om) fun i hi=>?_
  have hi:=y2b.1 hi
  have hyy:l.G+((y-l.G).toNat:Int)=y:=om
  unfold linC coT
  simp only
  by_cases e:i=(y-l.G).toNat
  ·rw[y4 e]
   subst e
   rw[hyy]
   simp only[y3k,y4p,y1s]
   by_cases h:hasS (forceL l d) acc c y d=0
   ·rw[h]; simp
   ·rw[y4 (by simpa using h)]
  ·rw[y3 e,show (l.G+(i:Int)==y)=false from y21.2 om,y21.2 hy1]
   simp
 rw[z1q fun c _=>e1 c]
 have e2:smm (fun c=>if coT top c=true then hasS (forceL l d) acc c y d else 0) (leavesU l.E [])=smm (fun c=>(if coT top c=true then totA (forceL l d).P c y else 0)+smm (fun z=>if coT top c=true then movW c y d z else 0) acc) (leavesU l.E []):=z1q fun c _=>by
  by_cases h:coT top c=true
  ·simp only[y4 h]; rfl
  ·simp only[y3 h]; rw[z3h fun _ _=>rfl]; rfl
 rw[e2,zax,zkw hl hd top hy1,z99]
 congr 1
 exact z1q fun z hz=>zkx hl d top hy1 (ha z hz).1 (ha z hz).2
end
theorem zfy (a:List Int):F_q9 a=some true:=by
 obtain⟨s0,e0,o0⟩:=z8x a
 obtain⟨l,s1,e1,o1,hl⟩:=z6q o0
 obtain⟨L,s2,e2,o2,hlen,hL⟩:=z64 hl (n:=8) om o1
 obtain⟨n3,s3,e3,o3,l3,u3⟩:=zi (n:=800) o2 om om
 have he:=hl.ml.ok
 have hf:=hl.fi; have hy:=hl.ye
 have hlen':L.length<=8:=om
 obtain⟨k1,_,k3,k4⟩:=z2j l L
 obtain⟨G,hG⟩:∃ G,G=(runJ l L).1:=⟨_,rfl⟩
 have eA:F_qb l L=some (G,0):=by rw[z33 he om hL.so,<- hG]
 obtain⟨d,hdd⟩:∃ d,d=360 * l.G+n3:=⟨_,rfl⟩
 have hd:0<=d/\d<=36000:=om
 have eL:=z97 hl (L:=L) om hL.so hd
 rw[<- hG] at k1 k3 k4 eL
 have hGt:∀ z∈G,TrX l z:=fun z hz=>hL.ok z (k4.subset hz)
 have w1:IntKind.i64.wrap (IntKind.i64.wrap (360 * l.G)+n3)=d:=by rw[wrapId (n:=360 * l.G) om om,wrapId om om,hdd]
 have hnow:=za0 (z48 he d (hl.ml.nbig d))
 have hle:=hl.t5.le
 have hlf:∀ z∈G,leafT l.E z.K=true/\leafT l.E z.V=true:=fun z hz=>⟨(hGt z hz).fr,(hGt z hz).to⟩
 have hsum:=fun top y hy=>zhy hl hlf hd top (y:=y) hy
 obtain⟨X,hX⟩:∃ X,X=linesS (forceL l d) G l.E l.G l.J d:=⟨_,rfl⟩
 have hXl:X.length<=20:=by
  have hll:=zu l.E []
  rw[hX]
  unfold linesS
  have:=z6u (rowS (forceL l d) G l.G d l.J.toNat) 2 (leavesU l.E []) fun c _=>by
   have:=z6t (forceL l d) G l.G d l.J.toNat c; omega
  omega
 have hXx:∀ x∈X,leafT l.E x.B=true/\-2000000000000<=x.C/\x.C<=2000000000000:=fun x hx=>by
  rw[hX] at hx
  unfold linesS rowS at hx
  obtain⟨c,hc,hx⟩:=y3i.1 hx
  obtain⟨i,hi,rfl⟩:=yv.1 hx
  have hc':=zj.1 hc
  refine⟨hc',?_⟩
  simp only
  unfold hasS
  rw[zdg hl hd hc' om]
  have h1:=z95 hnow.la c (l.G+(i:Int))
  have h2:=z5d (movW c (l.G+(i:Int)) d) 100000 G fun z hz=>by
   have:=(hGt z hz).am
   unfold movW; (repeat' split) <;> omega
  omega
 rw[<- hX] at eL hsum
 simp only[F_q9,S_q9,Scr.den,e0,e1,e2,e3,eA,obind,ze,w1,eL,z8i he hl.a1,hl.ml.inS hd]
 rw[y3 sj,z3 ⟨by simp only[yp,y1d]; omega,trivial⟩,z3 ⟨by simp only[yb,yp,y1d]; omega,trivial⟩]
 rw[z4e fun i hi=>by
  obtain⟨H,hH⟩:∃ H,H=(([(⟨[],[]⟩:THe)]:List THe)++l.E).getD i dF:=⟨_,rfl⟩
  have hHc:H.B=[]\/good H.B=true:=by
   have:=z4 hi
   rw[<- hH] at this
   rcases y12.1 this with h | h
   ·left; rw[y10.1 h]
   ·exact .inr (hasGood hl.t5.mt.ok (z49.2 (yv.2 ⟨_,h,rfl⟩)))
  have hHl:H.B.length<=1000000:=by
   rcases hHc with h | h
   ·rw[h]; decide
   ·have:=z3c h; omega
  simp only[S_q9_b3,Scr.den]
  obtain⟨r,e4,q1,q2⟩:=zl (body:=fun j s=>(S_q9_b1 (l,s1) (G,0) (n3,s3) i j s).den) (n:=G.length)
   (fun j s=>s.1=((G.take j).all fun z=>(coT H.B z.K==coT H.B z.V)||decide (z.H>d))/\s.2=((G.take j).any fun z=>(coT H.B z.K||coT H.B z.V)&&decide (z.H<=d))) (s0:=(true,false)) ⟨sj,sj⟩ (fun j s hj ⟨q1,q2⟩=>by
    have hz:=hGt _ (z4 hj)
    have hz1:=z2s hz.fr; have hz2:=z2s hz.to
    simp only[S_q9_b1,Scr.den,w1,<- hH,z29 hz1 hHl,z29 hz2 hHl,ze,z6]
    rw[yw hj,<- za hj,List.all_append,List.any_append,<- q1,<- q2]
    generalize G.getD j dF=z
    unfold coT
    simp only[y3p,List.all_nil,y5m,y3q,List.any_nil,Bool.or_false]
    by_cases e:H.B=[]
    ·simp[e,optD,AllP]
    ·simp[e,optD,AllP])
  rw[e4]
  simp only[outM]
  rw[y1z] at q1 q2
  obtain⟨y9,e5,_⟩:=z1b (step:=fun s=>(S_q9_b2 (l,s1) (X,0) (forceL l d,0) i r s).den) (fun s=>(l.G+l.J-s).toNat) (fun s=>l.G<=s/\s<=l.G+l.J) (fun _=>True) (fun s hs=>by
   simp only[S_q9_b2,Scr.den,<- hH]
   rw[wrapId (n:=l.G+l.J) om om]
   by_cases hsy:s<l.G+l.J
   ·left
    rw[y4 (by simpa using hsy),zex om (fun x hx=>z2s (hXx x hx).1) (fun x hx=>(hXx x hx).2) hHl,zhx hnow.ll hnow.lc hnow.la hHl]
    simp only[obind,ze,z6]
    rw[y3 ?_,wrapId (n:=s+1) om om]
    ·exact⟨_,rfl,om,om⟩
    ·rw[hsum H.B s ⟨hs.1,hsy⟩,q1,q2]
     simp only[y6,yc,y1e,y4r,ne_eq,not_and]
     intro h hne
     refine hne ?_
     rw[z3h fun z hz=>?_,Int.add_zero]
     unfold movT
     by_cases g:(decide (z.H>d)||z.D != s)=true
     ·rw[y4 g]
     ·rw[y3 g]
      simp only[yc,y5,y4l] at g
      rcases h with h | h
      ·have:=y1c.1 h z hz
       simp only[yc,ym,y5] at this
       rw[this.resolve_right g.1]
       omega
      ·have:=y2y.1 h z hz
       simp only[y6,yc,y5,not_and,Int.not_le] at this
       have h1:¬ (coT H.B z.K=true\/coT H.B z.V=true):=fun k=>g.1 (this k)
       rw[y3 fun k=>h1 (.inr k),y3 fun k=>h1 (.inl k)]
       rfl
   ·right
    rw[y3 (by simpa using hsy)]
    exact⟨_,rfl,trivial⟩) ((l.G+l.J-l.G).toNat+1) l.G om om
  rw[e5]]
 simp only[outM,z96,obind]
end Go.Proofs.YtljnmhapbonmfaaGreatDoor
