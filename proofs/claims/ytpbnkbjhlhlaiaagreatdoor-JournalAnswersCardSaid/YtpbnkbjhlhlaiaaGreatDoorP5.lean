/- A part of the proof: plain laws of what the functions compute. No condition. -/
import Derived.Test.YtpbnkbjhlhlaiaaGreatDoorP4
import Derived.Test.YtpbnkbjhlhlaiaaGreatDoorT11
import Derived.Test.YtpbnkbjhlhlaiaaGreatDoorT8
namespace Go.Proofs.YtpbnkbjhlhlaiaaGreatDoor
open Go Go.TA
open Go.IntKind (i64)
theorem zad:∀ {l:Y8} {d p:Nat},goodR l d p=true->∀ c∈l,c.toNat=46\/(48<=c.toNat/\c.toNat<=57)
 | [],_,_,_,c,h=>nomatch h
 | b :: l,d,p,h,c,hc=>by
  simp only[goodR] at h
  by_cases h1:b.toNat=46
  ·rw[y7 h1] at h
   by_cases h2:d=0
   ·rw[y7 h2] at h; cases h
   ·rw[y6 h2] at h
    rcases yh.1 hc with rfl | hc
    ·exact .inl h1
    ·exact zad h c hc
  ·rw[y6 h1] at h
   by_cases h2:b.toNat<48\/57<b.toNat\/(d=0/\b.toNat=48)\/d=2
   ·rw[y7 h2] at h; cases h
   ·rw[y6 h2] at h
    rcases yh.1 hc with rfl | hc
    ·exact .inr om
    ·exact zad h c hc
variable {c:UInt8}
theorem zpd {l:Y8} (h:good l=true) (hc:c∈l):46<=c.toNat/\c.toNat<=57:=by
 have:=zad h c hc
 omega
variable {p:TOp}
theorem zhp {k:Nat} (h:condF p k) (hc:c∈txtF p k):46<=c.toNat/\c.toNat<=57:=by
 by_cases h8:k=8
 ·subst h8
  exact zpd ((zb3 p).1 h) hc
 ·rw[show txtF p k=Lib.itoa (getF p k) from y6 h8] at hc
  have:=zho ((condN h8).1 h).1 hc
  omega
theorem zf2 (k:Int) (hc:c∈wordK k):97<=c.toNat/\c.toNat<=122:=by
 have key:∀ c∈wordK k,97<=c.toNat/\c.toNat<=122:=by
  unfold wordK
  repeat' split
  all_goals decide
 exact key c hc
theorem znk (h:POp p) (hc:c∈textT p):c=32\/(46<=c.toNat/\c.toNat<=122):=by
 unfold textT at hc
 rw[Lib.join_cons,y1i] at hc
 rcases hc with hc | hc
 ·have:=zf2 _ hc
  exact .inr om
 ·unfold Lib.joinTail at hc
  simp only[List.mem_flatten,y1f] at hc
  obtain⟨_,⟨_,⟨k,hk,rfl⟩,rfl⟩,hc⟩:=hc
  rcases y1i.1 hc with hc | hc
  ·exact .inl (y22.1 hc)
  ·have:=zhp (h.2.1 k hk) hc
   exact .inr om
theorem z4b (h:POp p):splitU 32 (textT p)=wordK p.M :: (partsK p.M).map (txtF p):=zbm fun y hy hc=>by
 have e:(32:UInt8).toNat=32:=rfl
 rcases yh.1 hy with rfl | hy
 ·have:=zf2 _ hc
  omega
 ·obtain⟨k,hk,rfl⟩:=y1f.1 hy
  have:=zhp (h.2.1 k hk) hc
  omega
variable {a b:Int}
theorem zf3 (ha:1<=a/\a<=9) (hb:1<=b/\b<=9) (h:wordK a=wordK b):a=b:=by
 rcases z2j ha with rfl | rfl | rfl | rfl | rfl | rfl | rfl | rfl | rfl <;> rcases z2j hb with rfl | rfl | rfl | rfl | rfl | rfl | rfl | rfl | rfl <;> first | rfl | exact absurd h dk
variable {q:TOp}
theorem zhq {k:Nat} (hp:condF p k) (hq:condF q k) (h:txtF p k=txtF q k):if k=8 then p.E=q.E else getF p k=getF q k:=by
 by_cases h8:k=8
 ·subst h8
  exact h
 ·rw[y6 h8]
  rw[show txtF p k=Lib.itoa (getF p k) from y6 h8,show txtF q k=Lib.itoa (getF q k) from y6 h8] at h
  exact zhn ((condN h8).1 hp).1 ((condN h8).1 hq).1 h
theorem zhr:∀ (ks:List Nat) (r:TOp),(∀ k∈ks,k<=8)->((∀ j,j<8->j ∉ ks->getF (ks.foldl clrF r) j=getF r j)/\(8 ∉ ks->(ks.foldl clrF r).E=r.E))
 | [],r,_=>⟨fun _ _ _=>rfl,fun _=>rfl⟩
 | k :: ks,r,h=>by
  obtain⟨h1,h2⟩:=zhr ks (clrF r k) fun x hx=>h x (yo _ hx)
  have hk:=h k (y13 ..)
  have e:k=0\/k=1\/k=2\/k=3\/k=4\/k=5\/k=6\/k=7\/k=8:=om
  refine⟨fun j hj hn=>?_,fun hn=>?_⟩
  ·have hn1:j ∉ ks:=fun x=>hn (yo _ x)
   have hn2:j≠k:=fun x=>hn (x▸y13 ..)
   rw[y2l,h1 j hj hn1]
   have e2:j=0\/j=1\/j=2\/j=3\/j=4\/j=5\/j=6\/j=7:=om
   clear h1 h2 hn hn1
   rcases e with rfl | rfl | rfl | rfl | rfl | rfl | rfl | rfl | rfl <;> rcases e2 with rfl | rfl | rfl | rfl | rfl | rfl | rfl | rfl <;> first | rfl | exact absurd rfl hn2
  ·have hn1:8 ∉ ks:=fun x=>hn (yo _ x)
   have hn2:k≠8:=fun x=>hn (x▸y13 ..)
   rw[y2l,h2 hn1]
   clear h1 h2 hn hn1
   rcases e with rfl | rfl | rfl | rfl | rfl | rfl | rfl | rfl | rfl <;> first | rfl | exact absurd rfl hn2
theorem zhs (h0:p.M=q.M) (h1:p.E=q.E) (h:∀ j,j<8->getF p j=getF q j):p=q:=by
 obtain⟨a0,a1,a2,a3,a4,a5,a6,a7,a8,a9⟩:=p
 obtain⟨b0,b1,b2,b3,b4,b5,b6,b7,b8,b9⟩:=q
 simp only at h0 h1
 have k0:a2=b2:=h 0 om
 have k1:a3=b3:=h 1 om
 have k2:a5=b5:=h 2 om
 have k3:a4=b4:=h 3 om
 have k4:a6=b6:=h 4 om
 have k5:a7=b7:=h 5 om
 have k6:a8=b8:=h 6 om
 have k7:a9=b9:=h 7 om
 subst h0 h1 k0 k1 k2 k3 k4 k5 k6 k7
 rfl
theorem POp.zero (h:POp p):(∀ j,j<8->j ∉ partsK p.M->getF p j=0)/\(8 ∉ partsK p.M->p.E=[]):=by
 obtain⟨h1,h2⟩:=zhr (partsK p.M) (unK p) (z7k _)
 rw[h.2.2] at h1 h2
 refine⟨fun j hj hn=>?_,fun hn=>(h2 hn).symm⟩
 have e:=(h1 j hj hn).symm
 have e2:j=0\/j=1\/j=2\/j=3\/j=4\/j=5\/j=6\/j=7:=om
 clear h1 h2 hn
 rcases e2 with rfl | rfl | rfl | rfl | rfl | rfl | rfl | rfl <;> exact e
theorem znl (hp:POp p) (hq:POp q) (h:textT p=textT q):p=q:=by
 have e:=(z4b hp).symm.trans ((yj (splitU 32) h).trans (z4b hq))
 obtain⟨e1,e2⟩:=List.cons.inj e
 have hk:=zf3 hp.1 hq.1 e1
 have z1:=hp.zero
 have z2:=hq.zero
 rw[<- hk] at e2 z2
 have key:∀ k∈partsK p.M,txtF p k=txtF q k:=List.map_inj_left.1 e2
 have c2:=hq.2.1
 rw[<- hk] at c2
 refine zhs hk ?_ fun j hj=>?_
 ·by_cases h8:8∈partsK p.M
  ·exact zhq (hp.2.1 8 h8) (c2 8 h8) (key 8 h8)
  ·rw[z1.2 h8,z2.2 h8]
 ·by_cases hm:j∈partsK p.M
  ·have:=zhq (hp.2.1 j hm) (c2 j hm) (key j hm)
   rwa [y6 om] at this
  ·rw[z1.1 j hj hm,z2.1 j hj hm]
theorem zl1 (h:POp p):(textT p).length<=200:=by
 have e:∀ {k:Nat},k∈partsK p.M->(txtF p k).length<=16:=fun {k} hk=>by
  by_cases h8:k=8
  ·subst h8
   have:=z4l ((zb3 p).1 (h.2.1 8 hk))
   show p.E.length<=16
   omega
  ·have h1:=(condN h8).1 (h.2.1 k hk)
   have h2:=z5s k
   rw[show txtF p k=Lib.itoa (getF p k) from y6 h8]
   exact z26 h1.1 om
 have hwl:=z4w p.M
 have hpl:=z6k p.M
 unfold textT
 rw[Lib.join_cons,yn]
 have h1:=z5a (B:=16) (s:=[32]) (l:=(partsK p.M).map (txtF p)) fun x hx=>by
  obtain⟨k,hk,rfl⟩:=y1f.1 hx
  exact e hk
 have h3:((partsK p.M).map (txtF p)).length * (1+16)<=5 * 17:=yp _ (by rw[y2f]; exact hpl)
 simp only[yf,y11] at h1
 omega
theorem zfr (s:Y8) (l:List Y8) (x:Y8):Lib.joinTail s (l++[x])=Lib.joinTail s l++(s++x):=by simp[Lib.joinTail]
theorem zf4 (l:List Int) (c:Bool) (h:∀ x∈l,numT x) (hl:l.length<=5) {s:Y8} (hs:s.length<=1000):rangeM (fun i s=>(S_qd_b1 (l,c) i s).den) l.length 0 s=some (.next (s++Lib.joinTail [32] (l.map Lib.itoa))):=by
 obtain⟨u,e,hu⟩:=z25 (body:=fun i s=>(S_qd_b1 (l,c) i s).den) (n:=l.length) (fun i u=>u=s++Lib.joinTail [32] ((l.take i).map Lib.itoa)) (s0:=s) (by simp[Lib.joinTail]) (fun i u hi hu=>by
  subst hu
  have hx:=h _ (zd hi)
  simp only[S_qd_b1,Scr.den]
  rw[z3j hx.1 hx.2]
  simp only[obind]
  have h1:=z26 hx.1 hx.2
  have h2:=z5a (B:=16) (s:=[32]) (l:=(l.take i).map Lib.itoa) fun y hy=>by
   obtain⟨z,hz,rfl⟩:=y1f.1 hy
   have:=h z (y2q hz)
   exact z26 this.1 this.2
  have h3:(Lib.joinTail [32] ((l.take i).map Lib.itoa)).length<=5 * 17:=y1w h2 (Nat.mul_le_mul (by rw[y2f,y16]; omega) sj)
  rw[z6 ⟨by simp only[yf,y11]; omega,by simp only[yn,yf,y11]; omega,trivial⟩]
  refine⟨_,rfl,?_⟩
  rw[y2i,ya hi,y58,List.map_append,List.map_singleton,zfr,y1v,z1a hi])
 rw[e,hu,y1d (yd _)]
variable {k:Int}
theorem z6a (h:1<=k/\k<=9):∃ w,F_q3i=some w/\w.length=10/\w.getD k.toNat dF=wordK k:=by
 rcases z2j h with rfl | rfl | rfl | rfl | rfl | rfl | rfl | rfl | rfl <;> exact⟨_,rfl,rfl,rfl⟩
theorem z1h {l:List Int} {c:Bool} (hc:p.E.length<=1000000) (hP:POp p) (e1:F_qv p=some (l,c)) (hn:∀ x∈l,numT x) (hl:l.length<=5) (hy:c=true->p.E.length<=60/\0<=p.H/\p.H<=99) (he:(if c=true then wordK p.M++((([32]++p.E)++[32])++Lib.itoa p.H) else wordK p.M)++Lib.joinTail [32] (l.map Lib.itoa)=textT p):F_qd p=some (textT p):=by
 obtain⟨w,ew,hwl,hw⟩:=z6a hP.1
 have hk:=hP.1
 have hwk:=z4w p.M
 simp only[F_qd,S_qd,Scr.den,z1y hc,@decide_eq_true _ (_) hP,ew,e1,obind]
 rw[y6 sj,z6 ⟨om,om,trivial⟩,hw]
 cases c with
 | true =>
  obtain⟨h1,h2,h3⟩:=hy rfl
  have h4:=z26 h2 (show p.H<=1000000000000000 from om)
  rw[y7 rfl,z3j h2 om]
  simp only[obind]
  rw[z6 ⟨sk,sk,sk,sk,trivial⟩]
  simp only[zh]
  rw[y7 rfl] at he
  rw[zf4 l true hn hl sk,he]
  rfl
 | false =>
  rw[y6 sj]
  simp only[zh]
  rw[y6 sj] at he
  rw[zf4 l false hn hl om,he]
  rfl
theorem z5z (hc:p.E.length<=1000000):F_qd p=some (textS p):=by
 by_cases hP:POp p
 ·rw[z1x hP]
  have hk:=hP.1
  have hc60:=hP.len
  have h2:=hP.2.1
  have num:∀ {k:Nat},k∈partsK p.M->k≠8->numT (getF p k):=fun {k} hm h8=>by
   have:=(condN h8).1 (h2 k hm)
   have:=z5s k
   exact⟨om,om⟩
  have yr:0∈partsK p.M->0<=p.H/\p.H<=99:=fun hm=>(condN (show (0:Nat)≠8 from om)).1 (h2 0 hm)
  obtain⟨K,C,Y,D,O,A,P,U,G,B⟩:=p
  rcases z2j hk with h | h | h | h | h | h | h | h | h <;> simp only at h <;> subst h
  ·exact z1h hc hP (l:=[D,A]) (c:=true) rfl (by
    intro x hx
    simp only[yh,y14,y1u] at hx
    rcases hx with rfl | rfl
    ·exact num (k:=1) (show 1∈partsK 1 from dk) om
    ·exact num (k:=2) (show 2∈partsK 1 from dk) om) sj (fun _=>⟨hc60,yr (show 0∈partsK 1 from dk)⟩) (by simp[textT,Lib.join_cons,Lib.joinTail,partsK,txtF,getF])
  ·exact z1h hc hP (l:=[O,D,A,P,U]) (c:=false) rfl (by
    intro x hx
    simp only[yh,y14,y1u] at hx
    rcases hx with rfl | rfl | rfl | rfl | rfl
    ·exact num (k:=3) (show 3∈partsK 2 from dk) om
    ·exact num (k:=1) (show 1∈partsK 2 from dk) om
    ·exact num (k:=2) (show 2∈partsK 2 from dk) om
    ·exact num (k:=4) (show 4∈partsK 2 from dk) om
    ·exact num (k:=5) (show 5∈partsK 2 from dk) om) sj (fun h=>absurd h sj) (by simp[textT,Lib.join_cons,Lib.joinTail,partsK,txtF,getF])
  ·exact z1h hc hP (l:=[O,D,A]) (c:=false) rfl (by
    intro x hx
    simp only[yh,y14,y1u] at hx
    rcases hx with rfl | rfl | rfl
    ·exact num (k:=3) (show 3∈partsK 3 from dk) om
    ·exact num (k:=1) (show 1∈partsK 3 from dk) om
    ·exact num (k:=2) (show 2∈partsK 3 from dk) om) sj (fun h=>absurd h sj) (by simp[textT,Lib.join_cons,Lib.joinTail,partsK,txtF,getF])
  ·exact z1h hc hP (l:=[O,D]) (c:=false) rfl (by
    intro x hx
    simp only[yh,y14,y1u] at hx
    rcases hx with rfl | rfl
    ·exact num (k:=3) (show 3∈partsK 4 from dk) om
    ·exact num (k:=1) (show 1∈partsK 4 from dk) om) sj (fun h=>absurd h sj) (by simp[textT,Lib.join_cons,Lib.joinTail,partsK,txtF,getF])
  ·exact z1h hc hP (l:=[O,A]) (c:=false) rfl (by
    intro x hx
    simp only[yh,y14,y1u] at hx
    rcases hx with rfl | rfl
    ·exact num (k:=3) (show 3∈partsK 5 from dk) om
    ·exact num (k:=2) (show 2∈partsK 5 from dk) om) sj (fun h=>absurd h sj) (by simp[textT,Lib.join_cons,Lib.joinTail,partsK,txtF,getF])
  ·exact z1h hc hP (l:=[O,A]) (c:=false) rfl (by
    intro x hx
    simp only[yh,y14,y1u] at hx
    rcases hx with rfl | rfl
    ·exact num (k:=3) (show 3∈partsK 6 from dk) om
    ·exact num (k:=2) (show 2∈partsK 6 from dk) om) sj (fun h=>absurd h sj) (by simp[textT,Lib.join_cons,Lib.joinTail,partsK,txtF,getF])
  ·exact z1h hc hP (l:=[A]) (c:=true) rfl (by
    intro x hx
    simp only[yh,y14,y1u] at hx
    rcases hx with rfl
    exact num (k:=2) (show 2∈partsK 7 from dk) om) sj (fun _=>⟨hc60,yr (show 0∈partsK 7 from dk)⟩) (by simp[textT,Lib.join_cons,Lib.joinTail,partsK,txtF,getF])
  ·exact z1h hc hP (l:=[G,B]) (c:=true) rfl (by
    intro x hx
    simp only[yh,y14,y1u] at hx
    rcases hx with rfl | rfl
    ·exact num (k:=6) (show 6∈partsK 8 from dk) om
    ·exact num (k:=7) (show 7∈partsK 8 from dk) om) sj (fun _=>⟨hc60,yr (show 0∈partsK 8 from dk)⟩) (by simp[textT,Lib.join_cons,Lib.joinTail,partsK,txtF,getF])
  ·exact z1h hc hP (l:=[O]) (c:=false) rfl (by
    intro x hx
    simp only[yh,y14,y1u] at hx
    rcases hx with rfl
    exact num (k:=3) (show 3∈partsK 9 from dk) om) sj (fun h=>absurd h sj) (by simp[textT,Lib.join_cons,Lib.joinTail,partsK,txtF,getF])
 ·rw[z2r hP]
  simp only[F_qd,S_qd,Scr.den,z1y hc,@decide_eq_false _ (_) hP,obind]
  rfl
def setF (p:TOp) (k:Nat) (v:Int):TOp:=match k with
 | 0=>⟨p.M,p.E,v,p.O,p.Y,p.I,p.T,p.W,p.N,p.Q⟩
 | 1=>⟨p.M,p.E,p.H,v,p.Y,p.I,p.T,p.W,p.N,p.Q⟩
 | 2=>⟨p.M,p.E,p.H,p.O,p.Y,v,p.T,p.W,p.N,p.Q⟩
 | 3=>⟨p.M,p.E,p.H,p.O,v,p.I,p.T,p.W,p.N,p.Q⟩
 | 4=>⟨p.M,p.E,p.H,p.O,p.Y,p.I,v,p.W,p.N,p.Q⟩
 | 5=>⟨p.M,p.E,p.H,p.O,p.Y,p.I,p.T,v,p.N,p.Q⟩
 | 6=>⟨p.M,p.E,p.H,p.O,p.Y,p.I,p.T,p.W,v,p.Q⟩
 | _=>⟨p.M,p.E,p.H,p.O,p.Y,p.I,p.T,p.W,p.N,v⟩
def setC (p:TOp) (s:Y8):TOp:=⟨p.M,s,p.H,p.O,p.Y,p.I,p.T,p.W,p.N,p.Q⟩
def setK (q r:TOp) (k:Nat):TOp:=if k=8 then setC r q.E else setF r k (getF q k)
theorem zf5 (p:TOp) (k:Nat) (v:Int):(setF p k v).E=p.E:=by
 unfold setF
 split <;> rfl
theorem zrf (h:POp q):(partsK q.M).foldl (setK q) ⟨q.M,[],0,0,0,0,0,0,0,0⟩=q:=by
 obtain⟨z1,z2⟩:=h.zero
 have hk:=h.1
 clear h
 obtain⟨K,C,Y,D,O,A,P,U,G,B⟩:=q
 have e2:∀ j,j<8->j=0\/j=1\/j=2\/j=3\/j=4\/j=5\/j=6\/j=7:=fun j h=>om
 rcases z2j hk with h | h | h | h | h | h | h | h | h <;> simp only at h <;> subst h <;> refine zhs rfl ?_ ?_ <;>
  first
  | rfl
  | exact (z2 (by simp[partsK])).symm
  | (intro j hj; rcases e2 j hj with rfl | rfl | rfl | rfl | rfl | rfl | rfl | rfl <;> first | rfl | exact (z1 _ dk (by simp[partsK])).symm)
theorem zrg {l:Y8} (h:l.length<=1000000):F_q51 l=some (atoiF l):=z6 om
variable {i:Nat} {rv1 rv2:List Y8}
theorem zpe {k:Nat} (hi:i+1<rv1.length) (hb:rv1.length<=1000000) (hl:(rv1.getD (i+1) dF).length<=1000000) (hk:k<=8) (hg:(rv2.drop 1).getD i dF=nmF k) :
  (S_q3_b1 rv1 rv2 i p).den=some (if k=8 then .cont (setC p (rv1.getD (i+1) dF)) else if (atoiF (rv1.getD (i+1) dF)).2=true then .ret (.inr p) else .cont (setF p k (atoiF (rv1.getD (i+1) dF)).1)):=by
 have ei:(i64.wrap ((i:Int)+1))=((i+1:Nat):Int):=wrapId om om
 by_cases h8:k=8
 ·subst h8
  simp only[S_q3_b1,Scr.den]
  rw[hg,y7 (by rfl),ei,z6 ⟨om,hi,trivial⟩,y7 trivial]
  rfl
 rw[y6 h8]
 have e:k=0\/k=1\/k=2\/k=3\/k=4\/k=5\/k=6\/k=7:=om
 simp only[S_q3_b1,Scr.den]
 rw[hg,ei,yi,zrg hl]
 simp only[obind]
 have go:∀ (x:Option (Step TOp (R_q3 ⊕ TOp))),x=some (.cont (setF p k (atoiF (rv1.getD (i+1) dF)).1)) ->
   (if (atoiF (rv1.getD (i+1) dF)).2=true then some (Step.ret (Sum.inr p)) else x)=some (if (atoiF (rv1.getD (i+1) dF)).2=true then .ret (.inr p) else .cont (setF p k (atoiF (rv1.getD (i+1) dF)).1)):=by
  intro x hx
  by_cases h:(atoiF (rv1.getD (i+1) dF)).2=true
  ·rw[y7 h,y7 h]
  ·rw[y6 h,y6 h,hx]
 rcases e with rfl | rfl | rfl | rfl | rfl | rfl | rfl | rfl
 all_goals
  rw[y6 dk,z6 ⟨om,hi,trivial⟩]
  refine go _ ?_
 ·have f:∀ q,F_q2w (nmF 0) q=some ():=fun q=>z6 ⟨dk,trivial⟩
  rw[y7 dk,f]
  rfl
 ·have f:∀ q,F_q2x (nmF 1) q=some ():=fun q=>(z6 ⟨dk,trivial⟩).trans (z6 ⟨dk,trivial⟩)
  rw[y6 dk,y7 dk,f]
  rfl
 ·have f:∀ q,F_q2y (nmF 2) q=some ():=fun q=>(z6 ⟨dk,trivial⟩).trans ((z6 ⟨dk,trivial⟩).trans (z6 ⟨dk,trivial⟩))
  rw[y6 dk,y6 dk,y7 dk,f]
  rfl
 ·have f:∀ q,F_q2z (nmF 3) q=some ():=fun q=>(z6 ⟨dk,trivial⟩).trans ((z6 ⟨dk,trivial⟩).trans ((z6 ⟨dk,trivial⟩).trans (z6 ⟨dk,trivial⟩)))
  rw[y6 dk,y6 dk,y6 dk,y7 dk,f]
  rfl
 ·have f:∀ q,F_q30 (nmF 4) q=some ():=fun q=>(z6 ⟨dk,trivial⟩).trans ((z6 ⟨dk,trivial⟩).trans ((z6 ⟨dk,trivial⟩).trans ((z6 ⟨dk,trivial⟩).trans (z6 ⟨dk,trivial⟩))))
  rw[y6 dk,y6 dk,y6 dk,y6 dk,y7 dk,f]
  rfl
 ·have f:∀ q,F_q31 (nmF 5) q=some ():=fun q=>(z6 ⟨dk,trivial⟩).trans ((z6 ⟨dk,trivial⟩).trans ((z6 ⟨dk,trivial⟩).trans ((z6 ⟨dk,trivial⟩).trans ((z6 ⟨dk,trivial⟩).trans (z6 ⟨dk,trivial⟩)))))
  rw[y6 dk,y6 dk,y6 dk,y6 dk,y6 dk,y7 dk,f]
  rfl
 ·have f:∀ q,F_q32 (nmF 6) q=some ():=fun q=>(z6 ⟨dk,trivial⟩).trans ((z6 ⟨dk,trivial⟩).trans ((z6 ⟨dk,trivial⟩).trans ((z6 ⟨dk,trivial⟩).trans ((z6 ⟨dk,trivial⟩).trans ((z6 ⟨dk,trivial⟩).trans (z6 ⟨dk,trivial⟩))))))
  rw[y6 dk,y6 dk,y6 dk,y6 dk,y6 dk,y6 dk,y7 dk,f]
  rfl
 ·have f:∀ q,F_q33 (nmF 7) q=some ():=fun q=>(z6 ⟨dk,trivial⟩).trans ((z6 ⟨dk,trivial⟩).trans ((z6 ⟨dk,trivial⟩).trans ((z6 ⟨dk,trivial⟩).trans ((z6 ⟨dk,trivial⟩).trans ((z6 ⟨dk,trivial⟩).trans ((z6 ⟨dk,trivial⟩).trans (z6 ⟨dk,trivial⟩)))))))
  rw[y6 dk,y6 dk,y6 dk,y6 dk,y6 dk,y6 dk,y6 dk,f]
  rfl
theorem zl2 (hb:rv1.length<=1000000) (hl:∀ x∈rv1,x.length<=1000000):∀ (ks:List Nat) (i:Nat) (p:TOp),i+1+ks.length=rv1.length->(∀ k∈ks,k<=8)->(rv2.drop 1).drop i=ks.map nmF->p.E.length<=1000000 ->
  (∃ o,rangeM (fun i s=>(S_q3_b1 rv1 rv2 i s).den) ks.length i p=some o/\((∃ s,o = .next s/\s.E.length<=1000000)\/∃ s,o = .ret (.inr s))) /\
  (∀ q,(∀ k∈ks,condF q k)->rv1.drop (i+1)=ks.map (txtF q)->rangeM (fun i s=>(S_q3_b1 rv1 rv2 i s).den) ks.length i p=some (.next (ks.foldl (setK q) p))):=by
 intro ks
 induction ks with
 | nil=>intro i p _ _ _ hp; exact⟨⟨_,rfl,.inl ⟨_,rfl,hp⟩⟩,fun q _ _=>rfl⟩
 | cons k ks ih =>
  intro i p hi h8 hd hp
  rw[yf] at hi
  have hlt:i+1<rv1.length:=om
  have hg:(rv2.drop 1).getD i dF=nmF k:=by
   have:=yj (fun z=>z[0]?) hd
   rw[y9]
   rw[y1p] at this
   rw[y2m] at this
   rw[this]
   rfl
  have hw:(rv1.getD (i+1) dF).length<=1000000:=hl _ (zd hlt)
  have hs:=zpe (p:=p) hlt hb hw (h8 k (y13 ..)) hg
  have hd2:(rv2.drop 1).drop (i+1)=ks.map nmF:=by
   have:=yj (List.drop 1) hd
   rw[y3o] at this
   exact this
  have st:=fun (p':TOp) (hp':p'.E.length<=1000000)=>ih (i+1) p' om (fun x hx=>h8 x (yo _ hx)) hd2 hp'
  simp only[yf,rangeM,hs]
  refine⟨?_,fun q hq hr=>?_⟩
  ·by_cases hk:k=8
   ·rw[y7 hk]
    exact (st _ hw).1
   ·rw[y6 hk]
    by_cases ha:(atoiF (rv1.getD (i+1) dF)).2=true
    ·rw[y7 ha]
     exact⟨_,rfl,.inr ⟨_,rfl⟩⟩
    ·rw[y6 ha]
     exact (st _ (by rw[zf5]; exact hp)).1
  ·have e0:rv1.getD (i+1) dF=txtF q k:=by
    have:=yj (fun z=>z[0]?) hr
    rw[y9]
    rw[y1p,y2m] at this
    rw[this]
    rfl
   have hr2:rv1.drop (i+1+1)=ks.map (txtF q):=by
    have:=yj (List.drop 1) hr
    rw[y3o] at this
    exact this
   have hc:=hq k (y13 ..)
   rw[e0] at hw |-
   by_cases hk:k=8
   ·rw[y7 hk]
    have e1:setC p (txtF q k)=setK q p k:=by
     unfold setK
     rw[y7 hk,show txtF q k=q.E from y7 hk]
    rw[y2l,<- e1]
    exact (st _ hw).2 q (fun x hx=>hq x (yo _ hx)) hr2
   ·have e2:txtF q k=Lib.itoa (getF q k):=y6 hk
    have hn:=(condN hk).1 hc
    have hm:=z5s k
    rw[y6 hk,e2,zl0 hn.1 om,y6 sj]
    have e1:setF p k (getF q k)=setK q p k:=by
     unfold setK
     rw[y6 hk]
    rw[y2l,<- e1]
    exact (st _ (by rw[zf5]; exact hp)).2 q (fun x hx=>hq x (yo _ hx)) hr2
open Classical in
noncomputable def parseS (t:Y8):TOp×Int:=if h:∃ q,POp q/\textT q=t then (h.choose,0) else (zOp,4)
theorem z2d (t:Y8):(∃ q,POp q/\textT q=t/\parseS t=(q,0))\/((∀ q,POp q->textT q≠t)/\parseS t=(zOp,4)):=by
 by_cases h:∃ q,POp q/\textT q=t
 ·exact .inl ⟨h.choose,h.choose_spec.1,h.choose_spec.2,y3h h⟩
 ·exact .inr ⟨fun q h1 h2=>h ⟨q,h1,h2⟩,dif_neg h⟩
theorem zdb (hq:POp q):parseS (textT q)=(q,0):=by
 rcases z2d (textT q) with ⟨p,h1,h2,h3⟩ | ⟨h1,_⟩
 ·rw[h3,znl h1 hq h2]
 ·exact absurd rfl (h1 q hq)
variable {t:Y8}
theorem zfs (h:t.length<=100000):∀ x∈splitU 32 t,x.length<=1000000:=fun x hx=>by
 have:=z2n 32 t x hx
 omega
theorem zl3 (hl:t.length<=100000) {K:Int} (hK:1<=K/\K<=9) :
  (∃ q,POp q/\textT q=t/\(S_q3_b2 t (splitU 32 t) K).den=some (.ret (q,0)))\/((S_q3_b2 t (splitU 32 t) K).den=some (.cont (K+1))/\∀ q,POp q->q.M=K->textT q≠t):=by
 obtain⟨s,e1,e2⟩:=zda hK
 have hpl:=z6k K
 have hwl:=z4w K
 have hsl:=z3w 32 t
 have hs0:0<(splitU 32 t).length:=y2g.2 (z63 32 t)
 have eK:i64.wrap (K+1)=K+1:=wrapId om om
 have hh:(splitU 32 t).getD 0 dF=(splitU 32 t).head (z63 32 t):=by
  rw[z1a hs0,List.head_eq_getElem]
 simp only[S_q3_b2,Scr.den,e1,e2,obind,zb]
 rw[y7 (by simp only[y8]; omega),z6 ⟨sk,trivial⟩,z6 ⟨sj,hs0,trivial⟩,eK]
 by_cases hg:(wordK K :: (partsK K).map nmF).getD 0 dF≠(splitU 32 t).getD 0 dF\/(wordK K :: (partsK K).map nmF).length≠(splitU 32 t).length
 ·refine .inr ⟨?_,fun q hq hqK ht=>?_⟩
  ·rw[y7 (by
    rcases hg with h | h
    ·simp only[ye,yc,y1t]
     exact .inl h
    ·simp only[ye,y1g]
     exact .inr fun e=>h (by exact_mod_cast e))]
  ·have e:=z4b hq
   rw[ht,hqK] at e
   rw[e] at hg
   rcases hg with h | h
   ·exact h rfl
   ·exact h sj
 ·have hg1:(wordK K :: (partsK K).map nmF).getD 0 dF=(splitU 32 t).getD 0 dF:=y3z.1 fun h=>hg (.inl h)
  have hg2:(wordK K :: (partsK K).map nmF).length=(splitU 32 t).length:=y3z.1 fun h=>hg (.inr h)
  rw[y6 (by
   simp only[ye,yc,y1t,y1g,hg1,hg2]
   exact fun k=>k.elim (fun k=>k rfl) (fun k=>k rfl)),z6 ⟨sj,trivial⟩]
  have ht0:t≠[]:=fun e=>by
   rw[e] at hg1
   have:(wordK K).length=0:=by rw[show wordK K=[] from hg1]; rfl
   omega
  have hn:((wordK K :: (partsK K).map nmF).drop 1).length=(partsK K).length:=sj
  have hi:0+1+(partsK K).length=(splitU 32 t).length:=by rw[<- hg2]; simp; omega
  obtain⟨⟨o,ho,hcs⟩,hfull⟩:=zl2 (rv2:=wordK K :: (partsK K).map nmF) om (zfs hl) (partsK K) 0 ⟨K,[],0,0,0,0,0,0,0,0⟩ hi (z7k K) rfl sj
  have hz:∀ q,POp q->q.M=K->textT q=t->o = .next q:=fun q hq hqK ht=>by
   have e:=z4b hq
   rw[ht,hqK] at e
   have h2:=hq.2.1
   rw[hqK] at h2
   have:=hfull q h2 (by rw[e]; rfl)
   rw[ho] at this
   have f:=zrf hq
   rw[hqK] at f
   rw[f] at this
   exact yw this
  rw[hn,ho]
  rcases hcs with ⟨x,rfl,hx⟩ | ⟨x,rfl⟩
  ·simp only[zh,zb4 hx,obind]
   by_cases h:textS x=t
   ·have hP:POp x:=zhl.1 (by rw[h]; exact ht0)
    refine .inl ⟨x,hP,by rw[<- z1x hP]; exact h,?_⟩
    rw[y7 (by simpa using h)]
   ·refine .inr ⟨?_,fun q hq hqK ht=>?_⟩
    ·rw[y6 (by simpa using h)]
    ·have e:=hz q hq hqK ht
     injection e with e
     subst e
     exact h (by rw[z1x hq]; exact ht)
  ·refine .inr ⟨rfl,fun q hq hqK ht=>?_⟩
   have e:=hz q hq hqK ht
   cases e
theorem zdc {t:Y8} (hl:t.length<=100000):∀ (n:Nat) (K:Int),K+n=10->1<=K ->
  (∃ q,POp q/\textT q=t/\iterM (fun s=>(S_q3_b2 t (splitU 32 t) s).den) K=some (.ret (q,0)))\/((∃ s,iterM (fun s=>(S_q3_b2 t (splitU 32 t) s).den) K=some (.next s))/\∀ q,POp q->K<=q.M->textT q≠t)
 | 0,K,h,_=>by
  refine .inr ⟨⟨K,?_⟩,fun q hq hk=>by have:=hq.1; omega⟩
  rw[z1j]
  simp only[S_q3_b2,Scr.den]
  rw[y6 sk]
 | n+1,K,h,h1=>by
  rw[z1j]
  rcases zl3 hl (show 1<=K/\K<=9 from om) with ⟨q,a,b,c⟩ | ⟨a,b⟩
  ·exact .inl ⟨q,a,b,by rw[c]⟩
  ·rw[a]
   rcases zdc hl n (K+1) om om with ⟨q,c,d,e⟩ | ⟨c,d⟩
   ·exact .inl ⟨q,c,d,e⟩
   ·refine .inr ⟨c,fun q hq hk=>?_⟩
    by_cases e:q.M=K
    ·exact b q hq e
    ·exact d q hq om
theorem zht (hl:t.length<=100000):F_q3 t=some (parseS t):=by
 have hsl:=z3w 32 t
 have es:F_q50 t [32]=some (splitU 32 t):=z6 om
 simp only[F_q3,S_q3,Scr.den,es,obind]
 rw[z6 ⟨om,trivial⟩]
 rcases zdc hl 9 1 om om with ⟨q,a,b,c⟩ | ⟨⟨s,a⟩,b⟩
 ·rw[c,<- b,zdb a]
  rfl
 ·rw[a]
  rcases z2d t with ⟨q,h1,h2,h3⟩ | ⟨h1,h2⟩
  ·exact absurd h2 (b q h1 h1.1.1)
  ·rw[h2]
   rfl
theorem zju {b:Nat} (hb:b<=i) (hi:i<t.length):t.drop b=(t.drop b).take (i-b)++t.getD i 0 :: t.drop (i+1):=by
 have h1:(t.drop b).drop (i-b)=t.getD i 0 :: t.drop (i+1):=by
  rw[y3o,show b+(i-b)=i from om,y12 hi,y9,ya hi]
  rfl
 rw[<- h1,y2o]
theorem zjv {b:Nat} (hb:b<=i) (hi:i<t.length):(t.drop b).take (i+1-b)=(t.drop b).take (i-b)++[t.getD i 0]:=by
 rw[show i+1-b=(i-b)+1 from om,y2i,y1p,show b+(i-b)=i from om,ya hi,y9,ya hi]
 rfl
theorem z4x {x:UInt8} {z:Int} (hz:z=(c.toNat:Int)):(((x.toNat:Int)==z)=true)↔x=c:=by
 rw[yu,hz]
 constructor
 ·intro h
  exact y4c.1 om
 ·rintro rfl
  rfl
variable {ρ σ:Type} {step:σ->Option (Step σ ρ)} {s':σ}
theorem itC {s:σ} {r:Option (Out σ ρ)} (h:step s=some (.cont s')) (hr:iterM step s'=r):iterM step s=r:=by rw[z1j,h]; exact hr
theorem itB {s:σ} (h:step s=some (.brk s')):iterM step s=some (.next s'):=by rw[z1j,h]
theorem itR {s:σ} {x:ρ} (h:step s=some (.ret x)):iterM step s=some (.ret x):=by rw[z1j,h]
theorem z5t {t:Y8} (hl:t.length<=100000):∀ (n:Nat) (out:List Y8) (b i:Nat),i+n=t.length->b<=i->out.length<=i->(32:UInt8) ∉ (t.drop b).take (i-b) ->
  iterM (fun s=>(S_qk_b1 t s).den) (out,(b:Int),(i:Int))=some (.next (out++splitU 32 (t.drop b),(t.length:Int)+1,(t.length:Int)+1))
 | 0,out,b,i,h,hb,ho,hm=>by
  have e:i=t.length:=om
  subst e
  have ew:i64.wrap ((t.length:Int)+1)=(t.length:Int)+1:=wrapId om om
  have et:(t.drop b).take (t.length-b)=t.drop b:=y1d (by rw[y1h]; omega)
  rw[et] at hm
  have h1:(S_qk_b1 t (out,(b:Int),(t.length:Int))).den=some (.cont (out++[t.drop b],(t.length:Int)+1,(t.length:Int)+1)):=by
   simp only[S_qk_b1,Scr.den]
   rw[y7 sj,z6 ⟨fun k=>absurd k.1 sj,fun k=>absurd k.1 sj,trivial⟩,y7 sj,z6 ⟨om,om,om,om,om,trivial⟩,ew]
   simp only[yi,et]
  have h2:(S_qk_b1 t (out++[t.drop b],(t.length:Int)+1,(t.length:Int)+1)).den=some (.brk (out++[t.drop b],(t.length:Int)+1,(t.length:Int)+1)):=by
   simp only[S_qk_b1,Scr.den]
   rw[y6 sk]
  rw[z47 hm]
  exact itC h1 (itB h2)
 | n+1,out,b,i,h,hb,ho,hm=>by
  have hi:i<t.length:=om
  have ew:i64.wrap ((i:Int)+1)=((i+1:Nat):Int):=wrapId om om
  have hne:((i:Int)==(t.length:Int))=false:=by rw[y1t]; omega
  by_cases hc:t.getD i 0=32
  ·have h1:(S_qk_b1 t (out,(b:Int),(i:Int))).den=some (.cont (out++[(t.drop b).take (i-b)],((i+1:Nat):Int),((i+1:Nat):Int))):=by
    simp only[S_qk_b1,Scr.den]
    rw[y7 sk,z6 ⟨fun _=>om,fun _=>om,trivial⟩,hne]
    simp only[y4k,yi,ew]
    rw[y7 ((z4x (c:=32) (z:=32) rfl).2 hc),z6 ⟨om,om,om,om,om,trivial⟩]
   refine itC h1 ((z5t hl n _ (i+1) (i+1) om (yd _) sk sj).trans ?_)
   conv=>rhs; rw[zju hb hi,hc,z56 _ hm]
   simp
  ·have h1:(S_qk_b1 t (out,(b:Int),(i:Int))).den=some (.cont (out,(b:Int),((i+1:Nat):Int))):=by
    simp only[S_qk_b1,Scr.den]
    rw[y7 sk,z6 ⟨fun _=>om,fun _=>om,trivial⟩,hne]
    simp only[y4k,yi,ew]
    rw[y6 (fun k=>hc ((z4x (c:=32) (z:=32) rfl).1 k))]
   exact itC h1 (z5t hl n out b (i+1) om om om (by
    rw[zjv hb hi,y1i,y22]
    exact fun k=>k.elim hm fun k=>hc k.symm))
theorem zhu (hl:t.length<=100000):F_qk t=some (splitU 32 t):=by
 have h:=z5t hl t.length [] 0 0 om (yd _) (y38 _) sj
 have hs:=z3w 32 t
 have h':iterM (fun s=>(S_qk_b1 t s).den) (([]:List Y8),(0:Int),(0:Int))=some (.next (splitU 32 t,(t.length:Int)+1,(t.length:Int)+1)):=h
 simp only[F_qk,S_qk,Scr.den,h',zh]
 rw[z6 ⟨om,trivial⟩]
theorem zpf {m:Nat} {b:UInt8} (hb:48<=b.toNat/\b.toNat<=57) (hm:m<100000000000000000):i64.wrap (i64.wrap (10 * (m:Int))+i64.wrap (IntKind.u8.wrap ((b.toNat:Int)-48)))=((m * 10+(b.toNat-48):Nat):Int):=by
 have e1:IntKind.u8.wrap ((b.toNat:Int)-48)=(b.toNat:Int)-48:=by
  show ((b.toNat:Int)-48) % 256=_
  omega
 rw[e1,wrapId (n:=10 * (m:Int)) om om,wrapId (n:=(b.toNat:Int)-48) om om,wrapId om om]
 omega
theorem z60 {l:Y8} (hl:l.length<=15):∀ (n:Nat) (i:Nat) (acc:Int),i+n=l.length ->
  (∃ o,iterM (fun s=>(S_q6_b1 l s).den) (acc,(i:Int))=some o) /\
  (∀ m k:Nat,acc=(m:Int)->m<10 ^ i->(∀ b∈l.drop i,48<=b.toNat/\b.toNat<=57)->Lib.decFrom m (l.drop i)=some k->iterM (fun s=>(S_q6_b1 l s).den) (acc,(i:Int))=some (.next ((k:Int),(l.length:Int))))
 | 0,i,acc,h=>by
  have e:iterM (fun s=>(S_q6_b1 l s).den) (acc,(i:Int))=some (.next (acc,(i:Int))):=itB (by
   simp only[S_q6_b1,Scr.den]
   rw[y6 sk])
  refine⟨⟨_,e⟩,fun m k ha _ _ hk=>?_⟩
  rw[y1e om] at hk
  simp only[Lib.decFrom,yq] at hk
  rw[e,ha,hk,show i=l.length from om]
 | n+1,i,acc,h=>by
  have hi:i<l.length:=om
  have ew:i64.wrap ((i:Int)+1)=((i+1:Nat):Int):=wrapId om om
  have ed:l.drop i=l.getD i 0 :: l.drop (i+1):=by
   rw[y12 hi,y9,ya hi]
   rfl
  have h1:(S_q6_b1 l (acc,(i:Int))).den=some (if (decide (((l.getD i 0).toNat:Int)<48)||decide (((l.getD i 0).toNat:Int)>57))=true then .ret (0,false) else .cont (i64.wrap (i64.wrap (10 * acc)+i64.wrap (IntKind.u8.wrap (((l.getD i 0).toNat:Int)-48))),((i+1:Nat):Int))):=by
   simp only[S_q6_b1,Scr.den,zb]
   rw[y7 sk,z6 ⟨om,om,fun _=>om,fun _=>om,trivial⟩]
   simp only[yi,ew]
   split <;> rfl
  refine⟨?_,fun m k ha hm hd hk=>?_⟩
  ·by_cases hc:(decide (((l.getD i 0).toNat:Int)<48)||decide (((l.getD i 0).toNat:Int)>57))=true
   ·rw[y7 hc] at h1
    exact⟨_,itR h1⟩
   ·rw[y6 hc] at h1
    obtain⟨o,ho⟩:=(z60 hl n (i+1) (i64.wrap (i64.wrap (10 * acc)+i64.wrap (IntKind.u8.wrap (((l.getD i 0).toNat:Int)-48)))) om).1
    exact⟨o,itC h1 ho⟩
  ·rw[ed] at hd hk
   have hb:=hd _ (y13 ..)
   rw[y6 (by simp only[ye,y8]; omega)] at h1
   have h15:m<10 ^ 15:=y17 hm (Nat.pow_le_pow_right om om)
   refine itC h1 ((z60 hl n (i+1) _ om).2 (m * 10+((l.getD i 0).toNat-48)) k ?_ ?_ (fun b hb=>hd b (yo _ hb)) ?_)
   ·rw[ha]
    exact zpf hb om
   ·rw[Nat.pow_succ]; omega
   ·simp only[Lib.decFrom,Lib.digitVal] at hk
    rw[y7 hb] at hk
    exact hk
theorem z8w (l:Y8):∃ x,F_q6 l=some x:=by
 simp only[F_q6,S_q6,Scr.den,zb,zj]
 rw[z6 ⟨fun k=>by have:=k.1; simp at this; omega,trivial⟩]
 by_cases h:(decide ((l.length:Int)<1)||decide ((l.length:Int)>15)||(decide ((l.length:Int)>1)&&((l.getD 0 0).toNat:Int)==48))=true
 ·rw[y7 h]; exact⟨_,rfl⟩
 ·rw[y6 h]
  have hl:l.length<=15:=by
   simp only[ye,y8] at h
   omega
  obtain⟨o,ho⟩:=(z60 hl l.length 0 0 om).1
  have ho:iterM (fun s=>(S_q6_b1 l s).den) ((0:Int),(0:Int))=some o:=ho
  rw[ho]
  cases o with
  | next s=>exact⟨_,rfl⟩
  | ret r=>exact⟨_,rfl⟩
theorem z8x {l:Y8} (h1:1<=l.length) (h2:l.length<=15) (hh:1<l.length->(l.getD 0 0).toNat≠48) (hd:∀ b∈l,48<=b.toNat/\b.toNat<=57) {n:Nat} (hn:Lib.decFrom 0 l=some n):F_q6 l=some ((n:Int),true):=by
 simp only[F_q6,S_q6,Scr.den,zb,zj]
 rw[z6 ⟨fun k=>om,trivial⟩,y6 (by
  simp only[ye,y8,yk,yu]
  intro k
  rcases k with (k | k) | k
  ·omega
  ·omega
  ·exact hh om (by have:=k.2; omega))]
 have ho:iterM (fun s=>(S_q6_b1 l s).den) ((0:Int),(0:Int))=some (.next ((n:Int),(l.length:Int))):=(z60 h2 l.length 0 0 om).2 0 n rfl dk hd hn
 rw[ho]
 rfl
theorem zrh (l:Y8) (_hl:l.length<=100000):∃ x,F_q1l l=some x:=by
 simp only[F_q1l,S_q1l,Scr.den]
 by_cases h:((l.length:Int)==16)=true
 ·have h':l.length=16:=by have:=yu.1 h; omega
  obtain⟨x,hx⟩:=z8w (l.take 8)
  obtain⟨y,hy⟩:=z8w ([49]++(l.drop 8).take (l.length-8))
  rw[y7 h,hx]
  simp only[obind]
  rw[z6 ⟨om,trivial⟩,hy]
  simp only[obind]
  rw[z6 ⟨sk,trivial⟩]
  split <;> exact⟨_,rfl⟩
 ·obtain⟨x,hx⟩:=z8w l
  rw[y6 h,hx]
  simp only[obind]
  split <;> exact⟨_,rfl⟩
noncomputable def bigV (l:Y8):Int:=(F_q1l l).getD 0
theorem zhv {l:Y8} (hl:l.length<=100000):F_q1l l=some (bigV l):=by
 obtain⟨x,hx⟩:=zrh l hl
 unfold bigV
 rw[hx]
 rfl
variable {n:Int}
theorem zpg (h0:0<=n) (h1:n<=1000000000000000):bigV (Lib.itoa n)=n:=by
 have key:F_q1l (Lib.itoa n)=some n:=by
  simp only[F_q1l,S_q1l,Scr.den]
  by_cases h:n=1000000000000000
  ·subst h
   have e:Lib.itoa 1000000000000000=[49,48,48,48,48,48,48,48,48,48,48,48,48,48,48,48]:=by
    rw[z2x dk]
    simp[Lib.decDigits]
   rw[e]
   have a1:F_q6 ([49,48,48,48,48,48,48,48,48,48,48,48,48,48,48,48].take 8)=some (((10000000:Nat):Int),true):=z8x dk dk dk dk dk
   have a2:F_q6 ([49]++([49,48,48,48,48,48,48,48,48,48,48,48,48,48,48,48].drop 8).take (16-8))=some (((100000000:Nat):Int),true):=z8x dk dk dk dk dk
   rw[y7 dk,a1]
   simp only[obind]
   rw[z6 ⟨dk,trivial⟩,show ([49,48,48,48,48,48,48,48,48,48,48,48,48,48,48,48]:Y8).length=16 from rfl,a2]
   simp only[obind]
   rw[z6 ⟨dk,trivial⟩]
   decide
  ·have hl:(Lib.itoa n).length<=15:=by
    rw[z2x h0]
    exact zjt 14 _ om
   have hd:F_q6 (Lib.itoa n)=some (((n.toNat:Nat):Int),true):=by
    rw[z2x h0] at hl |-
    exact z8x (y2g.2 (zhm _)) hl (fun k=>by
     by_cases h10:10<=n.toNat
     ·exact zpa _ h10
     ·rw[zci om] at k; omega) (ze5 _) (z5y _)
   rw[y6 sk,hd]
   simp only[obind]
   rw[y6 sj,y46 h0]
 unfold bigV
 rw[key]
 rfl
def numK (k:Int):List Nat :=
 if k=1 then [1,2] else if k=2 then [3,1,2,4,5] else if k=3 then [3,1,2] else if k=4 then [3,1] else if k=5 then [3,2] else if k=6 then [3,2] else
 if k=7 then [2] else if k=8 then [6,7] else [3]
def codedK (k:Int):Bool:=decide (k=1)||decide (k=7)||decide (k=8)
theorem zbs (h:0<=k/\k<=9):k=0\/k=1\/k=2\/k=3\/k=4\/k=5\/k=6\/k=7\/k=8\/k=9:=om
theorem zph (k:Int):(numK k).length<=5:=by
 unfold numK
 repeat' split
 all_goals decide
theorem zri (k:Int):∀ x∈numK k,x<8:=by
 unfold numK
 repeat' split
 all_goals decide
theorem z6l (h:1<=k/\k<=9):partsK k=if codedK k=true then 8 :: 0 :: numK k else numK k:=by
 rcases z2j h with rfl | rfl | rfl | rfl | rfl | rfl | rfl | rfl | rfl <;> rfl
theorem zl4 (h:0<=k/\k<=9):∃ l:List Int,F_q4f ⟨k,[],0,0,0,0,0,0,0,0⟩=some (codedK k,l)/\l.length=(numK k).length:=by
 rcases zbs h with rfl | rfl | rfl | rfl | rfl | rfl | rfl | rfl | rfl | rfl <;> exact⟨_,rfl,rfl⟩
noncomputable def valJ (w:List Y8) (j:Nat):Int:=if j<w.length then bigV (w.getD j dF) else -1
theorem znm {rv5:R_q4f} {sv6:List Y8×Y8×Int} (hw:∀ x∈sv6.1,x.length<=100000) (l0:List Int) (_hl0:l0.length<=100) :
  ∃ l:List Int,rangeM (fun i s=>(S_qe_b2 t k rv5 sv6 i s).den) l0.length 0 l0=some (.next l)/\l.length=l0.length/\∀ j,j<l0.length->l.getD j dF=valJ sv6.1 j:=by
 obtain⟨l,e,h1,h2⟩:=z25 (body:=fun i s=>(S_qe_b2 t k rv5 sv6 i s).den) (n:=l0.length) (fun i l=>l.length=l0.length/\∀ j,j<i->l.getD j dF=valJ sv6.1 j) (s0:=l0) ⟨rfl,fun j hj=>om⟩ (fun i l hi hI=>by
  obtain⟨h1,h2⟩:=hI
  simp only[S_qe_b2,Scr.den]
  rw[z6 ⟨om,om,trivial⟩]
  have g1:∀ (v:Int) (j:Nat),j<l.length->(l.set (0+i) v).getD j dF=if j=i then v else l.getD j dF:=fun v j hj=>by
   rw[y1a,y9,List.getElem?_set]
   by_cases hji:i=j
   ·subst hji
    rw[y7 rfl,y7 hj,y7 rfl]
    rfl
   ·rw[y6 hji,y6 (fun e=>hji e.symm),y9]
  by_cases hc:i<sv6.1.length
  ·have hx:=hw _ (zd hc)
   rw[y7 sk,zhv hx]
   simp only[obind]
   rw[z6 ⟨hc,by rw[yl]; omega,by rw[yl]; omega,trivial⟩]
   refine⟨_,rfl,by rw[yl,yl]; exact h1,fun j hj=>?_⟩
   rw[List.set_set,g1 _ j om]
   by_cases hji:j=i
   ·subst hji
    rw[y7 rfl]
    unfold valJ
    rw[y7 hc]
   ·rw[y6 hji]
    exact h2 j om
  ·rw[y6 sk]
   refine⟨_,rfl,by rw[yl]; exact h1,fun j hj=>?_⟩
   rw[g1 _ j om]
   by_cases hji:j=i
   ·subst hji
    rw[y7 rfl]
    unfold valJ
    rw[y6 hc]
   ·rw[y6 hji]
    exact h2 j om)
 exact⟨l,e,h1,h2⟩
variable {ws:List Y8}
theorem znn (hw0:0<ws.length):∃ (rv2:List Y8) (k:Int),F_q3i=some rv2/\rangeM (fun i s=>(S_qe_b1 ws rv2 i s).den) rv2.length 0 (0:Int)=some (.next k)/\(0<=k/\k<=9)/\∀ K,1<=K/\K<=9->ws.getD 0 dF=wordK K->k=K:=by
 obtain⟨rv2,e2,hl2,_⟩:=z6a (k:=1) ⟨om,om⟩
 have hg:∀ i:Nat,1<=i->i<10->rv2.getD i dF=wordK i:=fun i h1 h2=>by
  obtain⟨w,a,_,b⟩:=z6a (k:=(i:Int)) ⟨om,om⟩
  rw[e2] at a
  injection a with a
  rw[<- a,yi] at b
  exact b
 refine⟨rv2,?_⟩
 obtain⟨k,e,h1,h2⟩:=z25 (body:=fun i s=>(S_qe_b1 ws rv2 i s).den) (n:=rv2.length) (fun i (k:Int)=>(0<=k/\k<=9)/\∀ K:Int,1<=K/\K<=9->K<i->ws.getD 0 dF=wordK K->k=K) (s0:=(0:Int)) ⟨om,fun K h1 h2=>om⟩ (fun i k hi hI=>by
  obtain⟨h1,h2⟩:=hI
  simp only[S_qe_b1,Scr.den,zj]
  rw[z6 ⟨fun _=>hw0,trivial⟩]
  by_cases hc:1<=i/\rv2.getD i dF=ws.getD 0 dF
  ·rw[y7 (by
    rw[yk,y8,yu]
    exact⟨om,hc.2⟩)]
   refine⟨_,rfl,om,fun K hK _ hw=>?_⟩
   rw[<- hc.2,hg i hc.1 om] at hw
   exact zf3 ⟨om,om⟩ hK hw
  ·rw[y6 (by
    rw[yk,y8,yu]
    exact fun k=>hc ⟨om,k.2⟩)]
   refine⟨_,rfl,h1,fun K hK hlt hw=>?_⟩
   by_cases hKi:K=i
   ·exact absurd ⟨om,by rw[hg i om om,hw,hKi]⟩ hc
   ·exact h2 K hK om hw)
 exact⟨k,e2,e,h1,fun K hK hw=>h2 K hK om hw⟩
theorem zpi {l:List Int} (h:l.length=1):l=[l.getD 0 dF]:=by
 match l,h with
 | [a],_=>rfl
theorem zhw {l:List Int} (h:l.length=2):l=[l.getD 0 dF,l.getD 1 dF]:=by
 match l,h with
 | [a,b],_=>rfl
theorem zss {l:List Int} (h:l.length=3):l=[l.getD 0 dF,l.getD 1 dF,l.getD 2 dF]:=by
 match l,h with
 | [a,b,c],_=>rfl
theorem zst {l:List Int} (h:l.length=5):l=[l.getD 0 dF,l.getD 1 dF,l.getD 2 dF,l.getD 3 dF,l.getD 4 dF]:=by
 match l,h with
 | [a,b,c,d,e],_=>rfl
theorem zrj (hk:0<=k/\k<=9) (c:Y8) (y:Int) {l:List Int} (hl:l.length=(numK k).length):∃ p,F_qa k c y l=some p/\p.E=c /\
  (1<=k->p.M=k/\p.H=y/\(∀ j,j<(numK k).length->getF p ((numK k).getD j dF)=l.getD j dF)/\∀ i,i<8->i≠0->i ∉ numK k->getF p i=0):=by
 have e2:∀ j,j<8->j≠0->j=1\/j=2\/j=3\/j=4\/j=5\/j=6\/j=7:=fun j h1 h2=>om
 rcases zbs hk with rfl | rfl | rfl | rfl | rfl | rfl | rfl | rfl | rfl | rfl
 ·rw[zpi hl]
  refine⟨⟨0,c,y,0,l.getD 0 dF,0,0,0,0,0⟩,by simp[F_qa,S_qa,Scr.den,guardP,AllP,outM],rfl,fun h=>absurd h dk⟩
 ·have e:=zhw hl
  refine⟨⟨1,c,y,l.getD 0 dF,0,l.getD 1 dF,0,0,0,0⟩,by rw[e]; simp[F_qa,S_qa,Scr.den,guardP,AllP,outM],rfl,fun _=>⟨rfl,rfl,fun j hj=>?_,fun i h1 h2 h3=>?_⟩⟩
  ·have:j=0\/j=1:=by have:j<2:=hj; omega
   rcases this with rfl | rfl <;> rfl
  ·rcases e2 i h1 h2 with rfl | rfl | rfl | rfl | rfl | rfl | rfl <;> first | rfl | exact absurd dk h3
 ·have e:=zst hl
  refine⟨⟨2,c,y,l.getD 1 dF,l.getD 0 dF,l.getD 2 dF,l.getD 3 dF,l.getD 4 dF,0,0⟩,by rw[e]; simp[F_qa,S_qa,Scr.den,guardP,AllP,outM],rfl,fun _=>⟨rfl,rfl,fun j hj=>?_,fun i h1 h2 h3=>?_⟩⟩
  ·have:j=0\/j=1\/j=2\/j=3\/j=4:=by have:j<5:=hj; omega
   rcases this with rfl | rfl | rfl | rfl | rfl <;> rfl
  ·rcases e2 i h1 h2 with rfl | rfl | rfl | rfl | rfl | rfl | rfl <;> first | rfl | exact absurd dk h3
 ·have e:=zss hl
  refine⟨⟨3,c,y,l.getD 1 dF,l.getD 0 dF,l.getD 2 dF,0,0,0,0⟩,by rw[e]; simp[F_qa,S_qa,Scr.den,guardP,AllP,outM],rfl,fun _=>⟨rfl,rfl,fun j hj=>?_,fun i h1 h2 h3=>?_⟩⟩
  ·have:j=0\/j=1\/j=2:=by have:j<3:=hj; omega
   rcases this with rfl | rfl | rfl <;> rfl
  ·rcases e2 i h1 h2 with rfl | rfl | rfl | rfl | rfl | rfl | rfl <;> first | rfl | exact absurd dk h3
 ·have e:=zhw hl
  refine⟨⟨4,c,y,l.getD 1 dF,l.getD 0 dF,0,0,0,0,0⟩,by rw[e]; simp[F_qa,S_qa,Scr.den,guardP,AllP,outM],rfl,fun _=>⟨rfl,rfl,fun j hj=>?_,fun i h1 h2 h3=>?_⟩⟩
  ·have:j=0\/j=1:=by have:j<2:=hj; omega
   rcases this with rfl | rfl <;> rfl
  ·rcases e2 i h1 h2 with rfl | rfl | rfl | rfl | rfl | rfl | rfl <;> first | rfl | exact absurd dk h3
 ·have e:=zhw hl
  refine⟨⟨5,c,y,0,l.getD 0 dF,l.getD 1 dF,0,0,0,0⟩,by rw[e]; simp[F_qa,S_qa,Scr.den,guardP,AllP,outM],rfl,fun _=>⟨rfl,rfl,fun j hj=>?_,fun i h1 h2 h3=>?_⟩⟩
  ·have:j=0\/j=1:=by have:j<2:=hj; omega
   rcases this with rfl | rfl <;> rfl
  ·rcases e2 i h1 h2 with rfl | rfl | rfl | rfl | rfl | rfl | rfl <;> first | rfl | exact absurd dk h3
 ·have e:=zhw hl
  refine⟨⟨6,c,y,0,l.getD 0 dF,l.getD 1 dF,0,0,0,0⟩,by rw[e]; simp[F_qa,S_qa,Scr.den,guardP,AllP,outM],rfl,fun _=>⟨rfl,rfl,fun j hj=>?_,fun i h1 h2 h3=>?_⟩⟩
  ·have:j=0\/j=1:=by have:j<2:=hj; omega
   rcases this with rfl | rfl <;> rfl
  ·rcases e2 i h1 h2 with rfl | rfl | rfl | rfl | rfl | rfl | rfl <;> first | rfl | exact absurd dk h3
 ·have e:=zpi hl
  refine⟨⟨7,c,y,0,0,l.getD 0 dF,0,0,0,0⟩,by rw[e]; simp[F_qa,S_qa,Scr.den,guardP,AllP,outM],rfl,fun _=>⟨rfl,rfl,fun j hj=>?_,fun i h1 h2 h3=>?_⟩⟩
  ·have:j=0:=by have:j<1:=hj; omega
   rcases this with rfl
   rfl
  ·rcases e2 i h1 h2 with rfl | rfl | rfl | rfl | rfl | rfl | rfl <;> first | rfl | exact absurd dk h3
 ·have e:=zhw hl
  refine⟨⟨8,c,y,0,0,0,0,0,l.getD 0 dF,l.getD 1 dF⟩,by rw[e]; simp[F_qa,S_qa,Scr.den,guardP,AllP,outM],rfl,fun _=>⟨rfl,rfl,fun j hj=>?_,fun i h1 h2 h3=>?_⟩⟩
  ·have:j=0\/j=1:=by have:j<2:=hj; omega
   rcases this with rfl | rfl <;> rfl
  ·rcases e2 i h1 h2 with rfl | rfl | rfl | rfl | rfl | rfl | rfl <;> first | rfl | exact absurd dk h3
 ·have e:=zpi hl
  refine⟨⟨9,c,y,0,l.getD 0 dF,0,0,0,0,0⟩,by rw[e]; simp[F_qa,S_qa,Scr.den,guardP,AllP,outM],rfl,fun _=>⟨rfl,rfl,fun j hj=>?_,fun i h1 h2 h3=>?_⟩⟩
  ·have:j=0:=by have:j<1:=hj; omega
   rcases this with rfl
   rfl
  ·rcases e2 i h1 h2 with rfl | rfl | rfl | rfl | rfl | rfl | rfl <;> first | rfl | exact absurd dk h3
theorem zjw {k:Nat} (h8:k≠8) (h:condF q k):bigV (txtF q k)=getF q k:=by
 have h1:=(condN h8).1 h
 have h2:=z5s k
 rw[show txtF q k=Lib.itoa (getF q k) from y6 h8]
 exact zpg h1.1 om
noncomputable def cutW (k:Int) (ws:List Y8):List Y8×Y8×Int:=if codedK k=true/\2<=ws.length then (ws.drop 2,ws.getD 0 dF,bigV (ws.getD 1 dF)) else (ws,[],0)
theorem zpj (h:POp q):cutW q.M ((partsK q.M).map (txtF q))=((numK q.M).map (txtF q),q.E,q.H):=by
 have z:=h.zero
 unfold cutW
 rw[z6l h.1]
 have h2:=h.2.1
 rw[z6l h.1] at h2 z
 cases hc:codedK q.M with
 | true =>
  rw[hc] at h2
  rw[y7 rfl,y7 ⟨rfl,sj⟩]
  have:=zjw (q:=q) (k:=0) om (h2 0 sj)
  simp only[y32,y48,y56]
  exact yj (fun y=>((numK q.M).map (txtF q),q.E,y)) this
 | false =>
  rw[hc] at z
  rw[y6 sj,y6 sj]
  have n0:0 ∉ numK q.M:=by
   unfold numK
   repeat' split
   all_goals decide
  have n8:8 ∉ numK q.M:=fun k=>by have:=zri _ _ k; omega
  have z0:q.H=0:=z.1 0 om (by simpa using n0)
  have z8:q.E=[]:=z.2 (by simpa using n8)
  rw[z0,z8]
open Classical in
theorem zae (hl:t.length<=100000):F_qe t=some (parseS t):=by
 simp only[F_qe,S_qe,Scr.den]
 by_cases h200:200<t.length
 ·rw[y7 sk]
  rcases z2d t with ⟨q,h1,h2,h3⟩ | ⟨_,h2⟩
  ·have:=zl1 h1
   rw[h2] at this
   omega
  ·rw[h2]; rfl
 rw[y6 sk,zhu hl]
 simp only[obind]
 have hs0:0<(splitU 32 t).length:=y2g.2 (z63 32 t)
 have hml:=z2n 32 t
 have hsl:=z3w 32 t
 obtain⟨rv2,k,e2,e3,hk,hK⟩:=znn hs0
 obtain⟨l0,e4,hl0⟩:=zl4 hk
 have hn5:=zph k
 rw[e2]
 simp only[obind,e3,zh,e4,zj]
 rw[z6 ⟨om,trivial⟩]
 obtain⟨sv6,hsv⟩:∃ sv6,sv6=cutW k ((splitU 32 t).drop 1):=⟨_,rfl⟩
 have hcl:sv6.2.1.length<=200:=by
  rw[hsv]
  unfold cutW
  split
  ·rename_i h
   have:=hml _ (y1y (zd (l:=(splitU 32 t).drop 1) (i:=0) om))
   show (((splitU 32 t).drop 1).getD 0 dF).length<=200
   omega
  ·simp
 have hw6:∀ x∈sv6.1,x.length<=100000:=by
  intro x hx
  rw[hsv] at hx
  unfold cutW at hx
  split at hx
  ·have:=hml x (y1y (y1y hx)); omega
  ·have:=hml x (y1y hx); omega
 have hcut:∀ {α:Type} (K:List Y8×Y8×Int->Option α) (R:R_qe->Option α),outM (if (codedK k&&decide ((((splitU 32 t).drop 1).length:Int)>=2))=true then
   (F_q1l (((splitU 32 t).drop 1).getD 1 dF)).bind fun r=>guardP (AllP [0<((splitU 32 t).drop 1).length,1<((splitU 32 t).drop 1).length]) (guardP (AllP [2<=((splitU 32 t).drop 1).length]) (some (Out.next (((splitU 32 t).drop 1).drop 2,((splitU 32 t).drop 1).getD 0 dF,r))))
   else some (Out.next ((splitU 32 t).drop 1,[],0))) K R=K sv6:=fun K R=>by
  by_cases h:codedK k=true/\2<=((splitU 32 t).drop 1).length
  ·have h1:=h.2
   have hx:(((splitU 32 t).drop 1).getD 1 dF).length<=100000:=by
    have:=hml _ (y1y (zd (l:=(splitU 32 t).drop 1) (i:=1) om))
    omega
   rw[y7 (by rw[yk,y8]; exact⟨h.1,om⟩),zhv hx]
   simp only[obind]
   rw[z6 ⟨om,om,trivial⟩,z6 ⟨h1,trivial⟩,zh,hsv]
   unfold cutW
   rw[y7 h]
  ·rw[y6 (by rw[yk,y8]; exact fun z=>h ⟨z.1,om⟩),zh,hsv]
   unfold cutW
   rw[y6 h]
 rw[hcut,z6 ⟨om,trivial⟩]
 obtain⟨l,e5,hll,hlv⟩:=znm (t:=t) (k:=k) (rv5:=(codedK k,l0)) (sv6:=sv6) hw6 l0 om
 obtain⟨p,e6,hpc,hp⟩:=zrj hk sv6.2.1 sv6.2.2 (l:=l) (hll.trans hl0)
 rw[e5]
 simp only[zh,e6,obind]
 have hpl:p.E.length<=1000000:=by rw[hpc]; omega
 have hq:∀ q,POp q->textT q=t->k=q.M/\p=q:=fun q hq ht=>by
  have es:=z4b hq
  rw[ht] at es
  have hkq:k=q.M:=hK q.M hq.1 (by rw[es]; rfl)
  refine⟨hkq,?_⟩
  have h6:sv6=((numK q.M).map (txtF q),q.E,q.H):=by
   rw[hsv,es,hkq]
   exact zpj hq
  obtain⟨p1,p2,p3,p4⟩:=hp (by have:=hq.1; omega)
  have z:=hq.zero
  rw[z6l hq.1] at z
  have h2:=hq.2.1
  rw[z6l hq.1] at h2
  refine zhs (by rw[p1,hkq]) (by rw[hpc,h6]) fun j hj=>?_
  by_cases h0:j=0
  ·subst h0
   show p.H=q.H
   rw[p2,h6]
  ·by_cases hm:j∈numK k
   ·obtain⟨i,hi,rfl⟩:=z1s hm
    have hi':i<l0.length:=om
    rw[p3 i hi,hlv i hi',h6]
    unfold valJ
    rw[hkq] at hi hj |-
    have hij:(numK q.M).getD i dF∈numK q.M:=zd hi
    rw[y7 (by simpa using hi)]
    have e:((numK q.M).map (txtF q)).getD i dF=txtF q ((numK q.M).getD i dF):=by
     rw[y9,y28,ya hi,z1a hi]
     rfl
    rw[e]
    refine zjw om (h2 _ ?_)
    split
    ·exact yo _ (yo _ hij)
    ·exact hij
   ·rw[p4 j hj h0 hm]
    rw[hkq] at hm
    refine (z.1 j hj ?_).symm
    split
    ·simp only[yh,y4h]
     exact⟨om,h0,hm⟩
    ·exact hm
 have fin:(if ((k==0)||!(decide (POp p))||!(textS p==t))=true then some (((⟨0,[],0,0,0,0,0,0,0,0⟩:TOp),(4:Int))) else some (p,(0:Int)))=some (parseS t):=by
  rcases z2d t with ⟨q,h1,h2,h3⟩ | ⟨h1,h2⟩
  ·obtain⟨a,rfl⟩:=hq q h1 h2
   have hkk:=h1.1
   rw[y6 (by
    simp only[ye,yc,yu,yb,y1t]
    rintro ((z | z) | z)
    ·omega
    ·exact z h1
    ·exact z (by rw[z1x h1]; exact h2)),h3]
  ·rw[y7 (by
    simp only[ye,yc,yu,yb,y1t]
    by_cases hP:POp p
    ·exact .inr fun z=>h1 p hP (by rw[<- z1x hP]; exact z)
    ·exact .inl (.inr hP)),h2]
   rfl
 by_cases h0:k=0
 ·subst h0
  rw[zr (by simp[AllP])]
  simp only[obind]
  rw[zr (by simp[AllP])]
  simp only[obind]
  rw[y7 sj] at fin |-
  exact fin
 ·rw[zg (by simp[AllP,h0]),z1y hpl]
  simp only[obind]
  by_cases hP:POp p
  ·rw[zg (by simp[AllP,h0,hP]),z5z hpl]
   simp only[obind,zb]
   exact fin
  ·rw[zr (by simp[AllP,hP])]
   simp only[obind,zb]
   rw[y7 (by simp[hP])] at fin |-
   exact fin
variable {α:Type}
theorem z86 [Inhabited α] {a b:List α} (hl:a.length=b.length) {E:α->α->Bool} (hE:∀ x y,E x y=true↔x=y) {body:Nat->Unit->Option (Step Unit Bool)} (hb:∀ i,i<a.length->body i ()=if (!E (a.getD i dF) (b.getD i dF))=true then some (.ret false) else some (.cont ())) :
  (a=b->rangeM body a.length 0 ()=some (.next ()))/\(a≠b->rangeM body a.length 0 ()=some (.ret false)):=by
 obtain⟨h1,h2⟩:=zy (body:=body) (n:=a.length) (c:=false) (fun i=>a.getD i dF=b.getD i dF) (fun i hi h=>by rw[hb i hi,y6 (by rw[(hE _ _).2 h]; decide)]) (fun i hi h=>by rw[hb i hi,y7 (by
  cases e:E (a.getD i dF) (b.getD i dF)
  ·rfl
  ·exact absurd ((hE _ _).1 e) h)])
 have key:a=b↔∀ i,i<a.length->a.getD i dF=b.getD i dF:=⟨fun h i _=>by rw[h],fun h=>List.ext_getElem hl fun i i1 i2=>by
  have:=h i i1
  rwa [z1a i1,z1a i2] at this⟩
 exact⟨fun h=>h1 (key.1 h),fun h=>h2 fun k=>h (key.2 k)⟩
def eqRight (x y:TRi):Bool:=((x.E==y.E)&&((x.H==y.H)&&((x.N==y.N)&&((x.Aa==y.Aa)&&((x.X==y.X)&&true)))))
theorem zit (x y:TRi):eqRight x y=true↔x=y:=by cases x; cases y; simp[eqRight]
open Classical in
def eqReservation (x y:TRe):Bool:=((x.F==y.F)&&((x.E==y.E)&&((x.H==y.H)&&((x.O==y.O)&&((x.I==y.I)&&((x.S==y.S)&&true))))))
theorem zba (x y:TRe):eqReservation x y=true↔x=y:=by cases x; cases y; simp[eqReservation]
open Classical in
def eqCommitment (x y:TCo):Bool:=((x.F==y.F)&&((x.L==y.L)&&((x.O==y.O)&&((x.I==y.I)&&((x.S==y.S)&&((x.T==y.T)&&((x.W==y.W)&&true)))))))
theorem zcj (x y:TCo):eqCommitment x y=true↔x=y:=by cases x; cases y; simp[eqCommitment]
open Classical in
def eqVerification (x y:TVe):Bool:=((x.F==y.F)&&((x.P==y.P)&&((x.O==y.O)&&((x.I==y.I)&&true))))
theorem zaf (x y:TVe):eqVerification x y=true↔x=y:=by cases x; cases y; simp[eqVerification]
open Classical in
def eqOrder (x y:TOr):Bool:=((x.F==y.F)&&((x.K==y.K)&&((x.Z==y.Z)&&((x.O==y.O)&&((x.Ab==y.Ab)&&true)))))
theorem ziu (x y:TOr):eqOrder x y=true↔x=y:=by cases x; cases y; simp[eqOrder]
open Classical in
open Classical in
theorem ziv {a:TBo} (h:zkt a) (b:TBo):F_q2 a b=some (decide (a=b)):=by
 obtain⟨f1,f2,f3,f4⟩:=h
 simp only[F_q2,S_q2,Scr.den,zb]
 have hab:a=b↔a.A=b.A/\a.B=b.B/\a.C=b.C/\a.J=b.J:=by cases a; cases b; simp
 by_cases hl:a.A.length=b.A.length/\a.B.length=b.B.length/\a.C.length=b.C.length/\a.J.length=b.J.length
 ·obtain⟨l1,l2,l3,l4⟩:=hl
  rw[y6 (by simp[l1,l2,l3,l4])]
  rw[z6 ⟨om,trivial⟩]
  obtain⟨h1,k1⟩:=z86 (a:=a.A) (b:=b.A) l1 zba (body:=fun i s=>(S_q2_b1 a b i s).den) (fun i hi=>by
   simp only[S_q2_b1,Scr.den]
   rw[z6 ⟨om,trivial⟩]
   rfl)
  by_cases e1:a.A=b.A
  ·rw[h1 e1]
   simp only[outM]
   rw[z6 ⟨om,trivial⟩]
   obtain⟨h2,k2⟩:=z86 (a:=a.B) (b:=b.B) l2 zcj (body:=fun i s=>(S_q2_b2 a b i s).den) (fun i hi=>by
    simp only[S_q2_b2,Scr.den]
    rw[z6 ⟨om,trivial⟩]
    rfl)
   by_cases e2:a.B=b.B
   ·rw[h2 e2]
    simp only
    rw[z6 ⟨om,trivial⟩]
    obtain⟨h3,k3⟩:=z86 (a:=a.C) (b:=b.C) l3 zaf (body:=fun i s=>(S_q2_b3 a b i s).den) (fun i hi=>by
     simp only[S_q2_b3,Scr.den]
     rw[z6 ⟨om,trivial⟩]
     rfl)
    by_cases e3:a.C=b.C
    ·rw[h3 e3]
     simp only
     rw[z6 ⟨om,trivial⟩]
     obtain⟨h4,k4⟩:=z86 (a:=a.J) (b:=b.J) l4 ziu (body:=fun i s=>(S_q2_b4 a b i s).den) (fun i hi=>by
      simp only[S_q2_b4,Scr.den]
      rw[z6 ⟨om,trivial⟩]
      rfl)
     by_cases e4:a.J=b.J
     ·rw[h4 e4]
      simp only
      rw[y1z (hab.2 ⟨e1,e2,e3,e4⟩)]
     ·rw[k4 e4,yx (fun q=>e4 (hab.1 q).2.2.2)]; rfl
    ·rw[k3 e3,yx (fun q=>e3 (hab.1 q).2.2.1)]; rfl
   ·rw[k2 e2,yx (fun q=>e2 (hab.1 q).2.1)]; rfl
  ·rw[k1 e1,yx (fun q=>e1 (hab.1 q).1)]; rfl
 ·rw[y7 (by
   simp only[ye,y1g,ne_eq]; omega),yx (fun e=>hl (by rw[e]; exact⟨rfl,rfl,rfl,rfl⟩))]
open Classical in
theorem zbt {a:TOf} (h:ze3 a) (b:TOf):F_qn a b=some (decide (a=b)):=by
 have hab:a=b↔a.F=b.F/\a.G=b.G/\a.V=b.V:=by cases a; cases b; simp
 have f1:=h.1
 simp only[F_qn,S_qn,Scr.den,ziv h.2,zq,obind,zb,z1q]
 by_cases hl:a.F=b.F/\a.G.length=b.G.length/\a.V=b.V
 ·obtain⟨l1,l2,l3⟩:=hl
  rw[y6 (by simp[l1,l2,l3]),z6 ⟨om,trivial⟩]
  obtain⟨h1,k1⟩:=z86 (a:=a.G) (b:=b.G) l2 zit (body:=fun i s=>(S_qn_b1 a b i s).den) (fun i hi=>by
   simp only[S_qn_b1,Scr.den]
   rw[z6 ⟨om,trivial⟩]
   rfl)
  by_cases e1:a.G=b.G
  ·rw[h1 e1,y1z (hab.2 ⟨l1,e1,l3⟩)]; rfl
  ·rw[k1 e1,yx (fun q=>e1 (hab.1 q).2.1)]; rfl
 ·rw[y7,yx (fun e=>hl (by rw[e]; exact⟨rfl,rfl,rfl⟩))]
  simp only[ye,y1g,ne_eq,yc,yb]
  by_cases c1:a.F=b.F
  ·by_cases c2:a.G.length=b.G.length
   ·exact .inr fun q=>hl ⟨c1,c2,q⟩
   ·exact .inl (.inr om)
  ·exact .inl (.inl c1)
def newO (n:Int):TOf:=⟨n,[],nb⟩
theorem z4y (h:1<=n/\n<=6):VO (newO n):=(znh h.1 h.2).1
noncomputable def runO (o:TOf) (l:List TOp):TOf:=l.foldl (fun o p=>(doS o p).1) o
def Runs:TOf->List TOp->Prop
 | _,[]=>True
 | o,p :: l=>(POp p/\(doS o p).2=0)/\Runs (doS o p).1 l
theorem ziw (o:TOf) (l l':List TOp):runO o (l++l')=runO (runO o l) l':=List.foldl_append ..
theorem z7m (o:TOf) (l:List TOp) (p:TOp):runO o (l++[p])=(doS (runO o l) p).1:=by rw[ziw]; rfl
theorem z8y:∀ {l l':List TOp} {o:TOf},Runs o (l++l')↔Runs o l/\Runs (runO o l) l'
 | [],l',o=>⟨fun h=>⟨trivial,h⟩,fun h=>h.2⟩
 | q :: l,l',o=>by
  show ((POp q/\(doS o q).2=0)/\Runs (doS o q).1 (l++l'))↔_
  rw[z8y]
  exact⟨fun h=>⟨⟨h.1,h.2.1⟩,h.2.2⟩,fun h=>⟨h.1.1,h.1.2,h.2⟩⟩
variable {l:List TOp} {o:TOf}
theorem zag:Runs o (l++[p])↔Runs o l/\POp p/\(doS (runO o l) p).2=0:=by
 rw[z8y]
 exact⟨fun h=>⟨h.1,h.2.1⟩,fun h=>⟨h.1,h.2,trivial⟩⟩
theorem z3l (h:Runs o l) (n:Nat):Runs o (l.take n):=by
 rw[<- y2o n l] at h
 exact (z8y.1 h).1
theorem z87:∀ {l:List TOp} {o:TOf},VO o->Runs o l->VO (runO o l)
 | [],_,h,_=>h
 | q :: l,o,_,h=>show VO (runO (doS o q).1 l) from z87 (z8u h.1.2) h.2
theorem z8z:∀ {l:List TOp} {o:TOf},Runs o l->∀ p∈l,POp p
 | [],_,_,p,hp=>nomatch hp
 | q :: l,o,h,p,hp=>by
  rcases yh.1 hp with rfl | hp
  ·exact h.1.1
  ·exact z8z h.2 p hp
theorem zhx (hv:VO o) (h:1<=p.M/\p.M<=9) (hc:p.E.length<=1000000):F_q2d o p=some (doS o p):=by
 rw[zr6 hv hv.smO hc,zd9 hv h]
open Classical in
noncomputable def codeR:TOf->List TOp->Int
 | _,[]=>0
 | o,p :: l=>if POp p then (if (doS o p).2=0 then codeR (doS o p).1 l else 9) else 4
open Classical in
theorem z5b:∀ {l:List TOp} {o:TOf},codeR o l=0↔Runs o l
 | [],_=>⟨fun _=>trivial,fun _=>rfl⟩
 | p :: l,o=>by
  show (if POp p then (if (doS o p).2=0 then codeR (doS o p).1 l else 9) else 4)=0↔((POp p/\(doS o p).2=0)/\Runs (doS o p).1 l)
  by_cases h1:POp p
  ·rw[y7 h1]
   by_cases h2:(doS o p).2=0
   ·rw[y7 h2,z5b]
    exact⟨fun h=>⟨⟨h1,h2⟩,h⟩,fun h=>h.2⟩
   ·rw[y6 h2]
    exact⟨fun h=>absurd h dk,fun h=>absurd h.1.2 h2⟩
  ·rw[y6 h1]
   exact⟨fun h=>absurd h dk,fun h=>absurd h.1.1 h1⟩
def ShR (l:List TOp):Prop:=l.length<=1000000/\∀ p∈l,p.E.length<=1000000
open Classical in
theorem z90 {body:Nat->TOf->Option (Step TOf (TOf×Int×Int))} {a:List TOp}
  (hb:∀ i o,i<a.length->VO o->body i o=some (if POp (a.getD i dF) then (if (doS o (a.getD i dF)).2=0 then .cont (doS o (a.getD i dF)).1 else .ret (noO,(i:Int),9)) else .ret (noO,(i:Int),4))) :
  ∀ (l:List TOp) (i:Nat) (o:TOf),a.drop i=l->VO o->(codeR o l=0->rangeM body l.length i o=some (.next (runO o l)))/\(codeR o l≠0->∃ j:Int,rangeM body l.length i o=some (.ret (noO,j,codeR o l)))
 | [],i,o,_,_=>⟨fun _=>rfl,fun h=>absurd rfl h⟩
 | p :: l,i,o,h,hv=>by
  have hi:i<a.length:=Nat.not_le.1 fun k=>by rw[y1e k] at h; cases h
  have hg:a.getD i dF=p:=by
   rw[y12 hi] at h
   injection h with h
   rw[z1a hi,h]
  have hd:a.drop (i+1)=l:=by
   rw[y12 hi] at h
   injection h
  have hs:=hb i o hi hv
  rw[hg] at hs
  simp only[yf,rangeM,hs]
  have ec:codeR o (p :: l)=if POp p then (if (doS o p).2=0 then codeR (doS o p).1 l else 9) else 4:=rfl
  rw[ec]
  by_cases h1:POp p
  ·by_cases h2:(doS o p).2=0
   ·simp only[y7 h1,y7 h2]
    exact z90 hb l (i+1) (doS o p).1 hd (z8u h2)
   ·simp only[y7 h1,y6 h2]
    exact⟨fun h=>absurd h dk,fun _=>⟨_,rfl⟩⟩
  ·simp only[y6 h1]
   exact⟨fun h=>absurd h dk,fun _=>⟨_,rfl⟩⟩
open Classical in
theorem zbu (hv:VO o) (hc:p.E.length<=1000000) :
  (((F_q28 p).bind fun r=>if (!r)=true then some (Step.ret (noO,(i:Int),(4:Int))) else (F_q2d o p).bind fun r=>if (r.2 != 0)=true then some (Step.ret (noO,(i:Int),(9:Int))) else some (Step.cont r.1)):Option (Step TOf (TOf×Int×Int))) =
  some (if POp p then (if (doS o p).2=0 then .cont (doS o p).1 else .ret (noO,(i:Int),9)) else .ret (noO,(i:Int),4)):=by
 rw[z8v hc]
 simp only[obind]
 by_cases h1:POp p
 ·rw[y1z h1,y6 dk,zhx hv h1.1 hc,y7 h1]
  simp only[obind]
  by_cases h2:(doS o p).2=0
  ·rw[y6 (by simp[h2]),y7 h2]
  ·rw[y7 (by simpa using h2),y6 h2]
 ·rw[yx h1,y7 dk,y6 h1]
theorem zbv (hn:1<=n/\n<=6) (hl:ShR l):∃ o j,F_q1c n l=some (o,j,codeR (newO n) l)/\(codeR (newO n) l=0->o=runO (newO n) l):=by
 obtain⟨g1,g2⟩:=z90 (body:=fun i s=>(S_q1c_b1 l i s).den) (a:=l) (fun i o hi hv=>by
  simp only[S_q1c_b1,Scr.den]
  exact zbu hv (hl.2 _ (zd hi))) l 0 (newO n) rfl (z4y hn)
 simp only[F_q1c,S_q1c,Scr.den]
 by_cases h:codeR (newO n) l=0
 ·have g:=g1 h
  rw[show (⟨n,[],(⟨[],[],[],[]⟩:TBo)⟩:TOf)=newO n from rfl,g,h]
  exact⟨_,_,rfl,fun _=>rfl⟩
 ·obtain⟨j,g⟩:=g2 h
  rw[show (⟨n,[],(⟨[],[],[],[]⟩:TBo)⟩:TOf)=newO n from rfl,g]
  exact⟨_,_,rfl,fun k=>absurd k h⟩
theorem zno (hn:1<=n/\n<=6) (hl:ShR l):∃ o j,F_q1t n l=some (o,j,codeR (newO n) l):=by
 obtain⟨g1,g2⟩:=z90 (body:=fun i s=>(S_q1t_b1 l i s).den) (a:=l) (fun i o hi hv=>by
  simp only[S_q1t_b1,Scr.den]
  rw[z6 ⟨om,trivial⟩,y1a]
  exact zbu hv (hl.2 _ (zd hi))) l 0 (newO n) rfl (z4y hn)
 have h6:=hl.1
 simp only[F_q1t,S_q1t,Scr.den]
 rw[z6 ⟨om,trivial⟩]
 by_cases h:codeR (newO n) l=0
 ·have g:=g1 h
  rw[show (⟨n,[],(⟨[],[],[],[]⟩:TBo)⟩:TOf)=newO n from rfl,g,h]
  exact⟨_,_,rfl⟩
 ·obtain⟨j,g⟩:=g2 h
  rw[show (⟨n,[],(⟨[],[],[],[]⟩:TBo)⟩:TOf)=newO n from rfl,g]
  exact⟨_,_,rfl⟩
def VJ (j:TJo):Prop:=(1<=j.U/\j.U<=6)/\j.D.length<=400/\(0<=j.R/\j.R<=j.D.length)/\Runs (newO j.U) j.D
noncomputable def nowJ (j:TJo):TOf:=runO (newO j.U) j.D
noncomputable def stbJ (j:TJo):TOf:=runO (newO j.U) (j.D.take j.R.toNat)
variable {j:TJo}
theorem VJ.now (h:VJ j):VO (nowJ j):=z87 (z4y h.1) h.2.2.2
theorem VJ.stb (h:VJ j):VO (stbJ j):=z87 (z4y h.1) (z3l h.2.2.2 _)
theorem VJ.shr (h:VJ j):ShR j.D:=⟨by have:=h.2.1; omega,fun p hp=>by have:=(z8z h.2.2.2 p hp).len; omega⟩
open Classical in
noncomputable def stateS (j:TJo):TOf×Int:=if VJ j then (nowJ j,0) else (noO,1)
open Classical in
noncomputable def stableS (j:TJo):TOf×Int:=if VJ j then (stbJ j,0) else (noO,1)
theorem z14 (h:VJ j):stateS j=(nowJ j,0):=y7 h
theorem z2y (h:¬ VJ j):stateS j=(noO,1):=y6 h
theorem z3a (h:VJ j):stableS j=(stbJ j,0):=y7 h
theorem z7v (h:¬ VJ j):stableS j=(noO,1):=y6 h
theorem z2z (hs:ShR j.D):F_qp j=some (stateS j):=by
 have h6:=hs.1
 simp only[F_qp,S_qp,Scr.den,F_q4s,S_q4s,zj,obind]
 by_cases hb:(1<=j.U/\j.U<=6)/\j.D.length<=400/\(0<=j.R/\j.R<=j.D.length)
 ·obtain⟨o,k,e,ho⟩:=zbv hb.1 hs
  rw[y6 sk,e]
  simp only[obind]
  by_cases h:codeR (newO j.U) j.D=0
  ·rw[y6 (by simp[h]),ho h,z14 ⟨hb.1,hb.2.1,hb.2.2,z5b.1 h⟩]
   rfl
  ·rw[y7 (by simpa using h),z2y (fun k=>h (z5b.2 k.2.2.2))]
   rfl
 ·rw[y7 sk,z2y (fun k=>hb ⟨k.1,k.2.1,k.2.2.1⟩)]
  rfl
open Classical in
theorem z69 (hs:ShR j.D):F_q1u j=some (decide (VJ j)):=by
 simp only[F_q1u,S_q1u,Scr.den,z2z hs,obind]
 by_cases h:VJ j
 ·rw[z14 h,y1z h]; rfl
 ·rw[z2y h,yx h]; rfl
theorem z91 (h:ShR l) (n:Nat):ShR (l.take n):=⟨by have:=h.1; rw[y16]; omega,fun p hp=>h.2 p (y2q hp)⟩
theorem z7n (hs:ShR j.D):F_q2h j=some (stableS j):=by
 simp only[F_q2h,S_q2h,Scr.den,z69 hs,obind]
 by_cases h:VJ j
 ·have hr:=z3l h.2.2.2 j.R.toNat
  obtain⟨o,k,e,ho⟩:=zbv h.1 (z91 hs j.R.toNat)
  have h0:=z5b.2 hr
  rw[@decide_eq_true _ (_) h,y6 dk,e,z3a h,h0,ho h0]
  simp only[obind]
  rw[z6 ⟨h.2.2.1.1,by have:=h.2.2.1.2; omega,trivial⟩]
  rfl
 ·rw[@decide_eq_false _ (_) h,y7 dk,z7v h]
  rfl
theorem cloneOp (hl:l.length<=1000000):F_q4g l=some l:=by
 simp only[F_q4g,S_q4g,Scr.den]
 rw[z6 ⟨om,trivial⟩]
theorem zl5 (hl:l.length<=1000000):F_q4h l=some l:=by
 simp only[F_q4h,S_q4h,Scr.den]
 rw[z6 ⟨om,trivial⟩]
def zJ:TJo:=⟨0,[],0⟩
open Classical in
noncomputable def appendS (j:TJo) (p:TOp):TJo×Int :=
 if ¬ (VJ j/\POp p) then (zJ,1) else if (doS (nowJ j) p).2≠0 then (zJ,(doS (nowJ j) p).2) else if j.D.length=400 then (zJ,3) else (⟨j.U,j.D++[p],j.R⟩,0)
theorem z3b (hp:¬ (VJ j/\POp p)):appendS j p=(zJ,1):=y7 hp
theorem z4c (hp:VJ j/\POp p) (h:(doS (nowJ j) p).2≠0):appendS j p=(zJ,(doS (nowJ j) p).2):=(y6 fun k=>k hp).trans (y7 h)
theorem z5c (hp:VJ j/\POp p) (h:(doS (nowJ j) p).2=0) (hl:j.D.length=400):appendS j p=(zJ,3):=(y6 fun k=>k hp).trans ((y6 fun k=>k h).trans (y7 hl))
theorem z5d (hp:VJ j/\POp p) (h:(doS (nowJ j) p).2=0) (hl:j.D.length≠400):appendS j p=(⟨j.U,j.D++[p],j.R⟩,0):=(y6 fun k=>k hp).trans ((y6 fun k=>k h).trans (y6 hl))
theorem zf6 (hs:ShR j.D) (hc:p.E.length<=1000000):F_q3k j p=some (appendS j p):=by
 simp only[F_q3k,S_q3k,Scr.den,z2z hs,obind]
 by_cases h:VJ j
 ·have hv:=h.now
  rw[z14 h,zg (by simp[AllP]),z8v hc]
  simp only[obind,zb]
  by_cases hp:POp p
  ·rw[@decide_eq_true _ (_) hp,y6 sj,zhx hv hp.1 hc]
   simp only[obind]
   by_cases h0:(doS (nowJ j) p).2=0
   ·rw[y6 (by simp[h0])]
    by_cases hl:j.D.length=400
    ·rw[y7 (by simp[hl]),z5c ⟨h,hp⟩ h0 hl]
     rfl
    ·rw[y6 sk,z5d ⟨h,hp⟩ h0 hl]
     simp only[F_q4v,S_q4v,Scr.den,zl5 hs.1,obind]
     rw[z6 ⟨by have:=h.2.1; show (j.D.length+1) * (2 * 88)<=2 ^ 48; omega,trivial⟩,z6 ⟨by have:=h.2.1; rw[yn]; simp; omega,trivial⟩]
   ·rw[y7 (by simpa using h0),z4c ⟨h,hp⟩ h0]
    rfl
  ·rw[@decide_eq_false _ (_) hp,y7 sj,z3b (fun k=>hp k.2)]
   rfl
 ·rw[z2y h,zr (by simp[AllP]),z3b (fun k=>h k.1)]
  rfl
def flushJ (j:TJo):TJo:=⟨j.U,j.D,(j.D.length:Int)⟩
def crashJ (j:TJo):TJo:=⟨j.U,j.D.take j.R.toNat,j.R⟩
open Classical in
noncomputable def flushS (j:TJo):TJo:=if VJ j then flushJ j else j
open Classical in
noncomputable def crashS (j:TJo):TJo:=if VJ j then crashJ j else j
theorem z30 (h:VJ j):flushS j=flushJ j:=y7 h
theorem z92 (h:¬ VJ j):flushS j=j:=y6 h
theorem z3z (h:VJ j):crashS j=crashJ j:=y7 h
theorem z93 (h:¬ VJ j):crashS j=j:=y6 h
theorem z6m (hl:j.D.length<=1000000):F_q3j j=some j:=by
 simp only[F_q3j,S_q3j,Scr.den,cloneOp hl,obind]
theorem z94 (hs:ShR j.D):F_q1z j=some (flushS j):=by
 simp only[F_q1z,S_q1z,Scr.den,z69 hs,obind]
 by_cases h:VJ j
 ·rw[@decide_eq_true _ (_) h,y7 rfl,z30 h]
  simp only[zh]
  exact zav (z6m (j:=flushJ j) hs.1) rfl
 ·rw[@decide_eq_false _ (_) h,y6 dk,z92 h]
  simp only[zh]
  exact zav (z6m hs.1) rfl
theorem z95 (hs:ShR j.D):F_q20 j=some (crashS j):=by
 simp only[F_q20,S_q20,Scr.den,z69 hs,obind]
 by_cases h:VJ j
 ·have hf:=h.2.2.1
  rw[@decide_eq_true _ (_) h,y7 rfl,z3z h,z6 ⟨hf.1,om,trivial⟩]
  simp only[zh]
  exact zav (z6m (j:=crashJ j) (z91 hs _).1) rfl
 ·rw[@decide_eq_false _ (_) h,y6 dk,z93 h]
  simp only[zh]
  exact zav (z6m hs.1) rfl
theorem znp (h:VJ j) (h0:(appendS j p).2=0):VJ (appendS j p).1/\appendS j p=(⟨j.U,j.D++[p],j.R⟩,0)/\POp p/\(doS (nowJ j) p).2=0:=by
 by_cases hp:POp p
 ·by_cases h1:(doS (nowJ j) p).2=0
  ·by_cases hl:j.D.length=400
   ·rw[z5c ⟨h,hp⟩ h1 hl] at h0; cases h0
   ·rw[z5d ⟨h,hp⟩ h1 hl]
    obtain⟨q1,q2,q3,q4⟩:=h
    refine⟨⟨q1,?_,⟨q3.1,?_⟩,zag.2 ⟨q4,hp,h1⟩⟩,rfl,hp,h1⟩
    ·show (j.D++[p]).length<=400
     rw[yn]; simp; omega
    ·show j.R<=((j.D++[p]).length:Int)
     have h7:(j.D++[p]).length=j.D.length+1:=sj
     have h8:=q3.2
     omega
  ·rw[z4c ⟨h,hp⟩ h1] at h0
   exact absurd h0 h1
 ·rw[z3b (fun k=>hp k.2)] at h0; cases h0
theorem zl6:nowJ ⟨j.U,j.D++[p],j.R⟩=(doS (nowJ j) p).1:=z7m ..
theorem zl7 (h:VJ j):stbJ ⟨j.U,j.D++[p],j.R⟩=stbJ j:=by
 unfold stbJ
 have:=h.2.2.1
 rw[y2x (show j.R.toNat<=j.D.length from om)]
theorem z96 (h:VJ j):VJ (flushJ j):=⟨h.1,h.2.1,⟨by show (0:Int)<=(j.D.length:Int); omega,Int.le_refl _⟩,h.2.2.2⟩
theorem zpk (h:VJ j):VJ (crashJ j):=by
 obtain⟨h1,h2,h3,h4⟩:=h
 refine⟨h1,?_,⟨h3.1,?_⟩,z3l h4 _⟩
 ·show (j.D.take j.R.toNat).length<=400
  rw[y16]; omega
 ·show j.R<=((j.D.take j.R.toNat).length:Int)
  rw[y16]; omega
theorem zrk (h:Runs o l) (hi:i<l.length):POp (l.getD i dF)/\(doS (runO o (l.take i)) (l.getD i dF)).2=0:=by
 have h1:=z3l h (i+1)
 rw[y2i,ya hi] at h1
 have:=(zag.1 h1).2
 rwa [<- z1a hi] at this
theorem zf7 (hi:i<l.length):l.take (i+1)=l.take i++[l.getD i dF]:=by
 rw[y2i,ya hi,z1a hi]
 rfl
theorem ze6 (h:VJ j):F_q4 j=some (nowJ j,stbJ j,true):=by
 obtain⟨h1,h2,h3,h4⟩:=h
 have hn:F_q2f j.U=some (newO j.U,0):=by
  rw[z59,y6 om]
  rfl
 simp only[F_q4,S_q4,Scr.den,hn,obind,zb]
 rw[y6 sk]
 obtain⟨s,e,hs⟩:=z25 (body:=fun i s=>(S_q4_b1 j i s).den) (n:=j.D.length) (fun i s=>s=(runO (newO j.U) (j.D.take i),runO (newO j.U) (j.D.take (min i j.R.toNat)),(0:Int))) (s0:=(newO j.U,newO j.U,(0:Int))) (by simp; rfl) (fun i s hi hI=>by
  subst hI
  obtain⟨q1,q2⟩:=zrk h4 hi
  have hv:=z87 (z4y h1) (z3l h4 i)
  have hl:=q1.len
  simp only[S_q4_b1,Scr.den,zb]
  rw[zg (by simp[AllP]),z1y om,@decide_eq_true _ (_) q1]
  simp only[obind]
  rw[y6 sj,z4v hv.smO om]
  simp only[obind]
  have e1:runO (newO j.U) (j.D.take (i+1))=(doS (runO (newO j.U) (j.D.take i)) (j.D.getD i dF)).1:=by rw[zf7 hi,z7m]
  by_cases c:(i:Int)<j.R
  ·rw[y7 (by simpa using c)]
   refine⟨_,rfl,?_⟩
   rw[show min (i+1) j.R.toNat=i+1 from om,e1,q2]
  ·rw[y6 (by simpa using c)]
   refine⟨_,rfl,?_⟩
   rw[show min (i+1) j.R.toNat=min i j.R.toNat from om,e1,q2])
 rw[e,hs]
 simp only[zh]
 rw[y1d (yd _),show min j.D.length j.R.toNat=j.R.toNat from om]
 rfl
def badB (x:Option (Out (TOf×TOf×Int) R_q4)):Prop:=(∃ a b,x=some (.ret (a,b,false)))\/∃ a b e,x=some (.next (a,b,e))/\e≠0
theorem zhy {st:TOf} {e:Int} (he:e≠0):∀ n i,badB (rangeM (fun i s=>(S_q4_b1 j i s).den) n i (o,st,e))
 | 0,i=>.inr ⟨o,st,e,rfl,he⟩
 | n+1,i=>by
  have hs:(S_q4_b1 j i (o,st,e)).den=some (.ret (noO,noO,false)):=by
   simp only[S_q4_b1,Scr.den,zb]
   rw[zr (by simp[AllP,he])]
   simp only[obind]
   rw[y7 sj]
   rfl
  simp only[rangeM,hs]
  exact .inl ⟨_,_,rfl⟩
theorem zhz {j:TJo} (hs:ShR j.D):∀ (l:List TOp) (i:Nat) (o st:TOf),j.D.drop i=l->VO o->¬ Runs o l->badB (rangeM (fun i s=>(S_q4_b1 j i s).den) l.length i (o,st,(0:Int)))
 | [],i,o,st,_,_,h=>absurd trivial h
 | p :: l,i,o,st,h,hv,hr=>by
  have hi:i<j.D.length:=Nat.not_le.1 fun k=>by rw[y1e k] at h; cases h
  have hg:j.D.getD i dF=p:=by
   rw[y12 hi] at h
   injection h with h
   rw[z1a hi,h]
  have hd:j.D.drop (i+1)=l:=by
   rw[y12 hi] at h
   injection h
  have hc:p.E.length<=1000000:=hs.2 p (by rw[<- hg]; exact zd hi)
  by_cases hp:POp p
  ·have h1:(S_q4_b1 j i (o,st,(0:Int))).den=some (.cont ((doS o p).1,if (i:Int)<j.R then (doS o p).1 else st,(doS o p).2)):=by
    simp only[S_q4_b1,Scr.den,zb]
    rw[zg (by simp[AllP]),hg,z1y hc,@decide_eq_true _ (_) hp]
    simp only[obind]
    rw[y6 sj,z4v hv.smO hc]
    simp only[obind]
    by_cases c:(i:Int)<j.R
    ·rw[y7 (by simpa using c),y7 c]
    ·rw[y6 (by simpa using c),y6 c]
   simp only[yf,rangeM,h1]
   by_cases h0:(doS o p).2=0
   ·rw[h0]
    exact zhz hs l (i+1) (doS o p).1 _ hd (z8u h0) fun k=>hr ⟨⟨hp,h0⟩,k⟩
   ·exact zhy h0 _ _
  ·have h1:(S_q4_b1 j i (o,st,(0:Int))).den=some (.ret (noO,noO,false)):=by
    simp only[S_q4_b1,Scr.den,zb]
    rw[zg (by simp[AllP]),hg,z1y hc,@decide_eq_false _ (_) hp]
    rfl
   simp only[yf,rangeM,h1]
   exact .inl ⟨_,_,rfl⟩
theorem zck (hs:ShR j.D) (h:¬ VJ j):∃ a b,F_q4 j=some (a,b,false):=by
 have fin:∀ x:Option (Out (TOf×TOf×Int) R_q4),badB x->∃ a b,outM x (fun s=>some (s.1,s.2.1,(s.2.2==0))) (fun x=>some (id x))=some (a,b,false):=by
  rintro x (⟨a,b,rfl⟩ | ⟨a,b,e,rfl,he⟩)
  ·exact⟨a,b,rfl⟩
  ·refine⟨a,b,?_⟩
   rw[zh,y1t.2 he]
 simp only[F_q4,S_q4,Scr.den,zb]
 by_cases hb:j.D.length<=400/\(0<=j.R/\j.R<=j.D.length)
 ·rw[y6 sk,z59]
  simp only[obind]
  refine fin _ ?_
  by_cases hn:1<=j.U/\j.U<=6
  ·rw[y6 om]
   exact zhz hs j.D 0 (newO j.U) _ rfl (z4y hn) fun k=>h ⟨hn,hb.1,hb.2,k⟩
  ·rw[y7 om]
   exact zhy dk _ _
 ·rw[y7 sk]
  exact⟨_,_,rfl⟩
theorem z5e (hs:ShR j.D):F_q26 j=some (stateS j):=by
 simp only[F_q26,S_q26,Scr.den]
 by_cases h:VJ j
 ·rw[ze6 h,z14 h]; rfl
 ·obtain⟨a,b,e⟩:=zck hs h
  rw[e,z2y h]; rfl
theorem zft (hs:ShR j.D):F_q4i j=some (stableS j):=by
 simp only[F_q4i,S_q4i,Scr.den]
 by_cases h:VJ j
 ·rw[ze6 h,z3a h]; rfl
 ·obtain⟨a,b,e⟩:=zck hs h
  rw[e,z7v h]; rfl
open Classical in
theorem z3m (hs:ShR j.D):F_q25 j=some (decide (VJ j)):=by
 simp only[F_q25,S_q25,Scr.den]
 by_cases h:VJ j
 ·rw[ze6 h,y1z h]; rfl
 ·obtain⟨a,b,e⟩:=zck hs h
  rw[e,yx h]; rfl
theorem zah (hs:ShR j.D):F_q3h j=some (flushS j):=by
 simp only[F_q3h,S_q3h,Scr.den,z3m hs,obind]
 by_cases h:VJ j
 ·rw[@decide_eq_true _ (_) h,y7 rfl,z30 h]; rfl
 ·rw[@decide_eq_false _ (_) h,y6 dk,z92 h]; rfl
theorem zi0 (hs:ShR j.D):F_q4j j=some (crashS j):=by
 simp only[F_q4j,S_q4j,Scr.den,z3m hs,obind]
 by_cases h:VJ j
 ·have hf:=h.2.2.1
  have hl:=h.2.1
  rw[@decide_eq_true _ (_) h,y7 rfl,z3z h,z6 ⟨hf.1,om,by rw[y16]; omega,trivial⟩]
  rfl
 ·rw[@decide_eq_false _ (_) h,y6 dk,z93 h]; rfl
theorem zfu (hs:ShR j.D) (hc:p.E.length<=1000000):F_q4k j p=some (appendS j p):=by
 simp only[F_q4k,S_q4k,Scr.den,z5e hs,obind]
 by_cases h:VJ j
 ·have hv:=h.now
  rw[z14 h,zg (by simp[AllP]),z1y hc]
  simp only[obind,zb]
  by_cases hp:POp p
  ·rw[@decide_eq_true _ (_) hp,y6 sj,z4v hv.smO hc]
   simp only[obind]
   by_cases h0:(doS (nowJ j) p).2=0
   ·rw[y6 (by simp[h0])]
    by_cases hl:j.D.length=400
    ·rw[y7 (by simp[hl]),z5c ⟨h,hp⟩ h0 hl]
     rfl
    ·rw[y6 sk,z5d ⟨h,hp⟩ h0 hl]
     have:=h.2.1
     rw[z6 ⟨om,om,trivial⟩,z6 ⟨by rw[yn]; simp; omega,trivial⟩]
   ·rw[y7 (by simpa using h0),z4c ⟨h,hp⟩ h0]
    rfl
  ·rw[@decide_eq_false _ (_) hp,y7 sj,z3b (fun k=>hp k.2)]
   rfl
 ·rw[z2y h,zr (by simp[AllP]),z3b (fun k=>h k.1)]
  rfl
theorem zpl (n:Int):∃ x,F_q4l n=some x/\F_q4m n=some x/\x.1.D=[]:=by
 simp only[F_q4l,S_q4l,F_q4m,S_q4m,Scr.den,z59,obind,zb]
 by_cases h:n<1\/n>6
 ·rw[y7 (by simpa using h),y7 h,y7 dk]
  exact⟨_,rfl,rfl,rfl⟩
 ·rw[y6 (by simpa using h),y6 h,y6 sj]
  exact⟨_,rfl,rfl,rfl⟩
theorem zjx {a b:List TOp} (h:a.length=b.length) (he:∀ i,i<a.length->a.getD i dF=b.getD i dF):a=b:=by
 refine List.ext_getElem h fun i h1 h2=>?_
 have:=he i h1
 rwa [z1a h1,z1a h2] at this
open Classical in
theorem z7w {a b:TJo} (hl:a.D.length<=1000000):F_qb a b=some (decide (a=b)):=by
 obtain⟨n,l,f⟩:=a
 obtain⟨m,k,g⟩:=b
 simp only at hl
 simp only[F_qb,S_qb,Scr.den,zb]
 by_cases h:n=m/\f=g/\l.length=k.length
 ·obtain⟨rfl,rfl,h3⟩:=h
  rw[y6 (by simp[h3]),z6 ⟨om,trivial⟩]
  obtain⟨g1,g2⟩:=zy (ρ:=Bool) (n:=l.length) (c:=false) (body:=fun i s=>(S_qb_b1 ⟨n,l,f⟩ ⟨n,k,f⟩ i s).den) (fun i=>l.getD i dF=k.getD i dF) (fun i hi h=>by
   simp only[S_qb_b1,Scr.den]
   rw[z6 ⟨om,trivial⟩,y6 (by
    intro z
    rw[yc] at z
    exact y3x (z.symm.trans ((z3k _ _).2 h)))]) (fun i hi h=>by
   simp only[S_qb_b1,Scr.den]
   rw[z6 ⟨om,trivial⟩,y7 (by
    rw[yc]
    exact y36.2 fun z=>h ((z3k _ _).1 z))])
  by_cases hk:∀ i,i<l.length->l.getD i dF=k.getD i dF
  ·rw[g1 hk,zjx h3 hk]
   simp[outM]
  ·rw[g2 hk,yx (fun z=>hk fun i hi=>by injection z with _ z; rw[z])]
   rfl
 ·rw[y7 (by
   simp only[ye,y1g]
   by_cases h1:n=m
   ·by_cases h2:f=g
    ·exact .inr fun z=>h ⟨h1,h2,om⟩
    ·exact .inl (.inr h2)
   ·exact .inl (.inl h1)),yx (fun z=>h (by injection z with z1 z2 z3; exact⟨z1,z3,by rw[z2]⟩))]
open Classical in
theorem zi1 {a b:TJo}:F_q3l a b=some (decide (a=b)):=by
 obtain⟨n,l,f⟩:=a
 obtain⟨m,k,g⟩:=b
 simp only[F_q3l,S_q3l,Scr.den,zj]
 by_cases h:n=m/\f=g
 ·obtain⟨rfl,rfl⟩:=h
  rw[zg (by simp[AllP])]
  have e:F_q14 l k=some (decide (l=k)):=by
   simp only[F_q14,S_q14,Scr.den]
   by_cases h3:l.length=k.length
   ·rw[y6 (by simp[h3])]
    obtain⟨g1,g2⟩:=zy (ρ:=Bool) (n:=l.length) (c:=false) (body:=fun i s=>(S_q14_b1 l k i s).den) (fun i=>l.getD i dF=k.getD i dF) (fun i hi h=>by
     simp only[S_q14_b1,Scr.den]
     rw[z6 ⟨om,trivial⟩,y6 (by
      intro z
      rw[yc] at z
      exact y3x (z.symm.trans ((z3k _ _).2 h)))]) (fun i hi h=>by
     simp only[S_q14_b1,Scr.den]
     rw[z6 ⟨om,trivial⟩,y7 (by
      rw[yc]
      exact y36.2 fun z=>h ((z3k _ _).1 z))])
    by_cases hk:∀ i,i<l.length->l.getD i dF=k.getD i dF
    ·rw[g1 hk,zjx h3 hk]
     simp[outM]
    ·rw[g2 hk,yx (fun z=>hk fun i hi=>by rw[z])]
     rfl
   ·rw[y7 (by simp only[y1g]; exact fun z=>h3 om),yx (fun z=>h3 (by rw[z]))]
  rw[e]
  simp
 ·rw[zr (by simp only[AllP]; rintro⟨z,_⟩; exact h (by simpa using z))]
  simp only[obind]
  rw[yx (fun z=>h (by injection z with z1 z2 z3; exact⟨z1,z3⟩))]
  congr 1
  rw[show ((n==m)&&(f==g))=false from y36.2 fun z=>h (by simpa using z)]
  rfl
noncomputable def linesS (l:List TOp):Y8:=(l.map textS).flatMap fun y=>y++[10]
theorem z41:∀ l:List TOp,(linesS l).length<=l.length * 401
 | []=>by simp[linesS]
 | p :: l=>by
  have h1:=z41 l
  have h2:=z7l p
  have e:linesS (p :: l)=(textS p++[10])++linesS l:=by simp[linesS]
  rw[e]
  simp only[yn,yf,y11,y1x]
  omega
theorem zix (l:List TOp) (p:TOp):linesS (l++[p])=linesS l++(textS p++[10]):=by simp[linesS]
theorem zf8:∀ l:List TOp,(∀ p∈l,p.E.length<=1000000)->textsM l=some (linesS l)
 | [],_=>rfl
 | p :: l,h=>by
  have e:linesS (p :: l)=textS p++([10]++linesS l):=by simp[linesS]
  rw[textsM,zb4 (h p (y13 ..))]
  simp only[obind]
  rw[zf8 l fun q hq=>h q (yo _ hq),e]
  rfl
def firstL (n:Int):Y8:=[111,102,102,105,99,101,32]++Lib.itoa n
open Classical in
noncomputable def bytesS (j:TJo):Y8:=if VJ j then (firstL j.U++[10])++linesS (j.D.take j.R.toNat) else []
theorem z42 (h:VJ j):bytesS j=(firstL j.U++[10])++linesS (j.D.take j.R.toNat):=y7 h
theorem z97 (h:¬ VJ j):bytesS j=[]:=y6 h
theorem z6n (h:1<=n/\n<=6):(firstL n).length=8:=by
 have:n=1\/n=2\/n=3\/n=4\/n=5\/n=6:=om
 unfold firstL
 rw[z2x om]
 rcases this with rfl | rfl | rfl | rfl | rfl | rfl <;> simp[Lib.decDigits]
theorem zl8 (j:TJo):(bytesS j).length<=j.D.length * 401+9:=by
 by_cases h:VJ j
 ·have h1:=z41 (j.D.take j.R.toNat)
  have h2:=z6n h.1
  have h3:(j.D.take j.R.toNat).length * 401<=j.D.length * 401:=yp _ (by rw[y16]; omega)
  rw[z42 h]
  simp only[yn,y2h]
  omega
 ·rw[z97 h]; simp
theorem z98 (hs:ShR j.D):F_q4y j=some (bytesS j):=by
 unfold F_q4y
 rw[z69 hs]
 simp only[obind]
 by_cases h:VJ j
 ·have hf:=h.2.2.1
  have hl:=h.2.1
  have h1:=z41 (j.D.take j.R.toNat)
  have h3:(j.D.take j.R.toNat).length<=400:=by rw[y16]; omega
  have hi:=z26 (n:=j.U) (by have:=h.1; omega) (by have:=h.1; omega)
  rw[@decide_eq_true _ (_) h,cond_true,z3j (by have:=h.1; omega) (by have:=h.1; omega),z42 h]
  simp only[obind]
  rw[z6 ⟨hf.1,om,om,om⟩,zf8 _ (z91 hs _).2]
  simp only[obind]
  rw[z6 om]
  simp[firstL]
 ·rw[@decide_eq_false _ (_) h,y4k,z97 h]
theorem zai (hs:ShR j.D):F_q13 j=some (bytesS j):=by
 simp only[F_q13,S_q13,Scr.den,z3m hs,obind]
 by_cases h:VJ j
 ·have hf:=h.2.2.1
  have hl:=h.2.1
  have hsr:=z91 hs j.R.toNat
  have h3:(j.D.take j.R.toNat).length<=400:=by rw[y16]; omega
  have hi:=z26 (n:=j.U) (by have:=h.1; omega) (by have:=h.1; omega)
  rw[@decide_eq_true _ (_) h,y6 dk,z3j (by have:=h.1; omega) (by have:=h.1; omega),z42 h]
  simp only[obind]
  rw[z6 ⟨by simp only[yf,y11]; omega,by simp only[yn,yf,y11]; omega,trivial⟩,z6 ⟨hf.1,om,trivial⟩]
  obtain⟨l,hle⟩:∃ l,l=j.D.take j.R.toNat:=⟨_,rfl⟩
  rw[<- hle] at hsr h3 |-
  have hl9:=z6n h.1
  obtain⟨u,e,hu⟩:=z25 (body:=fun i s=>((S_q13_b1 j i s).den)) (n:=l.length) (fun i u=>u=(firstL j.U++[10])++linesS (l.take i)) (s0:=([111,102,102,105,99,101,32]++Lib.itoa j.U)++[10]) (by simp[linesS,firstL]) (fun i u hi hu=>by
   subst hu
   have h1:=z41 (l.take i)
   have h2:=z7l (l.getD i dF)
   have h4:(l.take i).length<=400:=by rw[y16]; omega
   simp only[S_q13_b1,Scr.den,<- hle]
   rw[z5z (hsr.2 _ (zd hi))]
   simp only[obind]
   rw[z6 ⟨by simp only[yf,y11]; omega,by simp only[yn,yf,y11]; omega,trivial⟩]
   refine⟨_,rfl,?_⟩
   rw[zf7 hi,zix,y1v])
  rw[e,hu,y1d (yd _)]
  rfl
 ·rw[@decide_eq_false _ (_) h,y7 dk,z97 h]
def offF (s:Y8):Nat->Int->Int
 | 0,_=>0
 | n+1,k=>if s=firstL k then k else offF s n (k+1)
def officeN (s:Y8):Int:=offF s 6 1
theorem zdd (ha:0<=a) (hb:0<=b) (h:firstL a=firstL b):a=b:=zhn ha hb (List.append_cancel_left h)
theorem zf9 {s:Y8} {k0:Int} (h0:0<=k0) (hs:s=firstL k0):∀ (n:Nat) (k:Int),k0<k->offF s n k=0
 | 0,_,_=>rfl
 | n+1,k,h=>by
  show (if s=firstL k then k else offF s n (k+1))=0
  rw[y6 (fun e=>by have:=zdd h0 om (hs.symm.trans e); omega)]
  exact zf9 h0 hs n (k+1) om
theorem zde (s:Y8):∀ (n:Nat) (k:Int),1<=k->offF s n k=0\/(k<=offF s n k/\offF s n k<k+n/\s=firstL (offF s n k))
 | 0,_,_=>.inl rfl
 | n+1,k,h=>by
  show (if s=firstL k then k else offF s n (k+1))=0\/_
  by_cases e:s=firstL k
  ·have e':offF s (n+1) k=k:=y7 e
   rw[y7 e,e']
   exact .inr ⟨om,om,e⟩
  ·have e':offF s (n+1) k=offF s n (k+1):=y6 e
   rw[y6 e,e']
   rcases zde s n (k+1) om with z | ⟨z1,z2,z3⟩
   ·exact .inl z
   ·exact .inr ⟨om,om,z3⟩
theorem z9j {s:Y8} (h:officeN s≠0):(1<=officeN s/\officeN s<=6)/\s=firstL (officeN s):=by
 rcases zde s 6 1 om with z | ⟨z1,z2,z3⟩
 ·exact absurd z h
 ·exact⟨⟨z1,by unfold officeN; omega⟩,z3⟩
theorem ze7 (h:1<=n/\n<=6):officeN (firstL n)=n:=by
 have key:∀ (m:Nat) (k:Int),1<=k->k<=n->n<k+m->offF (firstL n) m k=n:=by
  intro m
  induction m with
  | zero=>intro k h1 h2 h3; omega
  | succ m ih =>
   intro k h1 h2 h3
   show (if firstL n=firstL k then k else offF (firstL n) m (k+1))=n
   by_cases e:n=k
   ·rw[e,y7 rfl]
   ·rw[y6 (fun z=>e (zdd om om z))]
    exact ih (k+1) om om om
 exact key 6 1 om h.1 om
theorem zdf (s:Y8):∀ (n:Nat) (k:Int),k+n=7->1<=k->(offF s n k≠0->iterM (fun x=>(S_qx_b1 s x).den) k=some (.ret (offF s n k)))/\(offF s n k=0->∃ x,iterM (fun x=>(S_qx_b1 s x).den) k=some (.next x))
 | 0,k,h,_=>⟨fun z=>absurd rfl z,fun _=>⟨k,itB (by
   simp only[S_qx_b1,Scr.den]
   rw[y6 sk])⟩⟩
 | n+1,k,h,h1=>by
  have hl:=z26 (n:=k) om om
  have hs:(S_qx_b1 s k).den=some (if s=firstL k then .ret k else .cont (k+1)):=by
   simp only[S_qx_b1,Scr.den]
   rw[y7 sk,z3j om om]
   simp only[obind]
   rw[z6 ⟨by simp only[yf,y11]; omega,trivial⟩,wrapId (n:=k+1) om om]
   by_cases e:s=firstL k
   ·rw[y7 e,y7 (by rw[yu]; exact e)]
   ·rw[y6 e,y6 (by rw[yu]; exact e)]
  show ((if s=firstL k then k else offF s n (k+1))≠0->iterM _ k=some (.ret (if s=firstL k then k else offF s n (k+1))))/\((if s=firstL k then k else offF s n (k+1))=0->_)
  by_cases e:s=firstL k
  ·rw[y7 e] at hs |-
   exact⟨fun _=>itR hs,fun z=>om⟩
  ·rw[y6 e] at hs |-
   obtain⟨g1,g2⟩:=zdf s n (k+1) om om
   exact⟨fun z=>itC hs (g1 z),fun z=>by
    obtain⟨x,hx⟩:=g2 z
    exact⟨x,itC hs hx⟩⟩
theorem zpm (s:Y8):F_qx s=some (officeN s):=by
 obtain⟨g1,g2⟩:=zdf s 6 1 om om
 simp only[F_qx,S_qx,Scr.den]
 by_cases h:offF s 6 1=0
 ·obtain⟨x,hx⟩:=g2 h
  rw[hx,show officeN s=0 from h]
  rfl
 ·rw[g1 h]
  rfl
theorem z5u {rows:List Y8} (h0:0<rows.length) (f:Int):∀ (n:Nat) (o k:Int),k+n=7->1<=k ->
  iterM (fun x=>(S_q8_b1 rows x).den) (o,f,k)=some (.next (if offF (rows.getD 0 dF) n k=0 then o else offF (rows.getD 0 dF) n k,f,7))
 | 0,o,k,h,_=>by
  obtain rfl:k=7:=om
  exact itB (by
   simp only[S_q8_b1,Scr.den]
   rw[y6 sj]
   rfl)
 | n+1,o,k,h,h1=>by
  have hl:=z26 (n:=k) om om
  have hs:(S_q8_b1 rows (o,f,k)).den=some (if rows.getD 0 dF=firstL k then .cont (k,f,k+1) else .cont (o,f,k+1)):=by
   simp only[S_q8_b1,Scr.den]
   rw[y7 sk,z3j om om]
   simp only[obind]
   rw[z6 ⟨h0,by simp only[yf,y11]; omega,trivial⟩,wrapId (n:=k+1) om om]
   by_cases e:rows.getD 0 dF=firstL k
   ·rw[y7 e,y7 (by rw[yu]; exact e)]
   ·rw[y6 e,y6 (by rw[yu]; exact e)]
  have eo:offF (rows.getD 0 dF) (n+1) k=if rows.getD 0 dF=firstL k then k else offF (rows.getD 0 dF) n (k+1):=rfl
  rw[eo]
  by_cases e:rows.getD 0 dF=firstL k
  ·rw[y7 e] at hs
   rw[y7 e,y6 om]
   refine itC hs ((z5u h0 f n k (k+1) om om).trans ?_)
   rw[y7 (zf9 om e n (k+1) om)]
  ·rw[y6 e] at hs
   rw[y6 e]
   exact itC hs (z5u h0 f n o (k+1) om om)
theorem zaj {t:Y8} (hl:t.length<=100000):∀ (n:Nat) (out:List Y8) (b i:Nat),i+n=t.length->b<=i->out.length<=i->(10:UInt8) ∉ (t.drop b).take (i-b)->(b=0\/t.getD (b-1) 0=10) ->
  ∃ (out':List Y8) (b':Nat),iterM (fun s=>(S_qw_b1 t s).den) (out,(b:Int),(i:Int))=some (.next (out',(b':Int),(t.length:Int)))/\b'<=t.length/\out'.length<=t.length/\(10:UInt8) ∉ t.drop b'/\out++splitU 10 (t.drop b)=out'++[t.drop b']/\(b'=0\/t.getD (b'-1) 0=10)
 | 0,out,b,i,h,hb,ho,hm,h10=>by
  have e:i=t.length:=om
  subst e
  have et:(t.drop b).take (t.length-b)=t.drop b:=y1d (by rw[y1h]; omega)
  rw[et] at hm
  exact⟨out,b,itB (by
   simp only[S_qw_b1,Scr.den]
   rw[y6 sj]),hb,ho,hm,by rw[z47 hm],h10⟩
 | n+1,out,b,i,h,hb,ho,hm,h10=>by
  have hi:i<t.length:=om
  have ew:i64.wrap ((i:Int)+1)=((i+1:Nat):Int):=wrapId om om
  by_cases hc:t.getD i 0=10
  ·have h1:(S_qw_b1 t (out,(b:Int),(i:Int))).den=some (.cont (out++[(t.drop b).take (i-b)],((i+1:Nat):Int),((i+1:Nat):Int))):=by
    simp only[S_qw_b1,Scr.den]
    rw[y7 sk,z6 ⟨om,om,trivial⟩]
    simp only[yi,ew]
    rw[y7 ((z4x (c:=10) (z:=10) rfl).2 hc),z6 ⟨om,om,om,om,trivial⟩]
   obtain⟨out',b',g1,g2,g3,g4,g5,g6⟩:=zaj hl n (out++[(t.drop b).take (i-b)]) (i+1) (i+1) om (yd _) sk sj (.inr (by rw[Nat.add_sub_cancel]; exact hc))
   have e:=zju hb hi
   rw[hc] at e
   have e2:splitU 10 (t.drop b)=(t.drop b).take (i-b) :: splitU 10 (t.drop (i+1)):=(yj (splitU 10) e).trans (z56 _ hm)
   refine⟨out',b',itC h1 g1,g2,g3,g4,?_,g6⟩
   rw[e2,<- g5]
   simp
  ·have h1:(S_qw_b1 t (out,(b:Int),(i:Int))).den=some (.cont (out,(b:Int),((i+1:Nat):Int))):=by
    simp only[S_qw_b1,Scr.den]
    rw[y7 sk,z6 ⟨om,om,trivial⟩]
    simp only[yi,ew]
    rw[y6 (fun k=>hc ((z4x (c:=10) (z:=10) rfl).1 k))]
   obtain⟨out',b',g1,g2⟩:=zaj hl n out b (i+1) om om om (by
    rw[zjv hb hi,y1i,y22]
    exact fun k=>k.elim hm fun k=>hc k.symm) h10
   exact⟨out',b',itC h1 g1,g2⟩
theorem ze8 (hl:t.length<=100000):∃ out last,splitU 10 t=out++[last]/\F_qw t=some (if last=[] then out else out++[last])/\out.length<=t.length/\(10:UInt8) ∉ last/\(last≠[]↔t≠[]/\t.getD (t.length-1) 0≠10):=by
 obtain⟨out,b,g1,g2,g3,g4,g5,g6⟩:=zaj hl t.length [] 0 0 om (yd _) (y38 _) sj (.inl rfl)
 have g1:iterM (fun s=>(S_qw_b1 t s).den) (([]:List Y8),(0:Int),(0:Int))=some (.next (out,(b:Int),(t.length:Int))):=g1
 refine⟨out,t.drop b,by simpa using g5,?_,g3,g4,?_⟩
 ·simp only[F_qw,S_qw,Scr.den,g1,zh]
  by_cases hb:b<t.length
  ·have et:(t.drop b).take (t.length-b)=t.drop b:=y1d (by rw[y1h]; omega)
   rw[y7 sk,z6 ⟨om,om,om,trivial⟩]
   simp only[yi,et]
   rw[z6 ⟨by rw[yn]; simp; omega,trivial⟩,y6 (by
    intro z
    have:=yj List.length z
    rw[y1h,y11] at this
    omega)]
  ·rw[y6 sk,z6 ⟨om,trivial⟩,y7 (y1e om)]
 ·constructor
  ·intro z
   have hb:b<t.length:=Nat.not_le.1 fun k=>z (y1e k)
   refine⟨fun e=>by rw[e] at hb; simp at hb,fun e=>g4 ?_⟩
   have hm:t.getD (t.length-1) 0∈t.drop b:=by
    rw[y9,ya (show t.length-1<t.length from om)]
    refine List.mem_iff_getElem?.2 ⟨t.length-1-b,?_⟩
    rw[y1p,show b+(t.length-1-b)=t.length-1 from om,ya (show t.length-1<t.length from om)]
    rfl
   rwa [e] at hm
  ·rintro⟨h1,h2⟩ z
   have hb:t.length<=b:=by
    have:=yj List.length z
    rw[y1h,y11] at this
    omega
   have hb:b=t.length:=om
   have h0:0<t.length:=y2g.2 h1
   rcases g6 with g6 | g6
   ·omega
   ·rw[hb] at g6
    exact h2 g6
noncomputable def opsL (l:List Y8):List TOp:=l.map fun r=>(parseS r).1
theorem zrl:¬ POp zOp:=fun h=>absurd h.1.1 dk
theorem znq (r:Y8):POp (parseS r).1↔(parseS r).2=0:=by
 rcases z2d r with ⟨q,h1,_,h3⟩ | ⟨_,h2⟩
 ·rw[h3]; exact⟨fun _=>rfl,fun _=>h1⟩
 ·rw[h2]; exact⟨fun h=>absurd h zrl,fun h=>absurd h dk⟩
theorem zfa {r:Y8} (h:¬ POp (parseS r).1):(parseS r).2=4:=by
 rcases z2d r with ⟨q,h1,_,h3⟩ | ⟨_,h2⟩
 ·rw[h3] at h; exact absurd h1 h
 ·rw[h2]
theorem zdg (r:Y8):(parseS r).1.E.length<=60:=by
 rcases z2d r with ⟨q,h1,_,h3⟩ | ⟨_,h2⟩
 ·rw[h3]; exact h1.len
 ·rw[h2]; decide
open Classical in
noncomputable def loadS (out:List Y8) (last:Y8):TJo×Bool×Int :=
 if out=[]\/officeN (out.getD 0 dF)=0 then (zJ,false,4) else if 401<out.length then (zJ,false,3) else
  if codeR (newO (officeN (out.getD 0 dF))) (opsL (out.drop 1))≠0 then (zJ,false,codeR (newO (officeN (out.getD 0 dF))) (opsL (out.drop 1)))
  else (⟨officeN (out.getD 0 dF),opsL (out.drop 1),((out.drop 1).length:Int)⟩,!decide (last=[]),0)
theorem zpn {l:List Y8} (h:l.length<=1000000):ShR (opsL l):=⟨by unfold opsL; rw[y2f]; exact h,fun p hp=>by
 obtain⟨r,_,rfl⟩:=y1f.1 hp
 have:=zdg r
 omega⟩
theorem znr {rows:List Y8} (hr:(rv1.drop 1).take (((i64.wrap ((rv1.length:Int)-1))).toNat-1)=rows) (hrl:rows.length<=100000) (hm:∀ x∈rows,x.length<=100000) (o f:Int) :
  rangeM (fun i s=>(S_qi_b1 rv1 i s).den) rows.length 0 (o,f,([]:List TOp))=some (.next (o,f,opsL rows)):=by
 obtain⟨s,e,hs⟩:=z25 (body:=fun i s=>(S_qi_b1 rv1 i s).den) (n:=rows.length) (fun i s=>s=(o,f,opsL (rows.take i))) (s0:=(o,f,([]:List TOp))) (by simp[opsL]) (fun i s hi hs=>by
  subst hs
  simp only[S_qi_b1,Scr.den]
  rw[hr,zht (hm _ (zd hi))]
  simp only[obind]
  rw[z6 ⟨by unfold opsL; rw[y2f,y16]; omega,trivial⟩]
  refine⟨_,rfl,?_⟩
  have e:opsL (rows.take (i+1))=opsL (rows.take i)++[(parseS (rows.getD i dF)).1]:=by
   unfold opsL
   rw[y2i,ya hi,z1a hi,List.map_append]
   rfl
  rw[e])
 rw[e,hs,y1d (yd _)]
open Classical in
theorem z9k {sv1:List Y8} (hrl:sv1.length<=100000) (hm:∀ x∈sv1,x.length<=100000) (n f:Int):∀ (l:List Y8) (i:Nat) (rs:List TOp) (o:TOf),(sv1.drop 1).drop i=l->VO o->rs.length<=i ->
  (codeR o (opsL l)≠0->rangeM (fun i s=>(S_q8_b2 sv1 i s).den) l.length i (n,f,rs,o)=some (.ret (zJ,false,codeR o (opsL l)))) /\
  (codeR o (opsL l)=0->∃ o',rangeM (fun i s=>(S_q8_b2 sv1 i s).den) l.length i (n,f,rs,o)=some (.next (n,f,rs++opsL l,o')))
 | [],i,rs,o,_,_,_=>⟨fun h=>absurd rfl h,fun _=>⟨o,by simp[rangeM,opsL]⟩⟩
 | r :: l,i,rs,o,h,hv,hri=>by
  have hi:i<(sv1.drop 1).length:=Nat.not_le.1 fun k=>by rw[y1e k] at h; cases h
  have hg:(sv1.drop 1).getD i dF=r:=by
   rw[y12 hi] at h
   injection h with h
   rw[z1a hi,h]
  have hd:(sv1.drop 1).drop (i+1)=l:=by
   rw[y12 hi] at h
   injection h
  have hrm:r.length<=100000:=hm r (y1y (by rw[<- hg]; exact zd hi))
  have hc:=zdg r
  have hle:i<=100000:=by rw[y1h] at hi; omega
  have ec:codeR o (opsL (r :: l))=if POp (parseS r).1 then (if (doS o (parseS r).1).2=0 then codeR (doS o (parseS r).1).1 (opsL l) else 9) else 4:=rfl
  have hs:(S_q8_b2 sv1 i (n,f,rs,o)).den=some (if POp (parseS r).1 then (if (doS o (parseS r).1).2=0 then .cont (n,f,rs++[(parseS r).1],(doS o (parseS r).1).1) else .ret (zJ,false,9)) else .ret (zJ,false,4)):=by
   simp only[S_q8_b2,Scr.den]
   rw[hg,zae hrm]
   simp only[obind]
   by_cases h1:POp (parseS r).1
   ·have h1':=(znq r).1 h1
    rw[y6 (by simp[h1']),y7 h1,z4v hv.smO om]
    simp only[obind]
    by_cases h2:(doS o (parseS r).1).2=0
    ·rw[y6 (by simp[h2]),y7 h2,z6 ⟨om,trivial⟩]
    ·rw[y7 (by simpa using h2),y6 h2]
     rfl
   ·rw[y7 (by rw[zfa h1]; decide),y6 h1,zfa h1]
    rfl
  rw[ec]
  simp only[yf,rangeM,hs]
  by_cases h1:POp (parseS r).1
  ·by_cases h2:(doS o (parseS r).1).2=0
   ·simp only[y7 h1,y7 h2]
    obtain⟨g1,g2⟩:=z9k hrl hm n f l (i+1) (rs++[(parseS r).1]) (doS o (parseS r).1).1 hd (z8u h2) sk
    refine⟨g1,fun z=>?_⟩
    obtain⟨o',e⟩:=g2 z
    exact⟨o',by rw[e]; simp[opsL]⟩
   ·simp only[y7 h1,y6 h2]
    exact⟨fun _=>trivial,fun z=>absurd z dk⟩
  ·simp only[y6 h1]
   exact⟨fun _=>trivial,fun z=>absurd z dk⟩
variable {out:List Y8} {last:Y8}
theorem zb5 (hl:t.length<=100000) (hsp:splitU 10 t=out++[last]):F_qi t=some (loadS out last):=by
 have hsl:=z3w 10 t
 have hml:=z2n 10 t
 have es:F_q50 t [10]=some (splitU 10 t):=z6 om
 rw[hsp] at es hsl hml
 have hlen:(out++[last]).length=out.length+1:=sj
 rw[hlen] at hsl
 have ew:i64.wrap (((out++[last]).length:Int)-1)=(out.length:Int):=by rw[hlen,wrapId om om]; omega
 have hg0:out≠[]->(out++[last]).getD 0 dF=out.getD 0 dF:=fun h=>by
  have:=y2g.2 h
  rw[y9,ym this,y9]
 simp only[F_qi,S_qi,Scr.den,es,obind]
 rw[z6 ⟨om,trivial⟩,ew,z6 ⟨om,by rw[yi,hlen]; omega,trivial⟩,zpm]
 simp only[obind,zb]
 rw[z6 ⟨om,trivial⟩]
 unfold loadS
 by_cases h1:out=[]\/officeN (out.getD 0 dF)=0
 ·rw[y7 h1,y7 (by
   simp only[ye,yu]
   by_cases h0:out=[]
   ·exact .inl (by rw[h0]; rfl)
   ·exact .inr (by rw[hg0 h0]; exact h1.resolve_left h0))]
  rfl
 have hne:out≠[]:=fun z=>h1 (.inl z)
 have hn0:officeN (out.getD 0 dF)≠0:=fun z=>h1 (.inr z)
 have hpos:=y2g.2 hne
 rw[y6 h1,hg0 hne,y6 (by
  simp only[ye,yu]
  exact fun z=>z.elim (fun z=>om) hn0),wrapId (n:=(out.length:Int)-1) om om]
 by_cases h2:401<out.length
 ·rw[y7 h2,y7 sk]
  rfl
 rw[y6 h2,y6 sk]
 have e1:((out++[last]).drop 1).take (out.length-1)=out.drop 1:=by
  rw[List.drop_append_of_le_length om,y2x (by rw[y1h]; omega),y1d (by rw[y1h]; omega)]
 have e1':((out++[last]).drop 1).take ((i64.wrap (((out++[last]).length:Int)-1)).toNat-1)=out.drop 1:=by rw[ew,yi]; exact e1
 simp only[yi]
 rw[z6 ⟨om,by rw[hlen]; omega,trivial⟩,e1,znr e1' (by rw[y1h]; omega) (fun x hx=>by
  have:=hml x (y43 _ (y1y hx)); omega)]
 simp only[zh]
 have hr:=(z9j hn0).1
 obtain⟨o,j,e2⟩:=zno hr (zpn (l:=out.drop 1) (by rw[y1h]; omega))
 rw[e2]
 simp only[obind]
 by_cases h3:codeR (newO (officeN (out.getD 0 dF))) (opsL (out.drop 1))=0
 ·rw[y6 (by rw[y1g]; exact fun z=>z h3),z6 ⟨by unfold opsL; rw[y2f,y1h]; omega,trivial⟩,y6 (fun z=>z h3)]
  have hlast:(out++[last]).getD out.length dF=last:=sj
  rw[hlast]
  have hll:(opsL (out.drop 1)).length=(out.drop 1).length:=by unfold opsL; rw[y2f]
  have el:(!(last==([]:Y8)))=!decide (last=[]):=by
   by_cases z:last=[]
   ·rw[z]; rfl
   ·rw[yx z,y1t.2 z]
  rw[hll,el]
 ·rw[y7 (by rw[y1g]; exact h3),y7 h3]
  rfl
theorem ziy (hl:t.length<=100000) (hsp:splitU 10 t=out++[last]):F_q8 t=some (loadS out last):=by
 have hsl:=z3w 10 t
 have hml:=z2n 10 t
 obtain⟨out',last',q1,q2,q3,_,q5⟩:=ze8 hl
 rw[hsp] at q1 hsl hml
 obtain⟨rfl,q6⟩:=List.append_inj' q1 rfl
 injection q6 with q6
 subst q6
 have hlen:(out++[last]).length=out.length+1:=sj
 rw[hlen] at hsl
 simp only[F_q8,S_q8,Scr.den,q2,obind,zj]
 have ewt:0<t.length->i64.wrap ((t.length:Int)-1)=((t.length-1:Nat):Int):=fun h=>by rw[wrapId om om]; omega
 rw[z6 ⟨fun k=>by have:=k.1; simp only[y8] at this; rw[ewt om]; omega,fun k=>by have:=k.1; simp only[y8] at this; rw[ewt om]; omega,trivial⟩]
 have htorn:(decide ((t.length:Int)>0)&&(((t.getD (i64.wrap ((t.length:Int)-1)).toNat 0).toNat:Int) != 10))=!decide (last=[]):=by
  by_cases z:last=[]
  ·rw[y1z z]
   by_cases h0:0<t.length
   ·rw[ewt h0,yi]
    have h10:t.getD (t.length-1) 0=10:=y3z.1 fun k=>(q5.2 ⟨y2g.1 h0,k⟩) z
    rw[h10]
    simp
   ·rw[yx om]; rfl
  ·rw[yx z]
   obtain⟨h1,h2⟩:=q5.1 z
   have h0:=y2g.2 h1
   rw[ewt h0,yi,y1z om]
   have:(((t.getD (t.length-1) 0).toNat:Int)==10)=false:=y36.2 fun k=>h2 ((z4x (c:=10) (z:=10) rfl).1 k)
   simp only[bne,this]
   rfl
 rw[htorn]
 have hcut:∀ {α:Type} (K:List Y8->Option α) (R:R_q8->Option α),outM (if (!decide (last=[]))=true then guardP (AllP [(0:Int)<=i64.wrap (((if last=[] then out else out++[last]).length:Int)-1),(i64.wrap (((if last=[] then out else out++[last]).length:Int)-1)).toNat<=(if last=[] then out else out++[last]).length]) (some (Out.next ((if last=[] then out else out++[last]).take (i64.wrap (((if last=[] then out else out++[last]).length:Int)-1)).toNat)))
   else some (Out.next (if last=[] then out else out++[last]))) K R=K out:=fun K R=>by
  by_cases z:last=[]
  ·rw[y1z z,y6 dk,y7 z,zh]
  ·have ew:i64.wrap (((out++[last]).length:Int)-1)=(out.length:Int):=by rw[hlen,wrapId om om]; omega
   rw[yx z,y7 dk]
   simp only[y6 z]
   rw[ew,yi,z6 ⟨om,by rw[hlen]; omega,trivial⟩,zh,y2x (yd _),y1d (yd _)]
 rw[hcut]
 unfold loadS
 by_cases h0:out=[]
 ·rw[y7 (show out=[]\/officeN (out.getD 0 dF)=0 from .inl h0),y7 (by rw[h0]; rfl)]
  rfl
 have hpos:=y2g.2 h0
 rw[y6 sk]
 have hf:=z5u hpos 0 6 0 1 om om
 rw[hf]
 simp only[zh]
 have eo:(if offF (out.getD 0 dF) 6 1=0 then (0:Int) else offF (out.getD 0 dF) 6 1)=officeN (out.getD 0 dF):=by
  unfold officeN
  split
  ·rename_i z; rw[z]
  ·rfl
 rw[eo]
 by_cases hn0:officeN (out.getD 0 dF)=0
 ·rw[y7 (show out=[]\/officeN (out.getD 0 dF)=0 from .inr hn0),y7 (by rw[yu]; exact hn0)]
  rfl
 rw[y6 (show ¬ (out=[]\/officeN (out.getD 0 dF)=0) from fun z=>z.elim h0 hn0),y6 (by rw[yu]; exact hn0),wrapId (n:=(out.length:Int)-1) om om]
 by_cases h2:401<out.length
 ·rw[y7 h2,y7 sk]
  rfl
 rw[y6 h2,y6 sk,z59]
 have hr:=(z9j hn0).1
 rw[y6 om]
 simp only[obind]
 rw[z6 ⟨om,trivial⟩]
 obtain⟨g1,g2⟩:=z9k (sv1:=out) om (fun x hx=>by have:=hml x (y43 _ hx); omega) (officeN (out.getD 0 dF)) 0 (out.drop 1) 0 [] (newO (officeN (out.getD 0 dF))) rfl (z4y hr) (yd _)
 by_cases h3:codeR (newO (officeN (out.getD 0 dF))) (opsL (out.drop 1))=0
 ·obtain⟨o',e⟩:=g2 h3
  rw[show (⟨officeN (out.getD 0 dF),[],nb⟩:TOf)=newO (officeN (out.getD 0 dF)) from rfl,e]
  simp only[zh]
  have hll:(opsL (out.drop 1)).length=(out.drop 1).length:=by unfold opsL; rw[y2f]
  rw[z6 ⟨by rw[y26,hll,y1h]; omega,trivial⟩,y6 (fun z=>z h3),y26,hll]
 ·rw[show (⟨officeN (out.getD 0 dF),[],nb⟩:TOf)=newO (officeN (out.getD 0 dF)) from rfl,g1 h3,y7 h3]
  rfl
def numB (n:Int):Prop:=0<=n/\n<=10000000
def OpB (p:TOp):Prop:=(1<=p.M/\p.M<=9)/\good p.E=true/\(0<=p.H/\p.H<=99)/\numB p.O/\numB p.Y/\numB p.I/\numB p.T/\numB p.W/\numB p.N/\numB p.Q
variable {s:TTape} {day:Int}
theorem ze9 (ho:Few o.V) (hs:TapeOk s) (hd:0<=day/\day<=30000):∃ p s',F_q1d o day s=some (p,s')/\TapeOk s'/\OpB p:=by
 obtain⟨l1,l2,l3,l4⟩:=ho
 obtain⟨k,s1,e1,t1,k1⟩:=z2i (l:=[1,1,1,2,2,2,3,3,3,4,4,5,6,7,8,8,9]) hs dk dk
 obtain⟨co,s2,e2,t2,_,hc⟩:=zh9 t1
 obtain⟨n1,s3,e3,t3,hn0,hn1⟩:=z1l (lo:=1) (hi:=120) t2 om om om
 obtain⟨n2,s4,e4,t4,hn2⟩:=z2i (l:=[10,50,n1]) t3 sj sj
 have hn2:numB n2:=by
  simp only[yh,y14,y1u] at hn2
  unfold numB
  omega
 have hk:1<=k/\k<=9:=by
  simp only[yh,y14,y1u] at k1
  omega
 have hyy:0<=i64.wrap (day.tdiv 360)/\i64.wrap (day.tdiv 360)<=99:=by
  rw[Int.tdiv_eq_ediv_of_nonneg hd.1,wrapId om om]
  omega
 have hday:numB day:=by unfold numB; omega
 have z0:numB 0:=by unfold numB; omega
 simp only[F_q1d,S_q1d,Scr.den,e1,e2,e3,e4,obind]
 generalize i64.wrap (day.tdiv 360)=yy at hyy |-
 have fin:∀ (s5:TTape) (p:TOp),TapeOk s5->OpB p ->
   ∃ p' s',outM (some (Out.next (s5,p):Out (TTape×TOp) R_q1d)) (fun (sv5:TTape×TOp)=>outM (if (sv5.2.M==2)=true then (F_qr 1 4 sv5.1).bind fun rv17=>(F_q7 60 rv17.2).bind fun rv18=>some (Out.next (rv18.2,(⟨sv5.2.M,sv5.2.E,sv5.2.H,sv5.2.O,sv5.2.Y,sv5.2.I,rv17.1,(i64.wrap (day+rv18.1)),sv5.2.N,sv5.2.Q⟩:TOp)):Out (TTape×TOp) R_q1d) else some (Out.next (sv5.1,sv5.2))) (fun (sv16:TTape×TOp)=>some (sv16.2,sv16.1)) some) some=some (p',s')/\TapeOk s'/\OpB p':=fun s5 p ht h1=>by
  simp only[outM]
  by_cases hk:(p.M==2)=true
  ·rw[y7 hk]
   obtain⟨x1,s6,q1,t6,u1,u2⟩:=z1l (lo:=1) (hi:=4) ht om om om
   obtain⟨x2,s7,q2,t7,u3,u4⟩:=z1k (n:=60) t6 om om
   simp only[q1,q2,obind]
   obtain⟨a1,a2,a3,a4,a5,a6,a7,a8,a9,a10⟩:=h1
   exact⟨_,_,rfl,t7,a1,a2,a3,a4,a5,a6,(by unfold numB; show 0<=x1/\x1<=10000000; omega),(by unfold numB; show 0<=i64.wrap (day+x2)/\i64.wrap (day+x2)<=10000000; rw[wrapId om om]; omega),a9,a10⟩
  ·rw[y6 hk]
   exact⟨_,_,rfl,ht,h1⟩
 have lm:∀ {α:Type} (l:List α),l.length<=1000000->(1:Int)<=(if (l.length:Int)>1 then (l.length:Int) else 1)/\(if (l.length:Int)>1 then (l.length:Int) else 1)<=1000000:=fun l h=>by split <;> omega
 have m1:=lm o.V.A l1
 have m2:=lm o.V.B l2
 have m3:=lm o.V.C l3
 have two:∀ {c d:Bool} {P:Prop},(c=true->P)->(d=true->P)->(c=false->d=false->P)->P:=fun {c d P} h1 h2 h3=>by
  cases hc:c
  ·cases hd:d
   ·exact h3 hc hd
   ·exact h2 hd
  ·exact h1 hc
 have g1:∀ {β:Type} (c d:Bool),(c||d)=true->(if c=true then some (Out.next c) else some (Out.next d):Option (Out Bool β))=some (Out.next true):=fun {_} c d h=>by cases c <;> cases d <;> first | rfl | cases h
 have g0:∀ {β:Type} (c d:Bool),(c||d)=false->(if c=true then some (Out.next c) else some (Out.next d):Option (Out Bool β))=some (Out.next false):=fun {_} c d h=>by cases c <;> cases d <;> first | rfl | cases h
 by_cases c1:((k==2)||(k==5))=true
 ·rw[g1 _ _ c1]
  obtain⟨x1,s5,q1,t5,v1,v2⟩:=z1l (lo:=1) (hi:=(if (o.V.A.length:Int)>1 then (o.V.A.length:Int) else 1)) t4 om m1.1 om
  simp only[outM,y3t,q1,obind]
  exact fin _ ⟨k,co,yy,day,x1,n2,0,0,0,0⟩ t5 ⟨hk,hc,hyy,hday,(by unfold numB; show 0<=x1/\x1<=10000000; omega),hn2,z0,z0,z0,z0⟩
 have c1:((k==2)||(k==5))=false:=by simpa using c1
 rw[g0 _ _ c1]
 by_cases c2:((k==3)||(k==6))=true
 ·rw[g1 _ _ c2]
  obtain⟨x1,s5,q1,t5,v1,v2⟩:=z1l (lo:=1) (hi:=(if (o.V.B.length:Int)>1 then (o.V.B.length:Int) else 1)) t4 om m2.1 om
  simp only[outM,y1r,y3t,y39,q1,obind]
  exact fin _ ⟨k,co,yy,day,x1,n2,0,0,0,0⟩ t5 ⟨hk,hc,hyy,hday,(by unfold numB; show 0<=x1/\x1<=10000000; omega),hn2,z0,z0,z0,z0⟩
 have c2:((k==3)||(k==6))=false:=by simpa using c2
 rw[g0 _ _ c2]
 by_cases c3:((k==4)||(k==9))=true
 ·rw[g1 _ _ c3]
  obtain⟨x1,s5,q1,t5,v1,v2⟩:=z1l (lo:=1) (hi:=(if (o.V.C.length:Int)>1 then (o.V.C.length:Int) else 1)) t4 om m3.1 om
  simp only[outM,y1r,y3t,y39,q1,obind]
  exact fin _ ⟨k,co,yy,day,x1,n2,0,0,0,0⟩ t5 ⟨hk,hc,hyy,hday,(by unfold numB; show 0<=x1/\x1<=10000000; omega),hn2,z0,z0,z0,z0⟩
 have c3:((k==4)||(k==9))=false:=by simpa using c3
 rw[g0 _ _ c3]
 by_cases c4:(k==8)=true
 ·obtain⟨x1,s5,q1,t5,y0,y1⟩:=z1k (n:=1000) t4 om om
  obtain⟨x2,s6,q2,t6,y2⟩:=z2i (l:=[100,400,x1]) t5 sj sj
  obtain⟨x3,s7,q3,t7,y5,y3⟩:=z1k (n:=200) t6 om om
  obtain⟨x4,s8,q4,t8,y4⟩:=z2i (l:=[0,0,x3]) t7 sj sj
  simp only[outM,y1r,y39,y7 c4,q1,q2,q3,q4,obind]
  simp only[yh,y14,y1u] at y2 y4
  exact fin _ ⟨k,co,yy,day,0,n2,0,0,x2,x4⟩ t8 ⟨hk,hc,hyy,hday,z0,hn2,z0,z0,(by unfold numB; show 0<=x2/\x2<=10000000; omega),(by unfold numB; show 0<=x4/\x4<=10000000; omega)⟩
 ·simp only[outM,y1r,y39,y6 c4]
  exact fin _ ⟨k,co,yy,day,0,n2,0,0,0,0⟩ t4 ⟨hk,hc,hyy,hday,z0,hn2,z0,z0,z0,z0⟩
theorem zsu (k a b:Int) (K:Bool->Option α) (R:ρ->Option α):outM (if (k==a)=true then some (Out.next (k==a)) else some (Out.next (k==b))) K R=K (decide (k=a\/k=b)):=by
 by_cases h1:k=a
 ·rw[y7 (by simpa using h1)]; simp[outM,h1]
 rw[y6 (by simpa using h1)]
 simp only[outM,h1,false_or]
 rfl
theorem numB.le (h:numB n):0<=n/\n<=1000000000000000:=⟨h.1,by have:=h.2; omega⟩
theorem z5f (hv:VO o) (hs:TapeOk s) (hd:0<=day/\day<=30000):∃ p s',F_q1e o day s=some (p,s')/\TapeOk s'/\POp p:=by
 obtain⟨p,s1,e1,t1,h1,h2,h3,h4,h5,h6,h7,h8,h9,h10⟩:=ze9 hv.smO.1.1 hs hd
 have g4:=h4.le
 have g5:=h5.le
 have g6:=h6.le
 have g7:=h7.le
 have g8:=h8.le
 have g9:=h9.le
 have g10:=h10.le
 simp only[F_q1e,S_q1e,Scr.den,e1,obind,zsu]
 by_cases k:p.M=1
 ·rw[y7 (by simp[k])]
  exact⟨_,_,rfl,t1,by simp[POp,partsK,condF,getF,mostF,clrF,unK,zOp,k,h2,h3,g4,g6]⟩
 rw[y6 (by simp[k])]
 by_cases k:p.M=2
 ·rw[y7 (by simp[k])]
  exact⟨_,_,rfl,t1,by simp[POp,partsK,condF,getF,mostF,clrF,unK,zOp,k,g4,g5,g6,g7,g8]⟩
 rw[y6 (by simp[k])]
 by_cases k:p.M=3
 ·rw[y7 (by simp[k])]
  exact⟨_,_,rfl,t1,by simp[POp,partsK,condF,getF,mostF,clrF,unK,zOp,k,g4,g5,g6]⟩
 rw[y6 (by simp[k])]
 by_cases k:p.M=4
 ·rw[y7 (by simp[k])]
  exact⟨_,_,rfl,t1,by simp[POp,partsK,condF,getF,mostF,clrF,unK,zOp,k,g4,g5]⟩
 rw[y6 (by simp[k])]
 by_cases k:p.M=5\/p.M=6
 ·rw[y7 (by simpa using k)]
  refine⟨_,_,rfl,t1,?_⟩
  rcases k with k | k
  ·simp[POp,partsK,condF,getF,mostF,clrF,unK,zOp,k,g5,g6]
  ·simp[POp,partsK,condF,getF,mostF,clrF,unK,zOp,k,g5,g6]
 rw[y6 (by simpa using k)]
 by_cases k:p.M=7
 ·rw[y7 (by simp[k])]
  exact⟨_,_,rfl,t1,by simp[POp,partsK,condF,getF,mostF,clrF,unK,zOp,k,h2,h3,g6]⟩
 rw[y6 (by simp[k])]
 by_cases k:p.M=8
 ·rw[y7 (by simp[k])]
  exact⟨_,_,rfl,t1,by simp[POp,partsK,condF,getF,mostF,clrF,unK,zOp,k,h2,h3,g9,g10]⟩
 rw[y6 (by simp[k])]
 have k:p.M=9:=om
 exact⟨_,_,rfl,t1,by simp[POp,partsK,condF,getF,mostF,clrF,unK,zOp,k,g5]⟩
theorem zfb {g:Int} (h:numB g):POp ⟨8,[49],12,0,0,0,0,0,g,0⟩:=by
 have:=h.le
 have e:good [49]=true:=dk
 simp[POp,partsK,condF,getF,mostF,clrF,unK,zOp,e,this]
def MJ (n m:Int) (s:TTape×Int×Int×List TOp×TOf×Int×Int):Prop:=TapeOk s.1/\s.2.1=n/\(0<=s.2.2.1/\s.2.2.1<=(s.2.2.2.1.length:Int))/\Runs (newO n) s.2.2.2.1/\s.2.2.2.2.1=runO (newO n) s.2.2.2.1/\(0<=s.2.2.2.2.2.1/\s.2.2.2.2.2.1<=4349+19 * (m-s.2.2.2.2.2.2))/\0<=s.2.2.2.2.2.2/\(s.2.2.2.1.length:Int)+s.2.2.2.2.2.2<=m
variable {m:Int}
theorem zi2 (hn:1<=n/\n<=6) (hm:m<=100) {s:TTape×Int×Int×List TOp×TOf×Int×Int} (h:MJ n m s) :
  (∃ s',(S_qg_b1 s).den=some (.cont s')/\MJ n m s'/\s'.2.2.2.2.2.2.toNat<s.2.2.2.2.2.2.toNat)\/∃ s',(S_qg_b1 s).den=some (.brk s')/\MJ n m s':=by
 obtain⟨t,a,f,l,o,d,i⟩:=s
 obtain⟨h1,h2,h3,h4,h5,h6,h7,h8⟩:=h
 simp only at h1 h2 h3 h4 h5 h6 h7 h8
 subst h2 h5
 have hv:=z87 (z4y hn) h4
 simp only[S_qg_b1,Scr.den]
 by_cases hi:i>0
 ·rw[y7 (by simpa using hi)]
  left
  obtain⟨p0,t1,e1,q1,hp0⟩:=z5f hv h1 (day:=d) om
  simp only[e1,obind]
  have hcut:∃ p t2,POp p/\TapeOk t2/\∀ {ρ α:Type} (K:TTape×TOp->Option α) (R:ρ->Option α),outM (if (((runO (newO a) l).G.length:Int)==0)=true then (F_qz ([300,600]:List Int) t1).bind fun rv4=>some (Out.next (rv4.2,(⟨8,[49],12,0,0,0,0,0,rv4.1,0⟩:TOp))) else some (Out.next (t1,p0))) K R=K (t2,p):=by
   by_cases c:(((runO (newO a) l).G.length:Int)==0)=true
   ·obtain⟨g,t2,e2,q2,hg⟩:=z2i (l:=[300,600]) q1 dk dk
    simp only[yh,y14,y1u] at hg
    refine⟨_,t2,zfb (g:=g) (by unfold numB; omega),q2,fun K R=>?_⟩
    rw[y7 c,e2]
    rfl
   ·exact⟨p0,t1,hp0,q1,fun K R=>by rw[y6 c,zh]⟩
  obtain⟨p,t2,hp,q2,hK⟩:=hcut
  rw[hK]
  obtain⟨r,t3,e3,q3,r0,r1⟩:=z1k (n:=20) q2 om om
  obtain⟨r',t4,e4,q4,hr⟩:=z2i (l:=[0,1,r]) q3 sj sj
  simp only[yh,y14,y1u] at hr
  simp only[e3,e4,obind]
  rw[z4v hv.smO (by have:=hp.len; omega)]
  simp only[obind]
  have w1:i64.wrap (d+r')=d+r':=wrapId om om
  have w2:i64.wrap (i-1)=i-1:=wrapId om om
  rw[w1,w2]
  by_cases h0:(doS (runO (newO a) l) p).2=0
  ·rw[y6 (by simp[h0]),z6 ⟨om,trivial⟩]
   obtain⟨b,t5,e5,q5,_,_⟩:=z1k (n:=4) q4 om om
   simp only[e5,obind]
   have hl:(l++[p]).length=l.length+1:=sj
   have hr':Runs (newO a) (l++[p]):=zag.2 ⟨h4,hp,h0⟩
   by_cases c:(b==0)=true
   ·rw[y7 c]
    exact⟨_,rfl,⟨q5,rfl,⟨by show (0:Int)<=((l++[p]).length:Int); omega,Int.le_refl _⟩,hr',(z7m ..).symm,⟨by show 0<=d+r'; omega,by show d+r'<=4349+19 * (m-(i-1)); omega⟩,by show 0<=i-1; omega,by show ((l++[p]).length:Int)+(i-1)<=m; omega⟩,by show (i-1).toNat<i.toNat; omega⟩
   ·rw[y6 c]
    exact⟨_,rfl,⟨q5,rfl,⟨h3.1,by show f<=((l++[p]).length:Int); omega⟩,hr',(z7m ..).symm,⟨by show 0<=d+r'; omega,by show d+r'<=4349+19 * (m-(i-1)); omega⟩,by show 0<=i-1; omega,by show ((l++[p]).length:Int)+(i-1)<=m; omega⟩,by show (i-1).toNat<i.toNat; omega⟩
  ·rw[y7 (by rw[y1g]; exact h0)]
   exact⟨_,rfl,⟨q4,rfl,h3,h4,rfl,⟨by show 0<=d+r'; omega,by show d+r'<=4349+19 * (m-(i-1)); omega⟩,by show 0<=i-1; omega,by show (l.length:Int)+(i-1)<=m; omega⟩,by show (i-1).toNat<i.toNat; omega⟩
 ·rw[y6 (by simpa using hi)]
  exact .inr ⟨_,rfl,h1,rfl,h3,h4,rfl,h6,h7,h8⟩
theorem z3n (hn:1<=n/\n<=6) (hm:0<=m/\m<=100) (hs:TapeOk s):∃ j s',F_qg n m s=some (j,s')/\TapeOk s'/\VJ j/\j.U=n/\(j.D.length:Int)<=m:=by
 simp only[F_qg,S_qg,Scr.den,z59,obind]
 rw[y6 om]
 obtain⟨d,s1,e1,q1,d0,d1⟩:=z1k (n:=30) hs om om
 rw[wrapId (n:=m+1) om om]
 obtain⟨i,s2,e2,q2,i0,i1⟩:=z1k (n:=m+1) q1 om om
 simp only[e1,e2,obind]
 rw[wrapId (n:=4320+d) om om]
 obtain⟨⟨t,a,f,l,o,dd,ii⟩,e,h1,h2,h3,h4,h5,h6,h7,h8⟩:=z4s (step:=fun s=>(S_qg_b1 s).den) (fun s=>s.2.2.2.2.2.2.toNat) (MJ n m) (MJ n m) (fun s h=>zi2 hn hm.2 h) (i.toNat+1) (s2,n,0,([]:List TOp),newO n,4320+d,i) (y4u _)
  ⟨q2,rfl,⟨Int.le_refl _,sj⟩,trivial,rfl,⟨by show 0<=4320+d; omega,by show 4320+d<=4349+19 * (m-i); omega⟩,i0,by show ((([]:List TOp).length:Nat):Int)+i<=m; simp; omega⟩
 simp only at h1 h2 h3 h4 h5 h6 h7 h8
 subst h2
 have e:iterM (fun s=>(S_qg_b1 s).den) (s2,a,0,([]:List TOp),(⟨a,[],nb⟩:TOf),4320+d,i)=some (.next (t,a,f,l,o,dd,ii)):=e
 rw[e]
 simp only[zh]
 obtain⟨b,t2,e3,q3,_,_⟩:=z1k (n:=3) h1 om om
 simp only[e3,obind]
 have hV:VJ ⟨a,l,f⟩:=⟨hn,by show l.length<=400; omega,h3,h4⟩
 by_cases c:(b==0)=true
 ·rw[y7 c,z6 ⟨om,trivial⟩,zah hV.shr,z30 hV]
  exact⟨_,_,rfl,q3,z96 hV,rfl,by show (l.length:Int)<=m; omega⟩
 ·rw[y6 c,z6 ⟨om,trivial⟩]
  exact⟨_,_,rfl,q3,hV,rfl,by show (l.length:Int)<=m; omega⟩
theorem zbw (h:0<=n):(10:UInt8) ∉ firstL n:=by
 intro k
 unfold firstL at k
 rcases y1i.1 k with k | k
 ·revert k; decide
 ·have:=zho h k
  revert this; decide
theorem z99 (p:TOp):(10:UInt8) ∉ textS p:=by
 intro k
 by_cases h:POp p
 ·rw[z1x h] at k
  rcases znk h k with k | k
  ·revert k; decide
  ·revert k; decide
 ·rw[z2r h] at k
  cases k
variable {part:Y8}
theorem z9a (hn:0<=n) (hp:(10:UInt8) ∉ part):splitU 10 ((firstL n++[10])++linesS l++part)=(firstL n :: l.map textS)++[part]:=by
 have e:(firstL n++[10])++linesS l++part=(firstL n :: l.map textS).flatMap (fun y=>y++[10])++part:=by simp[linesS]
 rw[e,za0 _ _ (fun y hy=>by
  rcases yh.1 hy with rfl | hy
  ·exact zbw hn
  ·obtain⟨p,_,rfl⟩:=y1f.1 hy
   exact z99 p),z47 hp]
theorem zdh:∀ {l:List TOp},(∀ p∈l,POp p)->opsL (l.map textS)=l
 | [],_=>rfl
 | p :: l,h=>by
  have hp:=h p (y13 ..)
  have e:opsL ((p :: l).map textS)=(parseS (textS p)).1 :: opsL (l.map textS):=rfl
  rw[e,zdh fun q hq=>h q (yo _ hq),z1x hp,zdb hp]
theorem zak (hn:1<=n/\n<=6) (hl:l.length<=400) (hr:Runs (newO n) l) (part:Y8):loadS (firstL n :: l.map textS) part=(⟨n,l,(l.length:Int)⟩,!decide (part=[]),0):=by
 have e0:officeN ((firstL n :: l.map textS).getD 0 dF)=n:=ze7 hn
 have e1:opsL ((firstL n :: l.map textS).drop 1)=l:=zdh (z8z hr)
 have e2:((firstL n :: l.map textS).drop 1).length=l.length:=sj
 unfold loadS
 rw[e0,e1,e2,y6 (fun k=>k.elim (fun k=>by cases k) fun k=>om),y6 sk,y6 (fun k=>k (z5b.2 hr))]
theorem zi3 (hn:1<=n/\n<=6) (hl:l.length<=100) (hp:part.length<=1000):((firstL n++[10])++linesS l++part).length<=100000:=by
 have h1:=z6n hn
 have h2:=z41 l
 simp only[yn,y2h]
 omega
theorem zrm:textT q1=[104,101,97,114,32,49,32,49,50,32,49,48,48,32,48]:=by
 simp[textT,q1,partsK,wordK,txtF,getF,Lib.join_cons,Lib.joinTail,Lib.itoa,Lib.decDigits]
theorem zns:POp q1:=zfb (g:=100) (by unfold numB; omega)
theorem zjy:Runs (newO 2) [q1]:=⟨⟨zns,by have:=st1; rw[show newO 2=a1 from rfl,this]⟩,trivial⟩
theorem z32:F_q1v=some true:=by
 have hf:firstL 2=[111,102,102,105,99,101,32,50]:=by simp[firstL,Lib.itoa,Lib.decDigits]
 have hls:linesS [q1]=[104,101,97,114,32,49,32,49,50,32,49,48,48,32,48,10]:=by
  simp[linesS,z1x zns,zrm]
 have ht:([111,102,102,105,99,101,32,50,10,104,101,97,114,32,49,32,49,50,32,49,48,48,32,48,10,114,101,115,101,114,118,101,32,49,32,49,50,32,52,51]:Y8)=(firstL 2++[10])++linesS [q1]++[114,101,115,101,114,118,101,32,49,32,49,50,32,52,51]:=by rw[hf,hls]; rfl
 have hV:VJ ⟨2,[q1],1⟩:=⟨dk,dk,dk,zjy⟩
 have e1:=zb5 (t:=(firstL 2++[10])++linesS [q1]++[114,101,115,101,114,118,101,32,49,32,49,50,32,52,51]) (zi3 dk dk dk) (z9a dk dk)
 rw[zak dk dk zjy,<- ht] at e1
 have e2:F_qp ⟨2,[q1],1⟩=some (a2,0):=by
  rw[z2z hV.shr,z14 hV]
  have:nowJ ⟨2,[q1],1⟩=(doS a1 q1).1:=rfl
  rw[this,st1]
 have e3:F_q4y ⟨2,[q1],1⟩=some [111,102,102,105,99,101,32,50,10,104,101,97,114,32,49,32,49,50,32,49,48,48,32,48,10]:=by
  rw[z98 hV.shr,z42 hV]
  show some ((firstL 2++[10])++linesS [q1])=_
  rw[hf,hls]
  rfl
 have e1:F_qi [111,102,102,105,99,101,32,50,10,104,101,97,114,32,49,32,49,50,32,49,48,48,32,48,10,114,101,115,101,114,118,101,32,49,32,49,50,32,52,51]=some (⟨2,[q1],1⟩,true,0):=e1
 simp only[F_q1v,S_q1v,Scr.den,e1,e2,obind]
 rw[zg,e3]
 ·rfl
 ·exact⟨rfl,trivial⟩
theorem VO.few (h:VO o):ze3 o:=by
 have h1:=h.smO.1.1
 have h2:=h.smO.2.1
 obtain⟨a,b,c,d⟩:=h1
 exact⟨om,om,om,om,om⟩
theorem zb6 (h:VO o):F_qn o o=some true:=by
 rw[zbt h.few,@decide_eq_true _ (_) rfl]
theorem z88 (h:j.D.length<=1000000):F_qb j j=some true:=by
 rw[z7w h,@decide_eq_true _ (_) rfl]
theorem znt (h:VJ j):((j.D.take j.R.toNat).length:Int)=j.R:=by
 have:=h.2.2.1
 rw[y16]
 omega
theorem ziz:crashJ (crashJ j)=crashJ j:=by
 unfold crashJ
 simp only
 rw[List.take_take,Nat.min_self]
theorem zj0:crashJ (flushJ j)=flushJ j:=by
 unfold crashJ flushJ
 simp only[yi]
 rw[y1d (yd _)]
theorem zl9 (h:VJ j) (hl:j.D.length<=100):F_qi (bytesS j)=some (crashJ j,false,0):=by
 have ht:(j.D.take j.R.toNat).length<=100:=by rw[y16]; omega
 have e:=zb5 (t:=(firstL j.U++[10])++linesS (j.D.take j.R.toNat)++[]) (zi3 h.1 ht sj) (z9a (by have:=h.1; omega) sj)
 rw[zak h.1 om (z3l h.2.2.2 _),y2v,<- z42 h,znt h] at e
 exact e
theorem znz (t:List Int):F_q4u t=some true:=by
 obtain⟨s0,e0,q0⟩:=z73 t
 obtain⟨n,s1,e1,q1,n1,n2⟩:=z1l (lo:=1) (hi:=3) q0 om om om
 obtain⟨j,s2,e2,q2,hV,hn,hl⟩:=z3n (n:=n) (m:=14) ⟨n1,om⟩ om q1
 have hc:=zpk hV
 have hf:=z96 hV
 have e3:F_q20 j=some (crashJ j):=by rw[z95 hV.shr,z3z hV]
 have e4:=zl9 hV om
 have e5:F_qp (crashJ j)=some (stbJ j,0):=by rw[z2z hc.shr,z14 hc]; rfl
 have e6:F_q2h j=some (stbJ j,0):=by rw[z7n hV.shr,z3a hV]
 have e7:F_q1z j=some (flushJ j):=by rw[z94 hV.shr,z30 hV]
 have e8:F_q20 (flushJ j)=some (flushJ j):=by rw[z95 hf.shr,z3z hf,zj0]
 have e9:F_qp (flushJ j)=some (nowJ j,0):=by rw[z2z hf.shr,z14 hf]; rfl
 have e10:F_qp j=some (nowJ j,0):=by rw[z2z hV.shr,z14 hV]
 have e11:F_q20 (crashJ j)=some (crashJ j):=by rw[z95 hc.shr,z3z hc,ziz]
 have e12:F_q25 (crashJ j)=some true:=by rw[z3m hc.shr,@decide_eq_true _ (_) hc]
 have e13:=z88 (j:=crashJ j) hc.shr.1
 simp only[F_q4u,S_q4u,Scr.den,e0,e1,e2,e3,z98 hV.shr,e4,e5,e6,e7,e8,e9,e10,obind]
 rw[y6 dk,e13]
 simp only[obind]
 rw[zg (by simp[AllP]),zb6 hV.stb]
 simp only[obind]
 rw[zg (by simp[AllP]),zb6 hV.now]
 simp only[obind]
 rw[zg (by simp[AllP]),e12]
 simp only[obind]
 rw[zg (by simp[AllP]),e11]
 simp only[obind]
 rw[zg (by simp[AllP]),e13]
 simp only[obind]
 rw[zg (by simp[AllP]),z32]
 rfl
def AJ (s:TTape×TJo×Int):Prop:=TapeOk s.1/\VJ s.2.1/\(0<=s.2.2/\s.2.2<=5)/\(s.2.1.D.length:Int)<=10+s.2.2
theorem zj1 {s:TTape×TJo×Int} (h:AJ s) :
  (∃ s',(S_q1m_b1 s).den=some (.cont s')/\AJ s'/\(5-s'.2.2).toNat<(5-s.2.2).toNat)\/∃ s',(S_q1m_b1 s).den=some (.brk s')/\True:=by
 obtain⟨t,j,i⟩:=s
 obtain⟨h1,hV,h3,h4⟩:=h
 simp only at h1 hV h3 h4
 simp only[S_q1m_b1,Scr.den]
 by_cases hi:i<5
 ·rw[y7 (by simpa using hi),z2z hV.shr,z14 hV]
  left
  simp only[obind]
  rw[y6 sj,wrapId (n:=20 * i) om om,wrapId (n:=4600+20 * i) om om]
  obtain⟨p,t1,e1,q1,hp⟩:=z5f hV.now h1 (day:=4600+20 * i) om
  simp only[e1,obind]
  have hpl:=hp.len
  rw[zf6 hV.shr om,z4v hV.now.smO om]
  simp only[obind]
  rw[wrapId (n:=i+1) om om]
  by_cases h0:(doS (nowJ j) p).2=0
  ·have ha:=z5d ⟨hV,hp⟩ h0 om
   have hVx:=(znp hV (p:=p) (by rw[ha])).1
   rw[ha] at hVx |-
   have hlx:(j.D++[p]).length=j.D.length+1:=sj
   rw[y6 (by simp[h0]),y6 sj,z2z hVx.shr,z14 hVx,zl6]
   simp only[obind]
   rw[z7n hVx.shr,z3a hVx,zl7 hV,z7n hV.shr,z3a hV]
   simp only[obind]
   rw[zg (by simp[AllP]),zb6 (z8u h0)]
   simp only[obind]
   rw[zg (by simp[AllP]),zb6 hV.stb]
   simp only[obind]
   rw[y6 sj]
   obtain⟨b,t2,e2,q2,_,_⟩:=z1k (n:=2) q1 om om
   simp only[e2,obind]
   by_cases c:(b==0)=true
   ·rw[y7 c,z94 hVx.shr,z30 hVx]
    exact⟨_,rfl,⟨q2,z96 hVx,⟨by show 0<=i+1; omega,by show i+1<=5; omega⟩,by show (((j.D++[p]).length:Nat):Int)<=10+(i+1); omega⟩,by show (5-(i+1)).toNat<(5-i).toNat; omega⟩
   ·rw[y6 c]
    exact⟨_,rfl,⟨q2,hVx,⟨by show 0<=i+1; omega,by show i+1<=5; omega⟩,by show (((j.D++[p]).length:Nat):Int)<=10+(i+1); omega⟩,by show (5-(i+1)).toNat<(5-i).toNat; omega⟩
  ·rw[z4c ⟨hV,hp⟩ h0]
   rw[y6 sj,y7 (by rw[y1g]; exact h0)]
   exact⟨_,rfl,⟨q1,hV,⟨by show 0<=i+1; omega,by show i+1<=5; omega⟩,by show (j.D.length:Int)<=10+(i+1); omega⟩,by show (5-(i+1)).toNat<(5-i).toNat; omega⟩
 ·rw[y6 (by simpa using hi)]
  exact .inr ⟨_,rfl,trivial⟩
theorem zlf (t:List Int):F_q1m t=some true:=by
 obtain⟨s0,e0,q0⟩:=z73 t
 obtain⟨n,s1,e1,q1,n1,n2⟩:=z1l (lo:=1) (hi:=3) q0 om om om
 obtain⟨j,s2,e2,q2,hV,hn,hl⟩:=z3n (n:=n) (m:=10) ⟨n1,om⟩ om q1
 obtain⟨s,e,_⟩:=z4s (step:=fun s=>(S_q1m_b1 s).den) (fun s=>(5-s.2.2).toNat) AJ (fun _=>True) (fun s h=>zj1 h) 6 (s2,j,0) (by show (5-(0:Int)).toNat<6; decide) ⟨q2,hV,⟨Int.le_refl _,by show (0:Int)<=5; decide⟩,by show (j.D.length:Int)<=10+0; omega⟩
 simp only[F_q1m,S_q1m,Scr.den,e0,e1,e2,obind,e,zh,z32]
theorem OpB.len (h:OpB p):p.E.length<=60:=by
 have:=z4l h.2.1
 omega
theorem zbx {x:Y8} (hx:x.length<=50000) (h0:1<=ws.length) (h1:ws.length<=100) (hw:∀ w∈ws,w.length<=100) (hs:TapeOk s):∃ y s',F_q27 x ws s=some (y,s')/\TapeOk s'/\y.length<=60000:=by
 simp only[F_q27,S_q27,Scr.den]
 rw[wrapId (n:=(x.length:Int)+1) om om]
 obtain⟨k,s1,e1,q1,k0,k1⟩:=z1k (n:=(x.length:Int)+1) hs om om
 obtain⟨c,s2,e2,q2,c0,c1⟩:=z1k (n:=(ws.length:Int)) q1 om om
 obtain⟨d,s3,e3,q3,d0,d1⟩:=z1k (n:=3) q2 om om
 simp only[e1,e2,e3,obind]
 have hwc:=hw _ (zd (l:=ws) (i:=c.toNat) om)
 rw[z6 ⟨c0,om,trivial⟩,wrapId (n:=k+d) om om]
 obtain⟨m,hm⟩:∃ m:Int,m=(if k+d<(x.length:Int) then k+d else (x.length:Int)):=⟨_,rfl⟩
 have hm2:0<=m/\m<=x.length:=by rw[hm]; split <;> omega
 rw[<- hm,z6 ⟨k0,om,by rw[y16]; omega,hm2.1,om,by simp only[yn,y16,y1h]; omega,trivial⟩]
 exact⟨_,_,rfl,q3,by simp only[yn,y16,y1h]; omega⟩
theorem zj2 (l:List Y8):(opsL l).length=l.length:=by unfold opsL; rw[y2f]
theorem znu (out:List Y8) (last:Y8):(loadS out last).1.D.length<=1000000:=by
 unfold loadS
 split
 ·simp[zJ]
 ·split
  ·simp[zJ]
  ·split
   ·simp[zJ]
   ·show (opsL (out.drop 1)).length<=1000000
    rw[zj2,y1h]
    omega
theorem znv (hl:t.length<=100000):∃ x:TJo×Bool×Int,F_qi t=some x/\F_q8 t=some x/\x.1.D.length<=1000000:=by
 obtain⟨out,last,h,_⟩:=ze8 hl
 exact⟨_,zb5 hl h,ziy hl h,znu out last⟩
variable {d:α}
theorem three {q:α->Prop} {a b c:α} (h0:q a) (h1:q b) (h2:q c) (hi:i<3):q (([a,b,c]:List α).getD i d):=by
 have:i=0\/i=1\/i=2:=om
 rcases this with rfl | rfl | rfl
 ·exact h0
 ·exact h1
 ·exact h2
theorem six {q:α->Prop} {a b c e f z:α} (h0:q a) (h1:q b) (h2:q c) (h3:q d) (h4:q e) (h5:q f) (hi:i<6):q (([a,b,c,d,e,f]:List α).getD i z):=by
 have:i=0\/i=1\/i=2\/i=3\/i=4\/i=5:=om
 rcases this with rfl | rfl | rfl | rfl | rfl | rfl
 ·exact h0
 ·exact h1
 ·exact h2
 ·exact h3
 ·exact h4
 ·exact h5
theorem zpo {a1:TOp} (h1:a1.E.length<=60) {s':TTape} (hp:p.E.length<=60) (hq:q.E.length<=60) (hi:i<3):(S_qc_b1 a1 (p,s) (q,s') i ()).den=some (.cont ()):=by
 have hx:=three (q:=fun x:TOp=>x.E.length<=60) (d:=dF) hp hq h1 hi
 simp only[S_qc_b1,Scr.den]
 generalize ([p,q,a1]:List TOp).getD i dF=x at hx |-
 rw[z8v om,z1y om]
 simp only[obind]
 rw[zg (by simp[AllP]),zb4 om,zg (by simp[AllP]),z5z om]
 simp only[obind]
 rw[y6 sj]
variable {e f:Y8}
theorem zpp {a b c d:Y8} (h0:a.length<=100000) (h1:b.length<=100000) (h2:c.length<=100000) (h3:d.length<=100000) (h4:e.length<=100000) (h5:f.length<=100000) (hi:i<6) :
  (((F_q3 (([a,b,c,d,e,f]:List Y8).getD i dF)).bind fun r=>(F_qe (([a,b,c,d,e,f]:List Y8).getD i dF)).bind fun r'=>if (cO (!((r.1.M==r'.1.M)&&((r.1.E==r'.1.E)&&((r.1.H==r'.1.H)&&((r.1.O==r'.1.O)&&((r.1.Y==r'.1.Y)&&((r.1.I==r'.1.I)&&((r.1.T==r'.1.T)&&((r.1.W==r'.1.W)&&((r.1.N==r'.1.N)&&((r.1.Q==r'.1.Q)&&true))))))))))) (r.2 != r'.2))=true then some (Step.ret false) else some (Step.cont ())):Option (Step Unit Bool))=some (.cont ()):=by
 have hx:=six (q:=fun x:Y8=>x.length<=100000) (z:=dF) h0 h1 h2 h3 h4 h5 hi
 generalize ([a,b,c,d,e,f]:List Y8).getD i dF=x at hx |-
 rw[zht hx,zae hx]
 simp only[obind]
 rw[y6 (by
  rw[(z3k (parseS x).1 (parseS x).1).2 rfl]
  simp)]
theorem zpq {a b c d:Y8} (h0:a.length<=100000) (h1:b.length<=100000) (h2:c.length<=100000) (h3:d.length<=100000) (h4:e.length<=100000) (h5:f.length<=100000) (hi:i<6) :
  (((F_qi (([a,b,c,d,e,f]:List Y8).getD i dF)).bind fun r=>(F_q8 (([a,b,c,d,e,f]:List Y8).getD i dF)).bind fun r'=>(optD [(cO (r.2.2 != r'.2.2) (!(r.2.1==r'.2.1)))=false] (F_qb r.1 r'.1) dF).bind fun z=>if (cO (cO (r.2.2 != r'.2.2) (!(r.2.1==r'.2.1))) (!z))=true then some (Step.ret false) else some (Step.cont ())):Option (Step Unit Bool))=some (.cont ()):=by
 have hx:=six (q:=fun x:Y8=>x.length<=100000) (z:=dF) h0 h1 h2 h3 h4 h5 hi
 generalize ([a,b,c,d,e,f]:List Y8).getD i dF=x at hx |-
 obtain⟨y,e1,e2,e3⟩:=znv hx
 rw[e1,e2]
 simp only[obind]
 rw[zg (by simp[AllP]),z88 e3]
 simp only[obind]
 rw[y6 sj]
def wordsR:List Y8:=[[],[32],[48],[49],[57],[45],[114,101,115,101,114,118,101],[111,114,100,101,114,32,49,32,52,54,48,48],[10],[111,102,102,105,99,101,32,49,10],[49,48,48,48,48,48,48,48,48,48,48,48,48,48,48,48],[49,48,48,48,48,48,48,48,48,48,48,48,48,48,48,49]]
theorem zdi:∀ w∈wordsR,w.length<=100:=dk
theorem z6o {body:Nat->Unit->Option (Step Unit ρ)} {n:Nat} (h:∀ i,i<n->body i ()=some (.cont ())):rangeM body n 0 ()=some (.next ()):=by
 obtain⟨u,e,_⟩:=z25 (body:=body) (n:=n) (fun _ _=>True) (s0:=()) trivial (fun i u hi _=>⟨(),h i hi,trivial⟩)
 exact e
theorem zbb (t:List Int) (op:TOp) (text:Y8):F_qc t op text=some true:=by
 simp only[F_qc,S_qc,Scr.den,zb]
 by_cases hg:60<op.E.length\/2000<text.length
 ·rw[y7 (by simp only[ye,y8]; omega),z32]
  rfl
 rw[y6 (by simp only[ye,y8]; omega)]
 obtain⟨s0,e0,q0⟩:=z73 t
 obtain⟨n,s1,e1,q1,n1,n2⟩:=z1l (lo:=1) (hi:=3) q0 om om om
 obtain⟨j,s2,e2,q2,hV,hn,hl⟩:=z3n (n:=n) (m:=12) ⟨n1,om⟩ om q1
 simp only[e0,e1,e2,obind,z5e hV.shr,z14 hV]
 obtain⟨p,s3,e3,q3,hp⟩:=z5f hV.now q2 (day:=4600) om
 simp only[e3,obind]
 obtain⟨q,s4,e4,q4,hq⟩:=ze9 hV.now.smO.1.1 q3 (day:=4600) om
 simp only[e4,obind]
 rw[z6o (fun i hi=>zpo om hp.len hq.len hi)]
 simp only[zh]
 have hpl:=hp.len
 have htl:=z7l p
 rw[z5z om]
 simp only[obind]
 obtain⟨y,s5,e5,q5,hy⟩:=zbx (x:=textS p) (ws:=wordsR) om dk dk zdi q4
 have e5:F_q27 (textS p) [[],[32],[48],[49],[57],[45],[114,101,115,101,114,118,101],[111,114,100,101,114,32,49,32,52,54,48,48],[10],[111,102,102,105,99,101,32,49,10],[49,48,48,48,48,48,48,48,48,48,48,48,48,48,48,48],[49,48,48,48,48,48,48,48,48,48,48,48,48,48,48,49]] s4=some (y,s5):=e5
 simp only[e5,obind]
 rw[z6o (fun i hi=>by
  simp only[S_qc_b2,Scr.den]
  exact zpp om om om dk dk dk hi)]
 simp only[zh]
 have hbl:=zl8 j
 rw[zai hV.shr]
 simp only[obind]
 obtain⟨z,s6,e6,q6,hz⟩:=zbx (x:=bytesS j) (ws:=wordsR) om dk dk zdi q5
 have e6:F_q27 (bytesS j) [[],[32],[48],[49],[57],[45],[114,101,115,101,114,118,101],[111,114,100,101,114,32,49,32,52,54,48,48],[10],[111,102,102,105,99,101,32,49,10],[49,48,48,48,48,48,48,48,48,48,48,48,48,48,48,48],[49,48,48,48,48,48,48,48,48,48,48,48,48,48,48,49]] s5=some (z,s6):=e6
 simp only[e6,obind]
 rw[z6 ⟨om,by simp only[yf,y11]; omega,by simp only[yf,y11]; omega,trivial⟩,z6o (fun i hi=>by
  simp only[S_qc_b3,Scr.den]
  exact zpq om om (by rw[yn]; omega) (by rw[yn]; simp only[yf,y11]; omega) om (by rw[yn]; simp only[yf,y11]; omega) hi)]
 simp only[zh,z32,obind]
end Go.Proofs.YtpbnkbjhlhlaiaaGreatDoor
