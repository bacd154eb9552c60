/- A part of the proof: plain laws of what the functions compute. No condition. -/
import Derived.Test.YtiohhffifhaboaaGreatDoorP3
import Derived.Test.YtiohhffifhaboaaGreatDoorT7
import Derived.Test.YtiohhffifhaboaaGreatDoorT11
import Derived.Test.YtiohhffifhaboaaGreatDoorP1
import Derived.Test.YtiohhffifhaboaaGreatDoorP2
namespace Go.Proofs.YtiohhffifhaboaaGreatDoor
open Go Go.TA
open Go.IntKind (i64)
def dg (d:Nat):UInt8:=zk.getD d 0
theorem zez:∀ d,d<16->hexV (dg d)=some d/\(48<=(dg d).toNat/\(dg d).toNat<=102):=by decide +kernel
def Hk (n k:Nat):Y8:=(List.range k).map fun j=>dg (n / 16 ^ (k-1-j) % 16)
variable {k:Nat}
theorem z5u {n:Nat}:(Hk n k).length=k:=by simp[Hk]
theorem zc9 (n k:Nat):Hk n (k+1)=dg (n / 16 ^ k % 16) :: Hk n k:=by
 unfold Hk
 rw[List.range_succ_eq_map,y2j,y3l]
 refine List.cons_eq_cons.2 ⟨sj,y2p fun j hj=>?_⟩
 show dg (n / 16 ^ (k+1-1-(j+1)) % 16)=_
 rw[show k+1-1-(j+1)=k-1-j from om]
variable {c:UInt8}
theorem zic {n:Nat} (h:c∈Hk n k):48<=c.toNat/\c.toNat<=102:=by
 unfold Hk at h
 obtain⟨j,_,rfl⟩:=y14.1 h
 exact (zez _ (y2h _ dk)).2
theorem zb1 (n:Nat) (r:Y8):∀ (k acc:Nat),acc * 16 ^ k+n % 16 ^ k<18446744073709551616->zj acc (Hk n k++r)=zj (acc * 16 ^ k+n % 16 ^ k) r
 | 0,acc,_=>by simp[Hk,Nat.mod_one]
 | k+1,acc,h=>by
  have hm:=Nat.mod_pow_succ (b:=16) (k:=k) (x:=n)
  have hp:0<16 ^ k:=Nat.pow_pos dk
  have hd:n / 16 ^ k % 16<16:=y2h _ dk
  have e:(acc * 16+n / 16 ^ k % 16) * 16 ^ k+n % 16 ^ k=acc * 16 ^ (k+1)+n % 16 ^ (k+1):=by
   rw[hm,y36,y13,Nat.mul_assoc,y1u 16 (16 ^ k),y1u (n / 16 ^ k % 16)]
   omega
  have ha:acc<1152921504606846976:=by
   rcases yd acc 1152921504606846976 with h1 | h1
   ·exact h1
   ·have h2:1152921504606846976 * (16 ^ k * 16)<=acc * (16 ^ k * 16):=y8 _ h1
    rw[y36] at h
    omega
  rw[zc9,y1h,zj]
  simp only[(zez _ hd).1]
  rw[y3 om,zb1 n r k _ om,e]
def z1h (n:Int):Y8:=Hk n.toNat 16
def z38 (n:Int):Prop:=0<=n/\n<18446744073709551616
variable {n:Int}
theorem zf0 (h:z38 n):endU (z2m (z1h n))=(n,false):=by
 have hn:n.toNat<16 ^ 16:=by have:=h.2; have:=h.1; omega
 have e:=zb1 n.toNat [] 16 0 (by rw[y35,y2g hn]; omega)
 rw[y2w,y35,y2g hn,yz] at e
 unfold z2m z1h
 rw[y3 (fun k=>by have:=y1y List.length k; rw[z5u] at this; cases this),e]
 show ((n.toNat:Int),false)=(n,false)
 rw[y2f h.1]
variable {u:Nat}
theorem zim (h:u<18446744073709551616):(IntKind.u64.wrap ((BitVec.ofInt IntKind.u64.bits (u:Int) &&& BitVec.ofInt IntKind.u64.bits (IntKind.u64.wrap ((IntKind.u64.wrap 16)-1))).toNat:Int))=((u % 16:Nat):Int):=by
 have e1:IntKind.u64.wrap ((IntKind.u64.wrap 16)-1)=15:=dk
 rw[e1]
 show IntKind.u64.wrap (((BitVec.ofInt 64 (u:Int) &&& BitVec.ofInt 64 15).toNat:Nat):Int)=_
 rw[y30 64 u,show BitVec.ofInt 64 15=BitVec.ofNat 64 15 from y30 64 15,BitVec.toNat_and,y37,y37,y2g (show u<2 ^ 64 from om)]
 have e3:=Nat.and_two_pow_sub_one_eq_mod u 4
 have e4:u &&& (15 % 2 ^ 64)=u % 16:=e3
 rw[e4,y2n]
 omega
theorem zhf:F_q1l 16=some true:=by
 simp only[F_q1l,S_q1l,Scr.den]
 exact y1y some dk
theorem zio:F_q2e (IntKind.u64.wrap 16)=some 4:=by
 have e:IntKind.u64.wrap 16=16:=dk
 rw[e]
 unfold F_q2e
 rw[z6 dk]
 exact y1y some dk
def FbI (n:Nat) (s:(Nat->Int)×Int×Int):Prop:=∃ k:Nat,k<=15/\s.2.1=((n / 16 ^ k:Nat):Int)/\s.2.2=65-(k:Int)/\∀ j,j<k->s.1 (65-k+j)=((dg (n / 16 ^ (k-1-j) % 16)).toNat:Int)
theorem zca {n:Nat} {f:Nat->Int} (hk:k<=15) (h:∀ j,j<k->f (65-k+j)=((dg (n / 16 ^ (k-1-j) % 16)).toNat:Int)) {d:Nat} (hd:d=n / 16 ^ k % 16) :
  ∀ j,j<k+1->(if 65-(k+1)+j=64-k then ((dg d).toNat:Int) else f (65-(k+1)+j))=((dg (n / 16 ^ (k+1-1-j) % 16)).toNat:Int):=fun j hj=>by
 cases j with
 | zero=>rw[y5 om,hd]; rfl
 | succ j =>
  rw[y3 om,show 65-(k+1)+(j+1)=65-k+j from om,h j om,show k+1-1-(j+1)=k-1-j from om]
theorem z9m (h:z38 n):∃ k,k<16/\n.toNat<16 ^ (k+1)/\F_q1m n 16=some (Hk n.toNat (k+1)):=by
 obtain⟨m,rfl⟩:∃ m:Nat,n=m:=⟨n.toNat,(y2f h.1).symm⟩
 have hm:m<18446744073709551616:=by have:=h.2; omega
 have hm16:m<16 ^ 16:=hm
 rw[yl]
 obtain⟨s,e,hI,hu⟩:=z1l (step:=fun s=>(S_q8_b1 16 4 s).den) (fun s=>s.2.1.toNat) (FbI m) (fun s=>FbI m s/\s.2.1<16) (fun s hI=>by
  obtain⟨f,u,i⟩:=s
  have hI':=hI
  obtain⟨k,h1,h2,h3,h4⟩:=hI'
  simp only at h2 h3 h4
  subst h2 h3
  have hq:m / 16 ^ k<18446744073709551616:=Nat.lt_of_le_of_lt (Nat.div_le_self _ _) hm
  simp only[S_q8_b1,Scr.den]
  by_cases c:16<=m / 16 ^ k
  ·left
   have hk:k<=14:=by
    rcases yd 14 k with g | g
    ·obtain rfl:k=15:=om
     have:m / 16 ^ 15<16:=y2c (by rw[<- y36]; exact hm16)
     omega
    ·exact g
   have hs:m / 16 ^ (k+1)=m / 16 ^ k / 16:=by rw[y36,Nat.div_div_eq_div_mul]
   have ew:i64.wrap ((65-(k:Int))-1)=((64-k:Nat):Int):=by rw[wrapId (n:=(65-(k:Int))-1) om om]; omega
   rw[y5 (show decide (((m / 16 ^ k:Nat):Int)>=IntKind.u64.wrap 16)=true by rw[show IntKind.u64.wrap 16=16 from dk]; exact y15 om),zim hq,ew]
   simp only[yl]
   have hl:zk.length=36:=rfl
   have hmod:m / 16 ^ k % 16<16:=y2h _ dk
   rw[z6 ⟨om,by rw[hl]; omega,om,om,trivial⟩,Gd]
   have e16:((m / 16 ^ k:Nat):Int).fdiv (2 ^ (min (IntKind.u64.wrap 4).toNat IntKind.u64.bits))=((m / 16 ^ (k+1):Nat):Int):=by
    rw[show ((2:Int) ^ (min (IntKind.u64.wrap 4).toNat IntKind.u64.bits))=((16:Nat):Int) from dk,hs]
    rw[Int.fdiv_eq_ediv_of_nonneg _ dk]
    generalize m / 16 ^ k=q
    omega
   rw[e16]
   refine⟨_,rfl,⟨k+1,om,rfl,by simp only; omega,fun j hj=>?_⟩,?_⟩
   ·exact zca h1 h4 rfl j hj
   ·show (((m / 16 ^ (k+1):Nat):Int)).toNat<(((m / 16 ^ k:Nat):Int)).toNat
    rw[yl,yl,hs]
    omega
  ·right
   rw[y3 (show ¬ decide (((m / 16 ^ k:Nat):Int)>=IntKind.u64.wrap 16)=true by rw[show IntKind.u64.wrap 16=16 from dk,yj]; omega)]
   exact⟨_,rfl,hI,by simp only; omega⟩) (((m:Int)).toNat+1) ((fun _=>0),(m:Int),65) (y28 _) ⟨0,om,sj,sj,fun j hj=>om⟩
 obtain⟨f,u,i⟩:=s
 obtain⟨k,h1,h2,h3,h4⟩:=hI
 simp only at h2 h3 h4 hu
 subst h2 h3
 have hq:m / 16 ^ k<16:=om
 have hl:zk.length=36:=rfl
 have ew:i64.wrap ((65-(k:Int))-1)=((64-k:Nat):Int):=by rw[wrapId (n:=(65-(k:Int))-1) om om]; omega
 refine⟨k,om,?_,?_⟩
 ·have:=Nat.lt_mul_of_div_lt hq (Nat.pow_pos dk)
  rw[y36]
  omega
 simp only[F_q1m,S_q1m,F_q23,S_q23,F_q8,S_q8,Scr.den]
 rw[Gd,Gd,Gd,zhf]
 simp only[obind,if_true]
 rw[zio]
 simp only[obind]
 rw[e]
 simp only[outM,ew,yl]
 rw[z6 ⟨Int.natCast_nonneg _,by rw[hl]; omega,om,om,trivial⟩]
 simp only
 rw[Gd,Gb]
 simp only[obind,yl]
 refine y1y some ?_
 rw[show 65-(64-k)=k+1 from om]
 unfold Hk
 refine y2p fun j hj=>?_
 have ht:=zca h1 h4 (d:=m / 16 ^ k) (by rw[y2g hq]) j (y1q.1 hj)
 rw[show 65-(k+1)+j=64-k+j from om] at ht
 have ht':(if 64-k+j=64-k then ((zk.getD (m / 16 ^ k) 0).toNat:Int) else f (64-k+j))=((dg (m / 16 ^ (k+1-1-j) % 16)).toNat:Int):=ht
 rw[ht',yl,UInt8.ofNat_toNat]
theorem z8d (h:z38 n):F_q16 n=some (z1h n):=by
 obtain⟨k,hk,hlt,e⟩:=z9m h
 simp only[F_q16,S_q16,Scr.den,e,obind,z5u]
 rw[wrapId (n:=16-((k+1:Nat):Int)) om om]
 unfold F_q2g
 rw[z6 ⟨om,om,dk⟩]
 simp only[obind]
 have hr:∀ c,Lib.repeatL [48] c=List.replicate c 48:=fun c=>by
  induction c with
  | zero=>rfl
  | succ c ih=>rw[Lib.repeatL,ih]; rfl
 rw[hr,show (16-((k+1:Nat):Int)).toNat=15-k from om,z6 ⟨by rw[List.length_replicate]; omega,trivial⟩]
 refine y1y some ?_
 have key:∀ j,j<=15-k->List.replicate j 48++Hk n.toNat (k+1)=Hk n.toNat (k+1+j):=fun j=>by
  induction j with
  | zero=>intro _; rfl
  | succ j ih =>
   intro hj
   rw[List.replicate_succ,y1h,ih om,<- y26,zc9,Nat.div_eq_of_lt (yn hlt (Nat.pow_le_pow_right dk om))]
   rfl
 rw[key _ (y7 _),show k+1+(15-k)=16 from om]
 rfl
theorem z5v:∀ {l:Y8} {d p:Nat},goodR l d p=true->∀ c∈l,c.toNat=46\/(48<=c.toNat/\c.toNat<=57)
 | [],_,_,_,c,h=>nomatch h
 | b :: l,d,p,h,c,hc=>by
  simp only[goodR] at h
  by_cases h1:b.toNat=46
  ·rw[y5 h1] at h
   by_cases h2:d=0
   ·rw[y5 h2] at h; cases h
   ·rw[y3 h2] at h
    rcases yu.1 hc with rfl | hc
    ·exact .inl h1
    ·exact z5v h c hc
  ·rw[y3 h1] at h
   by_cases h2:b.toNat<48\/57<b.toNat\/(d=0/\b.toNat=48)\/d=2
   ·rw[y5 h2] at h; cases h
   ·rw[y3 h2] at h
    rcases yu.1 hc with rfl | hc
    ·exact .inr om
    ·exact z5v h c hc
theorem zg3 {l:Y8} (h:good l=true) (hc:c∈l):46<=c.toNat/\c.toNat<=57:=by
 have:=z5v h c hc
 omega
variable {keys:List Int} {w:TWa}
theorem zb2 (h:WPl w) (hk:2 * (w.G-1)+1<(keys.length:Int)):F_q18 keys (signed keys w)=some 0:=by
 have ho:=h.2.1
 have hs:WPl (signed keys w):=z1t (z1c h _) _
 have hc:(signed keys w).K.length<=1000000:=by have:=hs.len; omega
 have e0:(signed keys w).G=w.G:=rfl
 simp only[F_q18,S_q18,Scr.den,z2x hc,obind,z1k,e0]
 rw[y15 hs,y3 dk,wrapId (n:=w.G-1) om om,wrapId (n:=2 * (w.G-1)) om om,wrapId (n:=2 * (w.G-1)+1) om om,
  y3 (by simp only[yj]; omega),z3w hs]
 have s1:sigV (keys.getD (2 * (w.G-1)).toNat dF) (signed keys w)=(signed keys w).P:=by
  unfold signed
  rw[z1o,z10,z1s,z12]
  rfl
 have s2:sigV (keys.getD (2 * (w.G-1)+1).toNat dF) (signed keys w)=(signed keys w).R:=by
  unfold signed
  rw[z1o,z10,z27]
  rfl
 simp only[obind]
 rw[s1,Gg,z3w hs,s2]
 simp only[obind]
 rw[z6 ⟨om,om,fun _=>om,fun _=>om,trivial⟩,y3 sj]
def wordsV (w:TWa):List Y8:=headV w++(zf w).map Lib.itoa
def textV (w:TWa):Y8:=(((bytesV w++[32])++z1h w.P)++[32])++z1h w.R
theorem zf1 (w:TWa):textV w=Lib.join (wordsV w++[z1h w.P,z1h w.R]) [32]:=by
 unfold textV bytesV wordsV headV
 simp only[y1h,y12,Lib.join_cons]
 rw[show (Lib.itoa w.H :: Lib.itoa w.G :: w.K :: (List.map Lib.itoa (zf w)++[z1h w.P,z1h w.R]))=(Lib.itoa w.H :: Lib.itoa w.G :: w.K :: List.map Lib.itoa (zf w))++([z1h w.P]++[z1h w.R]) from sj,z28,z28,z2z,z2z]
 simp only[yy]
theorem zb3 (n:Int):(32:UInt8) ∉ z1h n:=fun h=>by
 have:=zic h
 have e:(32:UInt8).toNat=32:=rfl
 omega
theorem z5w (h:0<=n):(32:UInt8) ∉ Lib.itoa n:=fun hc=>by
 have:=zg2 h hc
 have e:(32:UInt8).toNat=32:=rfl
 omega
theorem zd5 (h:WPl w):splitU 32 (textV w)=[[119,97,114,114,97,110,116],Lib.itoa w.H,Lib.itoa w.G,w.K,Lib.itoa w.O,Lib.itoa w.C,Lib.itoa w.E,Lib.itoa w.A,Lib.itoa w.M,Lib.itoa w.J,Lib.itoa w.Q,Lib.itoa w.N,Lib.itoa w.T,z1h w.P,z1h w.R]:=by
 obtain⟨⟨a1,a2,a3,a4,a5,a6⟩,b,c,d,e,f,g⟩:=h
 unfold numP at a1 a2 a3 a4 a5 a6
 unfold dayP at f g
 rw[zf1]
 refine z6t (x:=[119,97,114,114,97,110,116]) (l:=[Lib.itoa w.H,Lib.itoa w.G,w.K,Lib.itoa w.O,Lib.itoa w.C,Lib.itoa w.E,Lib.itoa w.A,Lib.itoa w.M,Lib.itoa w.J,Lib.itoa w.Q,Lib.itoa w.N,Lib.itoa w.T,z1h w.P,z1h w.R]) fun y hy=>?_
 simp only[yu,y2m,or_false] at hy
 rcases hy with rfl | rfl | rfl | rfl | rfl | rfl | rfl | rfl | rfl | rfl | rfl | rfl | rfl | rfl | rfl
 ·decide
 ·exact z5w om
 ·exact z5w om
 ·intro hc
  have:=zg3 c hc
  have e:(32:UInt8).toNat=32:=rfl
  omega
 iterate 9 (· exact z5w om)
 ·exact zb3 _
 ·exact zb3 _
theorem z29 (n:Int):(z1h n).length=16:=z5u
theorem zf2 (h:WPl w):(textV w).length<=3000:=by
 have:=z2y h
 unfold textV
 simp only[yh,z29,yc,yp]
 omega
theorem zcb (h:WPl w) (h1:z38 w.P) (h2:z38 w.R):F_q17 w=some (textV w):=by
 have hl:=z2y h
 have hc:w.K.length<=1000000:=by have:=h.len; omega
 simp only[F_q17,S_q17,Scr.den,z7i hc,z7j h,z8d h1,z8d h2,obind]
 rw[y3 (by rw[y15 h]; decide)]
 rw[z6 ⟨by simp only[yc,yp]; omega,by simp only[yh,z29,yc,yp]; omega,by simp only[yh,z29,yc,yp]; omega,by simp only[yh,z29,yc,yp]; omega,trivial⟩]
 rfl
theorem z1v (h0:0<=n) (h1:n<=1000000000000000):F_q13 (Lib.itoa n)=some (n,false):=by
 have:=z8c h0 h1
 unfold F_q13
 rw[z6 om,zd4 h0 h1]
theorem zf3 (h:z38 n):F_q2c (z1h n) 16 64=some (n,false):=by
 unfold F_q2c
 rw[z6 ⟨rfl,rfl,by rw[z29]; decide⟩,zf0 h]
theorem zd6 (h:WPl w) (h1:z38 w.P) (h2:z38 w.R):F_q1n (textV w)=some (w,0):=by
 have hl:=zf2 h
 have hT:=zcb h h1 h2
 have hsp:=zd5 h
 have hw:=h
 obtain⟨⟨a1,a2,a3,a4,a5,a6⟩,b,c,d,e,f,g⟩:=h
 unfold numP at a1 a2 a3 a4 a5 a6
 unfold dayP at f g
 have hS:F_q2b (textV w) [32]=some (splitU 32 (textV w)):=by
  unfold F_q2b
  exact z6 om
 simp only[F_q1n,S_q1n,Scr.den,hS,obind,hsp,yc,yp,List.getD_cons_zero,List.getD_cons_succ]
 rw[Gd,y3 dk,Gd]
 rw[z1v om om]
 simp only[obind]
 rw[Gd,z1v (n:=w.G) om om]
 simp only[obind]
 rw[Gd,z1v (n:=w.O) om om]
 simp only[obind]
 rw[Gd,z1v (n:=w.C) om om]
 simp only[obind]
 rw[Gd,z1v (n:=w.E) om om]
 simp only[obind]
 rw[Gd,z1v (n:=w.A) om om]
 simp only[obind]
 rw[Gd,z1v (n:=w.M) om om]
 simp only[obind]
 rw[Gd,z1v (n:=w.J) om om]
 simp only[obind]
 rw[Gd,z1v (n:=w.Q) om om]
 simp only[obind]
 rw[Gd,z1v (n:=w.N) om om]
 simp only[obind]
 rw[Gd,z1v (n:=w.T) om om]
 simp only[obind]
 rw[Gd,zf3 h1]
 simp only[obind]
 rw[Gd,zf3 h2]
 simp only[obind]
 rw[Gd]
 rw[hT]
 simp only[obind]
 rw[y3 sj]
def HB (x:BitVec 64) (c:UInt8):BitVec 64:=(x ^^^ BitVec.ofNat 64 c.toNat) * 1099511628211#64
theorem zg4 (x:BitVec 64) (c:UInt8):hstep (x.toNat:Int) c=((HB x c).toNat:Int):=by
 have hc:=c.toNat_lt
 have e1:IntKind.u64.wrap ((c.toNat:Nat):Int)=((c.toNat:Nat):Int):=by rw[y2n]; omega
 have e2:BitVec.ofInt 64 ((x.toNat:Nat):Int)=x:=by rw[y30,BitVec.ofNat_toNat]; exact BitVec.setWidth_eq x
 unfold hstep HB
 rw[e1]
 show IntKind.u64.wrap (IntKind.u64.wrap (((BitVec.ofInt 64 ((x.toNat:Nat):Int) ^^^ BitVec.ofInt 64 ((c.toNat:Nat):Int)).toNat:Nat):Int) * 1099511628211)=_
 rw[e2,y30]
 generalize x ^^^ BitVec.ofNat 64 c.toNat=y
 have hy:=y.isLt
 rw[BitVec.toNat_mul,show (1099511628211#64).toNat=1099511628211 from rfl,show IntKind.u64.wrap ((y.toNat:Nat):Int)=((y.toNat:Nat):Int) by rw[y2n]; omega,y2n]
 omega
theorem z6g:∀ (l:Y8) (x:BitVec 64),l.foldl hstep (x.toNat:Int)=((l.foldl HB x).toNat:Int)
 | [],_=>rfl
 | c :: l,x=>by
  rw[y24,y24,zg4]
  exact z6g l _
variable {a b:BitVec 64}
theorem zcc (h:a * 1099511628211#64=b * 1099511628211#64):a=b:=by
 have h2:=y1y (· * 14886173955864302971#64) h
 simp only[BitVec.mul_assoc] at h2
 rw[show (1099511628211#64 * 14886173955864302971#64)=1#64 from dk,BitVec.mul_one,BitVec.mul_one] at h2
 exact h2
theorem zcd {c:BitVec 64} (h:a ^^^ c=b ^^^ c):a=b:=by
 have h2:=y1y (· ^^^ c) h
 simpa [BitVec.xor_assoc] using h2
theorem zid {x y:BitVec 64} (h:HB x c=HB y c):x=y:=zcd (zcc h)
theorem zb4:∀ (l:Y8) {x y:BitVec 64},l.foldl HB x=l.foldl HB y->x=y
 | [],_,_,h=>h
 | c :: l,_,_,h=>zid (zb4 l h)
variable {d:UInt8}
theorem zhg {x:BitVec 64} (h:HB x c=HB x d):c=d:=by
 have h1:=zcc h
 rw[BitVec.xor_comm x,BitVec.xor_comm x] at h1
 have h2:=y1y BitVec.toNat (zcd h1)
 rw[y37,y37,y2g (by have:=c.toNat_lt; omega),y2g (by have:=d.toNat_lt; omega)] at h2
 exact UInt8.toNat_inj.1 h2
theorem zhh {a b:Y8} (h:c≠d):hashV (a++c :: b)≠hashV (a++d :: b):=fun e=>by
 have h0:(14695981039346656037:Int)=((14695981039346656037#64).toNat:Int):=rfl
 unfold hashV at e
 rw[h0,z6g,z6g,y3z,y3z,y24,y24] at e
 have e2:=BitVec.eq_of_toNat_eq (Int.ofNat.inj e)
 exact h (zhg (zb4 _ e2))
theorem zb5 (l:Y8):z38 (hashV l):=by
 have h0:(14695981039346656037:Int)=((14695981039346656037#64).toNat:Int):=rfl
 unfold hashV
 rw[h0,z6g]
 have:=(l.foldl HB 14695981039346656037#64).isLt
 exact⟨om,om⟩
variable {s:TTape}
theorem zd7 (h0:0<=n) (hn:n<=10) (hs:TapeOk s):∃ k s',F_qc n s=some (k,s')/\TapeOk s'/\(k.length:Int)=2 * n:=by
 simp only[F_qc,S_qc,Scr.den]
 obtain⟨r,e,hJ⟩:=z1l (step:=fun s=>(S_qc_b1 n s).den) (fun s:TTape×List Int×Int=>(2 * n-s.2.2).toNat)
  (fun s=>TapeOk s.1/\(s.2.1.length:Int)=s.2.2/\0<=s.2.2/\s.2.2<=2 * n) (fun s=>TapeOk s.1/\(s.2.1.length:Int)=2 * n) (fun st hI=>by
  obtain⟨t,l,i⟩:=st
  obtain⟨i1,i2,i3,i4⟩:=hI
  simp only at i1 i2 i3 i4
  simp only[S_qc_b1,Scr.den]
  rw[wrapId (n:=2 * n) om om]
  by_cases hc:i<2 * n
  ·left
   obtain⟨v,t1,q1,q2,_⟩:=z5p (n:=1000) i1 om om
   rw[y5 (show decide (i<2 * n)=true from y15 hc),q1]
   simp only[obind]
   rw[Ga,wrapId (n:=i+1) om om]
   exact⟨_,rfl,⟨q2,by simp only[yh,yc,yp]; omega,by show 0<=i+1; omega,by show i+1<=2 * n; omega⟩,by show (2 * n-(i+1)).toNat<(2 * n-i).toNat; omega⟩
  ·right
   rw[y3 (show ¬ decide (i<2 * n)=true by rw[yj]; exact hc)]
   exact⟨_,rfl,i1,by show (l.length:Int)=2 * n; omega⟩) _ (s,([]:List Int),0) (y28 _) ⟨hs,rfl,sj,sk⟩
 rw[e]
 simp only[outM]
 rw[z6 ⟨by have:=hJ.2; omega,trivial⟩]
 exact⟨_,_,rfl,hJ.1,hJ.2⟩
theorem z9n (hs:TapeOk s):∃ w s',F_qf keys s=some (w,s')/\TapeOk s'/\WPl w/\w.G<=3:=by
 simp only[F_qf,S_qf,Scr.den]
 obtain⟨v1,s1,a1,b1,c1⟩:=z1n (lo:=1) (hi:=60) hs om om om
 obtain⟨v2,s2,a2,b2,c2⟩:=z1n (lo:=1) (hi:=3) b1 om om om
 obtain⟨v3,s3,a3,b3,c3,d3⟩:=zav b2
 obtain⟨v4,s4,a4,b4,c4⟩:=z1n (lo:=1) (hi:=5) b3 om om om
 obtain⟨v5,s5,a5,b5,c5⟩:=z1n (lo:=1) (hi:=2) b4 om om om
 obtain⟨v6,s6,a6,b6,c6⟩:=z1n (lo:=1) (hi:=4) b5 om om om
 obtain⟨v7,s7,a7,b7,c7⟩:=z1n (lo:=1) (hi:=3) b6 om om om
 obtain⟨v8,s8,a8,b8,c8⟩:=z1n (lo:=1) (hi:=500) b7 om om om
 obtain⟨v9,s9,a9,b9,c9⟩:=z1n (lo:=1) (hi:=4) b8 om om om
 obtain⟨v10,s10,a10,b10,c10,d10⟩:=z5p (n:=300) b9 om om
 obtain⟨v11,s11,a11,b11,c11,d11⟩:=z5p (n:=400) b10 om om
 rw[a1]
 simp only[obind]
 rw[a2]
 simp only[obind]
 rw[a3]
 simp only[obind]
 rw[a4]
 simp only[obind]
 rw[a5]
 simp only[obind]
 rw[a6]
 simp only[obind]
 rw[a7]
 simp only[obind]
 rw[a8]
 simp only[obind]
 rw[a9]
 simp only[obind]
 rw[a10]
 simp only[obind]
 rw[a11]
 simp only[obind]
 rw[wrapId (n:=4320+v10) om om,wrapId (n:=4320+v11) om om]
 have hp0:WPl ⟨v1,v2,v3,12,v4,v5,v6,v7,v8,v9,4320+v10,4320+v11,0,0⟩:=by
  refine⟨⟨?_,?_,?_,?_,?_,?_⟩,?_,d3,by show (0:Int)<=12/\(12:Int)<=99; decide,?_,?_,?_⟩
  ·show 1<=v1/\v1<=_; omega
  ·show 1<=v7/\v7<=_; omega
  ·show 1<=v6/\v6<=_; omega
  ·show 1<=v4/\v4<=_; omega
  ·show 1<=v5/\v5<=_; omega
  ·show 1<=v9/\v9<=_; omega
  ·show 1<=v2/\v2<=6; omega
  ·show 1<=v8/\v8<=_; omega
  ·show 0<=4320+v10/\4320+v10<=35990; omega
  ·show 0<=4320+v11/\4320+v11<=35990; omega
 obtain⟨r,e,hJ⟩:=z1l (step:=fun s=>(S_qf_b1 keys s).den) (fun s:TWa×Int=>(2-s.2).toNat) (fun s=>WPl s.1/\s.1.G<=3/\0<=s.2/\s.2<=2) (fun s=>WPl s.1/\s.1.G<=3) (fun st hI=>by
  obtain⟨w,i⟩:=st
  obtain⟨i1,i2,i3,i4⟩:=hI
  simp only at i1 i2 i3 i4
  simp only[S_qf_b1,Scr.den]
  by_cases hc:i<2
  ·left
   obtain⟨x,er,e1,e2⟩:=zbl i1 keys (i==1)
   rw[y5 (show decide (i<2)=true from y15 hc),e1]
   simp only[obind]
   rw[wrapId (n:=i+1) om om]
   by_cases h0:er=0
   ·rw[y5 (by simpa using h0)]
    obtain⟨p1,_⟩:=zd3 (e2 h0) i1
    have p2:x.G=w.G:=by
     obtain⟨a,b,rfl⟩:=e2 h0
     rfl
    exact⟨_,rfl,⟨p1,by rw[p2]; exact i2,by show 0<=i+1; omega,by show i+1<=2; omega⟩,by show (2-(i+1)).toNat<(2-i).toNat; omega⟩
   ·rw[y3 (by simpa using h0)]
    exact⟨_,rfl,⟨i1,i2,by show 0<=i+1; omega,by show i+1<=2; omega⟩,by show (2-(i+1)).toNat<(2-i).toNat; omega⟩
  ·right
   rw[y3 (show ¬ decide (i<2)=true by rw[yj]; exact hc)]
   exact⟨_,rfl,i1,i2⟩) _ (⟨v1,v2,v3,12,v4,v5,v6,v7,v8,v9,4320+v10,4320+v11,0,0⟩,0) (y28 _) ⟨hp0,by show v2<=3; omega,sj,sj⟩
 rw[e]
 exact⟨_,_,rfl,b11,hJ.1,hJ.2⟩
def withA (w:TWa) (x:Int):TWa:=⟨w.H,w.G,w.K,w.O,w.A,w.M,w.E,w.C,x,w.Q,w.N,w.T,w.P,w.R⟩
def preA (w:TWa):Y8:=[119,97,114,114,97,110,116]++(Lib.joinTail [32] [Lib.itoa w.H,Lib.itoa w.G,w.K,Lib.itoa w.O,Lib.itoa w.C,Lib.itoa w.E,Lib.itoa w.A,Lib.itoa w.M]++[32])
def postA (w:TWa):Y8:=Lib.joinTail [32] [Lib.itoa w.Q,Lib.itoa w.N,Lib.itoa w.T]
theorem z9c (w:TWa) (x:Int):bytesV (withA w x)=preA w++(Lib.itoa x++postA w):=by
 unfold bytesV headV zf withA preA postA
 simp only[y2j,List.map_nil,y1h,y12,Lib.join_cons]
 rw[show (Lib.itoa w.H :: Lib.itoa w.G :: w.K :: Lib.itoa w.O :: Lib.itoa w.C :: Lib.itoa w.E :: Lib.itoa w.A :: Lib.itoa w.M :: Lib.itoa x :: Lib.itoa w.Q :: Lib.itoa w.N :: Lib.itoa w.T :: ([]:List Y8))=[Lib.itoa w.H,Lib.itoa w.G,w.K,Lib.itoa w.O,Lib.itoa w.C,Lib.itoa w.E,Lib.itoa w.A,Lib.itoa w.M]++([Lib.itoa x]++[Lib.itoa w.Q,Lib.itoa w.N,Lib.itoa w.T]) from rfl,z28,z28,z2z]
 simp only[yy,y1h,y12]
theorem zb6 (h:10<=u):Lib.decDigits u=Lib.decDigits (u / 10)++[UInt8.ofNat (48+u % 10)]:=by
 rw[Lib.decDigits,dif_neg om]
variable {x y:Nat}
theorem zd8 {k:Int} (hx:10<=x) (hy:10<=y) (hq:x / 10=y / 10) (hd:x % 10≠y % 10):sigV k (withA w x)≠sigV k (withA w y):=by
 have ofn:∀ a,a<10->(UInt8.ofNat (48+a)).toNat=48+a:=dk
 unfold sigV
 rw[z9c,z9c,z3x om,z3x om,yl,yl,zb6 hx,zb6 hy,hq]
 simp only[yy,y1h,y12]
 rw[<- yy (preA w),<- yy (keyB k),<- yy (preA w),<- yy (keyB k)]
 refine zhh fun e=>hd ?_
 have e2:=y1y UInt8.toNat e
 rw[ofn _ (y2h _ dk),ofn _ (y2h _ dk)] at e2
 omega
theorem z9d (h:WPl w) (hk:2 * (w.G-1)+1<(keys.length:Int)):signV keys w true=if w.P≠sg1 keys w then (zW,18) else (zq w (sg2 keys w),0):=by
 unfold signV sg1 sg2
 rw[y3 (fun g=>g h),y3 (fun g=>by cases g.1),y3 om]
theorem zb7 (w:TWa) (x:Int):(zh w x).R=w.R:=rfl
theorem z5x (h:WPl w) (hk:2 * (w.G-1)+1<(keys.length:Int)):checkV keys w=if w.P=sg1 keys w/\w.R=sg2 keys w then 0 else 18:=by
 unfold checkV
 rw[z9d h hk]
 by_cases h1:w.P=sg1 keys w
 ·rw[y3 (fun g:w.P≠sg1 keys w=>g h1)]
  simp only[z27]
  by_cases h2:w.R=sg2 keys w
  ·rw[y3 (fun g=>g.2 h2.symm),y5 ⟨h1,h2⟩]
  ·rw[y5 ⟨trivial,fun g=>h2 g.symm⟩,y3 (fun g=>h2 g.2)]
 ·rw[y5 h1,y3 (fun g:w.P=sg1 keys w/\w.R=sg2 keys w=>h1 g.1),y3 (fun g=>by cases g.1)]
theorem z5y (keys:List Int) (w:TWa) (x:Int):sg1 keys (zh w x)=sg1 keys w:=z10 _ w x
theorem z5z (keys:List Int) (w:TWa) (x:Int):sg1 keys (zq w x)=sg1 keys w:=z1o _ w x
theorem z60 (keys:List Int) (w:TWa) (x:Int):sg2 keys (zh w x)=sg2 keys w:=z10 _ w x
theorem z61 (keys:List Int) (w:TWa) (x:Int):sg2 keys (zq w x)=sg2 keys w:=z1o _ w x
theorem zhi (h:WPl w) (hk:2 * (w.G-1)+1<(keys.length:Int)) (a:Int):checkV keys (zh (signed keys w) a)=if a=(signed keys w).P then 0 else 18:=by
 have hs:WPl (zh (signed keys w) a):=z1c (z1t (z1c h _) _) _
 rw[z5x hs hk]
 unfold signed
 rw[z5y,z5z,z5y,z60,z61,z60]
 simp only[z12,z1s,zb7,z27,y2z]
 generalize sg1 keys w=p
 by_cases g:a=p
 ·simp[g]
 ·simp[g]
theorem zhj (h:WPl w) (hk:2 * (w.G-1)+1<(keys.length:Int)) (b:Int):checkV keys (zq (signed keys w) b)=if b=(signed keys w).R then 0 else 18:=by
 have hs:WPl (zq (signed keys w) b):=z1t (z1t (z1c h _) _) _
 rw[z5x hs hk]
 unfold signed
 rw[z5z,z5z,z5y,z61,z61,z60]
 simp only[z12,z1s,z27,true_and]
 generalize sg2 keys w=p
 by_cases g:b=p
 ·simp[g]
 ·simp[g]
theorem z6x (h:WPl w) {x:Int} (hx:1<=x/\x<=1000000000000):WPl (withA w x):=⟨h.1,h.2.1,h.2.2.1,h.2.2.2.1,hx,h.2.2.2.2.2⟩
theorem zd9 (w:TWa) {x:Int} (h:w.J=x):withA w x=w:=by
 subst h
 rfl
theorem zda (keys:List Int) (n:TWa):(signed keys n).J=n.J:=rfl
theorem zbo (w:TWa) (x:Int):(withA w x).P=w.P:=rfl
theorem zf4 (keys:List Int) (w:TWa) (x:Int):sg1 keys (withA w x)=sigV (keys.getD (2 * (w.G-1)).toNat dF) (withA w x):=rfl
theorem zhk {n:TWa} (h:WPl n) (hk:2 * (n.G-1)+1<(keys.length:Int)) (hn:n.J=(x:Int)) (hx:10<=x) (hy:10<=y/\y<=1000) (hq:x / 10=y / 10) (hd:x % 10≠y % 10):checkV keys (withA (signed keys n) y)=18:=by
 have hp:WPl (withA (signed keys n) y):=z6x (z1t (z1c h _) _) ⟨om,om⟩
 rw[z5x hp hk,y3]
 intro g
 have e1:sigV (keys.getD (2 * (n.G-1)).toNat dF) (signed keys n)=sg1 keys n:=by
  unfold signed sg1
  rw[z1o,z10]
 have e3:(signed keys n).P=sg1 keys n:=by
  unfold signed
  rw[z1s,z12]
 have e4:=g.1
 rw[zbo,e3,zf4,<- e1] at e4
 refine zd8 (k:=keys.getD (2 * (n.G-1)).toNat dF) (w:=signed keys n) hx hy.1 hq hd ?_
 rw[zd9 (signed keys n) ((zda keys n).trans hn)]
 exact e4
theorem zie (keys:List Int) (w:TWa):z38 (sg1 keys w)/\z38 (sg2 keys w):=by
 unfold sg1 sg2 sigV
 exact⟨zb5 _,zb5 _⟩
theorem zbp (h:WPl w) (hk:2 * (w.G-1)+1<(keys.length:Int)) (h1:w.P≠sg1 keys w):(signV keys w true).2=18:=by
 rw[z9d h hk,y5 h1]
theorem zdb (h:100<=x/\x<=899):∃ y:Nat,i64.wrap ((x:Int)+(i64.wrap (1-(i64.wrap (2 * (i64.wrap (((x:Int).tmod 10).tdiv 9)))))))=(y:Int)/\(10<=y/\y<=1000)/\x / 10=y / 10/\x % 10≠y % 10:=by
 have e:((x:Int).tmod 10).tdiv 9=((x % 10 / 9:Nat):Int):=by
  rw[Int.tmod_eq_emod_of_nonneg om,Int.tdiv_eq_ediv_of_nonneg om]
  omega
 rw[e,wrapId (n:=((x % 10 / 9:Nat):Int)) om om,wrapId (n:=2 * ((x % 10 / 9:Nat):Int)) om om,wrapId (n:=1-2 * ((x % 10 / 9:Nat):Int)) om om,wrapId (n:=(x:Int)+(1-2 * ((x % 10 / 9:Nat):Int))) om om]
 by_cases c:x % 10=9
 ·exact⟨x-1,om,om,om,om⟩
 ·exact⟨x+1,om,om,om,om⟩
variable {z:TWa}
theorem ziq (hc:z.K.length<=1000000) (a:Int):F_qg keys ⟨z.H,z.G,z.K,z.O,z.A,z.M,z.E,z.C,z.J,z.Q,z.N,z.T,a,z.R⟩=some (checkV keys (zh z a)):=z3v (w:=zh z a) hc keys
theorem zir (hc:z.K.length<=1000000) (b:Int):F_qg keys ⟨z.H,z.G,z.K,z.O,z.A,z.M,z.E,z.C,z.J,z.Q,z.N,z.T,z.P,b⟩=some (checkV keys (zq z b)):=z3v (w:=zq z b) hc keys
theorem chkA (hc:z.K.length<=1000000) (x:Int):F_qg keys ⟨z.H,z.G,z.K,z.O,z.A,z.M,z.E,z.C,x,z.Q,z.N,z.T,z.P,z.R⟩=some (checkV keys (withA z x)):=z3v (w:=withA z x) hc keys
theorem sgnA (hc:z.K.length<=1000000) (x:Int):F_qa keys ⟨z.H,z.G,z.K,z.O,z.A,z.M,z.E,z.C,x,z.Q,z.N,z.T,z.P,z.R⟩ false=some (signV keys (withA z x) false):=z2t (w:=withA z x) hc keys false
def Sd (keys:List Int) (w z:TWa):Prop:=(WPl z/\z.G=w.G/\z.J=w.J)/\(z38 z.P/\z38 z.R)/\(∀ a,checkV keys (zh z a)=if a=z.P then 0 else 18)/\(∀ b,checkV keys (zq z b)=if b=z.R then 0 else 18)/\checkV keys z=0/\F_q18 keys z=some 0
theorem z9e (hw:WPl w) (hK:2 * (w.G-1)+1<(keys.length:Int)):Sd keys w (signed keys w):=by
 obtain⟨u1,u2⟩:=zie keys w
 refine⟨⟨z1t (z1c hw _) _,rfl,rfl⟩,⟨?_,?_⟩,zhi hw hK,zhj hw hK,zaz hw hK,zb2 hw hK⟩
 ·unfold signed
  rw[z1s,z12]
  exact u1
 ·unfold signed
  rw[z27]
  exact u2
theorem zg5 (p q:Int):(!(((if p=q then (0:Int) else 18)==0)==(p==q)))=false:=by
 by_cases g:p=q
 ·rw[y5 g,g]; simp
 ·rw[y3 g]; simp[g]
theorem zg6 (z:TWa):(!((z.H==z.H)&&((z.G==z.G)&&((z.K==z.K)&&((z.O==z.O)&&((z.A==z.A)&&((z.M==z.M)&&((z.E==z.E)&&((z.C==z.C)&&((z.J==z.J)&&((z.Q==z.Q)&&((z.N==z.N)&&((z.T==z.T)&&((z.P==z.P)&&((z.R==z.R)&&true)))))))))))))))=false:=sj
theorem zdc (hw:WPl w) (hK:2 * (w.G-1)+1<(keys.length:Int)) (a b:Int) {s1:TTape} {s0:TTape} {s2:TTape} {t:List Int} (e0:F_qz t=some s0) (e1:F_qc 3 s0=some (keys,s1)) (e2:F_qf [] s1=some (w,s2)):F_q1h t a b=some true:=by
 have hc:w.K.length<=1000000:=by have:=hw.len; omega
 have hS:=z9e hw hK
 have hs2:=zgb hw hK
 generalize signed keys w=z at hS hs2
 obtain⟨⟨hz,zo,za⟩,⟨u1,u2⟩,c1,c2,c3,c4⟩:=hS
 have zc:z.K.length<=1000000:=by have:=hz.len; omega
 obtain⟨x,hx,hxr⟩:∃ x:Nat,i64.wrap (100+(z.J.tmod 800))=(x:Int)/\(100<=x/\x<=899):=by
  have ha:=hz.2.2.2.2.1
  rw[Int.tmod_eq_emod_of_nonneg om,wrapId (n:=100+z.J % 800) om om]
  exact⟨(100+z.J % 800).toNat,om,om⟩
 have hn:WPl (withA z x):=z6x hz ⟨om,om⟩
 have nk:2 * ((withA z x).G-1)+1<(keys.length:Int):=by
  rw[show (withA z x).G=z.G from rfl,zo]
  exact hK
 have na:(withA z x).J=(x:Int):=rfl
 obtain⟨y,hy,hy1,hy2,hy3⟩:=zdb hxr
 have hm:=zhk hn nk na om hy1 hy2 hy3
 have ms1:=zga hn nk
 have ms2:=zgb hn nk
 have mS:=z9e hn nk
 have hsgn:=sgnA (keys:=keys) zc (x:Int)
 rw[<- hx] at hsgn
 generalize hnn:withA z x=n at hn hm ms1 ms2 mS na
 rw[hx,hnn,ms1] at hsgn
 generalize signed keys n=m at hm ms2 mS
 obtain⟨⟨hmp,mo,ma⟩,_⟩:=mS
 have mc:m.K.length<=1000000:=by have:=hmp.len; omega
 have nc:(zh n (sg1 keys n)).K.length<=1000000:=by have:=hn.len; show n.K.length<=_; omega
 have wc:(zh w (sg1 keys w)).K.length<=1000000:=hc
 have ma':m.J=(x:Int):=ma.trans na
 simp only[F_q1h,S_q1h,Scr.den]
 rw[e0]
 simp only[obind]
 rw[e1]
 simp only[obind]
 rw[e2]
 simp only[obind]
 rw[z2t hc,zga hw hK]
 simp only[obind]
 rw[z2t wc,hs2]
 simp only[obind]
 rw[z2t hc]
 simp only[obind]
 rw[zcb hz u1 u2]
 simp only[obind]
 rw[zd6 hz u1 u2]
 simp only[obind,z1k,zi,zg6]
 rw[Gg,z3v zc,c3]
 simp only[obind]
 rw[Gg,c4]
 simp only[obind]
 rw[y3 dk,y3 (by
  by_cases g:w.P=sg1 keys w
  ·rw[z12,g]
   simp
  ·rw[zbp hw hK g]
   simp)]
 rw[ziq zc a,c1]
 simp only[obind]
 rw[zw (gs:=[_=false]) ⟨zg5 _ _,trivial⟩,zir zc b,c2]
 simp only[obind]
 rw[y3 (by rw[zg5,zg5]; decide),hx,hsgn]
 simp only[obind]
 rw[z2t nc,ms2]
 simp only[obind]
 rw[ma',hy,chkA mc,hm,Gg]
 simp only[obind]
 rw[Gg,zhd]
 rfl
theorem z62 (t:List Int) (a b:Int):F_q1h t a b=some true:=by
 obtain⟨s0,e0,q0⟩:=zfw t
 obtain⟨keys,s1,e1,q1,hkl⟩:=zd7 (n:=3) om om q0
 obtain⟨w,s2,e2,q2,hw,ho⟩:=z9n (keys:=[]) q1
 exact zdc hw om a b e0 e1 e2
end Go.Proofs.YtiohhffifhaboaaGreatDoor
