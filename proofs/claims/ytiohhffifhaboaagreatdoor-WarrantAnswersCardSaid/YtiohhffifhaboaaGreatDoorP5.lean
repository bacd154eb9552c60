/- A part of the proof: plain laws of what the functions compute. No condition. -/
import Derived.Test.YtiohhffifhaboaaGreatDoorP4
import Derived.Test.YtiohhffifhaboaaGreatDoorT7
import Derived.Test.YtiohhffifhaboaaGreatDoorT11
import Derived.Test.YtiohhffifhaboaaGreatDoorP1
import Derived.Test.YtiohhffifhaboaaGreatDoorP2
import Derived.Test.YtiohhffifhaboaaGreatDoorT10
namespace Go.Proofs.YtiohhffifhaboaaGreatDoor
open Go Go.TA
open Go.IntKind (i64)
def dg (d:Nat):UInt8:=z14.getD d 0
theorem zli:∀ d,d<16->hexV (dg d)=some d/\(48<=(dg d).toNat/\(dg d).toNat<=102):=by decide +kernel
def Hk (n k:Nat):Y8:=(List.range k).map fun j=>dg (n / 16 ^ (k-1-j) % 16)
variable {k:Nat}
theorem z8s {n:Nat}:(Hk n k).length=k:=by simp[Hk]
theorem zc8 (n k:Nat):Hk n (k+1)=dg (n / 16 ^ k % 16) :: Hk n k:=by
 unfold Hk
 rw[List.range_succ_eq_map,y2o,y4q]
 refine List.cons_eq_cons.2 ⟨sj,y3s fun j hj=>?_⟩
 show dg (n / 16 ^ (k+1-1-(j+1)) % 16)=_
 rw[show k+1-1-(j+1)=k-1-j from om]
variable {c:UInt8}
theorem zq1 {n:Nat} (h:c∈Hk n k):48<=c.toNat/\c.toNat<=102:=by
 unfold Hk at h
 obtain⟨j,_,rfl⟩:=y1l.1 h
 exact (zli _ (y37 _ dk)).2
theorem zft (n:Nat) (r:Y8):∀ (k acc:Nat),acc * 16 ^ k+n % 16 ^ k<18446744073709551616->zu acc (Hk n k++r)=zu (acc * 16 ^ k+n % 16 ^ k) r
 | 0,acc,_=>by simp[Hk,Nat.mod_one]
 | k+1,acc,h=>by
  have hm:=Nat.mod_pow_succ (b:=16) (k:=k) (x:=n)
  have hp:0<16 ^ k:=Nat.pow_pos dk
  have hd:n / 16 ^ k % 16<16:=y37 _ dk
  have e:(acc * 16+n / 16 ^ k % 16) * 16 ^ k+n % 16 ^ k=acc * 16 ^ (k+1)+n % 16 ^ (k+1):=by
   rw[hm,y3i,y1s,Nat.mul_assoc,y23 16 (16 ^ k),y23 (n / 16 ^ k % 16)]
   omega
  have ha:acc<1152921504606846976:=by
   rcases yp acc 1152921504606846976 with h1 | h1
   ·exact h1
   ·have h2:1152921504606846976 * (16 ^ k * 16)<=acc * (16 ^ k * 16):=ym _ h1
    rw[y3i] at h
    omega
  rw[zc8,y21,zu]
  simp only[(zli _ hd).1]
  rw[y8 om,zft n r k _ om,e]
def z1e (n:Int):Y8:=Hk n.toNat 16
def z12 (n:Int):Prop:=0<=n/\n<18446744073709551616
variable {n:Int}
theorem zlj (h:z12 n):endU (z2q (z1e n))=(n,false):=by
 have hn:n.toNat<16 ^ 16:=by have:=h.2; have:=h.1; omega
 have e:=zft n.toNat [] 16 0 (by rw[y3q,y2m hn]; omega)
 rw[y3d,y3q,y2m hn,y14] at e
 unfold z2q z1e
 rw[y8 (fun k=>by have:=y29 List.length k; rw[z8s] at this; cases this),e]
 show ((n.toNat:Int),false)=(n,false)
 rw[y2c h.1]
variable {u:Nat}
theorem zno (h:u<18446744073709551616):(IntKind.u64.wrap ((BitVec.ofInt IntKind.u64.bits (u:Int) &&& BitVec.ofInt IntKind.u64.bits (IntKind.u64.wrap ((IntKind.u64.wrap 16)-1))).toNat:Int))=((u % 16:Nat):Int):=by
 have e1:IntKind.u64.wrap ((IntKind.u64.wrap 16)-1)=15:=dk
 rw[e1]
 show IntKind.u64.wrap (((BitVec.ofInt 64 (u:Int) &&& BitVec.ofInt 64 15).toNat:Nat):Int)=_
 rw[y3e 64 u,show BitVec.ofInt 64 15=BitVec.ofNat 64 15 from y3e 64 15,BitVec.toNat_and,y4h,y4h,y2m (show u<2 ^ 64 from om)]
 have e3:=Nat.and_two_pow_sub_one_eq_mod u 4
 have e4:u &&& (15 % 2 ^ 64)=u % 16:=e3
 rw[e4,y2b]
 omega
theorem zow:F_q30 16=some true:=by
 simp only[F_q30,S_q30,Scr.den]
 exact y29 some dk
theorem zqr:F_q47 (IntKind.u64.wrap 16)=some 4:=by
 have e:IntKind.u64.wrap 16=16:=dk
 rw[e]
 unfold F_q47
 rw[z8 dk]
 exact y29 some dk
def FbI (n:Nat) (s:(Nat->Int)×Int×Int):Prop:=∃ k:Nat,k<=15/\s.2.1=((n / 16 ^ k:Nat):Int)/\s.2.2=65-(k:Int)/\∀ j,j<k->s.1 (65-k+j)=((dg (n / 16 ^ (k-1-j) % 16)).toNat:Int)
theorem zhx {n:Nat} {f:Nat->Int} (hk:k<=15) (h:∀ j,j<k->f (65-k+j)=((dg (n / 16 ^ (k-1-j) % 16)).toNat:Int)) {d:Nat} (hd:d=n / 16 ^ k % 16) :
  ∀ j,j<k+1->(if 65-(k+1)+j=64-k then ((dg d).toNat:Int) else f (65-(k+1)+j))=((dg (n / 16 ^ (k+1-1-j) % 16)).toNat:Int):=fun j hj=>by
 cases j with
 | zero=>rw[y9 om,hd]; rfl
 | succ j =>
  rw[y8 om,show 65-(k+1)+(j+1)=65-k+j from om,h j om,show k+1-1-(j+1)=k-1-j from om]
theorem zdt (h:z12 n):∃ k,k<16/\n.toNat<16 ^ (k+1)/\F_q31 n 16=some (Hk n.toNat (k+1)):=by
 obtain⟨m,rfl⟩:∃ m:Nat,n=m:=⟨n.toNat,(y2c h.1).symm⟩
 have hm:m<18446744073709551616:=by have:=h.2; omega
 have hm16:m<16 ^ 16:=hm
 rw[yh]
 obtain⟨s,e,hI,hu⟩:=z15 (step:=fun s=>(S_qs_b1 16 4 s).den) (fun s=>s.2.1.toNat) (FbI m) (fun s=>FbI m s/\s.2.1<16) (fun s hI=>by
  obtain⟨f,u,i⟩:=s
  have hI':=hI
  obtain⟨k,h1,h2,h3,h4⟩:=hI'
  simp only at h2 h3 h4
  subst h2 h3
  have hq:m / 16 ^ k<18446744073709551616:=Nat.lt_of_le_of_lt (Nat.div_le_self _ _) hm
  simp only[S_qs_b1,Scr.den]
  by_cases c:16<=m / 16 ^ k
  ·left
   have hk:k<=14:=by
    rcases yp 14 k with g | g
    ·obtain rfl:k=15:=om
     have:m / 16 ^ 15<16:=y3a (by rw[<- y3i]; exact hm16)
     omega
    ·exact g
   have hs:m / 16 ^ (k+1)=m / 16 ^ k / 16:=by rw[y3i,Nat.div_div_eq_div_mul]
   have ew:i64.wrap ((65-(k:Int))-1)=((64-k:Nat):Int):=by rw[wrapId (n:=(65-(k:Int))-1) om om]; omega
   rw[y9 (show decide (((m / 16 ^ k:Nat):Int)>=IntKind.u64.wrap 16)=true by rw[show IntKind.u64.wrap 16=16 from dk]; exact y15 om),zno hq,ew]
   simp only[yh]
   have hl:z14.length=36:=rfl
   have hmod:m / 16 ^ k % 16<16:=y37 _ dk
   rw[z8 ⟨om,by rw[hl]; omega,om,om,trivial⟩,Gd]
   have e16:((m / 16 ^ k:Nat):Int).fdiv (2 ^ (min (IntKind.u64.wrap 4).toNat IntKind.u64.bits))=((m / 16 ^ (k+1):Nat):Int):=by
    rw[show ((2:Int) ^ (min (IntKind.u64.wrap 4).toNat IntKind.u64.bits))=((16:Nat):Int) from dk,hs]
    rw[y49 _ dk]
    generalize m / 16 ^ k=q
    omega
   rw[e16]
   refine⟨_,rfl,⟨k+1,om,rfl,by simp only; omega,fun j hj=>?_⟩,?_⟩
   ·exact zhx h1 h4 rfl j hj
   ·show (((m / 16 ^ (k+1):Nat):Int)).toNat<(((m / 16 ^ k:Nat):Int)).toNat
    rw[yh,yh,hs]
    omega
  ·right
   rw[y8 (show ¬ decide (((m / 16 ^ k:Nat):Int)>=IntKind.u64.wrap 16)=true by rw[show IntKind.u64.wrap 16=16 from dk,ya]; omega)]
   exact⟨_,rfl,hI,by simp only; omega⟩) (((m:Int)).toNat+1) ((fun _=>0),(m:Int),65) (y1o _) ⟨0,om,sj,sj,fun j hj=>om⟩
 obtain⟨f,u,i⟩:=s
 obtain⟨k,h1,h2,h3,h4⟩:=hI
 simp only at h2 h3 h4 hu
 subst h2 h3
 have hq:m / 16 ^ k<16:=om
 have hl:z14.length=36:=rfl
 have ew:i64.wrap ((65-(k:Int))-1)=((64-k:Nat):Int):=by rw[wrapId (n:=(65-(k:Int))-1) om om]; omega
 refine⟨k,om,?_,?_⟩
 ·have:=Nat.lt_mul_of_div_lt hq (Nat.pow_pos dk)
  rw[y3i]
  omega
 simp only[F_q31,S_q31,F_q3t,S_q3t,F_qs,S_qs,Scr.den]
 rw[Gd,Gd,Gd,zow]
 simp only[obind,y3p]
 rw[zqr]
 simp only[obind]
 rw[e]
 simp only[outM,ew,yh]
 rw[z8 ⟨y3h _,by rw[hl]; omega,om,om,trivial⟩]
 simp only
 rw[Gd,Gb]
 simp only[obind,yh]
 refine y29 some ?_
 rw[show 65-(64-k)=k+1 from om]
 unfold Hk
 refine y3s fun j hj=>?_
 have ht:=zhx h1 h4 (d:=m / 16 ^ k) (by rw[y2m hq]) j (y27.1 hj)
 rw[show 65-(k+1)+j=64-k+j from om] at ht
 have ht':(if 64-k+j=64-k then ((z14.getD (m / 16 ^ k) 0).toNat:Int) else f (64-k+j))=((dg (m / 16 ^ (k+1-1-j) % 16)).toNat:Int):=ht
 rw[ht',yh,UInt8.ofNat_toNat]
theorem zbd (h:z12 n):F_q2n n=some (z1e n):=by
 obtain⟨k,hk,hlt,e⟩:=zdt h
 simp only[F_q2n,S_q2n,Scr.den,e,obind,z8s]
 rw[wrapId (n:=16-((k+1:Nat):Int)) om om]
 unfold F_q49
 rw[z8 ⟨om,om,dk⟩]
 simp only[obind]
 have hr:∀ c,Lib.repeatL [48] c=List.replicate c 48:=fun c=>by
  induction c with
  | zero=>rfl
  | succ c ih=>rw[Lib.repeatL,ih]; rfl
 rw[hr,show (16-((k+1:Nat):Int)).toNat=15-k from om,z8 ⟨by rw[List.length_replicate]; omega,trivial⟩]
 refine y29 some ?_
 have key:∀ j,j<=15-k->List.replicate j 48++Hk n.toNat (k+1)=Hk n.toNat (k+1+j):=fun j=>by
  induction j with
  | zero=>intro _; rfl
  | succ j ih =>
   intro hj
   rw[List.replicate_succ,y21,ih om,<- y36,zc8,Nat.div_eq_of_lt (y11 hlt (Nat.pow_le_pow_right dk om))]
   rfl
 rw[key _ (yf _),show k+1+(15-k)=16 from om]
 rfl
theorem z8t:∀ {l:Y8} {d p:Nat},goodR l d p=true->∀ c∈l,c.toNat=46\/(48<=c.toNat/\c.toNat<=57)
 | [],_,_,_,c,h=>nomatch h
 | b :: l,d,p,h,c,hc=>by
  simp only[goodR] at h
  by_cases h1:b.toNat=46
  ·rw[y9 h1] at h
   by_cases h2:d=0
   ·rw[y9 h2] at h; cases h
   ·rw[y8 h2] at h
    rcases yu.1 hc with rfl | hc
    ·exact .inl h1
    ·exact z8t h c hc
  ·rw[y8 h1] at h
   by_cases h2:b.toNat<48\/57<b.toNat\/(d=0/\b.toNat=48)\/d=2
   ·rw[y9 h2] at h; cases h
   ·rw[y8 h2] at h
    rcases yu.1 hc with rfl | hc
    ·exact .inr om
    ·exact z8t h c hc
theorem zna {l:Y8} (h:good l=true) (hc:c∈l):46<=c.toNat/\c.toNat<=57:=by
 have:=z8t h c hc
 omega
def wordsV (w:TWa):List Y8:=headV w++(zq w).map Lib.itoa
def textV (w:TWa):Y8:=(((bytesV w++[32])++z1e w.V)++[32])++z1e w.U
theorem zlk (w:TWa):textV w=Lib.join (wordsV w++[z1e w.V,z1e w.U]) [32]:=by
 unfold textV bytesV wordsV headV
 simp only[y21,y1y,Lib.join_cons]
 rw[show (Lib.itoa w.D :: Lib.itoa w.O :: w.J :: (List.map Lib.itoa (zq w)++[z1e w.V,z1e w.U]))=(Lib.itoa w.D :: Lib.itoa w.O :: w.J :: List.map Lib.itoa (zq w))++([z1e w.V]++[z1e w.U]) from sj,z3a,z3a,z4b,z4b]
 simp only[y1u]
theorem zfu (n:Int):(32:UInt8) ∉ z1e n:=fun h=>by
 have:=zq1 h
 have e:(32:UInt8).toNat=32:=rfl
 omega
theorem z8u (h:0<=n):(32:UInt8) ∉ Lib.itoa n:=fun hc=>by
 have:=zn9 h hc
 have e:(32:UInt8).toNat=32:=rfl
 omega
variable {w:TWa}
theorem z7o (h:WPl w):splitU 32 (textV w)=[[119,97,114,114,97,110,116],Lib.itoa w.D,Lib.itoa w.O,w.J,Lib.itoa w.K,Lib.itoa w.H,Lib.itoa w.I,Lib.itoa w.E,Lib.itoa w.Q,Lib.itoa w.L,Lib.itoa w.S,Lib.itoa w.N,Lib.itoa w.X,z1e w.V,z1e w.U]:=by
 obtain⟨⟨a1,a2,a3,a4,a5,a6⟩,b,c,d,e,f,g⟩:=h
 unfold numP at a1 a2 a3 a4 a5 a6
 unfold dayP at f g
 rw[zlk]
 refine z9s (x:=[119,97,114,114,97,110,116]) (l:=[Lib.itoa w.D,Lib.itoa w.O,w.J,Lib.itoa w.K,Lib.itoa w.H,Lib.itoa w.I,Lib.itoa w.E,Lib.itoa w.Q,Lib.itoa w.L,Lib.itoa w.S,Lib.itoa w.N,Lib.itoa w.X,z1e w.V,z1e w.U]) fun y hy=>?_
 simp only[yu,y1n,y3c] at hy
 rcases hy with rfl | rfl | rfl | rfl | rfl | rfl | rfl | rfl | rfl | rfl | rfl | rfl | rfl | rfl | rfl
 ·decide
 ·exact z8u om
 ·exact z8u om
 ·intro hc
  have:=zna c hc
  have e:(32:UInt8).toNat=32:=rfl
  omega
 iterate 9 (· exact z8u om)
 ·exact zfu _
 ·exact zfu _
theorem z1h (n:Int):(z1e n).length=16:=z8s
theorem zll (h:WPl w):(textV w).length<=3000:=by
 have:=z3n h
 unfold textV
 simp only[ye,z1h,yd,yl]
 omega
theorem zhy (h:WPl w) (h1:z12 w.V) (h2:z12 w.U):F_q1t w=some (textV w):=by
 have hl:=z3n h
 have hc:w.J.length<=1000000:=by have:=h.len; omega
 simp only[F_q1t,S_q1t,Scr.den,z39 hc,z7l h,zbd h1,zbd h2,obind]
 rw[y8 (by rw[y15 h]; decide)]
 rw[z8 ⟨by simp only[yd,yl]; omega,by simp only[ye,z1h,yd,yl]; omega,by simp only[ye,z1h,yd,yl]; omega,by simp only[ye,z1h,yd,yl]; omega,trivial⟩]
 rfl
theorem z2s (h0:0<=n) (h1:n<=1000000000000000):F_q27 (Lib.itoa n)=some (n,false):=by
 have:=z5b h0 h1
 unfold F_q27
 rw[z8 om,zjc h0 h1]
theorem zlm (h:z12 n):F_q45 (z1e n) 16 64=some (n,false):=by
 unfold F_q45
 rw[z8 ⟨rfl,rfl,by rw[z1h]; decide⟩,zlj h]
theorem zjd (h:WPl w) (h1:z12 w.V) (h2:z12 w.U):F_q1u (textV w)=some (w,0):=by
 have hl:=zll h
 have hT:=zhy h h1 h2
 have hsp:=z7o h
 have hw:=h
 obtain⟨⟨a1,a2,a3,a4,a5,a6⟩,b,c,d,e,f,g⟩:=h
 unfold numP at a1 a2 a3 a4 a5 a6
 unfold dayP at f g
 have hS:F_q44 (textV w) [32]=some (splitU 32 (textV w)):=by
  unfold F_q44
  exact z8 om
 simp only[F_q1u,S_q1u,Scr.den,hS,obind,hsp,yd,yl,y3g,y2v]
 rw[Gd,y8 dk,Gd]
 rw[z2s om om]
 simp only[obind]
 rw[Gd,z2s (n:=w.O) om om]
 simp only[obind]
 rw[Gd,z2s (n:=w.K) om om]
 simp only[obind]
 rw[Gd,z2s (n:=w.H) om om]
 simp only[obind]
 rw[Gd,z2s (n:=w.I) om om]
 simp only[obind]
 rw[Gd,z2s (n:=w.E) om om]
 simp only[obind]
 rw[Gd,z2s (n:=w.Q) om om]
 simp only[obind]
 rw[Gd,z2s (n:=w.L) om om]
 simp only[obind]
 rw[Gd,z2s (n:=w.S) om om]
 simp only[obind]
 rw[Gd,z2s (n:=w.N) om om]
 simp only[obind]
 rw[Gd,z2s (n:=w.X) om om]
 simp only[obind]
 rw[Gd,zlm h1]
 simp only[obind]
 rw[Gd,zlm h2]
 simp only[obind]
 rw[Gd]
 rw[hT]
 simp only[obind]
 rw[y8 sj]
def HB (x:BitVec 64) (c:UInt8):BitVec 64:=(x ^^^ BitVec.ofNat 64 c.toNat) * 1099511628211#64
theorem znb (x:BitVec 64) (c:UInt8):hstep (x.toNat:Int) c=((HB x c).toNat:Int):=by
 have hc:=c.toNat_lt
 have e1:IntKind.u64.wrap ((c.toNat:Nat):Int)=((c.toNat:Nat):Int):=by rw[y2b]; omega
 have e2:BitVec.ofInt 64 ((x.toNat:Nat):Int)=x:=by rw[y3e,BitVec.ofNat_toNat]; exact BitVec.setWidth_eq x
 unfold hstep HB
 rw[e1]
 show IntKind.u64.wrap (IntKind.u64.wrap (((BitVec.ofInt 64 ((x.toNat:Nat):Int) ^^^ BitVec.ofInt 64 ((c.toNat:Nat):Int)).toNat:Nat):Int) * 1099511628211)=_
 rw[e2,y3e]
 generalize x ^^^ BitVec.ofNat 64 c.toNat=y
 have hy:=y.isLt
 rw[BitVec.toNat_mul,show (1099511628211#64).toNat=1099511628211 from rfl,show IntKind.u64.wrap ((y.toNat:Nat):Int)=((y.toNat:Nat):Int) by rw[y2b]; omega,y2b]
 omega
theorem zhz:∀ (l:Y8) (x:BitVec 64),l.foldl hstep (x.toNat:Int)=((l.foldl HB x).toNat:Int)
 | [],_=>rfl
 | c :: l,x=>by
  rw[y34,y34,znb]
  exact zhz l _
theorem zfv (l:Y8):z12 (hashV l):=by
 have h0:(14695981039346656037:Int)=((14695981039346656037#64).toNat:Int):=rfl
 unfold hashV
 rw[h0,zhz]
 have:=(l.foldl HB 14695981039346656037#64).isLt
 exact⟨om,om⟩
variable {s:TTape}
open Classical in
open Classical in
open Classical in
open Classical in
theorem z5y {b:TBo} (h:SmN k b) (hk:k<=1000) (hs:TapeOk s):∃ x,F_q2h b s=some x/\TapeOk x.1/\SmN (k+1) ⟨x.2.1,x.2.2.1,x.2.2.2.1,x.2.2.2.2⟩:=by
 obtain⟨⟨l1,l2,l3,l4⟩,hc⟩:=id h
 simp only[F_q2h,S_q2h,Scr.den,y14]
 rw[z8 ⟨om,om,om,om,trivial⟩]
 obtain⟨n,s1,e1,t1,_⟩:=zp (l:=[-1,0,1,77,1000000000001]) hs dk dk
 obtain⟨q,s2,e2,t2,q1,q2⟩:=zw (n:=12) t1 om om
 simp only[e1,e2,obind]
 generalize hK:(fun (s:TTape×(List TRe)×(List TCo)×(List TVe)×(List TOr))=>(some (s.1,s.2.1,s.2.2.1,s.2.2.2.1,s.2.2.2.2):Option R_q2h))=K
 have fin:∀ (s':TTape) (lR:List TRe) (lC:List TCo) (lV:List TVe) (lO:List TOr),TapeOk s'->SmN (k+1) ⟨lR,lC,lV,lO⟩->∃ x,outM (some (Out.next (s',lR,lC,lV,lO))) K some=some x/\TapeOk x.1/\SmN (k+1) ⟨x.2.1,x.2.2.1,x.2.2.2.1,x.2.2.2.2⟩:=fun s' lR lC lV lO ht hh=>by
  simp only[outM,<- hK]
  exact⟨_,rfl,ht,hh⟩
 have same:SmN (k+1) b:=⟨⟨om,om,om,om⟩,hc⟩
 by_cases c0:(q==0)=true
 ·rw[y9 c0]
  obtain⟨a,s3,e3,t3,_,_⟩:=zw (n:=2) t2 om om
  obtain⟨co,s4,e4,t4,hco⟩:=zmx t3
  simp only[e3,e4,obind]
  rw[z8 ⟨by first | omega | (simp only[yd,yl]; omega),trivial⟩]
  refine fin _ _ _ _ _ t4 ⟨⟨by simp only[ye,y1g]; omega,by simp only; omega,by simp only; omega,by simp only; omega⟩,fun r hr=>?_⟩
  rw[y1b,y1z] at hr
  rcases hr with hr | rfl
  ·exact hc r hr
  ·exact hco
 rw[y8 c0]
 by_cases c0:(q==1)=true
 ·rw[y9 c0]
  by_cases hp:decide ((b.A.length:Int)>0)=true
  ·rw[y9 hp]
   simp only[ya] at hp
   obtain⟨i,s3,e3,t3,i1,i2⟩:=zw (n:=(b.A.length:Int)) t2 om om
   simp only[e3,obind]
   rw[Gc]
   exact fin _ _ _ _ _ t3 ⟨⟨by simp only[y13]; omega,by simp only; omega,by simp only; omega,by simp only; omega⟩,zai h om rfl⟩
  ·rw[y8 hp]; exact fin _ _ _ _ _ t2 same
 rw[y8 c0]
 by_cases c0:(q==2)=true
 ·rw[y9 c0]
  by_cases hp:decide ((b.A.length:Int)>0)=true
  ·rw[y9 hp]
   simp only[ya] at hp
   obtain⟨d,s3,e3,t3,_⟩:=zp (l:=[-1,4320,4679,4680]) t2 dk dk
   simp only[e3,obind]
   rw[Gb]
   exact fin _ _ _ _ _ t3 ⟨⟨by simp only[y13]; omega,by simp only; omega,by simp only; omega,by simp only; omega⟩,zai h om rfl⟩
  ·rw[y8 hp]; exact fin _ _ _ _ _ t2 same
 rw[y8 c0]
 by_cases c0:(q==3)=true
 ·rw[y9 c0]
  by_cases hp:decide ((b.A.length:Int)>0)=true
  ·rw[y9 hp]
   simp only[ya] at hp
   rw[Gb]
   exact fin _ _ _ _ _ t2 ⟨⟨by simp only[y13]; omega,by simp only; omega,by simp only; omega,by simp only; omega⟩,zai h om rfl⟩
  ·rw[y8 hp]; exact fin _ _ _ _ _ t2 same
 rw[y8 c0]
 by_cases c0:(q==4)=true
 ·rw[y9 c0]
  obtain⟨x1,s3,e3,t3,_,_⟩:=zw (n:=4) t2 om om
  obtain⟨x2,s4,e4,t4,_⟩:=zp (l:=[4400,4679,4680]) t3 dk dk
  obtain⟨x3,s5,e5,t5,_,_⟩:=zm (lo:=1) (hi:=9) t4 om om om
  obtain⟨x4,s6,e6,t6,_,_⟩:=zw (n:=2) t5 om om
  simp only[e3,e4,e5,e6,obind]
  rw[z8 ⟨by first | omega | (simp only[yd,yl]; omega),trivial⟩]
  exact fin _ _ _ _ _ t6 ⟨⟨by simp only; omega,by simp only[ye,y1g]; omega,by simp only; omega,by simp only; omega⟩,hc⟩
 rw[y8 c0]
 by_cases c0:(q==5)=true
 ·rw[y9 c0]
  by_cases hp:decide ((b.B.length:Int)>0)=true
  ·rw[y9 hp]
   simp only[ya] at hp
   rw[Gb]
   exact fin _ _ _ _ _ t2 ⟨⟨by simp only; omega,by simp only[y13]; omega,by simp only; omega,by simp only; omega⟩,hc⟩
  ·rw[y8 hp]; exact fin _ _ _ _ _ t2 same
 rw[y8 c0]
 by_cases c0:(q==6)=true
 ·rw[y9 c0]
  by_cases hp:decide ((b.B.length:Int)>0)=true
  ·rw[y9 hp]
   simp only[ya] at hp
   obtain⟨i,s3,e3,t3,i1,i2⟩:=zw (n:=(b.B.length:Int)) t2 om om
   obtain⟨x2,s4,e4,t4,_⟩:=zp (l:=[1,100,-1]) t3 dk dk
   simp only[e3,e4,obind]
   rw[Gc]
   exact fin _ _ _ _ _ t4 ⟨⟨by simp only; omega,by simp only[y13]; omega,by simp only; omega,by simp only; omega⟩,hc⟩
  ·rw[y8 hp]; exact fin _ _ _ _ _ t2 same
 rw[y8 c0]
 by_cases c0:(q==7)=true
 ·rw[y9 c0]
  obtain⟨x1,s3,e3,t3,_,_⟩:=zw (n:=4) t2 om om
  obtain⟨x2,s4,e4,t4,_⟩:=zp (l:=[4500,5039,5040]) t3 dk dk
  simp only[e3,e4,obind]
  rw[z8 ⟨by first | omega | (simp only[yd,yl]; omega),trivial⟩]
  exact fin _ _ _ _ _ t4 ⟨⟨by simp only; omega,by simp only; omega,by simp only[ye,y1g]; omega,by simp only; omega⟩,hc⟩
 rw[y8 c0]
 by_cases c0:(q==8)=true
 ·rw[y9 c0]
  by_cases hp:decide ((b.C.length:Int)>0)=true
  ·rw[y9 hp]
   simp only[ya] at hp
   obtain⟨x2,s4,e4,t4,_⟩:=zp (l:=[0,5039,5040]) t2 dk dk
   simp only[e4,obind]
   rw[Gb]
   exact fin _ _ _ _ _ t4 ⟨⟨by simp only; omega,by simp only; omega,by simp only[y13]; omega,by simp only; omega⟩,hc⟩
  ·rw[y8 hp]; exact fin _ _ _ _ _ t2 same
 rw[y8 c0]
 by_cases c0:(q==9)=true
 ·rw[y9 c0]
  obtain⟨x1,s3,e3,t3,_,_⟩:=zw (n:=4) t2 om om
  obtain⟨x3,s5,e5,t5,_,_⟩:=zm (lo:=0) (hi:=2) t3 om om om
  obtain⟨x2,s4,e4,t4,_⟩:=zp (l:=[4700,5039,5040]) t5 dk dk
  simp only[e3,e5,e4,obind]
  rw[z8 ⟨by first | omega | (simp only[yd,yl]; omega),trivial⟩]
  exact fin _ _ _ _ _ t4 ⟨⟨by simp only; omega,by simp only; omega,by simp only; omega,by simp only[ye,y1g]; omega⟩,hc⟩
 rw[y8 c0]
 by_cases c0:(q==10)=true
 ·rw[y9 c0]
  by_cases hp:decide ((b.G.length:Int)>0)=true
  ·rw[y9 hp]
   simp only[ya] at hp
   rw[Gb]
   exact fin _ _ _ _ _ t2 ⟨⟨by simp only; omega,by simp only; omega,by simp only; omega,by simp only[y13]; omega⟩,hc⟩
  ·rw[y8 hp]; exact fin _ _ _ _ _ t2 same
 rw[y8 c0]
 by_cases hp:decide ((b.G.length:Int)>0)=true
 ·rw[y9 hp]
  simp only[ya] at hp
  obtain⟨i,s3,e3,t3,i1,i2⟩:=zw (n:=(b.G.length:Int)) t2 om om
  obtain⟨x2,s4,e4,t4,_,_⟩:=zw (n:=2) t3 om om
  simp only[e3,e4,obind]
  rw[Gc]
  exact fin _ _ _ _ _ t4 ⟨⟨by simp only; omega,by simp only; omega,by simp only; omega,by simp only[y13]; omega⟩,hc⟩
 ·rw[y8 hp]; exact fin _ _ _ _ _ t2 same
theorem zc9 (o:TOf):∃ C,F_q15 o=some C/\(C=true->SmO o/\o.F.length<=70):=by
 simp only[F_q15,S_q15,Scr.den]
 obtain⟨C,hC,hs⟩:=zfe o.M
 obtain⟨h1,h2⟩:=zt (body:=fun i s=>(S_q15_b1 o i s).den) (n:=o.F.length) (c:=false) (fun i=>(o.F.getD i dF).J.length<=60) (fun i hi hp=>by
  simp only[S_q15_b1,Scr.den]; rw[y8 (by rw[ya]; omega)]) (fun i hi hp=>by
  simp only[S_q15_b1,Scr.den]; rw[y9 (by rw[ya]; omega)])
 by_cases h:∀ j,j<o.F.length->(o.F.getD j dF).J.length<=60
 ·rw[h1 h]
  simp only[outM,hC,zf]
  by_cases h70:o.F.length<=70
  ·rw[z17 (by exact⟨sk,trivial⟩),obind]
   refine⟨_,rfl,fun hc=>?_⟩
   simp only[yg,ya] at hc
   refine⟨⟨(hs hc.2).small om,om,fun r hr=>?_⟩,h70⟩
   obtain⟨i,hi,e⟩:=z1j hr
   have:=h i hi
   rw[e] at this
   omega
  ·rw[zx (by simp[AllP]; omega),obind]
   exact⟨_,rfl,fun hc=>by simp at hc⟩
 ·rw[h2 h]
  exact⟨false,rfl,fun h=>by cases h⟩
variable {o:TOf}
theorem VO.smN (h:VO o):SmN 200 o.M:=by
 have h1:=h.val
 have h2:=h1.2.2.2.2.2.2
 refine⟨⟨om,om,om,om⟩,fun r hr=>?_⟩
 have:=z5p (h1.1.mem hr).1.2.1
 omega
theorem zbe (hv:VO o) (hs:TapeOk s):∃ o' s',F_q26 o s=some (o',s')/\TapeOk s'/\SmO o':=by
 have hl:=hv.len
 have hsm:=hv.smO
 simp only[F_q26,S_q26,Scr.den,y14]
 rw[z8 ⟨by first | omega | (simp only[yd,yl]; omega),trivial⟩]
 have sm:∀ (n:Int) (l:List TRi),l.length<=61->(∀ r∈l,r.J.length<=1000000)->SmO ⟨n,l,o.M⟩:=fun n l h1 h2=>⟨hsm.1,by simp only; omega,h2⟩
 have st:∀ (l:List TRi) (k:Nat) (x:TRi),(∀ r∈l,r.J.length<=1000000)->x.J.length<=1000000->∀ r∈l.set k x,r.J.length<=1000000:=fun l k x h1 h2 r hr=>by
  rcases y2w hr with hr | rfl
  ·exact h1 r hr
  ·exact h2
 have hcd:=hsm.2.2
 by_cases hp:decide ((o.F.length:Int)>0)=true
 ·rw[y9 hp]
  simp only[ya] at hp
  obtain⟨i,s1,e1,t1,i1,i2⟩:=zw (n:=(o.F.length:Int)) hs om om
  obtain⟨q,s2,e2,t2,_,_⟩:=zw (n:=7) t1 om om
  have hi:i.toNat<o.F.length:=om
  have hci:(o.F.getD i.toNat dF).J.length<=1000000:=hcd _ (zk hi)
  simp only[e1,e2,obind]
  by_cases c0:(q==0)=true
  ·rw[y9 c0]
   obtain⟨x,s3,e3,t3,_⟩:=zp (l:=[0,1,6,7]) t2 dk dk
   simp only[e3,obind]
   rw[z8 ⟨by first | omega | (simp only[yd,yl]; omega),trivial⟩]
   exact⟨_,_,rfl,t3,sm _ _ om hcd⟩
  rw[y8 c0]
  by_cases c0:(q==1)=true
  ·rw[y9 c0]
   obtain⟨x,s3,e3,t3,_⟩:=zp (l:=[0,-1,20,1000000000000001]) t2 dk dk
   simp only[e3,obind]
   rw[z8 ⟨i1,hi,hi,trivial⟩,z8 ⟨by rw[y13]; omega,trivial⟩]
   exact⟨_,_,rfl,t3,sm _ _ (by rw[y13]; omega) (st _ _ _ hcd hci)⟩
  rw[y8 c0]
  by_cases c0:(q==2)=true
  ·rw[y9 c0]
   obtain⟨x,s3,e3,t3,_⟩:=zp (l:=[-1,500,(o.F.getD i.toNat dF).R]) t2 sj sj
   simp only[e3,obind]
   rw[z8 ⟨i1,hi,hi,trivial⟩,z8 ⟨by rw[y13]; omega,trivial⟩]
   exact⟨_,_,rfl,t3,sm _ _ (by rw[y13]; omega) (st _ _ _ hcd hci)⟩
  rw[y8 c0]
  by_cases c0:(q==3)=true
  ·rw[y9 c0]
   obtain⟨x,s3,e3,t3,hx⟩:=z49 t2
   simp only[e3,obind]
   rw[z8 ⟨i1,hi,hi,trivial⟩,z8 ⟨by rw[y13]; omega,trivial⟩]
   exact⟨_,_,rfl,t3,sm _ _ (by rw[y13]; omega) (st _ _ _ hcd (by simp only; omega))⟩
  rw[y8 c0]
  by_cases c0:(q==4)=true
  ·rw[y9 c0]
   have h00:0<o.F.length:=om
   rw[z8 ⟨h00,h00,om,trivial⟩,z8 ⟨by rw[ye,y1g]; omega,trivial⟩]
   refine⟨_,_,rfl,t2,sm _ _ (by rw[ye,y1g]; omega) fun r hr=>?_⟩
   rw[y1b,y1z] at hr
   rcases hr with hr | rfl
   ·exact hcd r hr
   ·exact hcd _ (zk h00)
  rw[y8 c0]
  by_cases c0:(q==5)=true
  ·rw[y9 c0]
   rw[Ga,Ga]
   exact⟨_,_,rfl,t2,sm _ _ (by rw[y2a]; omega) fun r hr=>hcd r (y3b hr)⟩
  rw[y8 c0]
  obtain⟨x,e3,t3,hx⟩:=z5y hv.smN om t2
  have hx1:=hx.1
  simp only at hx1
  simp only[e3,obind]
  rw[Ga,Ga,Ga,Ga,Ga]
  exact⟨_,_,rfl,t3,hx.small om,by simp only; omega,hcd⟩
 ·rw[y8 hp]
  obtain⟨q,s2,e2,t2,_,_⟩:=zw (n:=7) hs om om
  simp only[e2,obind]
  have hz:∀ r∈([⟨[49],0,0,0,0⟩]:List TRi),r.J.length<=1000000:=sj
  have hz1:(([⟨[49],0,0,0,0⟩]:List TRi).getD 0 dF).J.length<=1000000:=sj
  have hz2:([⟨[49],0,0,0,0⟩]:List TRi).length=1:=rfl
  generalize ([⟨[49],0,0,0,0⟩]:List TRi)=L at hz hz1 hz2 |-
  by_cases c0:(q==0)=true
  ·rw[y9 c0]
   obtain⟨x,s3,e3,t3,_⟩:=zp (l:=[0,1,6,7]) t2 dk dk
   simp only[e3,obind]
   rw[z8 ⟨by first | omega | (simp only[yd,yl]; omega),trivial⟩]
   exact⟨_,_,rfl,t3,sm _ _ om hz⟩
  rw[y8 c0]
  by_cases c0:(q==1)=true
  ·rw[y9 c0]
   obtain⟨x,s3,e3,t3,_⟩:=zp (l:=[0,-1,20,1000000000000001]) t2 dk dk
   simp only[e3,obind]
   rw[Gb,z8 ⟨by rw[y13]; omega,trivial⟩]
   exact⟨_,_,rfl,t3,sm _ _ (by rw[y13]; omega) (st _ _ _ hz hz1)⟩
  rw[y8 c0]
  by_cases c0:(q==2)=true
  ·rw[y9 c0]
   obtain⟨x,s3,e3,t3,_⟩:=zp (l:=[-1,500,(L.getD 0 dF).R]) t2 sj sj
   simp only[e3,obind]
   rw[Gb,z8 ⟨by rw[y13]; omega,trivial⟩]
   exact⟨_,_,rfl,t3,sm _ _ (by rw[y13]; omega) (st _ _ _ hz hz1)⟩
  rw[y8 c0]
  by_cases c0:(q==3)=true
  ·rw[y9 c0]
   obtain⟨x,s3,e3,t3,hx⟩:=z49 t2
   simp only[e3,obind]
   rw[Gb,z8 ⟨by rw[y13]; omega,trivial⟩]
   exact⟨_,_,rfl,t3,sm _ _ (by rw[y13]; omega) (st _ _ _ hz (by simp only; omega))⟩
  rw[y8 c0]
  by_cases c0:(q==4)=true
  ·rw[y9 c0]
   rw[Gc,z8 ⟨by rw[ye,y1g]; omega,trivial⟩]
   refine⟨_,_,rfl,t2,sm _ _ (by rw[ye,y1g]; omega) fun r hr=>?_⟩
   rw[y1b,y1z] at hr
   rcases hr with hr | rfl
   ·exact hz r hr
   ·exact hz1
  rw[y8 c0]
  by_cases c0:(q==5)=true
  ·rw[y9 c0]
   rw[Ga,Ga,Ga]
   exact⟨_,_,rfl,t2,sm _ _ (by rw[y2a]; omega) fun r hr=>hz r (y3b hr)⟩
  rw[y8 c0]
  obtain⟨x,e3,t3,hx⟩:=z5y hv.smN om t2
  have hx1:=hx.1
  simp only at hx1
  simp only[e3,obind]
  rw[Ga,Ga,Ga,Ga,Ga]
  exact⟨_,_,rfl,t3,hx.small om,by simp only; omega,hz⟩
variable {α:Type} {d:α}
theorem zi0 {gs:List Prop} {k:Option α} (h:¬ AllP gs):optD gs k d=some d:=by unfold optD; rw[y8 h]
variable {keys:List Int}
theorem zh1 (h:WPl w):signV keys w true=(if (keys.length:Int)<=2 * (w.O-1)+1 then (zW,6) else if w.V≠sigV (keys.getD (2 * (w.O-1)).toNat dF) w then (zW,18) else (z27 w (sigV (keys.getD (2 * (w.O-1)+1).toNat dF) w),0)):=by
 unfold signV
 rw[y8 (fun k=>k h),y8 sj]
theorem zfw (hc:w.J.length<=1000000) (keys:List Int):F_q32 keys w=some (checkV keys w):=by
 simp only[F_q32,S_q32,Scr.den,z1g hc,obind,zi]
 by_cases h:WPl w
 ·have ho:=h.2.1
  rw[y15 h,y8 dk,wrapId (n:=w.O-1) om om,wrapId (n:=2 * (w.O-1)) om om,wrapId (n:=2 * (w.O-1)+1) om om,z2h h]
  unfold checkV
  rw[zh1 h]
  by_cases hk:(keys.length:Int)<=2 * (w.O-1)+1
  ·rw[y9 (by simp only[ya]; omega),y9 hk,y8 sj]
  ·rw[y8 (by simp only[ya]; omega),y8 hk]
   simp only[obind]
   generalize sigV (keys.getD (2 * (w.O-1)).toNat dF) w=s1
   by_cases h1:s1=w.V
   ·rw[z17 (by simp[AllP,h1]),z2h h]
    generalize sigV (keys.getD (2 * (w.O-1)+1).toNat dF) w=s2
    simp only[obind]
    rw[z8 ⟨om,om,fun _=>om,fun _=>om,trivial⟩,y8 (show ¬ w.V≠s1 from fun k=>k h1.symm)]
    by_cases h2:s2=w.U
    ·rw[y8 (by simp[h1,h2]),y8 (fun k=>k.2 h2)]
    ·rw[y9 (by simp[h2]),y9 ⟨rfl,h2⟩]
   ·rw[zi0 (by simp[AllP,h1])]
    simp only[obind]
    have hb:(s1 != w.V)=true:=by simpa using h1
    rw[z8 ⟨om,om,fun k=>absurd k.1 (by rw[hb]; decide),fun k=>absurd k.1 (by rw[hb]; decide),trivial⟩,y9 (by rw[hb]; rfl),y9 (show w.V≠s1 from fun k=>h1 k.symm),y8 sj]
 ·rw[y10 h,y9 dk]
  unfold checkV signV
  rw[y9 h,y8 sj]
variable {l:List TWa}
theorem zox (h:∀ i,i+1<l.length->(l.getD i dF).D<(l.getD (i+1) dF).D):SrtW l:=by
 have key:∀ k i,i+k+1<l.length->(l.getD i dF).D<(l.getD (i+k+1) dF).D:=by
  intro k
  induction k with
  | zero=>intro i hi; exact h i hi
  | succ k ih =>
   intro i hi
   have h1:=ih i om
   have h2:=h (i+k+1) om
   rw[show i+(k+1)+1=i+k+1+1 from om]
   omega
 refine List.pairwise_iff_getElem.2 fun i j hi hj hij=>?_
 have:=key (j-i-1) i om
 rw[show i+(j-i-1)+1=j from om,z26 hi,z26 hj] at this
 exact this
theorem zi1 (h:¬ SrtW l):∃ j,1<=j/\j<l.length/\¬ (l.getD (j-1) dF).D<(l.getD j dF).D :=
 y3o fun hn=>h (zox fun i hi=>y3o fun hc=>hn ⟨i+1,om,hi,hc⟩)
open Classical in
noncomputable def addG (l:List TWa) (w:TWa):List TWa×Int:=if SrtW l then addV l w else ([],1)
variable {i:Nat}
theorem stepP (hl:l.length<=1000) (h1:1<=i) (hi:i<l.length):(S_qg_b1 l (i:Int)).den=some (if (l.getD (i-1) dF).D<(l.getD i dF).D then .cont ((i+1:Nat):Int) else .ret ([],1)):=by
 simp only[S_qg_b1,Scr.den,z4v,obind,yh]
 have e1:i64.wrap ((i:Int)-1)=((i-1:Nat):Int):=by rw[wrapId om om]; omega
 rw[y9 (by simpa using hi),e1,yh,z8 ⟨om,om,om,hi,trivial⟩,wrapId (n:=(i:Int)+1) om om]
 by_cases c:(l.getD (i-1) dF).D<(l.getD i dF).D
 ·rw[y9 c,y8 (fun hh=>absurd (z5w.2 c) (y45.2 (y2s hh)))]
  rfl
 ·rw[y8 c,y9 (y15 (y45.1 fun hh=>c (z5w.1 hh)))]
theorem stepR (hl:l.length<=1000) (h1:1<=i) (hi:i<l.length):(S_q2_b1 l (i:Int)).den=some (if (l.getD (i-1) dF).D<(l.getD i dF).D then .cont ((i+1:Nat):Int) else .ret ([],1)):=by
 simp only[S_q2_b1,Scr.den,yh]
 have e1:i64.wrap ((i:Int)-1)=((i-1:Nat):Int):=by rw[wrapId om om]; omega
 rw[y9 (by simpa using hi),e1,yh,z8 ⟨om,om,om,hi,trivial⟩,wrapId (n:=(i:Int)+1) om om]
 by_cases c:(l.getD (i-1) dF).D<(l.getD i dF).D
 ·rw[y9 c,y8 (by simp only[ya,y2k]; omega)]
  rfl
 ·rw[y8 c,y9 (by simp only[ya,y2k]; omega)]
variable {ρ:Type} {j:Nat}
theorem zfx {r:ρ} {step:Int->Option (Step Int ρ)} (hs:∀ i:Nat,1<=i->i<l.length->step (i:Int)=some (if (l.getD (i-1) dF).D<(l.getD i dF).D then .cont ((i+1:Nat):Int) else .ret r)) (h2:j<l.length) (h3:¬ (l.getD (j-1) dF).D<(l.getD j dF).D):∀ k i:Nat,i+k=j->1<=i->iterM step (i:Int)=some (.ret r):=by
 intro k
 induction k with
 | zero =>
  intro i hk h1
  obtain rfl:i=j:=om
  rw[z1s,hs i h1 h2,y8 h3]
 | succ k ih =>
  intro i hk h1
  rw[z1s,hs i h1 om]
  by_cases c:(l.getD (i-1) dF).D<(l.getD i dF).D
  ·rw[y9 c]
   exact ih (i+1) om om
  ·rw[y8 c]
theorem zca (hl:l.length<=1000) (hc:w.J.length<=1000000):F_qg l w=some (addG l w):=by
 unfold addG
 by_cases hS:SrtW l
 ·rw[y9 hS,zn4 hl hS hc]
 ·obtain⟨j,h1,h2,h3⟩:=zi1 hS
  rw[y8 hS]
  simp only[F_qg,S_qg,Scr.den,z39 hc,obind]
  by_cases h:WPl w
  ·rw[y15 h,y8 dk,show (1:Int)=((1:Nat):Int) from rfl,zfx (l:=l) (r:=(([],1):R_qg)) (fun i a b=>stepP hl a b) h2 h3 (j-1) 1 om om]
   rfl
  ·rw[y10 h,y9 dk]
theorem z6p (hl:l.length<=1000) (hc:w.J.length<=1000000):F_q2 l w=some (addG l w):=by
 unfold addG
 by_cases hS:SrtW l
 ·rw[y9 hS,zbc hl hS hc]
 ·obtain⟨j,h1,h2,h3⟩:=zi1 hS
  rw[y8 hS]
  simp only[F_q2,S_q2,Scr.den]
  rw[show (1:Int)=((1:Nat):Int) from rfl,zfx (l:=l) (r:=(([],1):R_q2)) (fun i a b=>stepR hl a b) h2 h3 (j-1) 1 om om]
  rfl
theorem zam (hl:l.length<2 ^ 63):∃ C,F_qy l=some C/\(C=true->(∀ w∈l,w.J.length<=60)/\l.length<=40):=by
 simp only[F_qy,S_qy,Scr.den]
 rw[z8 ⟨hl,trivial⟩]
 have ra:=zt (ρ:=Bool) (n:=l.length) (c:=false) (body:=fun i s=>(S_qy_b1 l i s).den) (fun i=>(l.getD i dF).J.length<=60) (fun i hi h=>by
  simp only[S_qy_b1,Scr.den,y14]
  rw[z8 ⟨hi,trivial⟩,y8 (by simp only[ya]; omega)]) (fun i hi h=>by
  simp only[S_qy_b1,Scr.den,y14]
  rw[z8 ⟨hi,trivial⟩,y9 (by simp only[ya]; omega)])
 by_cases h:∀ j,j<l.length->(l.getD j dF).J.length<=60
 ·rw[ra.1 h]
  refine⟨_,rfl,fun hc=>⟨z3j (p:=fun w:TWa=>w.J.length<=60) h,?_⟩⟩
  have:=y2s hc
  omega
 ·rw[ra.2 h]
  exact⟨_,rfl,fun hc=>by cases hc⟩
theorem zq2 (h:u<18446744073709551616):(IntKind.u64.wrap ((BitVec.ofInt IntKind.u64.bits (u:Int) &&& BitVec.ofInt IntKind.u64.bits 15).toNat:Int))=((u % 16:Nat):Int):=zno h
theorem zqk:∀ k,k<16->((([48,49,50,51,52,53,54,55,56,57,97,98,99,100,101,102]:Y8).drop k).take (k+1-k))=[dg k]:=dk
theorem zbf (h:z12 n):F_q17 n=some (z1e n):=by
 obtain⟨m,rfl⟩:∃ m:Nat,n=m:=⟨n.toNat,(y2c h.1).symm⟩
 have hm:m<18446744073709551616:=by have:=h.2; omega
 simp only[F_q17,S_q17,Scr.den]
 obtain⟨s,e,hs⟩:=z15 (step:=fun s=>(S_q17_b1 (m:Int) s).den) (fun s=>(s.2+4).toNat) (fun s=>∃ r:Nat,r<=16/\s.2=60-4 * (r:Int)/\s.1=(List.range r).map fun j=>dg (m / 16 ^ (15-j) % 16)) (fun s=>s.1=Hk m 16) (fun s hI=>by
  obtain⟨out,i⟩:=s
  obtain⟨r,h1,h2,h3⟩:=hI
  simp only at h2 h3
  subst h2 h3
  simp only[S_q17_b1,Scr.den]
  by_cases c:r<16
  ·left
   have hq:m / 16 ^ (15-r)<18446744073709551616:=Nat.lt_of_le_of_lt (Nat.div_le_self _ _) hm
   have hk:m / 16 ^ (15-r) % 16<16:=y37 _ dk
   have ed:(m:Int).fdiv (2 ^ (min (60-4 * (r:Int)).toNat IntKind.u64.bits))=((m / 16 ^ (15-r):Nat):Int):=by
    have e1:min (60-4 * (r:Int)).toNat IntKind.u64.bits=4 * (15-r):=by
     show min _ 64=_
     omega
    have e2:((2:Int) ^ (4 * (15-r)))=((16 ^ (15-r):Nat):Int):=by
     rw[Int.pow_mul]
     simp
    rw[e1,e2,y49 _ (y3h _)]
    exact (Int.natCast_ediv _ _).symm
   have e3:i64.wrap ((m / 16 ^ (15-r) % 16:Nat):Int)=((m / 16 ^ (15-r) % 16:Nat):Int):=wrapId om om
   have e4:i64.wrap (((m / 16 ^ (15-r) % 16:Nat):Int)+1)=((m / 16 ^ (15-r) % 16+1:Nat):Int):=by rw[wrapId (n:=((m / 16 ^ (15-r) % 16:Nat):Int)+1) om om]; rfl
   have e5:i64.wrap ((60-4 * (r:Int))-4)=60-4 * ((r+1:Nat):Int):=by rw[wrapId (n:=(60-4 * (r:Int))-4) om om]; omega
   rw[y9 (y15 om),ed,zq2 hq,e3,e4,e5]
   simp only[yh,zqk _ hk]
   rw[Ga,z8 ⟨y3h _,y3h _,om,by show _<=16; omega,by simp only[y1x,y2r,yd,yl]; omega,trivial⟩]
   refine⟨_,rfl,⟨r+1,om,rfl,?_⟩,by show (60-4 * ((r+1:Nat):Int)+4).toNat<(60-4 * (r:Int)+4).toNat; omega⟩
   rw[List.range_succ,List.map_append]
   rfl
  ·right
   obtain rfl:r=16:=om
   rw[y8 (by rw[ya]; omega)]
   exact⟨_,rfl,rfl⟩) _ (([]:Y8),(60:Int)) (y1o _) ⟨0,om,rfl,rfl⟩
 rw[e]
 show some s.1=_
 rw[hs]
 rfl
open Classical in
noncomputable def txtG (w:TWa):Y8:=if WPl w then textV w else []
theorem zfy (hc:w.J.length<=1000000) (h1:z12 w.V) (h2:z12 w.U):F_q1t w=some (txtG w):=by
 unfold txtG
 by_cases h:WPl w
 ·rw[y9 h]
  exact zhy h h1 h2
 ·rw[y8 h]
  simp only[F_q1t,S_q1t,Scr.den,z39 hc,obind]
  rw[y9 (by rw[y10 h]; rfl)]
theorem z5z (hc:w.J.length<=1000000) (h1:z12 w.V) (h2:z12 w.U):F_q18 w=some (txtG w):=by
 unfold txtG
 by_cases h:WPl w
 ·have hl:=z3n h
  rw[y9 h]
  simp only[F_q18,S_q18,Scr.den,z1g hc,z5x h,zbf h1,zbf h2,obind]
  rw[y8 (by rw[y15 h]; decide)]
  rw[z8 ⟨by simp only[yd,yl]; omega,by simp only[ye,z1h,yd,yl]; omega,by simp only[ye,z1h,yd,yl]; omega,by simp only[ye,z1h,yd,yl]; omega,trivial⟩]
  rfl
 ·rw[y8 h]
  simp only[F_q18,S_q18,Scr.den,z1g hc,obind]
  rw[y9 (by rw[y10 h]; rfl)]
variable {t:Y8} {b:Nat}
theorem zoy (hb:b<=i) (hi:i<t.length):t.drop b=(t.drop b).take (i-b)++t.getD i 0 :: t.drop (i+1):=by
 have h1:(t.drop b).drop (i-b)=t.getD i 0 :: t.drop (i+1):=by
  rw[y53,show b+(i-b)=i from om,y19 hi,yb,yc hi]
  rfl
 rw[<- h1,y2h]
theorem zoz (hb:b<=i) (hi:i<t.length):(t.drop b).take (i+1-b)=(t.drop b).take (i-b)++[t.getD i 0]:=by
 rw[show i+1-b=(i-b)+1 from om,y3x,y2i,show b+(i-b)=i from om,yc hi,yb,yc hi]
 rfl
theorem zi2 {x:UInt8} {z:Int} (hz:z=(c.toNat:Int)):(((x.toNat:Int)==z)=true)↔x=c:=by
 rw[y1a,hz]
 constructor
 ·intro h
  exact y4c.1 om
 ·rintro rfl
  rfl
variable {σ:Type} {step:σ->Option (Step σ ρ)} {s':σ}
theorem itC {s:σ} {r:Option (Out σ ρ)} (h:step s=some (.cont s')) (hr:iterM step s'=r):iterM step s=r:=by rw[z1s,h]; exact hr
theorem itB {s:σ} (h:step s=some (.brk s')):iterM step s=some (.next s'):=by rw[z1s,h]
theorem itR {s:σ} {x:ρ} (h:step s=some (.ret x)):iterM step s=some (.ret x):=by rw[z1s,h]
theorem znc {m:Nat} {b:UInt8} (hb:48<=b.toNat/\b.toNat<=57) (hm:m<100000000000000000):i64.wrap (i64.wrap (10 * (m:Int))+i64.wrap (IntKind.u8.wrap ((b.toNat:Int)-48)))=((m * 10+(b.toNat-48):Nat):Int):=by
 have e1:IntKind.u8.wrap ((b.toNat:Int)-48)=(b.toNat:Int)-48:=by
  show ((b.toNat:Int)-48) % 256=_
  omega
 rw[e1,wrapId (n:=10 * (m:Int)) om om,wrapId (n:=(b.toNat:Int)-48) om om,wrapId om om]
 omega
theorem z4w {l:Y8} (hl:l.length<=15):∀ (n:Nat) (i:Nat) (acc:Int),i+n=l.length ->
  (∃ o,iterM (fun s=>(S_q8_b1 l s).den) (acc,(i:Int))=some o) /\
  (∀ m k:Nat,acc=(m:Int)->m<10 ^ i->(∀ b∈l.drop i,48<=b.toNat/\b.toNat<=57)->Lib.decFrom m (l.drop i)=some k->iterM (fun s=>(S_q8_b1 l s).den) (acc,(i:Int))=some (.next ((k:Int),(l.length:Int))))
 | 0,i,acc,h=>by
  have e:iterM (fun s=>(S_q8_b1 l s).den) (acc,(i:Int))=some (.next (acc,(i:Int))):=itB (by
   simp only[S_q8_b1,Scr.den]
   rw[y8 sk])
  refine⟨⟨_,e⟩,fun m k ha _ _ hk=>?_⟩
  rw[y1f om] at hk
  simp only[Lib.decFrom,yw] at hk
  rw[e,ha,hk,show i=l.length from om]
 | n+1,i,acc,h=>by
  have hi:i<l.length:=om
  have ew:i64.wrap ((i:Int)+1)=((i+1:Nat):Int):=wrapId om om
  have ed:l.drop i=l.getD i 0 :: l.drop (i+1):=by
   rw[y19 hi,yb,yc hi]
   rfl
  have h1:(S_q8_b1 l (acc,(i:Int))).den=some (if (decide (((l.getD i 0).toNat:Int)<48)||decide (((l.getD i 0).toNat:Int)>57))=true then .ret (0,false) else .cont (i64.wrap (i64.wrap (10 * acc)+i64.wrap (IntKind.u8.wrap (((l.getD i 0).toNat:Int)-48))),((i+1:Nat):Int))):=by
   simp only[S_q8_b1,Scr.den,zi]
   rw[y9 sk,z8 ⟨om,om,fun _=>om,fun _=>om,trivial⟩]
   simp only[yh,ew]
   split <;> rfl
  refine⟨?_,fun m k ha hm hd hk=>?_⟩
  ·by_cases hc:(decide (((l.getD i 0).toNat:Int)<48)||decide (((l.getD i 0).toNat:Int)>57))=true
   ·rw[y9 hc] at h1
    exact⟨_,itR h1⟩
   ·rw[y8 hc] at h1
    obtain⟨o,ho⟩:=(z4w hl n (i+1) (i64.wrap (i64.wrap (10 * acc)+i64.wrap (IntKind.u8.wrap (((l.getD i 0).toNat:Int)-48)))) om).1
    exact⟨o,itC h1 ho⟩
  ·rw[ed] at hd hk
   have hb:=hd _ (y1h ..)
   rw[y8 (by simp only[yj,ya]; omega)] at h1
   have h15:m<10 ^ 15:=y11 hm (Nat.pow_le_pow_right om om)
   refine itC h1 ((z4w hl n (i+1) _ om).2 (m * 10+((l.getD i 0).toNat-48)) k ?_ ?_ (fun b hb=>hd b (y17 _ hb)) ?_)
   ·rw[ha]
    exact znc hb om
   ·rw[y3i]; omega
   ·simp only[Lib.decFrom,Lib.digitVal] at hk
    rw[y9 hb] at hk
    exact hk
theorem zje (l:Y8):∃ x,F_q8 l=some x:=by
 simp only[F_q8,S_q8,Scr.den,zi,zf]
 rw[z8 ⟨fun k=>by have:=k.1; simp at this; omega,trivial⟩]
 by_cases h:(decide ((l.length:Int)<1)||decide ((l.length:Int)>15)||(decide ((l.length:Int)>1)&&((l.getD 0 0).toNat:Int)==48))=true
 ·rw[y9 h]; exact⟨_,rfl⟩
 ·rw[y8 h]
  have hl:l.length<=15:=by
   simp only[yj,ya] at h
   omega
  obtain⟨o,ho⟩:=(z4w hl l.length 0 0 om).1
  have ho:iterM (fun s=>(S_q8_b1 l s).den) ((0:Int),(0:Int))=some o:=ho
  rw[ho]
  cases o with
  | next s=>exact⟨_,rfl⟩
  | ret r=>exact⟨_,rfl⟩
theorem zjf {l:Y8} (h1:1<=l.length) (h2:l.length<=15) (hh:1<l.length->(l.getD 0 0).toNat≠48) (hd:∀ b∈l,48<=b.toNat/\b.toNat<=57) {n:Nat} (hn:Lib.decFrom 0 l=some n):F_q8 l=some ((n:Int),true):=by
 simp only[F_q8,S_q8,Scr.den,zi,zf]
 rw[z8 ⟨fun k=>om,trivial⟩,y8 (by
  simp only[yj,ya,yg,y1a]
  intro k
  rcases k with (k | k) | k
  ·omega
  ·omega
  ·exact hh om (by have:=k.2; omega))]
 have ho:iterM (fun s=>(S_q8_b1 l s).den) ((0:Int),(0:Int))=some (.next ((n:Int),(l.length:Int))):=(z4w h2 l.length 0 0 om).2 0 n rfl dk hd hn
 rw[ho]
 rfl
theorem zh2 {x:Y8} {ws:List Y8} (hx:x.length<=50000) (h0:1<=ws.length) (h1:ws.length<=100) (hw:∀ w∈ws,w.length<=100) (hs:TapeOk s):∃ y s',F_q2i x ws s=some (y,s')/\TapeOk s'/\y.length<=60000:=by
 simp only[F_q2i,S_q2i,Scr.den]
 rw[wrapId (n:=(x.length:Int)+1) om om]
 obtain⟨k,s1,e1,q1,k0,k1⟩:=zw (n:=(x.length:Int)+1) hs om om
 obtain⟨c,s2,e2,q2,c0,c1⟩:=zw (n:=(ws.length:Int)) q1 om om
 obtain⟨d,s3,e3,q3,d0,d1⟩:=zw (n:=3) q2 om om
 simp only[e1,e2,e3,obind]
 have hwc:=hw _ (zk (l:=ws) (i:=c.toNat) om)
 rw[z8 ⟨c0,om,trivial⟩,wrapId (n:=k+d) om om]
 obtain⟨m,hm⟩:∃ m:Int,m=(if k+d<(x.length:Int) then k+d else (x.length:Int)):=⟨_,rfl⟩
 have hm2:0<=m/\m<=x.length:=by rw[hm]; split <;> omega
 rw[<- hm,z8 ⟨k0,om,by rw[y1m]; omega,hm2.1,om,by simp only[ye,y1m,y2a]; omega,trivial⟩]
 exact⟨_,_,rfl,q3,by simp only[ye,y1m,y2a]; omega⟩
theorem zcb {t:Y8} (hl:t.length<=100000):∀ (n:Nat) (out:List Y8) (b i:Nat),i+n=t.length->b<=i->out.length<=20->(32:UInt8) ∉ (t.drop b).take (i-b) ->
  ∃ o x y,iterM (fun s=>(S_q4_b1 t s).den) (out,(b:Int),(i:Int))=some (.next (o,x,y))/\(o=out++splitU 32 (t.drop b)\/(o.length=20/\20<=(out++splitU 32 (t.drop b)).length))
 | 0,out,b,i,h,hb,ho,hm=>by
  have e:i=t.length:=om
  subst e
  by_cases h20:out.length<20
  ·have ew:i64.wrap ((t.length:Int)+1)=(t.length:Int)+1:=wrapId om om
   have et:(t.drop b).take (t.length-b)=t.drop b:=y2f (by rw[y2a]; omega)
   rw[et] at hm
   have h1:(S_q4_b1 t (out,(b:Int),(t.length:Int))).den=some (.cont (out++[t.drop b],(t.length:Int)+1,(t.length:Int)+1)):=by
    simp only[S_q4_b1,Scr.den,zf,zi]
    rw[y9 (by simp only[yg,ya]; omega),z8 ⟨fun k=>absurd k.1 sj,fun k=>absurd k.1 sj,trivial⟩,y9 sj,z8 ⟨om,om,om,om,om,trivial⟩,ew]
    simp only[yh,et]
   have h2:(S_q4_b1 t (out++[t.drop b],(t.length:Int)+1,(t.length:Int)+1)).den=some (.brk (out++[t.drop b],(t.length:Int)+1,(t.length:Int)+1)):=by
    simp only[S_q4_b1,Scr.den,zf,zi]
    rw[y8 (by simp only[yg,ya]; omega)]
   refine⟨_,_,_,itC h1 (itB h2),.inl ?_⟩
   rw[z6l hm]
  ·have h2:(S_q4_b1 t (out,(b:Int),(t.length:Int))).den=some (.brk (out,(b:Int),(t.length:Int))):=by
    simp only[S_q4_b1,Scr.den,zf,zi]
    rw[y8 (by simp only[yg,ya]; omega)]
   exact⟨_,_,_,itB h2,.inr ⟨om,by rw[ye]; omega⟩⟩
 | n+1,out,b,i,h,hb,ho,hm=>by
  have hi:i<t.length:=om
  have ew:i64.wrap ((i:Int)+1)=((i+1:Nat):Int):=wrapId om om
  have hne:((i:Int)==(t.length:Int))=false:=by rw[y2u]; omega
  by_cases h20:out.length<20
  ·by_cases hc:t.getD i 0=32
   ·have h1:(S_q4_b1 t (out,(b:Int),(i:Int))).den=some (.cont (out++[(t.drop b).take (i-b)],((i+1:Nat):Int),((i+1:Nat):Int))):=by
     simp only[S_q4_b1,Scr.den,zf,zi]
     rw[y9 (by simp only[yg,ya]; omega),z8 ⟨fun _=>om,fun _=>om,trivial⟩,hne]
     simp only[y48,yh,ew]
     rw[y9 ((zi2 (c:=32) (z:=32) rfl).2 hc),z8 ⟨om,om,om,om,om,trivial⟩]
    obtain⟨o,x,y,e,hr⟩:=zcb hl n (out++[(t.drop b).take (i-b)]) (i+1) (i+1) om (yf _) sk sj
    refine⟨o,x,y,itC h1 e,?_⟩
    rw[zoy hb hi,hc,z7f _ hm]
    simpa using hr
   ·have h1:(S_q4_b1 t (out,(b:Int),(i:Int))).den=some (.cont (out,(b:Int),((i+1:Nat):Int))):=by
     simp only[S_q4_b1,Scr.den,zf,zi]
     rw[y9 (by simp only[yg,ya]; omega),z8 ⟨fun _=>om,fun _=>om,trivial⟩,hne]
     simp only[y48,yh,ew]
     rw[y8 (fun k=>hc ((zi2 (c:=32) (z:=32) rfl).1 k))]
    obtain⟨o,x,y,e,hr⟩:=zcb hl n out b (i+1) om om ho (by
     rw[zoz hb hi,y1b,y1z]
     exact fun k=>k.elim hm fun k=>hc k.symm)
    exact⟨o,x,y,itC h1 e,hr⟩
  ·have h2:(S_q4_b1 t (out,(b:Int),(i:Int))).den=some (.brk (out,(b:Int),(i:Int))):=by
    simp only[S_q4_b1,Scr.den,zf,zi]
    rw[y8 (by simp only[yg,ya]; omega)]
   exact⟨_,_,_,itB h2,.inr ⟨om,by rw[ye]; omega⟩⟩
theorem zln (hl:t.length<=100000):∃ o x y,iterM (fun s=>(S_q4_b1 t s).den) (([]:List Y8),(0:Int),(0:Int))=some (.next (o,x,y))/\(o=splitU 32 t\/(o.length=20/\20<=(splitU 32 t).length)):=by
 obtain⟨o,x,y,e,hr⟩:=zcb hl t.length [] 0 0 om (yf _) sj sj
 exact⟨o,x,y,e,by simpa using hr⟩
def uhV (c:UInt8):Nat:=if 48<=c.toNat/\c.toNat<=57 then c.toNat-48 else if 97<=c.toNat/\c.toNat<=102 then c.toNat-87 else 0
theorem zfz (c:UInt8):uhV c<16:=by unfold uhV; split <;> (try split) <;> omega
def uS (n k:Nat):Nat:=(n * 16 % 18446744073709551616) ||| k
theorem zjg {n:Nat} (hk:k<16):uS n k<18446744073709551616:=Nat.or_lt_two_pow (n:=64) (y37 _ dk) om
theorem zp0 {n:Nat} (hn:n<18446744073709551616) (hk:k<16):(IntKind.u64.wrap ((BitVec.ofInt IntKind.u64.bits (IntKind.u64.wrap ((n:Int) * 2 ^ (min (4:Int).toNat IntKind.u64.bits))) ||| BitVec.ofInt IntKind.u64.bits (k:Int)).toNat:Int))=(uS n k:Int):=by
 have e1:IntKind.u64.wrap ((n:Int) * 2 ^ (min (4:Int).toNat IntKind.u64.bits))=((n * 16 % 18446744073709551616:Nat):Int):=by
  rw[show ((2:Int) ^ (min (4:Int).toNat IntKind.u64.bits))=16 from dk,y2b]
  omega
 have hl:=zjg (n:=n) hk
 rw[e1]
 show IntKind.u64.wrap (((BitVec.ofInt 64 ((n * 16 % 18446744073709551616:Nat):Int) ||| BitVec.ofInt 64 ((k:Nat):Int)).toNat:Nat):Int)=_
 rw[y3e,y3e,BitVec.toNat_or,y4h,y4h,y2m (show n * 16 % 18446744073709551616<2 ^ 64 from y37 _ dk),y2m (show k<2 ^ 64 from om),y2b]
 show (uS n k:Int) % _=_
 omega
def unhexN (l:Y8) (n:Nat):Nat:=l.foldl (fun n c=>uS n (uhV c)) n
theorem zjh {l:Y8} (hl:l.length<=100000) {n:Nat} (hi:i<l.length) (hn:n<18446744073709551616):(S_qq_b1 l ((n:Int),(i:Int))).den=some (.cont ((uS n (uhV (l.getD i 0)):Int),((i+1:Nat):Int))):=by
 have hk:=zfz (l.getD i 0)
 have ew:i64.wrap ((i:Int)+1)=((i+1:Nat):Int):=wrapId om om
 have hc:=(l.getD i 0).toNat_lt
 simp only[S_qq_b1,Scr.den,zf]
 rw[y9 (y15 om),yh,z8 ⟨om,hi,fun _=>om,fun _=>hi,trivial⟩]
 have fin:∀ z:Int,z=(uhV (l.getD i 0):Int)->(IntKind.u64.wrap ((BitVec.ofInt IntKind.u64.bits (IntKind.u64.wrap ((n:Int) * 2 ^ (min (4:Int).toNat IntKind.u64.bits))) ||| BitVec.ofInt IntKind.u64.bits z).toNat:Int))=(uS n (uhV (l.getD i 0)):Int):=fun z hz=>by rw[hz]; exact zp0 hn hk
 unfold uhV at fin |-
 generalize (l.getD i 0).toNat=c at *
 by_cases h1:48<=c/\c<=57
 ·rw[y9 (by simp only[yg,ya]; omega)]
  simp only[outM]
  rw[fin _ (by
   rw[y9 h1,show IntKind.u8.wrap ((c:Int)-48)=(c:Int)-48 by show ((c:Int)-48) % 256=_; omega,y2b]
   omega),ew]
 ·rw[y8 (by simp only[yg,ya]; omega),z8 ⟨fun _=>om,fun _=>hi,trivial⟩]
  by_cases h2:97<=c/\c<=102
  ·rw[y9 (by simp only[yg,ya]; omega)]
   simp only[outM]
   rw[fin _ (by
    rw[y8 h1,y9 h2,show IntKind.u8.wrap ((c:Int)-97)=(c:Int)-97 by show ((c:Int)-97) % 256=_; omega,y2b,y2b]
    omega),ew]
  ·rw[y8 (by simp only[yg,ya]; omega)]
   simp only[outM]
   rw[fin _ (by rw[y8 h1,y8 h2]; rfl),ew]
theorem zbg {l:Y8} (hl:l.length<=100000):∀ (k i n:Nat),i+k=l.length->n<18446744073709551616->iterM (fun s=>(S_qq_b1 l s).den) ((n:Int),(i:Int))=some (.next ((unhexN (l.drop i) n:Int),(l.length:Int)))
 | 0,i,n,h,hn=>by
  obtain rfl:i=l.length:=om
  rw[List.drop_length]
  exact itB (by
   simp only[S_qq_b1,Scr.den]
   rw[y8 (by rw[ya]; omega)]
   rfl)
 | k+1,i,n,h,hn=>by
  have hi:i<l.length:=om
  refine (itC (zjh hl hi hn) (zbg hl k (i+1) _ om (zjg (zfz _)))).trans ?_
  rw[y19 hi,yb,yc hi]
  rfl
theorem zdb:∀ (l:Y8) (n:Nat),n<18446744073709551616->unhexN l n<18446744073709551616
 | [],_,h=>h
 | c :: l,_,_=>zdb l _ (zjg (zfz c))
theorem z7p {l:Y8} (hl:l.length<=100000):F_qq l=some (unhexN l 0:Int):=by
 have h:iterM (fun s=>(S_qq_b1 l s).den) ((0:Int),(0:Int))=some (.next ((unhexN l 0:Int),(l.length:Int))):=zbg hl l.length 0 0 om dk
 simp only[F_qq,S_qq,Scr.den]
 rw[h]
 rfl
theorem zq3:∀ d,d<16->uhV (dg d)=d:=dk
theorem zq4 {n:Nat} (hn:n<1152921504606846976) (hk:k<16):uS n k=n * 16+k:=by
 unfold uS
 rw[y2m om,y23 n 16]
 exact (Nat.two_pow_add_eq_or_of_lt (i:=4) hk n).symm
theorem zg0 (n:Nat):∀ (k acc:Nat),acc * 16 ^ k+n % 16 ^ k<18446744073709551616->unhexN (Hk n k) acc=acc * 16 ^ k+n % 16 ^ k
 | 0,acc,_=>by simp[Hk,unhexN,Nat.mod_one]
 | k+1,acc,h=>by
  have hm:=Nat.mod_pow_succ (b:=16) (k:=k) (x:=n)
  have hp:0<16 ^ k:=Nat.pow_pos dk
  have hd:n / 16 ^ k % 16<16:=y37 _ dk
  have e:(acc * 16+n / 16 ^ k % 16) * 16 ^ k+n % 16 ^ k=acc * 16 ^ (k+1)+n % 16 ^ (k+1):=by
   rw[hm,y3i,y1s,Nat.mul_assoc,y23 16 (16 ^ k),y23 (n / 16 ^ k % 16)]
   omega
  have ha:acc<1152921504606846976:=by
   rcases yp acc 1152921504606846976 with h1 | h1
   ·exact h1
   ·have h2:1152921504606846976 * (16 ^ k * 16)<=acc * (16 ^ k * 16):=ym _ h1
    rw[y3i] at h
    omega
  rw[zc8]
  show unhexN (Hk n k) (uS acc (uhV (dg (n / 16 ^ k % 16))))=_
  rw[zq3 _ hd,zq4 ha hd,zg0 n k _ om,e]
theorem zdc (h:z12 n):F_qq (z1e n)=some n:=by
 have hn:n.toNat<16 ^ 16:=by have:=h.2; have:=h.1; omega
 rw[z7p (by rw[z1h]; decide)]
 unfold z1e
 rw[zg0 n.toNat 16 0 (by rw[y3q,y2m hn]; omega),y3q,y2m hn,y14,y2c h.1]
theorem z1n (h0:0<=n) (h1:n<1000000000000000):F_q8 (Lib.itoa n)=some (n,true):=by
 rw[z7n h0]
 have hl:=zhw 14 n.toNat om
 have hp:=List.length_pos_iff.2 (zfs n.toNat)
 rw[zjf (n:=n.toNat) hp hl (fun h=>zn6 _ (by
  rcases yp n.toNat 10 with g | g
  ·rw[zal g] at h; omega
  ·exact g)) (fun b hb=>zc7 _ b hb) (z9z _),y2c h0]
def Read (t:Y8) (x:TWa×Int):Prop:=x=(zW,4)\/((WPl x.1/\z12 x.1.V/\z12 x.1.U)/\textV x.1=t/\x.2=0)
theorem za0 (h:WPl w):(textV w).length<=300:=by
 have hc:=h.len
 obtain⟨⟨a1,a2,a3,a4,a5,a6⟩,b,c,d,e,f,g⟩:=h
 unfold numP at a1 a2 a3 a4 a5 a6
 unfold dayP at f g
 unfold textV bytesV headV zq
 simp only[y2o,List.map_nil,y21,y1y,Lib.join_cons]
 rw[show (Lib.itoa w.D :: Lib.itoa w.O :: w.J :: Lib.itoa w.K :: Lib.itoa w.H :: Lib.itoa w.I :: Lib.itoa w.E :: Lib.itoa w.Q :: Lib.itoa w.L :: Lib.itoa w.S :: Lib.itoa w.N :: Lib.itoa w.X :: ([]:List Y8))=[Lib.itoa w.D,Lib.itoa w.O]++([w.J]++[Lib.itoa w.K,Lib.itoa w.H,Lib.itoa w.I,Lib.itoa w.E,Lib.itoa w.Q,Lib.itoa w.L,Lib.itoa w.S,Lib.itoa w.N,Lib.itoa w.X]) from rfl,z3a,z3a,z4b]
 have k1:=z4a (B:=16) (s:=[32]) (l:=[Lib.itoa w.D,Lib.itoa w.O]) (fun x hx=>by
  simp only[yu,y1n,y3c] at hx
  rcases hx with rfl | rfl <;> exact z5b om om)
 have k2:=z4a (B:=16) (s:=[32]) (l:=[Lib.itoa w.K,Lib.itoa w.H,Lib.itoa w.I,Lib.itoa w.E,Lib.itoa w.Q,Lib.itoa w.L,Lib.itoa w.S,Lib.itoa w.N,Lib.itoa w.X]) (fun x hx=>by
  simp only[yu,y1n,y3c] at hx
  rcases hx with rfl | rfl | rfl | rfl | rfl | rfl | rfl | rfl | rfl <;> exact z5b om om)
 simp only[yd,yl] at k1 k2
 simp only[ye,z1h,yd,yl]
 omega
theorem zbh:∀ (l:Y8) (acc n:Nat),acc<18446744073709551616->zu acc l = .ok n->n<18446744073709551616
 | [],acc,n,h,e=>by
  simp only[zu] at e
  cases e
  exact h
 | c :: l,acc,n,h,e=>by
  simp only[zu] at e
  cases hv:hexV c with
  | none=>rw[hv] at e; cases e
  | some d =>
   rw[hv] at e
   simp only at e
   by_cases g:1152921504606846976<=acc
   ·rw[y9 g] at e; cases e
   ·rw[y8 g] at e
    have hd:d<16:=by
     unfold hexV at hv
     split at hv
     ·cases hv; omega
     ·split at hv
      ·cases hv; omega
      ·cases hv
    exact zbh l _ n om e
theorem z7q (l:Y8):z12 (endU (z2q l)).1:=by
 unfold z2q
 by_cases h:l=[]
 ·rw[y9 h]
  exact⟨dk,dk⟩
 ·rw[y8 h]
  cases e:zu 0 l with
  | ok n =>
   have:=zbh l 0 n dk e
   show 0<=(n:Int)/\(n:Int)<18446744073709551616
   omega
  | bad=>exact⟨dk,dk⟩
  | over=>exact⟨dk,dk⟩
theorem zp1 {l:List Y8} (h:l.length=15):∃ a b c d e f g i j k m n o p q,l=[a,b,c,d,e,f,g,i,j,k,m,n,o,p,q]:=by
 match l,h with
 | [a,b,c,d,e,f,g,i,j,k,m,n,o,p,q],_=>exact⟨a,b,c,d,e,f,g,i,j,k,m,n,o,p,q,rfl⟩
theorem z2i {l:Y8} (h:l.length<=1000000):F_q27 l=some (atoiF l):=z8 om
theorem zlo {l:Y8} (h:l.length<=1000000):F_q45 l 16 64=some (endU (z2q l)):=z8 ⟨rfl,rfl,om⟩
theorem znd (h1:z12 w.V) (h2:z12 w.U) (ht:t≠[]) (e:txtG w=t):Read t (w,0):=by
 unfold txtG at e
 by_cases h:WPl w
 ·rw[y9 h] at e
  exact .inr ⟨⟨h,h1,h2⟩,e,rfl⟩
 ·rw[y8 h] at e
  exact absurd e.symm ht
theorem zlp (hl:t.length<=100000):∃ x,F_q1u t=some x/\Read t x:=by
 have hS:F_q44 t [32]=some (splitU 32 t):=by
  unfold F_q44
  exact z8 om
 have hw:=z4l 32 t
 have hlen:=zim 32 t
 have hne:t=[]->(splitU 32 t).length=1:=fun h=>by subst h; rfl
 simp only[F_q1u,S_q1u,Scr.den,hS,obind]
 rw[Ga]
 by_cases h15:(splitU 32 t).length=15
 ·rw[y8 (by rw[h15]; decide)]
  have ht:t≠[]:=fun h=>by have:=hne h; omega
  generalize splitU 32 t=l at *
  obtain⟨a,b,c,d,e,f,g,i,j,k,m,n,o,p,q,rfl⟩:=zp1 h15
  have hx:∀ x∈[a,b,c,d,e,f,g,i,j,k,m,n,o,p,q],x.length<=1000000:=fun x hx=>by have:=hw x hx; omega
  simp only[List.forall_mem_cons] at hx
  obtain⟨x0,x1,x2,x3,x4,x5,x6,x7,x8,x9,x10,x11,x12,x13,x14,_⟩:=hx
  simp only[yd,yl,y3g,y2v,z2i x1,z2i x2,z2i x4,z2i x5,z2i x6,z2i x7,z2i x8,z2i x9,z2i x10,z2i x11,z2i x12,zlo x13,zlo x14,obind]
  iterate 14 (rw[z8 (show AllP [_] from ⟨dk,trivial⟩)])
  rw[zfy (by exact x3) (z7q _) (z7q _)]
  simp only[obind]
  by_cases he:txtG ⟨(atoiF b).1,(atoiF c).1,d,(atoiF e).1,(atoiF i).1,(atoiF j).1,(atoiF g).1,(atoiF f).1,(atoiF k).1,(atoiF m).1,(atoiF n).1,(atoiF o).1,(endU (z2q p)).1,(endU (z2q q)).1⟩=t
  ·rw[y8 (by simpa using he)]
   exact⟨_,rfl,znd (z7q _) (z7q _) ht he⟩
  ·rw[y9 (by simpa using he)]
   exact⟨_,rfl,.inl rfl⟩
 ·rw[y9 (by simp only[y1t]; omega)]
  exact⟨_,rfl,.inl rfl⟩
theorem zne {o:List Y8} {x y:Int} (h15:o.length=15):∃ f,rangeM (fun i s=>(S_q4_b2 (o,x,y) i s).den) o.length 0 (fun _=>(0:Int))=some (.next f)/\∀ j,j<15->∀ v,F_q8 (o.getD j dF)=some (v,true)->f j=v:=by
 obtain⟨f,e,h⟩:=z1t (body:=fun i s=>(S_q4_b2 (o,x,y) i s).den) (n:=o.length) (fun i (f:Nat->Int)=>∀ j,j<i->∀ v,F_q8 (o.getD j dF)=some (v,true)->f j=v) (s0:=fun _=>(0:Int)) (fun j hj=>om) (fun i f hi hI=>by
  obtain⟨⟨v,b⟩,hv⟩:=zje (o.getD i dF)
  simp only[S_q4_b2,Scr.den,y14]
  rw[z8 ⟨hi,trivial⟩,hv]
  simp only[obind]
  cases b with
  | true =>
   rw[y9 rfl,Ga]
   refine⟨_,rfl,fun j hj u hu=>?_⟩
   by_cases c:j=i
   ·subst c
    rw[hv] at hu
    cases hu
    exact y9 rfl
   ·show (if j=i then v else f j)=u
    rw[y8 c]
    exact hI j om u hu
  | false =>
   rw[y8 dk]
   refine⟨_,rfl,fun j hj u hu=>?_⟩
   by_cases c:j=i
   ·subst c
    rw[hv] at hu
    cases hu
   ·exact hI j om u hu)
 exact⟨f,e,fun j hj=>h j om⟩
theorem zcc (hl:t.length<=100000):(∃ x,F_q4 t=some x/\Read t x)/\∀ w,WPl w->z12 w.V->z12 w.U->textV w=t->F_q4 t=some (w,0):=by
 obtain⟨o,x,y,eo,ho⟩:=zln hl
 have hw:=z4l 32 t
 have hne:t=[]->(splitU 32 t).length=1:=fun h=>by subst h; rfl
 simp only[F_q4,S_q4,Scr.den,zi]
 rw[eo]
 simp only[outM]
 by_cases h15:o.length=15/\t.length<=300
 ·obtain⟨h15,h3⟩:=h15
  have hos:o=splitU 32 t:=by
   rcases ho with h | ⟨h,_⟩
   ·exact h
   ·omega
  have ht:t≠[]:=fun h=>by have:=hne h; rw[<- hos] at this; omega
  rw[y8 (by simp only[h15,yj,y1t,ya]; omega),Ga]
  obtain⟨f,ef,hf⟩:=zne (o:=o) (x:=x) (y:=y) h15
  rw[ef]
  simp only[outM]
  have hle:∀ k,k<15->(o.getD k dF).length<=100000:=fun k hk=>by
   have:=hw _ (by rw[<- hos]; exact zk (l:=o) (i:=k) om)
   omega
  rw[z7p (hle (0+13) om),z7p (hle (0+14) om)]
  simp only[obind]
  rw[z8 ⟨om,om,om,om,om,om,trivial⟩]
  have hu:∀ l,z12 (unhexN l 0:Int):=fun l=>by
   have:=zdb l 0 dk
   exact⟨om,om⟩
  have key:∀ z:TWa,z.J.length<=1000000->z12 z.V->z12 z.U ->
    ((F_q6 z).bind fun r=>(optD [(!r)=false] (F_q18 z) dF).bind fun r2=>if (!r||!(r2==t))=true then some (zW,(4:Int)) else some (z,0))=some (if WPl z/\textV z=t then (z,0) else (zW,4)):=fun z hc h1 h2=>by
   rw[z1g hc]
   simp only[obind]
   by_cases hp:WPl z
   ·rw[y15 hp,Gg,z5z hc h1 h2,show txtG z=textV z from y9 hp]
    simp only[obind]
    by_cases he:textV z=t
    ·rw[y8 (by simp[he]),y9 ⟨hp,he⟩]
    ·rw[y9 (by simp[he]),y8 (fun k=>he k.2)]
   ·rw[y10 hp,Gh]
    simp only[obind]
    rw[y9 sj,y8 (fun k=>hp k.1)]
  have kz:=key ⟨f 1,f 2,o.getD (0+3) dF,f 4,f 7,f 8,f 6,f 5,f 9,f 10,f 11,f 12,(unhexN (o.getD (0+13) dF) 0:Int),(unhexN (o.getD (0+14) dF) 0:Int)⟩ (by have:=hle (0+3) om; show (o.getD (0+3) dF).length<=_; omega) (hu _) (hu _)
  refine⟨⟨_,kz,?_⟩,fun w pw u1 u2 et=>kz.trans ?_⟩
  ·by_cases c:WPl ⟨f 1,f 2,o.getD (0+3) dF,f 4,f 7,f 8,f 6,f 5,f 9,f 10,f 11,f 12,(unhexN (o.getD (0+13) dF) 0:Int),(unhexN (o.getD (0+14) dF) 0:Int)⟩/\textV ⟨f 1,f 2,o.getD (0+3) dF,f 4,f 7,f 8,f 6,f 5,f 9,f 10,f 11,f 12,(unhexN (o.getD (0+13) dF) 0:Int),(unhexN (o.getD (0+14) dF) 0:Int)⟩=t
   ·rw[y9 c]
    exact .inr ⟨⟨c.1,hu _,hu _⟩,c.2,rfl⟩
   ·rw[y8 c]
    exact .inl rfl
  ·have hs:=z7o pw
   rw[et,<- hos] at hs
   subst hs
   have hp:=pw
   obtain⟨⟨a1,a2,a3,a4,a5,a6⟩,b,c,d,e,g,k⟩:=hp
   unfold numP at a1 a2 a3 a4 a5 a6
   unfold dayP at g k
   have x1:=zdc u1
   have x2:=zdc u2
   rw[z7p (by rw[z1h]; decide)] at x1 x2
   have ew:(⟨f 1,f 2,w.J,f 4,f 7,f 8,f 6,f 5,f 9,f 10,f 11,f 12,(unhexN (z1e w.V) 0:Int),(unhexN (z1e w.U) 0:Int)⟩:TWa)=w:=by
    rw[yn x1,yn x2,hf 1 dk w.D (z1n om om),hf 2 dk w.O (z1n om om),hf 4 dk w.K (z1n om om),hf 5 dk w.H (z1n om om),hf 6 dk w.I (z1n om om),hf 7 dk w.E (z1n om om),hf 8 dk w.Q (z1n om om),hf 9 dk w.L (z1n om om),hf 10 dk w.S (z1n om om),hf 11 dk w.N (z1n om om),hf 12 dk w.X (z1n om om)]
   show some (if WPl ⟨f 1,f 2,w.J,f 4,f 7,f 8,f 6,f 5,f 9,f 10,f 11,f 12,(unhexN (z1e w.V) 0:Int),(unhexN (z1e w.U) 0:Int)⟩/\textV ⟨f 1,f 2,w.J,f 4,f 7,f 8,f 6,f 5,f 9,f 10,f 11,f 12,(unhexN (z1e w.V) 0:Int),(unhexN (z1e w.U) 0:Int)⟩=t then (⟨f 1,f 2,w.J,f 4,f 7,f 8,f 6,f 5,f 9,f 10,f 11,f 12,(unhexN (z1e w.V) 0:Int),(unhexN (z1e w.U) 0:Int)⟩,0) else (zW,4))=some (w,0)
   rw[ew,y9 ⟨pw,et⟩]
 ·rw[y9 (by
   simp only[yj,y1t,ya]
   by_cases c:o.length=15
   ·exact .inr om
   ·exact .inl om)]
  refine⟨⟨_,rfl,.inl rfl⟩,fun w pw u1 u2 et=>?_⟩
  exfalso
  have hs:=z7o pw
  have hsh:=za0 pw
  rw[et] at hs hsh
  refine h15 ⟨?_,hsh⟩
  rcases ho with h | ⟨_,h⟩
  ·rw[h,hs]; rfl
  ·rw[hs] at h
   simp at h
theorem zji (hl:t.length<=100000):∃ x,F_q1u t=some x/\F_q4 t=some x:=by
 obtain⟨x,e1,h1⟩:=zlp hl
 obtain⟨⟨y,e2,h2⟩,h3⟩:=zcc hl
 rcases h1 with rfl | ⟨⟨p1,p2,p3⟩,p4,p5⟩
 ·rcases h2 with rfl | ⟨⟨p1,p2,p3⟩,p4,p5⟩
  ·exact⟨_,e1,e2⟩
  ·have e3:=zjd p1 p2 p3
   rw[p4,e1] at e3
   have h4:(4:Int)=0:=y29 Prod.snd (yn e3)
   omega
 ·refine⟨x,e1,?_⟩
  rw[h3 x.1 p1 p2 p3 p4,<- p5]
theorem zg1 (n:Int):z12 (IntKind.u64.wrap n):=by
 rw[y2b]
 exact⟨om,om⟩
def WC (w:TWa):Prop:=w.J.length<=1000/\z12 w.V/\z12 w.U
theorem zjj {b:Bool} (h:WPl w) (h1:z12 w.V) (h2:z12 w.U) (h0:(signV keys w b).2=0):WPl (signV keys w b).1/\(signV keys w b).1.D=w.D/\z12 (signV keys w b).1.V/\z12 (signV keys w b).1.U:=by
 unfold signV at h0 |-
 rw[y8 (fun g=>g h)] at h0 |-
 by_cases c1:b=false/\2 * (w.O-1)<(keys.length:Int)
 ·rw[y9 c1]
  refine⟨zgz h _,rfl,?_,h2⟩
  rw[z6o]
  unfold sigV
  exact zfv _
 ·rw[y8 c1] at h0 |-
  by_cases c2:(keys.length:Int)<=2 * (w.O-1)+1
  ·rw[y9 c2] at h0
   exact absurd h0 dk
  ·rw[y8 c2] at h0 |-
   by_cases c3:w.V≠sigV (keys.getD (2 * (w.O-1)).toNat dF) w
   ·rw[y9 c3] at h0
    exact absurd h0 (show ¬ (18:Int)=0 from dk)
   ·rw[y8 c3]
    refine⟨zh0 h _,rfl,h1,?_⟩
    simp only[zfp]
    unfold sigV
    exact zfv _
theorem znf {x:Option (Out (TTape×TWa) R_q16)} (h:∃ t w,x=some (.next (t,w))/\TapeOk t/\WC w):∃ w s,outM x (fun sv3=>some (sv3.2,sv3.1)) some=some (w,s)/\TapeOk s/\WC w:=by
 obtain⟨t,w,rfl,h1,h2⟩:=h
 exact⟨w,t,rfl,h1,h2⟩
theorem z55 (hw:WC w) (hs:TapeOk s):∃ x s',F_q16 w s=some (x,s')/\TapeOk s'/\WC x:=by
 obtain⟨a1,s1,e1,t1,_⟩:=zp (l:=[(-1),0,1,2,1000001]) hs sj sj
 obtain⟨n,s2,e2,t2,n0,n1⟩:=zw (n:=12) t1 om om
 simp only[F_q16,S_q16,Scr.den,e1,e2,obind]
 refine znf ?_
 by_cases k0:(n==0)=true
 ·rw[y9 k0]; exact⟨_,_,rfl,t2,hw⟩
 rw[y8 k0]
 by_cases k1:(n==1)=true
 ·obtain⟨a2,s3,e3,t3,_⟩:=zp (l:=[0,1,2,7]) t2 sj sj
  rw[y9 k1,e3]; exact⟨_,_,rfl,t3,hw⟩
 rw[y8 k1]
 by_cases k2:(n==2)=true
 ·obtain⟨c,s3,e3,t3,hc⟩:=z49 t2
  rw[y9 k2,e3]; exact⟨_,_,rfl,t3,hc,hw.2⟩
 rw[y8 k2]
 by_cases k3:(n==3)=true
 ·obtain⟨a2,s3,e3,t3,_⟩:=zp (l:=[(-1),13,100]) t2 sj sj
  rw[y9 k3,e3]; exact⟨_,_,rfl,t3,hw⟩
 rw[y8 k3]
 by_cases k4:(n==4)=true
 ·rw[y9 k4]; exact⟨_,_,rfl,t2,hw⟩
 rw[y8 k4]
 by_cases k5:(n==5)=true
 ·rw[y9 k5]; exact⟨_,_,rfl,t2,hw⟩
 rw[y8 k5]
 by_cases k6:(n==6)=true
 ·obtain⟨a2,s3,e3,t3,_⟩:=zp (l:=[1,(-1),1000000000000]) t2 sj sj
  rw[y9 k6,e3]; exact⟨_,_,rfl,t3,hw⟩
 rw[y8 k6]
 by_cases k7:(n==7)=true
 ·rw[y9 k7]; exact⟨_,_,rfl,t2,hw⟩
 rw[y8 k7]
 by_cases k8:(n==8)=true
 ·obtain⟨a2,s3,e3,t3,_⟩:=zp (l:=[(-1),i64.wrap (w.N+1),35991]) t2 sj sj
  rw[y9 k8,e3]; exact⟨_,_,rfl,t3,hw⟩
 rw[y8 k8]
 by_cases k9:(n==9)=true
 ·rw[y9 k9]; exact⟨_,_,rfl,t2,hw⟩
 rw[y8 k9]
 by_cases k10:(n==10)=true
 ·rw[y9 k10]; exact⟨_,_,rfl,t2,hw.1,zg1 _,hw.2.2⟩
 rw[y8 k10]
 exact⟨_,_,rfl,t2,hw.1,hw.2.1,zg1 _⟩
theorem zdu (hs:TapeOk s):∃ w s',F_qb keys s=some (w,s')/\TapeOk s'/\(WPl w/\w.D<=60)/\z12 w.V/\z12 w.U:=by
 simp only[F_qb,S_qb,Scr.den]
 obtain⟨v1,s1,a1,b1,c1⟩:=zm (lo:=1) (hi:=60) hs om om om
 obtain⟨v2,s2,a2,b2,c2⟩:=zm (lo:=1) (hi:=3) b1 om om om
 obtain⟨v3,s3,a3,b3,c3,d3⟩:=z5r b2
 obtain⟨v4,s4,a4,b4,c4⟩:=zm (lo:=1) (hi:=5) b3 om om om
 obtain⟨v5,s5,a5,b5,c5⟩:=zm (lo:=1) (hi:=2) b4 om om om
 obtain⟨v6,s6,a6,b6,c6⟩:=zm (lo:=1) (hi:=4) b5 om om om
 obtain⟨v7,s7,a7,b7,c7⟩:=zm (lo:=1) (hi:=3) b6 om om om
 obtain⟨v8,s8,a8,b8,c8⟩:=zm (lo:=1) (hi:=500) b7 om om om
 obtain⟨v9,s9,a9,b9,c9⟩:=zm (lo:=1) (hi:=4) b8 om om om
 obtain⟨v10,s10,a10,b10,c10,d10⟩:=zw (n:=300) b9 om om
 obtain⟨v11,s11,a11,b11,c11,d11⟩:=zw (n:=400) b10 om om
 rw[a1]
 simp only[obind]
 rw[a2]
 simp only[obind]
 rw[a3]
 simp only[obind]
 rw[a4]
 simp only[obind]
 rw[a5]
 simp only[obind]
 rw[a6]
 simp only[obind]
 rw[a7]
 simp only[obind]
 rw[a8]
 simp only[obind]
 rw[a9]
 simp only[obind]
 rw[a10]
 simp only[obind]
 rw[a11]
 simp only[obind]
 rw[wrapId (n:=4320+v10) om om,wrapId (n:=4320+v11) om om]
 have hp0:WPl ⟨v1,v2,v3,12,v4,v5,v6,v7,v8,v9,4320+v10,4320+v11,0,0⟩:=by
  refine⟨⟨?_,?_,?_,?_,?_,?_⟩,?_,d3,by show (0:Int)<=12/\(12:Int)<=99; decide,?_,?_,?_⟩
  ·show 1<=v1/\v1<=_; omega
  ·show 1<=v7/\v7<=_; omega
  ·show 1<=v6/\v6<=_; omega
  ·show 1<=v4/\v4<=_; omega
  ·show 1<=v5/\v5<=_; omega
  ·show 1<=v9/\v9<=_; omega
  ·show 1<=v2/\v2<=6; omega
  ·show 1<=v8/\v8<=_; omega
  ·show 0<=4320+v10/\4320+v10<=35990; omega
  ·show 0<=4320+v11/\4320+v11<=35990; omega
 obtain⟨r,e,hJ⟩:=z15 (step:=fun s=>(S_qb_b1 keys s).den) (fun s:TWa×Int=>(2-s.2).toNat) (fun s=>(WPl s.1/\s.1.D<=60/\z12 s.1.V/\z12 s.1.U)/\0<=s.2/\s.2<=2) (fun s=>(WPl s.1/\s.1.D<=60)/\z12 s.1.V/\z12 s.1.U) (fun st hI=>by
  obtain⟨w,i⟩:=st
  obtain⟨⟨i1,i2,i5,i6⟩,i3,i4⟩:=hI
  simp only at i1 i2 i3 i4 i5 i6
  simp only[S_qb_b1,Scr.den]
  by_cases hc:i<2
  ·left
   have hcl:w.J.length<=1000000:=by have:=i1.len; omega
   rw[y9 (show decide (i<2)=true from y15 hc),z9y hcl]
   simp only[obind]
   rw[wrapId (n:=i+1) om om]
   by_cases h0:(signV keys w (i==1)).2=0
   ·rw[y9 (by simpa using h0)]
    obtain⟨p1,p2,p3,p4⟩:=zjj i1 i5 i6 h0
    exact⟨_,rfl,⟨⟨p1,by rw[p2]; exact i2,p3,p4⟩,by show 0<=i+1; omega,by show i+1<=2; omega⟩,by show (2-(i+1)).toNat<(2-i).toNat; omega⟩
   ·rw[y8 (by simpa using h0)]
    exact⟨_,rfl,⟨⟨i1,i2,i5,i6⟩,by show 0<=i+1; omega,by show i+1<=2; omega⟩,by show (2-(i+1)).toNat<(2-i).toNat; omega⟩
  ·right
   rw[y8 (show ¬ decide (i<2)=true by rw[ya]; exact hc)]
   exact⟨_,rfl,⟨i1,i2⟩,i5,i6⟩) _ (⟨v1,v2,v3,12,v4,v5,v6,v7,v8,v9,4320+v10,4320+v11,0,0⟩,0) (y1o _) ⟨⟨hp0,by show v1<=60; omega,(show z12 0 from ⟨dk,dk⟩),(show z12 0 from ⟨dk,dk⟩)⟩,sj,sj⟩
 rw[e]
 exact⟨_,_,rfl,b11,hJ.1,hJ.2⟩
theorem zcd (hs:TapeOk s):∃ l s',F_qz keys 8 s=some (l,s')/\TapeOk s'/\WL l/\l.length<=8:=by
 simp only[F_qz,S_qz,Scr.den]
 rw[wrapId (n:=(8:Int)+1) om om]
 obtain⟨k,s1,q1,q2,q3,q4⟩:=zw (n:=8+1) hs om om
 rw[q1]
 simp only[obind]
 obtain⟨r,e,hJ⟩:=z15 (step:=fun s=>(S_qz_b1 keys s).den) (fun s:TTape×List TWa×Int=>s.2.2.toNat) (fun s=>TapeOk s.1/\WL s.2.1/\(s.2.1.length:Int)+s.2.2<=8/\0<=s.2.2) (fun s=>TapeOk s.1/\WL s.2.1/\s.2.1.length<=8) (fun st hI=>by
  obtain⟨t,l,i⟩:=st
  obtain⟨i1,i2,i3,i4⟩:=hI
  simp only at i1 i2 i3 i4
  simp only[S_qz_b1,Scr.den]
  by_cases hc:0<i
  ·left
   obtain⟨w,t1,e1,e2,e3,e4⟩:=zfr (keys:=keys) i1
   rw[y9 (show decide (i>0)=true from y15 hc),e1]
   simp only[obind]
   rw[zbc om i2.1 (by have:=e3.len; omega)]
   simp only[obind]
   rw[wrapId (n:=i-1) om om]
   by_cases h0:(addV l w).2=0
   ·rw[y9 (by simpa using h0)]
    obtain⟨p1,p2,_⟩:=i2.add e4 h0
    exact⟨_,rfl,⟨e2,p1,by show ((addV l w).1.length:Int)+(i-1)<=8; omega,by show 0<=i-1; omega⟩,by show (i-1).toNat<i.toNat; omega⟩
   ·rw[y8 (by simpa using h0)]
    exact⟨_,rfl,⟨e2,i2,by show (l.length:Int)+(i-1)<=8; omega,by show 0<=i-1; omega⟩,by show (i-1).toNat<i.toNat; omega⟩
  ·right
   rw[y8 (show ¬ decide (i>0)=true by rw[ya]; exact hc)]
   exact⟨_,rfl,i1,i2,by show l.length<=8; omega⟩) _ (s1,[],k) (y1o _) ⟨q2,WL.nil,by show ((0:Nat):Int)+k<=8; omega,q3⟩
 rw[e]
 exact⟨_,_,rfl,hJ.1,hJ.2.1,hJ.2.2⟩
theorem z4r (hv:VO o):F_qd o=some true:=(z5t hv.smO).trans (y29 some (@decide_eq_true _ (_) hv))
theorem z60 (hv:VO o):F_qf o=some true:=(z4q hv.smO).trans (y29 some (@decide_eq_true _ (_) hv))
theorem zh3 (hv:VO o) (hi:i<o.M.G.length) (hn:numP n) :
  F_qv o ((i:Int)+1) n=some (if (o.M.G.getD i dF).Z=true then (zW,9) else (mkW o (o.M.G.getD i dF) n,0)):=by
 have ho:=ordF hv hi
 obtain⟨hR,hC,_,hV,_,_,l1,l2,l3,l4⟩:=hv.val
 simp only[F_qv,S_qv,Scr.den,z4r hv,z6w,obind,zi]
 have e1:i64.wrap ((i:Int)+1-1)=(i:Int):=by rw[wrapId om om]; omega
 rw[y8 dk,y8 (by simp only[yj,ya]; omega),e1,yh,z8 ⟨om,hi,trivial⟩]
 generalize o.M.G.getD i dF=x at ho
 obtain⟨_,o2,_⟩:=ho
 obtain⟨v1,v2,_⟩:=hV.at o2
 obtain⟨c1,c2,_⟩:=hC.at v2
 cases hx:x.Z with
 | true=>rw[y9 rfl,y9 rfl]; rfl
 | false =>
  rw[y8 (show ¬ false=true from dk),y8 (show ¬ false=true from dk),y15 hn,y8 (show ¬ (!true)=true from dk)]
  have w1:i64.wrap (x.E-1)=x.E-1:=wrapId om om
  rw[w1,Gb]
  have w2:i64.wrap ((o.M.C.getD (x.E-1).toNat dF).I-1)=(vAt o.M x.E).I-1:=wrapId (by show _<=(vAt o.M x.E).I-1; omega) (by show (vAt o.M x.E).I-1<_; omega)
  rw[w2,Gb]
  have w3:i64.wrap ((o.M.B.getD ((vAt o.M x.E).I-1).toNat dF).H-1)=(cAt o.M (vAt o.M x.E).I).H-1:=wrapId (by show _<=(cAt o.M (vAt o.M x.E).I).H-1; omega) (by show (cAt o.M (vAt o.M x.E).I).H-1<_; omega)
  rw[w3,Gb]
  rfl
theorem zng (hv:VO o) (hi:i<o.M.G.length) (hn:¬ numP n) :
  F_qn o ((i:Int)+1) n=some (if (o.M.G.getD i dF).Z=true then (zW,9) else (zW,2)):=by
 obtain⟨_,_,_,_,_,_,l1,l2,l3,l4⟩:=hv.val
 simp only[F_qn,S_qn,Scr.den,z60 hv,z5g,z5v,obind,zi]
 have e1:i64.wrap ((i:Int)+1-1)=(i:Int):=by rw[wrapId om om]; omega
 rw[y8 (show ¬ (!true)=true from dk),y8 (show ¬ (!decide (1<=(i:Int)+1/\(i:Int)+1<=(o.M.G.length:Int)))=true from sk),e1,yh,z8 ⟨om,hi,trivial⟩,y10 hn]
 cases hx:(o.M.G.getD i dF).Z with
 | true=>rfl
 | false=>rfl
variable {a:Int}
theorem znh (hv:VO o) (ha:¬ (1<=a/\a<=(o.M.G.length:Int))) (n:Int) :
  F_qn o a n=some (zW,6):=by
 simp only[F_qn,S_qn,Scr.den,z60 hv,z5g,z5v,obind,zi]
 rw[y8 (show ¬ (!true)=true from dk),y9 (show (!decide (1<=a/\a<=(o.M.G.length:Int)))=true by rw[y10 ha]; rfl)]
 rfl
theorem zg2 (hv:VO o) (hi:i<o.M.G.length) (hn:¬ numP n) :
  F_qv o ((i:Int)+1) n=some (if (o.M.G.getD i dF).Z=true then (zW,9) else (zW,2)):=by
 obtain⟨_,_,_,_,_,_,l1,l2,l3,l4⟩:=hv.val
 simp only[F_qv,S_qv,Scr.den,z4r hv,z6w,obind,zi]
 have e1:i64.wrap ((i:Int)+1-1)=(i:Int):=by rw[wrapId om om]; omega
 rw[y8 (show ¬ (!true)=true from dk),y8 (show ¬ (decide ((i:Int)+1<1)||decide ((i:Int)+1>(o.M.G.length:Int)))=true by simp only[yj,ya]; omega),e1,yh,z8 ⟨om,hi,trivial⟩,y10 hn]
 cases hx:(o.M.G.getD i dF).Z with
 | true=>rfl
 | false=>rfl
theorem zg3 (hv:VO o) (ha:¬ (1<=a/\a<=(o.M.G.length:Int))) (n:Int) :
  F_qv o a n=some (zW,6):=by
 simp only[F_qv,S_qv,Scr.den,z4r hv,z6w,obind,zi]
 rw[y8 (show ¬ (!true)=true from dk),y9 (show (decide (a<1)||decide (a>(o.M.G.length:Int)))=true by simp only[yj,ya]; omega)]
 rfl
theorem zlq (hs:SmO o) (a n:Int):∃ x,F_qn o a n=some x/\F_qv o a n=some x:=by
 by_cases hv:VO o
 ·by_cases ha:1<=a/\a<=(o.M.G.length:Int)
  ·obtain⟨i,rfl⟩:∃ i:Nat,a=(i:Int)+1:=⟨(a-1).toNat,om⟩
   have hi:i<o.M.G.length:=om
   by_cases hn:numP n
   ·exact⟨_,zhv hv hi hn,zh3 hv hi hn⟩
   ·exact⟨_,zng hv hi hn,zg2 hv hi hn⟩
  ·exact⟨_,znh hv ha n,zg3 hv ha n⟩
 ·have e1:=z4q hs
  have e2:=z5t hs
  rw[@decide_eq_false _ (_) hv] at e1 e2
  simp only[F_qn,S_qn,F_qv,S_qv,Scr.den,e1,e2,obind]
  exact⟨_,rfl,rfl⟩
open Classical in
noncomputable def bytG (w:TWa):Y8:=if WPl w then bytesV w else []
theorem zlr (hc:w.J.length<=1000000):F_qh w=some (bytG w):=by
 unfold bytG
 by_cases h:WPl w
 ·rw[y9 h]
  exact z7l h
 ·rw[y8 h]
  simp only[F_qh,S_qh,Scr.den,z39 hc,obind]
  rw[y9 (by rw[y10 h]; rfl)]
theorem zdv (hc:w.J.length<=1000000):F_q9 w=some (bytG w):=by
 unfold bytG
 by_cases h:WPl w
 ·rw[y9 h]
  exact z5x h
 ·rw[y8 h]
  simp only[F_q9,S_q9,Scr.den,z1g hc,obind]
  rw[y9 (by rw[y10 h]; rfl)]
theorem z6h {γ:Type} {s:σ} {f:σ->Option γ} {g:ρ->Option γ}:outM (.some (.next s):Option (Out σ ρ)) f g=f s:=rfl
variable {p:α->Prop}
theorem znp [Inhabited α] {a b c:α} (ha:p a) (hb:p b) (hc:p c) (hi:i<3):p (([a,b,c]:List α).getD i dF):=by
 have:i=0\/i=1\/i=2:=om
 rcases this with rfl | rfl | rfl
 ·exact ha
 ·exact hb
 ·exact hc
theorem zql [Inhabited α] {a b c:α} (ha:p a) (hb:p b) (hc:p c) (hd:p d) (hi:i<4):p (([a,b,c,d]:List α).getD i dF):=by
 have:i=0\/i=1\/i=2\/i=3:=om
 rcases this with rfl | rfl | rfl | rfl
 ·exact ha
 ·exact hb
 ·exact hc
 ·exact hd
variable {a1:TWa} {a3:List Int} {rv1:R_qr} {rv2:R_qb} {rv3 rv4:R_q16}
theorem zp2 (hx:(([rv2.1,rv3.1,rv4.1,a1]:List TWa).getD i dF).J.length<=1000000) :
  (S_q0_b1 a1 a3 rv1 rv2 rv3 rv4 i j ()).den=some (.cont ()):=by
 simp only[S_q0_b1,Scr.den]
 generalize ([rv2.1,rv3.1,rv4.1,a1]:List TWa).getD i dF=x at hx
 generalize ([rv1.1,a3]:List (List Int)).getD j dF=k
 simp only[z9b hx,z9y hx,zfn hx,zfw hx,obind,zi]
 simp[optD,AllP]
variable {a2:TOf} {a4 a5:Int} {a7:Y8}
theorem zp3 {a6:List TWa} {rv13:R_qz} (hx:WC (([rv2.1,rv3.1,rv4.1,a1]:List TWa).getD i dF)) (h13:rv13.1.length<=8) (h6:a6.length<=999) :
  (S_q0_b2 a1 a2 a3 a4 a5 a6 a7 rv1 rv2 rv3 rv13 rv4 i ()).den=some (.cont ()):=by
 obtain⟨hc,h1,h2⟩:=hx
 have hc':(([rv2.1,rv3.1,rv4.1,a1]:List TWa).getD i dF).J.length<=1000000:=om
 simp only[S_q0_b2,Scr.den]
 obtain⟨u,e8,_⟩:=z1t (body:=fun j s=>(S_q0_b1 a1 a3 rv1 rv2 rv3 rv4 i j s).den) (n:=2) (fun _ _=>True) (s0:=()) trivial (fun k u hk _=>⟨(),zp2 hc',trivial⟩)
 rw[e8]
 clear e8
 generalize ([rv2.1,rv3.1,rv4.1,a1]:List TWa).getD i dF=x at hc hc' h1 h2
 have l13:(rv13.1++([rv2.1]:List TWa)).length<=1000:=sk
 have l0:rv13.1.length<=1000:=om
 have l6:a6.length<=1000:=om
 have g1:AllP [rv13.1.length * (2 * 120)<=2 ^ 48,(rv13.1.length+1) * (2 * 120)<=2 ^ 48]:=⟨om,om,trivial⟩
 have g2:AllP [(rv13.1++([rv2.1]:List TWa)).length<2 ^ 63]:=⟨om,trivial⟩
 simp only[z39 hc',z1g hc',zlr hc',zdv hc',zfy hc' h1 h2,z5z hc' h1 h2,zd9,z9w,zca l13 hc',z6p l13 hc',zca l0 hc',z6p l0 hc',zca l6 hc',z6p l6 hc',zds,obind,z6h,zi,z8 g1,z8 g2]
 simp[optD,AllP]
theorem zp4 {rv33:R_qe} {rv34:R_q26} {rv36:R_q7} {rv37:R_q5} (hy:SmO (([rv33.1,rv34.1,a2]:List TOf).getD i dF)) :
  (S_q0_b3 a2 a4 a5 rv33 rv34 i rv36 rv37 j ()).den=some (.cont ()):=by
 simp only[S_q0_b3,Scr.den]
 generalize ([rv33.1,rv34.1,a2]:List TOf).getD i dF=o at hy
 generalize ([(fun j=>([a4,a5]:List Int).getD j dF),(fun j=>([rv36.1,rv37.1]:List Int).getD j dF),(fun j=>([1,5]:List Int).getD j dF)]:List (Nat->Int)).getD j dF=q
 obtain⟨x,e1,e2⟩:=zlq hy (q 0) (q 1)
 simp only[e1,e2,obind,zi]
 simp
theorem zp5 {rv42:R_q18} {rv43:R_q2i} (hl:(([rv42,rv43.1,a7]:List Y8).getD i dF).length<=100000) :
  (S_q0_b5 a7 rv42 rv43 i ()).den=some (.cont ()):=by
 simp only[S_q0_b5,Scr.den]
 generalize ([rv42,rv43.1,a7]:List Y8).getD i dF=t at hl
 obtain⟨x,e1,e2⟩:=zji hl
 simp only[e1,e2,z9a (l:=t) om,z9x (l:=t) om,obind,zi]
 simp[optD,AllP]
theorem z9h (a0:List Int) (a1:TWa) (a2:TOf) (a3:List Int) (a4 a5:Int) (a6:List TWa) (a7:Y8) (h1:z12 a1.V/\z12 a1.U) (h6:a6.length * 120<=reachBytes) :
  F_q0 a0 a1 a2 a3 a4 a5 a6 a7=some true:=by
 unfold reachBytes at h6
 obtain⟨C1,e1,g1⟩:=zam (l:=([a1]:List TWa)++a6) sk
 obtain⟨C2,e2,g2⟩:=zc9 a2
 simp only[F_q0,S_q0,Scr.den,e1,e2,zov,obind,zi]
 have hG:(([a1]:List TWa).length+a6.length) * (2 * 120)<=2 ^ 48:=sk
 cases C1
 ·rw[zi0 (by simp[AllP])]
  simp only[obind]
  rw[z8 ⟨hG,trivial⟩,y9 sj]
 rw[Gg]
 simp only[obind]
 rw[z8 ⟨hG,trivial⟩]
 by_cases hb:(((!true||!C2)||decide ((a3.length:Int)>30))||decide ((a7.length:Int)>1000))=true
 ·rw[y9 hb]
 rw[y8 hb]
 simp only[yj,ya,y4g] at hb
 obtain⟨⟨⟨_,hb2⟩,_⟩,hb4⟩:=hb
 have hC2:C2=true:=by cases C2 <;> simp at hb2 |-
 obtain⟨gc,gl⟩:=g1 rfl
 have hl6:a6.length<=999:=by
  rw[ye] at gl
  omega
 have hc1:WC a1:=⟨by have:=gc a1 sj; omega,h1⟩
 have hs2:=(g2 hC2).1
 obtain⟨s,q1,t1⟩:=zmv a0
 obtain⟨k,s2,q2,t2,k0,k1⟩:=zm (lo:=1) (hi:=3) t1 om om om
 obtain⟨keys,s3,q3,t3⟩:=zlg (n:=k) om om t2
 obtain⟨w,s4,q4,t4,⟨hw,_⟩,hw1,hw2⟩:=zdu (keys:=keys) t3
 have hwc:WC w:=⟨by have:=hw.len; omega,hw1,hw2⟩
 obtain⟨x,s5,q5,t5,hx⟩:=z55 hwc t4
 obtain⟨l,s6,q6,t6,_,hl⟩:=zcd (keys:=keys) t5
 obtain⟨y,s7,q7,t7,hy⟩:=z55 hx t6
 simp only[q1,q2,q3,q4,q5,q6,q7,obind]
 obtain⟨u,e8,_⟩:=z1t (body:=fun i s=>(S_q0_b2 a1 a2 a3 a4 a5 a6 a7 (keys,s3) (w,s4) (x,s5) (l,s6) (y,s7) i s).den) (n:=4) (fun _ _=>True) (s0:=()) trivial (fun i u hi _ =>
  ⟨(),zp3 (zql (p:=WC) hwc hx hy hc1 hi) hl hl6,trivial⟩)
 rw[e8]
 simp only[z6h]
 obtain⟨o,s8,q8,t8,ho⟩:=zgu (n:=16) om om t7
 have hv:=ho.1
 obtain⟨o',s9,q9,t9,ho'⟩:=zbe hv t8
 simp only[q8,q9,obind]
 obtain⟨s10,q10,t10⟩:=z1t (body:=fun i s=>(S_q0_b4 a2 a4 a5 (o,s8) (o',s9) i s).den) (n:=3) (fun _ s=>TapeOk s) (s0:=s9) t9 (fun i s hi hs=>by
  obtain⟨v,s',e,ht,_,_⟩:=zm (lo:=0) (hi:=4) hs om om om
  obtain⟨v2,s'',e2,ht2,_⟩:=zp (l:=[0,1,99,1000001]) ht sj sj
  simp only[S_q0_b4,Scr.den,e,e2,obind]
  obtain⟨u,e7,_⟩:=z1t (body:=fun j s=>(S_q0_b3 a2 a4 a5 (o,s8) (o',s9) i (v,s') (v2,s'') j s).den) (n:=3) (fun _ _=>True) (s0:=()) trivial (fun j u hj _ =>
   ⟨(),zp4 (znp (p:=SmO) hv.smO ho' hs2 hi),trivial⟩)
  rw[e7]
  exact⟨s'',rfl,ht2⟩)
 rw[q10]
 simp only[z6h,z5z (w:=w) (by have:=hw.len; omega) hw1 hw2,obind]
 have ht:(txtG w).length<=300:=by
  unfold txtG
  rw[y9 hw]
  exact za0 hw
 obtain⟨z,s11,q11,_,hz⟩:=zh2 (x:=txtG w) (ws:=[[],[32],[48],[49],[97],[103],[45],[65]]) om sj sj sj t10
 simp only[q11,obind]
 obtain⟨u,e12,_⟩:=z1t (body:=fun i s=>(S_q0_b5 a7 (txtG w) (z,s11) i s).den) (n:=3) (fun _ _=>True) (s0:=()) trivial (fun i u hi _ =>
  ⟨(),zp5 (znp (p:=fun t:Y8=>t.length<=100000) (by show (txtG w).length<=_; omega) (by show z.length<=_; omega) (by show a7.length<=_; omega) hi),trivial⟩)
 rw[e12]
 simp only[z6h]
theorem zls (h:(Lit.int .u64 n).wf=true):z12 n:=by
 simp only[Lit.wf,IntKind.min,IntKind.max,IntKind.signed,IntKind.bits,yg,ya] at h
 unfold z12
 simp at h
 omega
theorem z80 (a0:List Int) (a1:TWa) (a2:TOf) (a3:List Int) (a4 a5:Int) (a6:List TWa) (a7:Y8) (h1:(a1.J.length<=reachBytes)/\((Lit.int .u64 a1.V).wf=true)/\((Lit.int .u64 a1.U).wf=true)) (h6:a6.length * 120<=reachBytes) :
  F_q0 a0 a1 a2 a3 a4 a5 a6 a7=some true:=z9h a0 a1 a2 a3 a4 a5 a6 a7 ⟨zls h1.2.1,zls h1.2.2⟩ h6
end Go.Proofs.YtiohhffifhaboaaGreatDoor
