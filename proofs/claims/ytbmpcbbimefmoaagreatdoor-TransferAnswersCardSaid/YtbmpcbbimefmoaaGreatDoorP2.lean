/- A part of the proof: plain laws of what the functions compute. No condition. -/
import Derived.Test.YtbmpcbbimefmoaaGreatDoorP1
/- Transfers that are made. No condition. -/
namespace Go.Proofs.YtbmpcbbimefmoaaGreatDoor
open Go Go.TA
open Go.IntKind (i64)
attribute [-simp] List.getD_eq_getElem?_getD
structure TrX (l:TLa) (x:TTr):Prop where
 nu:1<=x.H/\x.H<=100
 da:360 * l.E<=x.G/\x.G<=360 * l.E+800
 ye:l.E<=x.C/\x.C<l.E+l.I
 ru:1<=x.U/\x.U<=3
 fr:leafT l.F x.L=true
 to:leafT l.F x.V=true
 am:1<=x.D/\x.D<=100000
def ltT (a b:TTr):Prop:=a.G<b.G\/(a.G=b.G/\a.H<b.H)
structure TL (l:TLa) (L:List TTr):Prop where
 ok:∀ x∈L,TrX l x
 so:L.Pairwise ltT
 nu:∀ x∈L,x.H<=8
 dd:L.Pairwise fun a b=>a.G<=b.G
variable {l:TLa} {n:Int} {s:TTape}
theorem znd (hl:RL l) (hn:0<=n/\n<=8) (hs:TapeOk s) :
  ∃ s' L d i,iterM (fun s=>(S_qc_b1 l (leavesU l.F []) s).den) (s,[],360 * l.E,n)=some (.next (s',L,d,i))/\TapeOk s'/\(L.length:Int)<=n/\TL l L:=by
 have ht:=hl.t5
 have hf:=hl.fi; have hy:=hl.ye; have hrn:=hl.rn
 have hle:=ht.le
 have hll:=z1f l.F []
 have hl0:1<=(leavesU l.F []).length:=by
  rcases y2u (leavesU l.F []).length with e | e
  ·exact absurd (y26.1 e) ht.leaves
  ·exact e
 obtain⟨st,e,g1,g2,g3⟩:=z1b (step:=fun s=>(S_qc_b1 l (leavesU l.F []) s).den) (fun s=>s.2.2.2.toNat)
  (fun s=>TapeOk s.1/\((s.2.1.length:Int)+s.2.2.2=n/\0<=s.2.2.2)/\TL l s.2.1/\(∀ x∈s.2.1,x.H<=s.2.1.length/\x.G<=s.2.2.1)/\(360 * l.E<=s.2.2.1/\s.2.2.1<=360 * l.E+90 * s.2.1.length))
  (fun s=>TapeOk s.1/\(s.2.1.length:Int)<=n/\TL l s.2.1) (fun s ⟨o,⟨q1,q1'⟩,q2,q3,q4⟩=>by
   obtain⟨s0,L,d,i⟩:=s
   simp only at o q1 q1' q2 q3 q4
   simp only[S_qc_b1,Scr.den]
   by_cases hk:i>0
   ·left
    rw[y7 (by simpa using hk)]
    obtain⟨n1,s1,e1,o1,l1,u1⟩:=zm (n:=90) o om om
    obtain⟨n2,s2,e2,o2,m2⟩:=zo (l:=[0,1,n1]) o1 sj sj
    obtain⟨n3,s3,e3,o3,l3,u3⟩:=zm (n:=l.I) o2 om om
    obtain⟨n4,s4,e4,o4,l4,u4⟩:=z2j (lo:=1) (hi:=3) o3 om om om
    obtain⟨n5,s5,e5,o5,l5,u5⟩:=zm (n:=((leavesU l.F []).length:Int)) o4 om om
    obtain⟨n6,s6,e6,o6,l6,u6⟩:=zm (n:=((leavesU l.F []).length:Int)) o5 om om
    obtain⟨n7,s7,e7,o7,l7,u7⟩:=z2j (lo:=1) (hi:=500) o6 om om om
    obtain⟨n8,s8,e8,o8,l8,u8⟩:=z2j (lo:=1) (hi:=100000) o7 om om om
    obtain⟨n9,s9,e9,o9,m9⟩:=zo (l:=[1,10,n7,n8]) o8 sj sj
    obtain⟨n10,s10,e10,o10,l10,u10⟩:=zm (n:=5) o9 om om
    have h2:0<=n2/\n2<=89:=by simp at m2; omega
    have h9:1<=n9/\n9<=100000:=by simp at m9; omega
    have w1:i64.wrap ((L.length:Int)+1)=(L.length:Int)+1:=wrapId om om
    have w2:i64.wrap (d+n2)=d+n2:=wrapId om om
    have w3:i64.wrap (l.E+n3)=l.E+n3:=wrapId om om
    have w4:i64.wrap (i-1)=i-1:=wrapId om om
    rw[e1,obind,e2,obind,e3,obind,e4,obind,e5,obind,e6,obind,e7,obind,e8,obind,e9,obind,z6 ⟨l5,by simp only; omega,l6,by simp only; omega,trivial⟩,y11 (show (l.N.length:Int)>0 from om),Gg,e10,obind,w1,w2,w3,w4]
    have f1:leafT l.F ((leavesU l.F []).getD n5.toNat dF)=true:=z1l.1 (z8 om)
    have f2:leafT l.F ((leavesU l.F []).getD n6.toNat dF)=true:=z1l.1 (z8 om)
    have fin:∀ (s':TTape) (ru:Int) (fr to:Y8),TapeOk s'->1<=ru/\ru<=3->leafT l.F fr=true->leafT l.F to=true->∃ s2,guardP (AllP [(L.length+1) * (2 * 72)<=2 ^ 48]) (some (Step.cont (s',L++[(⟨(L.length:Int)+1,d+n2,l.E+n3,ru,fr,to,n9⟩:TTr)],d+n2,i-1)))=(some (Step.cont s2):Option (Step (TTape×(List TTr)×Int×Int) R_qc)) /\
      ((TapeOk s2.1/\((s2.2.1.length:Int)+s2.2.2.2=n/\0<=s2.2.2.2)/\TL l s2.2.1/\(∀ x∈s2.2.1,x.H<=s2.2.1.length/\x.G<=s2.2.2.1)/\(360 * l.E<=s2.2.2.1/\s2.2.2.1<=360 * l.E+90 * s2.2.1.length))/\s2.2.2.2.toNat<i.toNat):=fun s' ru fr to o' hru hfr hto=>by
     rw[Ga]
     refine⟨_,rfl,⟨o',⟨by simp only[yb,yd]; omega,by simp only; omega⟩,⟨fun x hx=>?_,?_,fun x hx=>?_,?_⟩,fun x hx=>?_,by simp only; omega,by simp only[yb,yd]; omega⟩,by simp only; omega⟩
     ·rcases y1c.1 hx with hx | hx
      ·exact q2.ok x hx
      ·obtain rfl:=y1b.1 hx
       exact⟨by simp only; omega,by simp only; omega,by simp only; omega,hru,hfr,hto,h9⟩
     ·show List.Pairwise ltT (L++_)
      rw[y3m]
      refine⟨q2.so,y3p _ _,fun a ha b hb=>?_⟩
      obtain rfl:=y1b.1 hb
      have:=q3 a ha
      unfold ltT
      simp only
      omega
     ·rcases y1c.1 hx with hx | hx
      ·exact q2.nu x hx
      ·obtain rfl:=y1b.1 hx
       simp only; omega
     ·show List.Pairwise _ (L++_)
      rw[y3m]
      refine⟨q2.dd,y3p _ _,fun a ha b hb=>?_⟩
      obtain rfl:=y1b.1 hb
      have:=q3 a ha
      simp only
      omega
     ·simp only[yb,yd]
      rcases y1c.1 hx with hx | hx
      ·have:=q3 x hx; omega
      ·obtain rfl:=y1b.1 hx
       simp only; omega
    by_cases hb:n10>0
    ·rw[y11 hb,y7 (by rfl)]
     obtain⟨n11,s11,e11,o11,l11,u11⟩:=zm (n:=(l.N.length:Int)) o10 om om
     have hru:=hl.ru _ (z8 (show n11.toNat<l.N.length from om))
     have gF:good (l.N.getD n11.toNat dF).L=true:=ht.cl.gd _ hru.2.2.2.2.1
     have gT:good (l.N.getD n11.toNat dF).V=true:=ht.cl.gd _ hru.2.2.2.2.2
     have k1:=z1f l.F (l.N.getD n11.toNat dF).L
     have k2:=z1f l.F (l.N.getD n11.toNat dF).V
     simp only[e11,obind,z1g ht.mt.sm (show l.F.length<=1000000 from om) (lenC gF),z1g ht.mt.sm (show l.F.length<=1000000 from om) (lenC gT)]
     rw[z6 ⟨l11,om,trivial⟩]
     obtain⟨s12,fr,eF,oF,hF⟩:∃ s12 fr,(if decide (((leavesU l.F (l.N.getD n11.toNat dF).L).length:Int)>0)=true then ((F_q0 ((leavesU l.F (l.N.getD n11.toNat dF).L).length:Int) s11).bind fun r=>guardP (AllP [(0:Int)<=r.1,r.1.toNat<(leavesU l.F (l.N.getD n11.toNat dF).L).length]) (some (Out.next (r.2,(⟨(L.length:Int)+1,d+n2,l.E+n3,(l.N.getD n11.toNat dF).H,(leavesU l.F (l.N.getD n11.toNat dF).L).getD r.1.toNat dF,(leavesU l.F []).getD n6.toNat dF,n9⟩:TTr))))) else some (Out.next (s11,(⟨(L.length:Int)+1,d+n2,l.E+n3,(l.N.getD n11.toNat dF).H,(leavesU l.F []).getD n5.toNat dF,(leavesU l.F []).getD n6.toNat dF,n9⟩:TTr))):Option (Out (TTape×TTr) (Out (TTape×TTr) (Step (TTape×(List TTr)×Int×Int) R_qc))))=some (Out.next (s12,⟨(L.length:Int)+1,d+n2,l.E+n3,(l.N.getD n11.toNat dF).H,fr,(leavesU l.F []).getD n6.toNat dF,n9⟩))/\TapeOk s12/\leafT l.F fr=true:=by
      by_cases h0:((leavesU l.F (l.N.getD n11.toNat dF).L).length:Int)>0
      ·rw[y7 (by simpa using h0)]
       obtain⟨n12,s12,e12,o12,l12,u12⟩:=zm (n:=((leavesU l.F (l.N.getD n11.toNat dF).L).length:Int)) o11 om om
       rw[e12,obind,z6 ⟨l12,by first | omega | (simp only; omega),trivial⟩]
       exact⟨_,_,rfl,o12,z1l.1 (z65 (z8 (show n12.toNat<(leavesU l.F (l.N.getD n11.toNat dF).L).length from om)))⟩
      ·rw[y6 (by simpa using h0)]
       exact⟨_,_,rfl,o11,f1⟩
     rw[eF]
     simp only[outM]
     by_cases h0:((leavesU l.F (l.N.getD n11.toNat dF).V).length:Int)>0
     ·rw[y7 (by simpa using h0)]
      obtain⟨n13,s13,e13,o13,l13,u13⟩:=zm (n:=((leavesU l.F (l.N.getD n11.toNat dF).V).length:Int)) oF om om
      rw[e13,obind,z6 ⟨l13,by first | omega | (simp only; omega),trivial⟩]
      exact fin s13 _ _ _ o13 ⟨hru.1,hru.2.1⟩ hF (z1l.1 (z65 (z8 (show n13.toNat<(leavesU l.F (l.N.getD n11.toNat dF).V).length from om))))
     ·rw[y6 (by simpa using h0)]
      exact fin s12 _ _ _ oF ⟨hru.1,hru.2.1⟩ hF f2
    ·rw[y19 hb,y6 sj]
     simp only[outM]
     exact fin s10 _ _ _ o10 ⟨l4,u4⟩ f1 f2
   ·right
    rw[y6 (by simpa using hk)]
    exact⟨_,rfl,o,by simp only; omega,q2⟩) _ (s,[],360 * l.E,n) (y2k _)
  ⟨hs,sk,⟨sj,y4j,sj,y4j⟩,sj,sj⟩
 obtain⟨s9,L,d,i⟩:=st
 exact⟨s9,L,d,i,e,g1,g2,g3⟩
theorem zc8 (hl:RL l) (hn:0<=n/\n<=8) (hs:TapeOk s):∃ L s',F_qc l n s=some (L,s')/\TapeOk s'/\(L.length:Int)<=n/\TL l L:=by
 have hf:=hl.fi
 have hle:=hl.t5.le
 obtain⟨n1,s1,e1,o1,l1,u1⟩:=zm (n:=n+1) hs om om
 obtain⟨s2,L,d,i,e2,o2,h1,h2⟩:=znd hl (n:=n1) om o1
 simp only[F_qc,S_qc,Scr.den,z1g hl.t5.mt.sm (show l.F.length<=1000000 from om) (show ([]:Y8).length<=1000000 from sj),obind]
 rw[wrapId (n:=n+1) om om,e1,obind,wrapId (n:=360 * l.E) om om,e2]
 simp only[outM]
 rw[Ga]
 exact⟨_,_,rfl,o2,om,h2⟩
end Go.Proofs.YtbmpcbbimefmoaaGreatDoor
/- What the judge of transfers computes. No condition. -/
namespace Go.Proofs.YtbmpcbbimefmoaaGreatDoor
open Go Go.TA
open Go.IntKind (i64)
attribute [-simp] List.getD_eq_getElem?_getD
def smm {α:Type} (w:α->Int):List α->Int
 | []=>0
 | x :: l=>w x+smm w l
theorem z73 {α:Type} (w:α->Int):∀ l m:List α,smm w (l++m)=smm w l+smm w m
 | [],m=>by simp[smm]
 | x :: l,m=>by rw[y2f]; simp only[smm]; rw[z73 w l m]; omega
variable {α:Type}
theorem z3w [Inhabited α] (w:α->Int) {l:List α} {i:Nat} (hi:i<l.length):smm w (l.take (i+1))=smm w (l.take i)+w (l.getD i dF):=by
 rw[y13 hi,z73,zh hi]; simp[smm]
theorem z66 {α:Type} (w:α->Int) (K:Int):∀ l:List α,(∀ x∈l,-K<=w x/\w x<=K)->-(K * (l.length:Int))<=smm w l/\smm w l<=K * (l.length:Int)
 | [],_=>by simp[smm]
 | x :: l,h=>by
  obtain⟨a,b⟩:=z66 w K l fun y hy=>h y (ym _ hy)
  obtain⟨c,d⟩:=h x y1a
  simp only[smm,y10]
  rw[show ((l.length+1:Nat):Int)=(l.length:Int)+1 from om,Int.mul_add,Int.mul_one]
  omega
theorem zf7 {α:Type} (w:α->Int):∀ l:List α,(∀ x∈l,0<=w x)->0<=smm w l
 | [],_=>by simp[smm]
 | x :: l,h=>by
  have a:=zf7 w l fun y hy=>h y (ym _ hy)
  have b:=h x y1a
  simp only[smm]; omega
theorem z14 {α:Type} {w v:α->Int}:∀ {l:List α},(∀ x∈l,w x=v x)->smm w l=smm v l
 | [],_=>rfl
 | x :: l,h=>by
  simp only[smm]
  rw[h x y1a,z14 fun y hy=>h y (ym _ hy)]
theorem z3i {ρ:Type} [Inhabited α] {body:Nat->Int->Option (Step Int ρ)} (l:List α) (w:α->Int) (K:Int) (hK:∀ x∈l,-K<=w x/\w x<=K) {s0:Int} (hs:∀ i s,i<l.length->s0-K * (i:Int)<=s->s<=s0+K * (i:Int)->body i s=some (.cont (s+w (l.getD i dF)))):rangeM body l.length 0 s0=some (.next (s0+smm w l)):=by
 obtain⟨s',e,h⟩:=zp (body:=body) (n:=l.length) (fun i s=>s=s0+smm w (l.take i)) (s0:=s0) (by simp[smm]) (fun i s hi h=>by
  obtain⟨a,b⟩:=z66 w K (l.take i) fun x hx=>hK x (y17 hx)
  have hl:(l.take i).length=i:=by rw[yx]; omega
  rw[hl] at a b
  refine⟨_,hs i s hi om om,?_⟩
  rw[z3w w hi,h]; omega)
 rw[e,h,y1y]
theorem zlr (l:TLa) (c:Y8) (y:Int):F_q2h l c y=some (lineA l.P c y):=by
 simp only[F_q2h,S_q2h,Scr.den]
 rw[z7l l.P (fun x=>x.B==c&&x.C==y) (·.D) fun i hi=>by
  simp only[S_q2h_b1,Scr.den,za]
  split <;> rfl]
 unfold lineA
 cases l.P.find? (fun x=>x.B==c&&x.C==y) <;> rfl
def pctS (n p:Int):Int:=n * p / 100
theorem zhv {n p:Int} (hn:0<=n/\n<=1000000000000) (hp:0<=p/\p<=100):F_q4p n p=some (pctS n p,0):=by
 have h1:0<=n * p:=Int.mul_nonneg hn.1 hp.1
 have h2:n * p<=1000000000000 * 100:=Int.mul_le_mul hn.2 hp.2 hp.1 om
 simp only[F_q4p,S_q4p,Scr.den,z4t,obind,zg]
 rw[y6 (by rw[z46.2 hn,y19 (show ¬ p<0 from om),y19 (show ¬ p>100 from om)]; simp),wrapId (n:=n * p) om om,y35 h1,wrapId om om]
 rfl
def linC (top:Y8) (y:Int) (x:TLi):Bool:=(y==-1||x.C==y)&&(top==[]||und x.B top)
def totA (l:List TLi) (top:Y8) (y:Int):Int:=smm (fun x=>if linC top y x=true then x.D else 0) l
theorem z7q {α:Type} (p:α->Bool) (f:α->Int):∀ l:List α,smm id ((l.filter p).map f)=smm (fun x=>if p x=true then f x else 0) l
 | []=>rfl
 | x :: l=>by
  rw[y3d]
  by_cases h:p x=true
  ·rw[y7 h,y2n]; simp only[smm,y7 h,id]; rw[z7q p f l]
  ·rw[y6 h]; simp only[smm,y6 h]; rw[z7q p f l]; omega
theorem zne {l:List Int} (hl:l.length<=200) (h:∀ x∈l,0<=x/\x<=1000000000000):F_q2j l=some (smm id l,0):=by
 simp only[F_q2j,S_q2j,Scr.den]
 rw[Ga]
 rw[z3i l id 1000000000000 (fun x hx=>by have:=h x hx; simp only[id]; omega) fun i s hi h1 h2=>by
  have hx:=h _ (z8 hi)
  simp only[S_q2j_b1,Scr.den,F_q4q,S_q4q,obind,y1h,za,zg]
  rw[z6 ⟨hi,trivial⟩,wrapId (n:=s+l.getD i dF) om om,y11 (show l.getD i dF>=-1000000000000000 from om),y11 (show l.getD i dF<=1000000000000000 from om),Gg,y11 (show s+l.getD i dF>=-1000000000000000 from om),y11 (show s+l.getD i dF<=1000000000000000 from om)]
  rfl]
 simp only[outM]
 rw[Int.zero_add]
variable {top:Y8} {y:Int}
theorem znf {l:List TLi} (hl:l.length<=200) (hg:∀ x∈l,x.B.length<=1000000) (ha:∀ x∈l,0<=x.D/\x.D<=1000000000000) (ht:top.length<=1000000):F_q2k l top y=some (totA l top y,0):=by
 simp only[F_q2k,S_q2k,Scr.den]
 rw[z1u l (linC top y) (·.D) 1000000 om fun i s hi hs=>by
  have hx:=hg _ (z8 hi)
  simp only[S_q2k_b1,Scr.den,z36 hx ht,za,zg]
  unfold linC
  have hgu:(s.length+1) * (2 * 8)<=2 ^ 48:=om
  cases h1:(top==[]) <;> cases h2:(y==-1||(l.getD i dF).C==y) <;> simp[optD,AllP,z6,hgu]
  all_goals (split <;> simp_all [])]
 simp only[outM]
 have hlen:((l.filter (linC top y)).map (·.D)).length<=200:=by rw[y1q]; have:=y3x (linC top y) l; omega
 rw[zne hlen (fun x hx=>by obtain⟨z,hz,rfl⟩:=yz.1 hx; exact ha z (y1x.1 hz).1),obind,z7q]
 rfl
theorem zk0 {l:TLa} (hl:l.P.length<=200) (hg:∀ x∈l.P,x.B.length<=1000000) (ha:∀ x∈l.P,0<=x.D/\x.D<=1000000000000) (ht:top.length<=1000000):F_q4r l top y=some (totA l.P top y,0):=by
 simp only[F_q4r,S_q4r,Scr.den,znf hl hg ha ht,obind]
end Go.Proofs.YtbmpcbbimefmoaaGreatDoor
/- The judge's parts. No condition. -/
namespace Go.Proofs.YtbmpcbbimefmoaaGreatDoor
open Go Go.TA
open Go.IntKind (i64)
attribute [-simp] List.getD_eq_getElem?_getD
structure AcOk (acc:List TTr):Prop where
 le:acc.length<=100
 am:∀ x∈acc,0<=x.D/\x.D<=1000000000000
 fr:∀ x∈acc,x.L.length<=1000000
 to:∀ x∈acc,x.V.length<=1000000
structure NowOk (n:TLa):Prop where
 ll:n.P.length<=200
 lc:∀ x∈n.P,x.B.length<=1000000
 la:∀ x∈n.P,0<=x.D/\x.D<=1000000000000
 ru:∀ x∈n.N,(0<=x.T/\x.T<=100)/\x.L.length<=1000000/\x.V.length<=1000000
 rl:n.N.length<=1000000
 cl:n.J.length<=1000000
 cc:∀ x∈n.J,x.B.length<=1000000
 fl:n.O.length<=1000000
 fc:∀ x∈n.O,x.B.length<=1000000
def givW (x:TTr) (y:TTr):Int:=if (y.U==x.U&&y.C==x.C&&y.L==x.L)=true then y.D else 0
def leftS (now:TLa) (acc:List TTr) (r:TRu) (x:TTr):Int:=pctS (lineA now.P x.L x.C) r.T-smm (givW x) acc
def movW (top:Y8) (y d:Int) (x:TTr):Int :=
 if (decide (x.G>d)||(y != -1&&x.C != y))=true then 0 else (if und x.V top=true then x.D else 0)-(if und x.L top=true then x.D else 0)
def hasS (now:TLa) (acc:List TTr) (top:Y8) (y d:Int):Int:=totA now.P top y+smm (movW top y d) acc
variable {l:List TLi}
theorem z3x (h:∀ x∈l,0<=x.D/\x.D<=1000000000000) (c:Y8) (y:Int):0<=lineA l c y/\lineA l c y<=1000000000000:=by
 unfold lineA
 split
 ·rename_i x hx; exact h x (List.mem_of_find?_eq_some hx)
 ·omega
theorem zng {n p:Int} (hn:0<=n/\n<=1000000000000) (hp:0<=p/\p<=100):0<=pctS n p/\pctS n p<=1000000000000:=by
 have h1:0<=n * p:=Int.mul_nonneg hn.1 hp.1
 have h2:n * p<=1000000000000 * 100:=Int.mul_le_mul hn.2 hp.2 hp.1 om
 unfold pctS; omega
theorem zgo (hl:l.length<=200) (h:∀ x∈l,0<=x.D/\x.D<=1000000000000) (top:Y8) (y:Int):-200000000000000<=totA l top y/\totA l top y<=200000000000000:=by
 have:=z66 (fun x:TLi=>if linC top y x=true then x.D else 0) 1000000000000 l fun x hx=>by have:=h x hx; split <;> omega
 unfold totA; omega
variable {acc:List TTr}
theorem zc9 (h:AcOk acc) (x:TTr):∀ y∈acc,-1000000000000<=givW x y/\givW x y<=1000000000000:=fun y hy=>by
 have:=h.am y hy
 unfold givW; split <;> omega
theorem zgp (h:AcOk acc) (top:Y8) (y d:Int):∀ x∈acc,-1000000000000<=movW top y d x/\movW top y d x<=1000000000000:=fun x hx=>by
 have:=h.am x hx
 unfold movW
 (repeat' split) <;> omega
theorem zgq {now:TLa} (hn:NowOk now) (h:AcOk acc) (top:Y8) (y d:Int):-300000000000000<=hasS now acc top y d/\hasS now acc top y d<=300000000000000:=by
 have a:=zgo hn.ll hn.la top y
 have b:=z66 (movW top y d) 1000000000000 acc (zgp h top y d)
 have c:=h.le
 unfold hasS; omega
theorem zgr {α:Type} (w:α->Int):∀ l:List α,smm (fun x=>-w x) l=-smm w l
 | []=>rfl
 | x :: l=>by simp only[smm]; rw[zgr w l]; omega
section
variable {l:TLa} {ask:Bool} {dy fail:Int} {now:TLa} {acc:List TTr} (hn:NowOk now) (ha:AcOk acc)
include hn ha
theorem znh {r:TRu} (hr:0<=r.T/\r.T<=100) (x:TTr):F_q2i r x l ask dy now fail acc=some (leftS now acc r x):=by
 have hle:=ha.le
 have h1:=z3x hn.la x.L x.C
 have h2:=zng h1 hr
 simp only[F_q2i,S_q2i,Scr.den,zlr,zhv h1 hr,obind]
 rw[Ga]
 rw[z3i acc (fun y=>-givW x y) 1000000000000 (fun y hy=>by have:=zc9 ha x y hy; omega) fun i s hi k1 k2=>by
  have hg:=ha.am _ (z8 hi)
  simp only[S_q2i_b1,Scr.den,y1h,za,givW]
  rw[z6 ⟨hi,trivial⟩]
  split
  ·rw[wrapId om om]; congr 2
  ·congr 2; omega]
 simp only[outM]
 rw[zgr]; rfl
theorem zb9 {top:Y8} (ht:top.length<=1000000) (y d:Int):F_q16 top y d l ask dy now fail acc=some (hasS now acc top y d):=by
 have hle:=ha.le
 have h1:=zgo hn.ll hn.la top y
 simp only[F_q16,S_q16,Scr.den,zk0 hn.ll hn.lc hn.la ht,obind]
 rw[Ga]
 rw[z3i acc (movW top y d) 1000000000000 (zgp ha top y d) fun i s hi k1 k2=>by
  have hg:=ha.am _ (z8 hi)
  have u1:=ha.to _ (z8 hi)
  have u2:=ha.fr _ (z8 hi)
  simp only[S_q16_b1,Scr.den,y1h,za,zg,z36 u1 ht,z36 u2 ht,obind,movW]
  rw[z6 ⟨hi,trivial⟩]
  by_cases hb:(decide ((acc.getD i dF).G>d)||(y != -1&&(acc.getD i dF).C != y))=true
  ·rw[y7 hb,y7 hb,y24]
  ·rw[y6 hb,y6 hb]
   by_cases c1:und (acc.getD i dF).V top=true
   ·rw[y7 c1,y7 c1]
    simp only[outM]
    rw[wrapId (n:=s+(acc.getD i dF).D) om om]
    by_cases c2:und (acc.getD i dF).L top=true
    ·rw[y7 c2,y7 c2,wrapId om om]; congr 2; omega
    ·rw[y6 c2,y6 c2]; congr 2; omega
   ·rw[y6 c1,y6 c1]
    simp only[outM]
    by_cases c2:und (acc.getD i dF).L top=true
    ·rw[y7 c2,y7 c2,wrapId om om]; congr 2; omega
    ·rw[y6 c2,y6 c2]; congr 2; omega]
 simp only[outM]
 rfl
def matS (b:TBo) (wi wo:Y8) (y:Int):Bool:=(b.C==y||b.C==-1)&&und wi b.B&&!und wo b.B
def bndS (now:TLa) (acc:List TTr) (x:TTr):Bool :=
 now.J.any (fun b=>matS b x.V x.L x.C&&decide (hasS now acc b.B b.C x.G+x.D>b.D)) ||
 now.O.any (fun b=>matS b x.L x.V x.C&&decide (hasS now acc b.B b.C x.G-x.D<b.D))
omit hn ha in
theorem zk1 {b:TBo} {wi wo:Y8} (hb:b.B.length<=1000000) (h1:wi.length<=1000000) (h2:wo.length<=1000000) (x:TTr):F_q3p b wi wo x=some (matS b wi wo x.C):=by
 simp only[F_q3p,S_q3p,Scr.den,z36 h1 hb,z36 h2 hb,za,zg,matS]
 cases h1:(b.C==x.C||b.C==-1) <;> cases h2:und wi b.B <;> simp[optD,AllP]
theorem zom {x:TTr} (hf:x.L.length<=1000000) (ht:x.V.length<=1000000) (hx:0<=x.D/\x.D<=1000000000000):F_qu x l ask dy now fail acc=some (bndS now acc x):=by
 have hcl:=hn.cl; have hfl:=hn.fl
 simp only[F_qu,S_qu,Scr.den]
 rw[zy now.J (fun b=>matS b x.V x.L x.C&&decide (hasS now acc b.B b.C x.G+x.D>b.D)) (fun _=>true) fun i hi=>by
  have hb:=hn.cc _ (z8 hi)
  have hh:=zgq hn ha (now.J.getD i dF).B (now.J.getD i dF).C x.G
  simp only[S_qu_b1,Scr.den,zk1 hb ht hf,obind,zb9 hn ha hb,za]
  cases hm:matS (now.J.getD i dF) x.V x.L x.C
  ·simp[optD,AllP]
  ·rw[Gg,obind,wrapId om om]; split <;> rfl]
 unfold bndS
 by_cases h1:now.J.any (fun b=>matS b x.V x.L x.C&&decide (hasS now acc b.B b.C x.G+x.D>b.D))=true
 ·rw[y7 h1,h1]; rfl
 ·rw[y6 h1,yk.2 h1]
  simp only[outM]
  rw[zy now.O (fun b=>matS b x.L x.V x.C&&decide (hasS now acc b.B b.C x.G-x.D<b.D)) (fun _=>true) fun i hi=>by
   have hb:=hn.fc _ (z8 hi)
   have hh:=zgq hn ha (now.O.getD i dF).B (now.O.getD i dF).C x.G
   simp only[S_qu_b2,Scr.den,zk1 hb hf ht,obind,zb9 hn ha hb,za]
   cases hm:matS (now.O.getD i dF) x.L x.V x.C
   ·simp[optD,AllP]
   ·rw[Gg,obind,wrapId om om]; split <;> rfl]
  by_cases h2:now.O.any (fun b=>matS b x.L x.V x.C&&decide (hasS now acc b.B b.C x.G-x.D<b.D))=true
  ·rw[y7 h2,h2]; rfl
  ·rw[y6 h2,yk.2 h2]; rfl
end
end Go.Proofs.YtbmpcbbimefmoaaGreatDoor
/- The code of a transfer. No condition. -/
namespace Go.Proofs.YtbmpcbbimefmoaaGreatDoor
open Go Go.TA
open Go.IntKind (i64)
attribute [-simp] List.getD_eq_getElem?_getD
theorem zls {l:TLa} (hs:SmL l) (c:Y8):F_q3o l c=some (leafT l.F c):=by
 simp only[F_q3o,S_q3o,Scr.den,z8e hs.t hs.tl,z9m,obind]
 congr 1
 rw[y1k,<- z1l]
 simp
def numB (n:Int):Bool:=decide (n>=1)&&decide (n<=1000000)
def plainS (l:TLa) (x:TTr):Int :=
 if (!numB x.H||!numB x.U||decide (x.G<0)||decide (x.G>35990)||!amt x.D||x.D==0)=true then 2
 else if (!leafT l.F x.L||!leafT l.F x.V||x.L==x.V)=true then 5
 else if (!inY l.E l.I x.C||decide (x.G / 360>x.C))=true then 16 else 0
theorem z1q {l:TLa} {x:TTr}:plainS l x=0↔(1<=x.H/\x.H<=1000000)/\(1<=x.U/\x.U<=1000000)/\(0<=x.G/\x.G<=35990)/\(1<=x.D/\x.D<=1000000000000)/\leafT l.F x.L=true/\leafT l.F x.V=true/\x.L≠x.V/\inY l.E l.I x.C=true/\x.G / 360<=x.C:=by
 unfold plainS
 by_cases h1:(!numB x.H||!numB x.U||decide (x.G<0)||decide (x.G>35990)||!amt x.D||x.D==0)=true
 ·rw[y7 h1]
  refine⟨fun e=>absurd e dk,fun⟨a,b,c,d,_⟩=>?_⟩
  exfalso
  simp only[yj,y1i,y8,yn,numB,y27,y12,amt] at h1
  omega
 ·rw[y6 h1]
  simp only[yj,y1i,y8,yn,numB,y27,y12,amt] at h1
  by_cases h2:(!leafT l.F x.L||!leafT l.F x.V||x.L==x.V)=true
  ·rw[y7 h2]
   refine⟨fun e=>absurd e dk,fun⟨_,_,_,_,a,b,c,_⟩=>?_⟩
   rw[a,b] at h2
   simp[c] at h2
  ·rw[y6 h2]
   simp only[yj,y1i,yn,y4l,y3g] at h2
   by_cases h3:(!inY l.E l.I x.C||decide (x.G / 360>x.C))=true
   ·rw[y7 h3]
    refine⟨fun e=>absurd e dk,fun⟨_,_,_,_,_,_,_,a,b⟩=>?_⟩
    rw[a] at h3
    simp at h3; omega
   ·rw[y6 h3]
    simp only[yj,y1i,y8,y4l,y3g] at h3
    exact⟨fun _=>⟨om,om,om,om,h2.1.1,h2.1.2,h2.2,h3.1,om⟩,fun _=>rfl⟩
section
variable {l:TLa} (he:errL l=0)
include he
omit he in
theorem zni (d:Int):F_q4g d=some (if 0<=d/\d<=36000 then d / 360 else -1):=by
 simp only[F_q4g,S_q4g,F_q54,S_q54,Scr.den,obind,za]
 by_cases h:0<=d/\d<=36000
 ·rw[y7 h,y6 sk,y35 h.1,wrapId om om]
 ·rw[y6 h,y7 sk]
omit he in
theorem z2n {α:Type} (gs:List Prop) (v d:α):optD gs (some v) d=some (@ite α (AllP gs) (Classical.propDecidable _) v d):=by
 unfold optD
 split <;> rfl
omit he in
theorem lzN (c b d:Bool) (i:Decidable (AllP [c=false])):(c||!(@ite Bool (AllP [c=false]) i b d))=(c||!b):=by
 cases c
 ·rw[y7 (by simp[AllP])]
 ·rfl
omit he in
theorem lzG (c:Bool) (v d w:Int) (i:Decidable (AllP [c=false])):(c||decide (@ite Int (AllP [c=false]) i v d>w))=(c||decide (v>w)):=by
 cases c
 ·rw[y7 (by simp[AllP])]
 ·rfl
theorem zlt (x:TTr) (ask:Bool) (dy fail:Int) (now:TLa) (acc:List TTr):F_q4h x l ask dy now fail acc=some (plainS l x):=by
 have hs:=z4g he
 obtain⟨hr,_,_⟩:=z10.1 he
 have hy:1<=l.I:=by have:=hr.yr; unfold yrB at this; omega
 have n1:∀ n,F_q3n n=some (numB n):=fun n=>by simp only[F_q3n,S_q3n,Scr.den,za,numB]
 simp only[F_q4h,S_q4h,Scr.den,n1,z4t,zls hs,z8g hy,zni,obind,zg,z2n,lzN,lzG]
 unfold plainS
 by_cases h1:(!numB x.H||!numB x.U||decide (x.G<0)||decide (x.G>35990)||!amt x.D||x.D==0)=true
 ·rw[y7 h1,y7 h1]
 ·rw[y6 h1,y6 h1]
  by_cases h2:(!leafT l.F x.L||!leafT l.F x.V||x.L==x.V)=true
  ·rw[y7 h2,y7 h2]
  ·rw[y6 h2,y6 h2]
   simp only[yj,y1i,y8,yn] at h1
   rw[y7 (show 0<=x.G/\x.G<=36000 from om)]
   split <;> rfl
theorem zmd (d:Int) {ask:Bool} {dy fail:Int} {now:TLa} (hJ:ask=true->inS l dy=(now,fail)) (acc:List TTr):F_q37 d l ask dy now fail acc=some ((inS l d).2,l,true,d,(inS l d).1,(inS l d).2):=by
 simp only[F_q37,S_q37,Scr.den,zg]
 by_cases h:(!ask||d != dy)=true
 ·rw[y7 h,zht (z4g he),obind]; rfl
 ·rw[y6 h]
  simp only[yj,y1i,y5h,ne_eq,y4l,y3g,y4i] at h
  obtain⟨h1,rfl⟩:=h
  simp only[outM]
  rw[hJ h1,h1]
theorem zk2:NowOk l:=by
 obtain⟨hr,hw,hb⟩:=z10.1 he
 have hs:=z4g he
 unfold bigL at hb
 refine⟨om,hs.li,fun x hx=>?_,fun x hx=>?_,hs.rl,hs.cl,hs.ce,hs.fll,hs.fl⟩
 ·have:=hw.l1 x hx
  unfold z1o at this
  split at this
  ·cases this
  split at this
  ·cases this
  split at this
  ·cases this
  ·rename_i h; exact z46.1 (by simpa using h)
 ·obtain⟨i,hi,rfl⟩:=y2j hx
  have:=(z18.1 hr.ru) i hi
  unfold ruleE at this
  have:=(z4r.1 this).1
  rw[zh hi] at this
  unfold z70 at this
  split at this
  ·cases this
  split at this
  ·cases this
  ·rename_i h1 h2
   refine⟨om,?_⟩
   have f:has l.F l.N[i].L=true/\has l.F l.N[i].V=true:=by
    cases g1:has l.F l.N[i].L <;> cases g2:has l.F l.N[i].V <;> simp_all
   exact⟨lenC (hasGood hr.tr f.1),lenC (hasGood hr.tr f.2)⟩
theorem z74 {d:Int} (h:(inS l d).2=0):(inS l d).1=forceL l d/\NowOk (forceL l d)/\errL (forceL l d)=0/\0<=d/\d<=36000:=by
 unfold inS at h |-
 rw[y7 he] at h |-
 by_cases h1:d<0\/d>36000
 ·rw[y7 h1] at h; cases h
 ·rw[y6 h1] at h |-
  by_cases h2:bigL (forceL l d)
  ·rw[y7 h2] at h; cases h
  ·rw[y6 h2]
   have:=zlm he d h2
   exact⟨rfl,zk2 this,this,om,om⟩
end
end Go.Proofs.YtbmpcbbimefmoaaGreatDoor
/- Judging transfers,one after the other. No condition. -/
namespace Go.Proofs.YtbmpcbbimefmoaaGreatDoor
open Go Go.TA
open Go.IntKind (i64)
attribute [-simp] List.getD_eq_getElem?_getD
def permS (x:TTr) (r:TRu):Bool:=r.H==x.U&&und x.L r.L&&und x.V r.V
def codeN (n:TLa) (acc:List TTr) (x:TTr):Int :=
 if n.N.any (permS x)=true then
  (if x.D>leftS n acc (n.N.getD (n.N.findIdx (permS x)) dF) x then 13 else if x.D>hasS n acc x.L x.C x.G then 15 else if bndS n acc x=true then 14 else 0)
 else 12
def codeS (l:TLa) (acc:List TTr) (x:TTr):Int :=
 if plainS l x≠0 then plainS l x else if (inS l x.G).2≠0 then (inS l x.G).2 else codeN (inS l x.G).1 acc x
theorem z1d {t:List THe} {c:Y8} (h:leafT t c=true):c.length<=1000000:=lenC (leafGood h)
structure AcJ (l:TLa) (acc:List TTr):Prop where
 le:acc.length<=61
 ok:∀ x∈acc,plainS l x=0
variable {acc:List TTr} {l:TLa}
theorem AcJ.ac (h:AcJ l acc):AcOk acc:=by
 have hl:=h.le
 refine⟨om,fun x hx=>?_,fun x hx=>z1d (z1q.1 (h.ok x hx)).2.2.2.2.1,fun x hx=>z1d (z1q.1 (h.ok x hx)).2.2.2.2.2.1⟩
 have:=(z1q.1 (h.ok x hx)).2.2.2.1
 omega
variable {x:TTr}
theorem zk3 {r:TRu} (h1:r.L.length<=1000000) (h2:r.V.length<=1000000) (h3:x.L.length<=1000000) (h4:x.V.length<=1000000):F_q4o r x=some (permS x r):=by
 simp only[F_q4o,S_q4o,Scr.den,z36 h3 h1,z36 h4 h2,za,permS]
 cases g1:(r.H==x.U) <;> cases g2:und x.L r.L <;> simp[optD,AllP]
theorem zlu {n:TLa} (hn:NowOk n) (h3:x.L.length<=1000000) (h4:x.V.length<=1000000):F_q2g n.N x=some (if n.N.any (permS x)=true then (n.N.findIdx (permS x):Int) else -1):=by
 have hrl:=hn.rl
 simp only[F_q2g,S_q2g,Scr.den]
 rw[zy n.N (permS x) (fun i=>(i:Int)) fun i hi=>by
  have:=hn.ru _ (z8 hi)
  simp only[S_q2g_b1,Scr.den,zk3 this.2.1 this.2.2 h3 h4,obind]
  split <;> rfl]
 split <;> rfl
section
variable {l:TLa} (he:errL l=0)
include he
theorem z99 {ask:Bool} {dy fail:Int} {now:TLa} (hJ:ask=true->inS l dy=(now,fail)) (ha:AcJ l acc) (x:TTr) :
  ∃ ask' dy' now' fail',F_q38 x l ask dy now fail acc=some (codeS l acc x,l,ask',dy',now',fail')/\(ask'=true->inS l dy'=(now',fail'))/\(plainS l x=0->ask'=true/\dy'=x.G):=by
 have hac:=ha.ac
 simp only[F_q38,S_q38,Scr.den,zlt he,zmd he x.G hJ acc,obind]
 by_cases hp:plainS l x=0
 ·rw[y6 (by simpa using hp)]
  obtain⟨_,_,hd,hm,h3,h4,_⟩:=z1q.1 hp
  have h3:=z1d h3
  have h4:=z1d h4
  by_cases hi:(inS l x.G).2=0
  ·have hc:codeS l acc x=codeN (inS l x.G).1 acc x:=by unfold codeS; rw[y6 (by simpa using hp),y6 (by simpa using hi)]
   rw[y6 (by simpa using hi),hc]
   obtain⟨e1,hn,_⟩:=z74 he hi
   rw[e1,zlu hn h3 h4,obind]
   unfold codeN
   have hJ':true=true->inS l x.G=(forceL l x.G,0):=fun _=>by rw[<- e1,<- hi]
   by_cases hr:(forceL l x.G).N.any (permS x)=true
   ·have hlt:(forceL l x.G).N.findIdx (permS x)<(forceL l x.G).N.length:=y4h.2 (by obtain⟨r,a,b⟩:=y1o.1 hr; exact⟨r,a,b⟩)
    rw[y7 hr,y7 hr,y6 sj]
    simp only[yi]
    have hru:=hn.ru _ (z8 hlt)
    simp only[znh hn hac hru.1,zb9 hn hac h3,zom hn hac h3 h4 (show 0<=x.D/\x.D<=1000000000000 from om),obind]
    rw[z6 ⟨om,hlt,trivial⟩,hi]
    by_cases k1:x.D>leftS (forceL l x.G) acc ((forceL l x.G).N.getD ((forceL l x.G).N.findIdx (permS x)) dF) x
    ·rw[y7 (by simpa using k1),y7 k1]; exact⟨_,_,_,_,rfl,hJ',fun _=>⟨rfl,rfl⟩⟩
    rw[y6 (by simpa using k1),y6 k1]
    by_cases k2:x.D>hasS (forceL l x.G) acc x.L x.C x.G
    ·rw[y7 (by simpa using k2),y7 k2]; exact⟨_,_,_,_,rfl,hJ',fun _=>⟨rfl,rfl⟩⟩
    rw[y6 (by simpa using k2),y6 k2]
    by_cases k3:bndS (forceL l x.G) acc x=true
    ·rw[y7 k3,y7 k3]; exact⟨_,_,_,_,rfl,hJ',fun _=>⟨rfl,rfl⟩⟩
    rw[y6 k3,y6 k3]; exact⟨_,_,_,_,rfl,hJ',fun _=>⟨rfl,rfl⟩⟩
   ·rw[y6 hr,y6 hr,y7 dk,hi]; exact⟨_,_,_,_,rfl,hJ',fun _=>⟨rfl,rfl⟩⟩
  ·have hc:codeS l acc x=(inS l x.G).2:=by unfold codeS; rw[y6 (by simpa using hp),y7 (by simpa using hi)]
   rw[y7 (by simpa using hi),hc]
   exact⟨_,_,_,_,rfl,fun _=>rfl,fun _=>⟨rfl,rfl⟩⟩
 ·have hc:codeS l acc x=plainS l x:=by unfold codeS; rw[y7 (by simpa using hp)]
  rw[y7 (by simpa using hp),hc]
  exact⟨_,_,_,_,rfl,hJ,fun h=>absurd h hp⟩
end
theorem zhw (h:codeS l acc x=0):plainS l x=0:=by
 unfold codeS at h
 split at h
 ·exact h
 ·rename_i h'; exact y4i.1 h'
def stepJ (l:TLa) (s:List TTr×List Int) (x:TTr):List TTr×List Int:=(if codeS l s.1 x=0 then s.1++[x] else s.1,s.2++[codeS l s.1 x])
def runJ (l:TLa) (L:List TTr):List TTr×List Int:=L.foldl (stepJ l) ([],[])
theorem z3y (l:TLa) (L:List TTr) (x:TTr):runJ l (L++[x])=stepJ l (runJ l L) x:=by
 unfold runJ; rw[y67]; rfl
theorem z1h (l:TLa) (L:List TTr):(runJ l L).1.length<=L.length/\(runJ l L).2.length=L.length/\(∀ x∈(runJ l L).1,plainS l x=0)/\(runJ l L).1.Sublist L:=by
 suffices h:∀ n,∀ L:List TTr,L.length=n->(runJ l L).1.length<=L.length/\(runJ l L).2.length=L.length/\(∀ x∈(runJ l L).1,plainS l x=0)/\(runJ l L).1.Sublist L from h _ L rfl
 intro n
 induction n with
 | zero=>intro L h; rw[y26.1 h]; exact⟨yc _,rfl,by simp[runJ],List.Sublist.refl _⟩
 | succ n ih =>
  intro L h
  rcases List.eq_nil_or_concat L with rfl | ⟨M,x,rfl⟩
  ·cases h
  ·rw[List.concat_eq_append] at h |-
   rw[yb,yd] at h
   obtain⟨a,b,c,d⟩:=ih M om
   rw[z3y]
   unfold stepJ
   refine⟨?_,by simp only[yb,yd]; omega,?_,?_⟩
   ·simp only[yb,yd]
    split
    ·rw[yb,yd]; omega
    ·omega
   ·simp only
    split
    ·rename_i hc
     intro y hy
     rcases y1c.1 hy with hy | hy
     ·exact c y hy
     ·obtain rfl:=y1b.1 hy; exact zhw hc
    ·exact c
   ·simp only
    split
    ·exact List.Sublist.append d (List.Sublist.refl _)
    ·exact d.trans (List.sublist_append_left M [x])
theorem z4v (a b:TTr):F_q36 a b=some (orE [cmpI a.G b.G,cmpI a.H b.H]):=by
 simp only[F_q36,S_q36,Scr.den,z43,obind,z64]
section
variable {l:TLa} (he:errL l=0) {L:List TTr} (hl:L.length<=60) (hs:L.Pairwise ltT)
include he hl hs
end
end Go.Proofs.YtbmpcbbimefmoaaGreatDoor
/- Room: the search for the greatest amount. No condition. -/
namespace Go.Proofs.YtbmpcbbimefmoaaGreatDoor
open Go Go.TA
open Go.IntKind (i64)
attribute [-simp] List.getD_eq_getElem?_getD
def ruleS (n:TLa) (x:TTr):TRu:=n.N.getD (n.N.findIdx (permS x)) dF
structure OkN (n:TLa) (acc:List TTr) (x:TTr):Prop where
 ru:n.N.any (permS x)=true
 le:x.D<=leftS n acc (ruleS n x) x
 fu:x.D<=hasS n acc x.L x.C x.G
 bo:bndS n acc x=false
variable {x:TTr} {acc:List TTr}
theorem zhx {n:TLa}:codeN n acc x=0↔OkN n acc x:=by
 unfold codeN
 by_cases h1:n.N.any (permS x)=true
 ·rw[y7 h1]
  by_cases h2:x.D>leftS n acc (n.N.getD (n.N.findIdx (permS x)) dF) x
  ·rw[y7 h2]; exact⟨fun h=>(by cases h),fun h=>absurd h.le (by unfold ruleS; omega)⟩
  rw[y6 h2]
  by_cases h3:x.D>hasS n acc x.L x.C x.G
  ·rw[y7 h3]; exact⟨fun h=>(by cases h),fun h=>absurd h.fu om⟩
  rw[y6 h3]
  by_cases h4:bndS n acc x=true
  ·rw[y7 h4]; exact⟨fun h=>(by cases h),fun h=>by rw[h.bo] at h4; cases h4⟩
  rw[y6 h4]
  exact⟨fun _=>⟨h1,by unfold ruleS; omega,om,yk.2 h4⟩,fun _=>rfl⟩
 ·rw[y6 h1]; exact⟨fun h=>(by cases h),fun h=>absurd h.ru h1⟩
variable {l:TLa}
theorem zba:codeS l acc x=0↔plainS l x=0/\(inS l x.G).2=0/\OkN (inS l x.G).1 acc x:=by
 unfold codeS
 by_cases h1:plainS l x=0
 ·rw[y6 (by simpa using h1)]
  by_cases h2:(inS l x.G).2=0
  ·rw[y6 (by simpa using h2),zhx]; exact⟨fun h=>⟨h1,h2,h⟩,fun h=>h.2.2⟩
  ·rw[y7 (by simpa using h2)]; exact⟨fun h=>absurd h h2,fun h=>absurd h.2.1 h2⟩
 ·rw[y7 (by simpa using h1)]; exact⟨fun h=>absurd h h1,fun h=>absurd h.1 h1⟩
def setA (x:TTr) (a:Int):TTr:=⟨x.H,x.G,x.C,x.U,x.L,x.V,a⟩
variable {a b:Int}
theorem zk4 (h:plainS l (setA x a)=0) (hb:1<=b/\b<=1000000000000):plainS l (setA x b)=0:=by
 obtain⟨h1,h2,h3,_,h5⟩:=z1q.1 h
 exact z1q.2 ⟨h1,h2,h3,hb,h5⟩
theorem z47 (h:codeS l acc (setA x a)=0) (hb:1<=b/\b<=a):codeS l acc (setA x b)=0:=by
 obtain⟨h1,h2,h3⟩:=zba.1 h
 have ha:=(z1q.1 h1).2.2.2.1
 have ha':a<=1000000000000:=ha.2
 refine zba.2 ⟨zk4 h1 ⟨hb.1,om⟩,h2,⟨h3.ru,?_,?_,?_⟩⟩
 ·exact Int.le_trans (show (setA x b).D<=(setA x a).D from hb.2) h3.le
 ·exact Int.le_trans (show (setA x b).D<=(setA x a).D from hb.2) h3.fu
 ·have h4:=h3.bo
  unfold bndS at h4 |-
  rw[y1w,y30,y30] at h4 |-
  refine⟨fun z hz=>?_,fun z hz=>?_⟩
  ·have:=h4.1 z hz
   simp only[ya,y8,not_and] at this |-
   intro hm
   have:=this hm
   show ¬ hasS (inS l x.G).1 acc z.B z.C x.G+b>z.D
   have h5:¬ hasS (inS l x.G).1 acc z.B z.C x.G+a>z.D:=this
   omega
  ·have:=h4.2 z hz
   simp only[ya,y8,not_and] at this |-
   intro hm
   have:=this hm
   show ¬ hasS (inS l x.G).1 acc z.B z.C x.G-b<z.D
   have h5:¬ hasS (inS l x.G).1 acc z.B z.C x.G-a<z.D:=this
   omega
theorem half {n:Int} (h:0<=n/\n<=2000000000000):i64.wrap ((IntKind.u64.wrap (i64.wrap n)).fdiv (2 ^ (min (1:Int).toNat IntKind.u64.bits)))=n / 2:=by
 rw[wrapId (n:=n) om om,z5n om om]
 rw[show (2:Int) ^ (min (1:Int).toNat IntKind.u64.bits)=2 from rfl]
 rw[show n.fdiv 2=n / 2 by rw[Int.fdiv_eq_ediv_of_nonneg]; omega]
 exact wrapId om om
section
variable {l:TLa} (he:errL l=0) {acc:List TTr} (ha:AcJ l acc) (x:TTr)
include he ha
theorem zda {ask:Bool} {dy fail:Int} {now:TLa} (hJ:ask=true->inS l dy=(now,fail)) :
  ∃ r,F_q1w 1000000000000 x l ask dy now fail acc=some r/\(0<=r.1/\r.1<=1000000000000)/\(∀ m:Int,0<=m->m<r.1->codeS l acc (setA x (m+1))=0)/\∀ m:Int,r.1<=m->m<1000000000000->codeS l acc (setA x (m+1))≠0:=by
 obtain⟨st,e,h1,h2,h3⟩:=z1b (step:=fun s=>(S_q1w_b1 acc s).den) (fun s=>(s.2.2.2.2.2.2.2-s.2.2.2.2.2.2.1).toNat)
  (fun s=>(∃ a,s.1=setA x a)/\s.2.1=l/\(s.2.2.1=true->inS l s.2.2.2.1=(s.2.2.2.2.1,s.2.2.2.2.2.1))/\(0<=s.2.2.2.2.2.2.1/\s.2.2.2.2.2.2.1<=s.2.2.2.2.2.2.2/\s.2.2.2.2.2.2.2<=1000000000000)/\(∀ m:Int,0<=m->m<s.2.2.2.2.2.2.1->codeS l acc (setA x (m+1))=0)/\∀ m:Int,s.2.2.2.2.2.2.2<=m->m<1000000000000->codeS l acc (setA x (m+1))≠0)
  (fun s=>(0<=s.2.2.2.2.2.2.1/\s.2.2.2.2.2.2.1<=1000000000000)/\(∀ m:Int,0<=m->m<s.2.2.2.2.2.2.1->codeS l acc (setA x (m+1))=0)/\∀ m:Int,s.2.2.2.2.2.2.1<=m->m<1000000000000->codeS l acc (setA x (m+1))≠0) (fun s ⟨⟨a,q1⟩,q2,q3,q4,q5,q6⟩=>by
   obtain⟨s0,l0,ask,dy,now,fail,i,j⟩:=s
   simp only at q1 q2 q3 q4 q5 q6
   subst q1 q2
   simp only[S_q1w_b1,Scr.den]
   by_cases hk:i<j
   ·left
    rw[y7 (by simpa using hk),half om]
    have hw:i64.wrap ((i+j) / 2+1)=(i+j) / 2+1:=wrapId om om
    obtain⟨ask',dy',now',fail',e,hJ',_⟩:=z99 he q3 ha (setA x ((i+j) / 2+1))
    simp only[F_q5c,S_q5c,Scr.den,hw]
    rw[show (⟨(setA x a).H,(setA x a).G,(setA x a).C,(setA x a).U,(setA x a).L,(setA x a).V,(i+j) / 2+1⟩:TTr)=setA x ((i+j) / 2+1) from rfl,e]
    simp only[obind]
    by_cases hc:codeS l0 acc (setA x ((i+j) / 2+1))=0
    ·rw[y7 (by simpa using hc)]
     refine⟨_,rfl,⟨⟨_,rfl⟩,rfl,hJ',by simp only; omega,fun m h0 hm=>?_,q6⟩,by simp only; omega⟩
     exact z47 hc ⟨om,by simp only at hm; omega⟩
    ·rw[y6 (by simpa using hc)]
     refine⟨_,rfl,⟨⟨_,rfl⟩,rfl,hJ',by simp only; omega,q5,fun m h0 hm hz=>?_⟩,by simp only; omega⟩
     exact hc (z47 hz ⟨om,by simp only at h0; omega⟩)
   ·right
    rw[y6 (by simpa using hk)]
    have:i=j:=om
    subst this
    exact⟨_,rfl,by simp only; omega,q5,q6⟩) _ (x,l,ask,dy,now,fail,0,1000000000000) (y2k _)
  ⟨⟨x.D,rfl⟩,rfl,hJ,sj,fun m h0 hm=>absurd hm (by simp only; omega),fun m h0 hm=>absurd hm (by simp only at h0; omega)⟩
 simp only[F_q1w,S_q1w,Scr.den,e,outM]
 exact⟨_,rfl,h1,h2,h3⟩
end
end Go.Proofs.YtbmpcbbimefmoaaGreatDoor
/- The law TransferRoom. No condition. -/
namespace Go.Proofs.YtbmpcbbimefmoaaGreatDoor
open Go Go.TA
open Go.IntKind (i64)
attribute [-simp] List.getD_eq_getElem?_getD
def pw:TLa:=⟨0,1,[⟨[49],[97]⟩,⟨[49,46,49],[98]⟩,⟨[50],[99]⟩],[⟨[49,46,49],0,500⟩,⟨[50],0,100⟩],[],[],[],[],[⟨1,[49],[50],10⟩],[]⟩
def px:TTr:=⟨1,0,0,1,[49,46,49],[50],0⟩
def pt:List TTr:=[⟨1,0,0,1,[49,46,49],[50],50⟩,⟨2,0,0,1,[49,46,49],[50],1⟩]
theorem pw0:errL pw=0:=kj
theorem pw1:(runJ pw pt).2=[0,13]:=kj
theorem pw2:codeS pw [] (setA px 50)=0:=kj
theorem pw3:codeS pw [] (setA px 51)=13:=kj
end Go.Proofs.YtbmpcbbimefmoaaGreatDoor
/- The reference's law in force. No condition. -/
namespace Go.Proofs.YtbmpcbbimefmoaaGreatDoor
open Go Go.TA
open Go.IntKind (i64)
attribute [-simp] List.getD_eq_getElem?_getD
variable {b:List TBo}
theorem zp4 (h:OrdG plB b) {c:Y8} (hc:good c=true) (y:Int):F_q2q b c y=some ((posP (b.map plB) ⟨c,y⟩:Int),hasP (b.map plB) c y):=by
 have h1:(decide (posP (b.map plB) ⟨c,y⟩<(b.map plB).length)&&(cmpP ((b.map plB).getD (posP (b.map plB) ⟨c,y⟩) dF) ⟨c,y⟩==0))=hasP (b.map plB) c y:=(z97 h.srt h.gd (r:=⟨c,y⟩) ⟨hc,trivial⟩).1
 have hp:posP (b.map plB) ⟨c,y⟩=b.findIdx (fun x=>decide (0<=cmpP (plB x) ⟨c,y⟩)):=by unfold posP; rw[List.findIdx_map]; rfl
 simp only[F_q2q,S_q2q,Scr.den]
 rw[zy b (fun x=>decide (0<=cmpP (plB x) ⟨c,y⟩)) (fun i=>((i:Int),(cmpP (plB (b.getD i dF)) ⟨c,y⟩==0))) fun i hi=>by
  have hg:=h.good _ (z8 hi)
  have hg':good (b.getD i dF).B=true:=hg
  simp only[S_q2q_b1,Scr.den,z2a hg' hc,obind,zg,za]
  have e1:(decide (lexC (parts (b.getD i dF).B) (parts c)>0)||(lexC (parts (b.getD i dF).B) (parts c)==0&&decide ((b.getD i dF).C>=y)))=decide (0<=cmpP (plB (b.getD i dF)) ⟨c,y⟩):=by
   have:=z4u (a:=plB (b.getD i dF)) (b:=⟨c,y⟩) (.inl hg)
   rw[y1k,yj,ya,yn,y8,y8,y8]
   have h2:(plB (b.getD i dF)).code=(b.getD i dF).B:=rfl
   have h3:(plB (b.getD i dF)).year=(b.getD i dF).C:=rfl
   rw[h2,h3] at this
   simp only at this
   omega
  have e2:(lexC (parts (b.getD i dF).B) (parts c)==0&&(b.getD i dF).C==y)=(cmpP (plB (b.getD i dF)) ⟨c,y⟩==0):=by
   have:=z5r (a:=plB (b.getD i dF)) (b:=⟨c,y⟩) hg hc
   rw[y1k,ya,yn,yn,yn,this]
   exact⟨fun⟨u,v⟩=>⟨z6h hg' hc (z42 u),v⟩,fun⟨u,v⟩=>⟨by rw[show (b.getD i dF).B=c from u]; exact z35 _,v⟩⟩
  rw[e1,e2]
  split <;> rfl]
 rw[<- h1,hp]
 by_cases ha:(b.any fun x=>decide (0<=cmpP (plB x) ⟨c,y⟩))=true
 ·have hlt:b.findIdx (fun x=>decide (0<=cmpP (plB x) ⟨c,y⟩))<b.length:=y4h.2 (by obtain⟨r,a,e⟩:=y1o.1 ha; exact⟨r,a,e⟩)
  rw[y7 ha]
  simp only[outM,id]
  rw[y1q,y11 hlt,y1m,zh hlt,zh (by rw[y1q]; exact hlt),y46]
 ·rw[y6 ha]
  have hge:b.findIdx (fun x=>decide (0<=cmpP (plB x) ⟨c,y⟩))=b.length:=by
   rw[y52]
   intro x hx
   rw[y45,y30] at ha
   simpa using ha x hx
  simp only[outM]
  rw[hge,y1q,y19 om,y2i]
variable {x:TCh}
theorem zca (hl:b.length<=100000) (h:OrdG plB b) (hx:good x.B=true) (none:Int):F_q3h b x none=some (putG plB b ⟨x.B,x.C,x.D⟩ (x.D==none)):=by
 have hpl:=z5s (b.map plB) ⟨x.B,x.C⟩
 rw[y1q] at hpl
 simp only[F_q3h,S_q3h,Scr.den,zp4 h hx,obind,yi]
 have ht:(b.take (posP (b.map plB) ⟨x.B,x.C⟩)).length=posP (b.map plB) ⟨x.B,x.C⟩:=by rw[yx]; omega
 rw[z6 ⟨om,hpl,om,trivial⟩]
 have hlt:hasP (b.map plB) x.B x.C=true->posP (b.map plB) ⟨x.B,x.C⟩<b.length:=fun hh=>(zb7 (x:=(⟨x.B,x.C,x.D⟩:TBo)) h hx hh).1
 unfold putG
 rw[show (plB ⟨x.B,x.C,x.D⟩).code=x.B from rfl,show (plB ⟨x.B,x.C,x.D⟩).year=x.C from rfl,show plB ⟨x.B,x.C,x.D⟩=⟨x.B,x.C⟩ from rfl]
 generalize posP (b.map plB) ⟨x.B,x.C⟩=p at *
 by_cases hr:x.D=none
 ·rw[y6 (by simpa using hr),show (x.D==none)=true by simpa using hr]
  simp only[outM]
  by_cases hh:hasP (b.map plB) x.B x.C=true
  ·have:=hlt hh
   rw[y7 hh,y7 hh]
   simp only
   rw[wrapId (n:=(p:Int)+1) om om,show ((p:Int)+1).toNat=p+1 from om,z6 ⟨om,om,by rw[y21]; omega,trivial⟩,z6 ⟨by rw[yb,y21]; omega,trivial⟩,y7 trivial,y5a]
  ·rw[y6 hh,y6 hh]
   simp only[yi]
   rw[z6 ⟨om,om,by rw[y21]; omega,trivial⟩,z6 ⟨by rw[yb,y21]; omega,trivial⟩,y7 trivial,y2b]
 ·rw[y7 (by simpa using hr),show (x.D==none)=false by simpa using hr,Ga]
  simp only[outM]
  by_cases hh:hasP (b.map plB) x.B x.C=true
  ·have:=hlt hh
   rw[y7 hh,y7 hh]
   simp only
   rw[wrapId (n:=(p:Int)+1) om om,show ((p:Int)+1).toNat=p+1 from om,z6 ⟨om,om,by rw[yb,yd,y21]; omega,trivial⟩,z6 ⟨by rw[yb,yb,yd,y21]; omega,trivial⟩,y6 sj,List.set_eq_take_append_cons_drop,y7 this,y25]
   rfl
  ·rw[y6 hh,y6 hh]
   simp only[yi]
   rw[z6 ⟨om,om,by rw[yb,yd,y21]; omega,trivial⟩,z6 ⟨by rw[yb,yb,yd,y21]; omega,trivial⟩,y6 sj,y25]
   rfl
def lb (x:TLi):TBo:=⟨x.B,x.C,x.D⟩
def bl (x:TBo):TLi:=⟨x.B,x.C,x.D⟩
theorem zme (l:List TLi):(l.map lb).map plB=l.map plL:=by rw[List.map_map]; rfl
variable {l:List TLi}
theorem zon (h:OrdG plL l):OrdG plB (l.map lb):=⟨by rw[zme]; exact h.pw,fun x hx=>by obtain⟨y,hy,rfl⟩:=yz.1 hx; exact h.good y hy⟩
theorem zoo (l:List TLi) (x:TLi) (rm:Bool):putG plB (l.map lb) (lb x) rm=(putG plL l x rm).map lb:=by
 unfold putG
 rw[zme,show (plB (lb x)).code=(plL x).code from rfl,show (plB (lb x)).year=(plL x).year from rfl,show plB (lb x)=plL x from rfl]
 split
 ·split
  ·simp only[y5a,y37,y61,List.map_drop]
  ·rw[List.map_set]
 ·split
  ·rfl
  ·unfold insL
   simp only[y37,y61,List.map_drop,y2n]
theorem zp5 (l:List TLi):(l.map lb).map bl=l:=by rw[List.map_map]; exact List.map_id l
theorem zhy (hl:l.length<=100000):F_q2p l=some (l.map lb):=by
 simp only[F_q2p,S_q2p,Scr.den]
 rw[z1u l (fun _=>true) lb 1000000 om fun i s hi hs=>by
  simp only[S_q2p_b1,Scr.den]
  rw[Ga]; rfl]
 simp only[outM]
 rw[show l.filter (fun _=>true)=l from y3q.2 fun _ _=>rfl]
 rw[z6 ⟨by rw[y1q]; omega,trivial⟩]
theorem zk5 {l:List TBo} (hl:l.length<=1000000):F_q2r l=some (l.map bl):=by
 simp only[F_q2r,S_q2r,Scr.den]
 rw[z1u l (fun _=>true) bl 1000000 om fun i s hi hs=>by
  simp only[S_q2r_b1,Scr.den]
  rw[Ga]; rfl]
 simp only[outM]
 rw[show l.filter (fun _=>true)=l from y3q.2 fun _ _=>rfl]
 rw[z6 ⟨by rw[y1q]; omega,trivial⟩]
theorem zfz {n:Nat} {l:TLa} {cs:List TCh} (h:WL n l) (hc:∀ x∈cs,good x.B=true/\(x.R=1\/x.R=2\/x.R=3)) (hn:n+cs.length<=100000) :
  F_q26 l cs=some (if bigL (applyS cs l) then (zL,3) else (applyS cs l,0)):=by
 have hll:=h.ll
 simp only[F_q26,S_q26,Scr.den,zhy (show l.P.length<=100000 from om),obind]
 rw[Ga]
 obtain⟨r,e,h1,h2⟩:=zp (body:=fun i s=>(S_q26_b1 cs i s).den) (n:=cs.length) (fun i s=>s.1={ applyS (cs.take i) l with P:=l.P }/\s.2=(applyS (cs.take i) l).P.map lb) (s0:=(l,l.P.map lb)) ⟨rfl,rfl⟩ (fun i s hi ⟨q1,q2⟩=>by
  obtain⟨s1,s2⟩:=s
  simp only at q1 q2
  subst q1 q2
  have hw:=z8j (cs:=cs.take i) (fun x hx=>(hc x (y17 hx)).1) h
  have hlen:(cs.take i).length=i:=by rw[yx]; omega
  rw[hlen] at hw
  have k1:=hw.ll; have k2:=hw.cl; have k3:=hw.fl
  obtain⟨hg,hk⟩:=hc _ (z8 hi)
  simp only[S_q26_b1,Scr.den,y1h]
  rw[z6 ⟨hi,trivial⟩,y13 hi,<- zh hi,zb8,show applyS [cs.getD i dF] (applyS (cs.take i) l)=setS (cs.getD i dF) (applyS (cs.take i) l) from rfl]
  unfold setS
  rcases hk with hk | hk | hk
  ·rw[y7 (by simpa using hk),zca (by rw[y1q]; omega) (zon hw.lo) hg,obind,y7 hk]
   exact⟨_,rfl,rfl,zoo _ ⟨(cs.getD i dF).B,(cs.getD i dF).C,(cs.getD i dF).D⟩ _⟩
  ·rw[y6 (by rw[hk]; decide),y7 (by rw[hk]; decide),zca om hw.co hg,obind,y6 om,y7 hk]
   exact⟨_,rfl,rfl,rfl⟩
  ·rw[y6 (by rw[hk]; decide),y6 (by rw[hk]; decide),zca om hw.fo hg,obind,y6 om,y6 om,y7 hk]
   exact⟨_,rfl,rfl,rfl⟩)
 obtain⟨r1,r2⟩:=r
 simp only at h1 h2
 subst h1 h2
 rw[y1y] at e
 have hw:=z8j (cs:=cs) (fun x hx=>(hc x hx).1) h
 have k1:=hw.ll
 rw[e]
 simp only[outM,zg]
 rw[zk5 (by rw[y1q]; omega),obind,zp5]
 by_cases hb:bigL (applyS cs l)
 ·rw[y7 hb,y7 (by unfold bigL at hb; simp only[yj,y8]; omega)]; rfl
 ·rw[y6 hb,y6 (by unfold bigL at hb; simp only[yj,y8]; omega)]
theorem zlv {t:List THe} {f y:Int} (h:z1p t f y x=0):x.R=1\/x.R=2\/x.R=3:=by
 unfold z1p at h
 split at h
 ·cases h
 ·omega
end Go.Proofs.YtbmpcbbimefmoaaGreatDoor
/- Accepted transfers alone are all accepted; lines,sums under a leaf. No condition. -/
namespace Go.Proofs.YtbmpcbbimefmoaaGreatDoor
open Go Go.TA
open Go.IntKind (i64)
attribute [-simp] List.getD_eq_getElem?_getD
theorem zhz {L:List TTr}:F_q2t L L=some true:=by
 simp only[F_q2t,S_q2t,Scr.den]
 rw[y6 sj]
 rw[z6p fun i hi=>by
  simp only[S_q2t_b1,Scr.den]
  rw[z6 ⟨hi,trivial⟩,y6 sj]]
 rfl
theorem zgs {l:List TLi} (h:OrdG plL l) (c:Y8) (y:Int):smm (fun x=>if (x.B==c&&x.C==y)=true then x.D else 0) l=lineA l c y:=by
 have hp:=h.pw
 have hg:=h.good
 unfold lineA
 induction l with
 | nil=>rfl
 | cons x l ih =>
  obtain⟨p1,p2⟩:=y3j.1 (show List.Pairwise _ (plL x :: l.map plL) from hp)
  have ih':=ih ⟨p2,fun z hz=>hg z (ym _ hz)⟩ p2 (fun z hz=>hg z (ym _ hz))
  simp only[smm,y4p]
  by_cases hx:(x.B==c&&x.C==y)=true
  ·rw[y7 hx,hx]
   have h0:smm (fun x=>if (x.B==c&&x.C==y)=true then x.D else 0) l=0:=by
    have hz:∀ z∈l,(if (z.B==c&&z.C==y)=true then z.D else 0)=0:=fun z hz=>by
     rw[y6]
     intro e
     simp only[ya,yn] at e hx
     have h1:=p1 (plL z) (yz.2 ⟨z,hz,rfl⟩)
     have h2:cmpP (plL x) (plL z)=0:=(z5r (hg x y1a) (hg z (ym _ hz))).2 ⟨by show x.B=z.B; rw[hx.1,e.1],by show x.C=z.C; rw[hx.2,e.2]⟩
     omega
    rw[z14 (v:=fun _=>0) hz]
    have:∀ m:List TLi,smm (fun _=>(0:Int)) m=0:=fun m=>by
     induction m with
     | nil=>rfl
     | cons a m ih=>simp only[smm,ih]; omega
    exact this l
   rw[h0]; simp
  ·rw[y6 hx,ih',yk.2 hx]; simp
section
variable {l:TLa} (hl:RL l)
include hl
end
end Go.Proofs.YtbmpcbbimefmoaaGreatDoor
/- What the leaves have; rows of accepted transfers,step by step. No condition. -/
namespace Go.Proofs.YtbmpcbbimefmoaaGreatDoor
open Go Go.TA
open Go.IntKind (i64)
attribute [-simp] List.getD_eq_getElem?_getD
def rowS (n:TLa) (acc:List TTr) (f d:Int) (k:Nat) (c:Y8):List TLi :=
 ((List.range k).filter fun i:Nat=>hasS n acc c (f+(i:Int)) d != 0).map fun i:Nat=>⟨c,f+(i:Int),hasS n acc c (f+(i:Int)) d⟩
def linesS (n:TLa) (acc:List TTr) (t:List THe) (f y d:Int):List TLi:=(leavesU t []).flatMap (rowS n acc f d y.toNat)
theorem zac (n:TLa) (acc:List TTr) (f d:Int) (k:Nat) (c:Y8):(rowS n acc f d k c).length<=k:=by
 unfold rowS
 rw[y1q]
 have:=y3x (fun i:Nat=>hasS n acc c (f+(i:Int)) d != 0) (List.range k)
 rwa [y4y] at this
theorem zf8 {α β:Type} (f:α->List β) (k:Nat):∀ l:List α,(∀ x∈l,(f x).length<=k)->(l.flatMap f).length<=k * l.length
 | [],_=>sj
 | x :: l,h=>by
  have a:=zf8 f k l fun y hy=>h y (ym _ hy)
  have b:=h x y1a
  rw[y4z,yb,y10,Nat.mul_add]
  omega
structure EqS (a b:List TTr):Prop where
 g:∀ z,smm (givW z) a=smm (givW z) b
 m:∀ c y d,smm (movW c y d) a=smm (movW c y d) b
end Go.Proofs.YtbmpcbbimefmoaaGreatDoor
/- The law TransferTotals. No condition. -/
namespace Go.Proofs.YtbmpcbbimefmoaaGreatDoor
open Go Go.TA
open Go.IntKind (i64)
attribute [-simp] List.getD_eq_getElem?_getD
theorem z9a {α:Type} (u v:α->Int):∀ l:List α,smm (fun x=>u x+v x) l=smm u l+smm v l
 | []=>rfl
 | x :: l=>by simp only[smm]; rw[z9a u v l]; omega
theorem z75 {α:Type} (u v:α->Int):∀ l:List α,smm (fun x=>u x-v x) l=smm u l-smm v l
 | []=>rfl
 | x :: l=>by simp only[smm]; rw[z75 u v l]; omega
theorem z4w {α:Type} {w:α->Int}:∀ {l:List α},(∀ x∈l,w x=0)->smm w l=0
 | [],_=>rfl
 | x :: l,h=>by simp only[smm]; rw[h x y1a,z4w fun y hy=>h y (ym _ hy)]; rfl
theorem zad {α β:Type} (g:α->β->Int) (m:List β):∀ l:List α,smm (fun x=>smm (g x) m) l=smm (fun y=>smm (fun x=>g x y) l) m
 | []=>(z4w fun _ _=>rfl).symm
 | x :: l=>by
  simp only[smm]
  rw[zad g m l,<- z9a]
theorem zcb {α:Type} [DecidableEq α] {w:α->Int} {c:α} {K:Int}:∀ {l:List α},l.Nodup->c∈l->(∀ x∈l,w x=if x=c then K else 0)->smm w l=K
 | [],_,h,_=>by cases h
 | x :: l,hn,h,hw=>by
  obtain⟨h1,h2⟩:=y4d.1 hn
  have hx:=hw x y1a
  simp only[smm]
  by_cases e:x=c
  ·subst e
   rw[y7 rfl] at hx
   rw[hx,z4w fun y hy=>by rw[hw y (ym _ hy),y6 (show ¬ y=x from fun e=>h1 (by rw[<- e]; exact hy))]]
   omega
  ·rw[y6 e] at hx
   rw[hx,zcb h2 ((yv.1 h).resolve_left fun h=>e h.symm) fun y hy=>hw y (ym _ hy)]
   omega
def coT (top c:Y8):Bool:=top==[]||und c top
section
variable {l:TLa} (hl:RL l)
include hl
end
end Go.Proofs.YtbmpcbbimefmoaaGreatDoor
/- Valid trees: their leaves; the reference's law in force. No condition. -/
namespace Go.Proofs.YtbmpcbbimefmoaaGreatDoor
open Go Go.TA
open Go.IntKind (i64)
attribute [-simp] List.getD_eq_getElem?_getD
variable {t:List THe}
theorem z5t (h:treeE t=0):t.length<=60/\∀ i,i<t.length->headE t i=0:=by
 unfold treeE at h
 split at h
 ·cases h
 ·exact⟨om,z18.1 h⟩
theorem zcc {i:Nat} (h:headE t i=0):good (t.getD i dF).B=true/\(0<i->lexC (parts (t.getD (i-1) dF).B) (parts (t.getD i dF).B)<0)/\(par (t.getD i dF).B=[]\/has t (par (t.getD i dF).B)=true):=by
 unfold headE at h
 split at h
 ·cases h
 rename_i h1
 split at h
 ·cases h
 split at h
 ·cases h
 rename_i h3
 split at h
 ·cases h
 rename_i h4
 refine⟨by simpa using h1,fun h0=>?_,?_⟩
 ·by_cases c:lexC (parts (t.getD (i-1) dF).B) (parts (t.getD i dF).B)<0
  ·exact c
  ·exact absurd ⟨h0,c⟩ h3
 ·by_cases c:par (t.getD i dF).B=[]
  ·exact .inl c
  ·right
   cases hk:has t (par (t.getD i dF).B)
   ·exact absurd ⟨c,hk⟩ h4
   ·rfl
theorem zmf (h:treeE t=0):CL (t.map (·.B)):=by
 obtain⟨_,ha⟩:=z5t h
 refine⟨?_,fun c hc=>?_,fun c hc=>?_⟩
 ·rw[List.pairwise_map,y20]
  intro i j hi hj hij
  induction j with
  | zero=>omega
  | succ j ih =>
   have hs:=(zcc (ha (j+1) hj)).2.1 om
   rw[y60,zh om,zh hj] at hs
   by_cases e:i=j
   ·subst e; exact y11 hs
   ·have:=y2m (ih om om)
    exact y11 (z5j this hs)
 ·obtain⟨x,hx,rfl⟩:=yz.1 hc
  obtain⟨i,hi,rfl⟩:=y2j hx
  have:=(zcc (ha i hi)).1
  rwa [zh hi] at this
 ·obtain⟨x,hx,rfl⟩:=yz.1 hc
  obtain⟨i,hi,rfl⟩:=y2j hx
  have:=(zcc (ha i hi)).2.2
  rw[zh hi] at this
  exact this.imp_right z3v.1
variable {c:Y8}
theorem znj (h:leafT t c=true):c∈t.map (·.B):=by
 unfold leafT at h
 simp only[ya] at h
 exact z3v.1 h.1.2
theorem zae (ht:treeE t=0) {s:Y8} (hc:leafT t c=true) (hs:leafT t s=true):und c s=true↔c=s:=by
 refine⟨fun hu=>zf5 (zmf ht) hs _ c (yc _) (znj hc) hu,fun e=>?_⟩
 subst e
 unfold und
 rw[leafGood hc]; simp
theorem znk (h:leafT t c=true):c≠[]:=fun e=>by
 rw[e] at h; exact absurd (leafGood h) dk
theorem zi0 (ht:treeE t=0) (top:Y8):(leavesU t top).Nodup:=by
 have:(leavesU t top).Pairwise fun a b=>ltK a b=true:=by
  unfold leavesU
  exact y3y ((List.filter_sublist).map _) (zmf ht).pw
 refine this.imp fun {a b} h e=>?_
 subst e
 unfold ltK at h
 rw[z35] at h
 exact absurd h dk
theorem z52 {top:Y8}:c∈leavesU t top↔leafT t c=true/\coT top c=true:=by
 unfold leavesU leafT has coT
 rw[yz]
 constructor
 ·rintro⟨x,hx,rfl⟩
  obtain⟨h1,h2⟩:=y1x.1 hx
  simp only[ya,y1o] at h2 |-
  exact⟨⟨⟨h2.1.1,x,h1,sj⟩,h2.2⟩,h2.1.2⟩
 ·rintro⟨h1,h2⟩
  simp only[ya,y1o,yn] at h1
  obtain⟨⟨g,x,hx,rfl⟩,h3⟩:=h1
  refine⟨x,y1x.2 ⟨hx,?_⟩,rfl⟩
  simp only[ya]
  exact⟨⟨g,h2⟩,h3⟩
theorem znl {a b:TAm}:ltA a b=true↔a.G<b.G\/(a.G=b.G/\a.H<b.H):=by
 unfold ltA
 simp only[yj,ya,y8]
theorem zlw {f y:Int} {L:List TAm} (h:fstE L.length (amdE t f y L)=0):L.Pairwise fun a b=>a.G<=b.G:=by
 rw[z18] at h
 have one:∀ i,i<L.length->0<i->(L.getD (i-1) dF).G<=(L.getD i dF).G:=fun i hi h0=>by
  have:=h i hi
  unfold amdE at this
  split at this
  ·cases this
  split at this
  ·cases this
  rename_i h2
  have hl:ltA (L.getD (i-1) dF) (L.getD i dF)=true:=by
   cases hk:ltA (L.getD (i-1) dF) (L.getD i dF)
   ·exact absurd ⟨h0,hk⟩ h2
   ·rfl
  rw[znl] at hl
  omega
 rw[y20]
 intro i j hi hj hij
 induction j with
 | zero=>omega
 | succ j ih =>
  have hs:=one (j+1) hj om
  rw[y60,zh om,zh hj] at hs
  by_cases e:i=j
  ·subst e; exact hs
  ·have:=ih om om; omega
theorem zdb {d:Int}:∀ {L:List TAm},(L.Pairwise fun a b=>a.G<=b.G)->L.filter (fun a=>decide (a.G<=d))=L.take (L.findIdx fun a=>decide (a.G>d))/\L.filter (fun a=>!decide (a.G<=d))=L.drop (L.findIdx fun a=>decide (a.G>d))
 | [],_=>⟨rfl,rfl⟩
 | a :: L,h=>by
  have hp:=y3j.1 h
  rw[y2z,y3d,y3d]
  by_cases c:a.G>d
  ·rw[y11 c,y19 (show ¬ a.G<=d from om)]
   simp only[yl,y2g,Bool.not_false,y3h,cond_true,List.take_zero,y4x]
   refine⟨List.filter_eq_nil_iff.2 fun x hx=>?_,?_⟩
   ·have:=hp.1 x hx; rw[y8]; omega
   ·congr 1
    exact y3q.2 fun x hx=>by have:=hp.1 x hx; rw[y19 (show ¬ x.G<=d from om)]; rfl
  ·rw[y19 c,y11 (show a.G<=d from om)]
   simp only[y3h,y55,yl,y2g,y69,y48,List.drop_succ_cons]
   obtain⟨h1,h2⟩:=zdb hp.2
   exact⟨by rw[h1],h2⟩
theorem zf9 {l:TLa} (he:errL l=0) (d:Int):F_qm l d=some (inS l d):=by
 have hs:=z4g he
 obtain⟨hr,hw,hb⟩:=z10.1 he
 have hf:=z7p hr
 simp only[F_qm,S_qm,Scr.den,zb3 hs,he,obind,F_q32,S_q32,za]
 rw[y6 sj]
 unfold inS
 rw[y7 he]
 by_cases hd:d<0\/d>36000
 ·rw[y7 hd,y7 sk]; rfl
 ·rw[y6 hd,y6 sk]
  obtain⟨r,e,h⟩:=zp (body:=fun i s=>(S_qm_b1 l d i s).den) (n:=l.A.length)
   (fun i s=>s=(((l.A.take i).filter fun a=>decide (a.G<=d)).flatMap (·.Q),(l.A.take i).filter fun a=>!decide (a.G<=d))) (s0:=(([]:List TCh),([]:List TAm))) rfl (fun i s hi h=>by
    refine⟨_,?_,rfl⟩
    have hcl:=hf.2 _ (z8 hi)
    have l1:s.1.length<=400:=by
     rw[h]
     have k:=zc3 (L:=(l.A.take i).filter fun a=>decide (a.G<=d)) (k:=20) fun a ha=>hf.2 a (y17 (y1x.1 ha).1)
     have k2:=y3x (fun a:TAm=>decide (a.G<=d)) (l.A.take i)
     rw[yx] at k2
     simp only
     omega
    have l2:s.2.length<=20:=by
     rw[h]
     have k2:=y3x (fun a:TAm=>!decide (a.G<=d)) (l.A.take i)
     rw[yx] at k2
     simp only
     omega
    rw[y13 hi,y4t,y4t,y47,<- zh hi]
    simp only[S_qm_b1,Scr.den]
    subst h
    by_cases c:(l.A.getD i dF).G<=d
    ·rw[y7 (by simpa using c),z6 ⟨by simp only at l1 |-; omega,trivial⟩]
     rw[y3d,y7 (by simpa using c),y3d,y6 (by simpa using c)]
     simp
    ·rw[y6 (by simpa using c),z6 ⟨by simp only at l2 |-; omega,trivial⟩]
     rw[y3d,y6 (by simpa using c),y3d,y7 (by simpa using c)]
     simp)
  obtain⟨h1,h2⟩:=zdb (d:=d) (zlw hr.am)
  rw[e,h,y1y,h1,h2]
  simp only[outM]
  rw[z6 ⟨by rw[y21]; omega,trivial⟩]
  have h0:WL 120 { l with A:=l.A.drop (laterI l d) }:=by
   have:=zmc hw hb
   exact⟨this.lo,this.ll,this.co,this.cl,this.fo,this.fl⟩
  have hc:=zc4 hr d
  have hn:=zgj hr d
  have hx:=zfz h0 (cs:=nowC l d) (fun x hx=>⟨chgG hr.tr (hc x hx),zlv (hc x hx)⟩) om
  unfold nowC laterI at hx
  rw[hx,obind]
  unfold forceL nowC laterI
  split <;> rfl
end Go.Proofs.YtbmpcbbimefmoaaGreatDoor
/- What is under a code,leaf by leaf. No condition. -/
namespace Go.Proofs.YtbmpcbbimefmoaaGreatDoor
open Go Go.TA
open Go.IntKind (i64)
attribute [-simp] List.getD_eq_getElem?_getD
variable {α:Type}
theorem zop (b:Bool) (g:α->Int) (L:List α):(if b=true then smm g L else 0)=smm (fun x=>if b=true then g x else 0) L:=by
 cases b
 ·rw[y6 dk]
  exact (z4w fun _ _=>rfl).symm
 ·rfl
theorem zaf {t:List THe} (ht:treeE t=0) (code:α->Y8) (year amt:α->Int) {f:Int} {k:Nat} (top:Y8) (y:Int) {L:List α} (hL:∀ x∈L,leafT t (code x)=true/\f<=year x/\year x<f+(k:Int)) :
  smm (fun c=>smm (fun i:Nat=>if (y==-1||y==f+(i:Int))=true then smm (fun x=>if (code x==c&&year x==f+(i:Int))=true then amt x else 0) L else 0) (List.range k)) (leavesU t top) =
   smm (fun x=>if ((y==-1||year x==y)&&coT top (code x))=true then amt x else 0) L:=by
 have e1:∀ c,smm (fun i:Nat=>if (y==-1||y==f+(i:Int))=true then smm (fun x=>if (code x==c&&year x==f+(i:Int))=true then amt x else 0) L else 0) (List.range k) =
   smm (fun x=>smm (fun i:Nat=>if (y==-1||y==f+(i:Int))=true then (if (code x==c&&year x==f+(i:Int))=true then amt x else 0) else 0) (List.range k)) L:=fun c=>by
  rw[<- zad]
  exact z14 fun i _=>zop _ _ _
 rw[z14 fun c _=>e1 c,zad]
 refine z14 fun x hx=>?_
 obtain⟨h1,h2,h3⟩:=hL x hx
 have e2:∀ c,smm (fun i:Nat=>if (y==-1||y==f+(i:Int))=true then (if (code x==c&&year x==f+(i:Int))=true then amt x else 0) else 0) (List.range k)=if c=code x then (if (y==-1||year x==y)=true then amt x else 0) else 0:=fun c=>by
  by_cases hc:c=code x
  ·rw[y7 hc]
   refine zcb (c:=(year x-f).toNat) List.nodup_range (y1l.2 om) fun i hi=>?_
   have hyy:f+((year x-f).toNat:Int)=year x:=om
   by_cases e:i=(year x-f).toNat
   ·rw[y7 e]
    subst e
    rw[hyy,hc]
    simp only[y3s,y4c,y3h]
    have:(y==year x)=(year x==y):=by rw[y1k,yn,yn]; exact eq_comm
    rw[this]
   ·rw[y6 e,show (year x==f+(i:Int))=false from y1v.2 om,y4k]
    simp
  ·rw[y6 hc]
   refine z4w fun i _=>?_
   rw[show (code x==c)=false from y1v.2 (fun h=>hc h.symm),y2i]
   simp
 rw[z14 fun c _=>e2 c]
 by_cases hk:coT top (code x)=true
 ·rw[hk,y62]
  exact zcb (c:=code x) (zi0 ht top) (z52.2 ⟨h1,hk⟩) fun c _=>rfl
 ·rw[yk.2 hk,y4k,y6 (show ¬ ((false:Bool)=true) from dk)]
  refine z4w fun c hc=>y6 fun e=>?_
  subst e
  exact hk (z52.1 hc).2
def mIn (c:Y8) (y d:Int) (z:TTr):Int:=if (z.C != y||decide (z.G>d))=true then 0 else if (z.V==c)=true then z.D else 0
def mOut (c:Y8) (y d:Int) (z:TTr):Int:=if (z.C != y||decide (z.G>d))=true then 0 else if (z.L==c)=true then z.D else 0
variable {acc:List TTr}
theorem zk6 (h:AcOk acc) (c:Y8) (y d:Int):∀ z∈acc,0<=mIn c y d z/\mIn c y d z<=1000000000000:=fun z hz=>by
 have:=h.am z hz
 unfold mIn; (repeat' split) <;> omega
theorem zgt (h:AcOk acc) (c:Y8) (y d:Int):∀ z∈acc,0<=mOut c y d z/\mOut c y d z<=1000000000000:=fun z hz=>by
 have:=h.am z hz
 unfold mOut; (repeat' split) <;> omega
theorem z5b (h:AcOk acc) (c:Y8) (y d:Int):0<=smm (mIn c y d) acc/\smm (mIn c y d) acc<=100000000000000:=by
 have a:=zf7 (mIn c y d) acc fun z hz=>(zk6 h c y d z hz).1
 have b:=(z66 (mIn c y d) 1000000000000 acc fun z hz=>by have:=zk6 h c y d z hz; omega).2
 have:=h.le
 omega
theorem z48 (h:AcOk acc) (c:Y8) (y d:Int):0<=smm (mOut c y d) acc/\smm (mOut c y d) acc<=100000000000000:=by
 have a:=zf7 (mOut c y d) acc fun z hz=>(zgt h c y d z hz).1
 have b:=(z66 (mOut c y d) 1000000000000 acc fun z hz=>by have:=zgt h c y d z hz; omega).2
 have:=h.le
 omega
def hasR (n:TLa) (acc:List TTr) (c:Y8) (y d:Int):Int:=lineA n.P c y+smm (mIn c y d) acc-smm (mOut c y d) acc
variable {n:TLa}
theorem zgu (hn:NowOk n) (h:AcOk acc) (c:Y8) (y d:Int):-200000000000000<=hasR n acc c y d/\hasR n acc c y d<=200000000000000:=by
 have a:=z5b h c y d
 have b:=z48 h c y d
 have e:=z3x hn.la c y
 unfold hasR
 omega
theorem zlx (h:AcOk acc) (c:Y8) (y d:Int):F_q27 c y d acc=some (smm (mIn c y d) acc,smm (mOut c y d) acc):=by
 have hle:=h.le
 simp only[F_q27,S_q27,Scr.den]
 rw[Ga]
 obtain⟨r,e,h1⟩:=zp (body:=fun i s=>(S_q27_b1 c y d acc i s).den) (n:=acc.length)
  (fun i s=>s=(smm (mIn c y d) (acc.take i),smm (mOut c y d) (acc.take i))) (s0:=((0:Int),(0:Int))) (by simp[smm]) (fun i s hi hs=>by
   refine⟨_,?_,rfl⟩
   have hac:AcOk (acc.take i):=⟨by rw[yx]; omega,fun z hz=>h.am z (y17 hz),fun z hz=>h.fr z (y17 hz),fun z hz=>h.to z (y17 hz)⟩
   have b1:=z5b hac c y d
   have b2:=z48 hac c y d
   have hz:=h.am _ (z8 hi)
   rw[z3w _ hi,z3w _ hi]
   subst hs
   simp only[S_q27_b1,Scr.den,y1h,zg]
   rw[z6 ⟨hi,trivial⟩]
   generalize acc.getD i dF=z at hz |-
   unfold mIn mOut at *
   by_cases k:(z.C != y||decide (z.G>d))=true
   ·rw[y7 k,y7 k,y7 k,y24,y24]
   ·rw[y6 k,y6 k,y6 k]
    by_cases k1:(z.V==c)=true
    ·rw[y7 k1,y7 k1]
     simp only[outM]
     rw[wrapId om om]
     by_cases k2:(z.L==c)=true
     ·rw[y7 k2,y7 k2,wrapId om om]
     ·rw[y6 k2,y6 k2,y24]
    ·rw[y6 k1,y6 k1,y24]
     simp only[outM]
     by_cases k2:(z.L==c)=true
     ·rw[y7 k2,y7 k2,wrapId om om]
     ·rw[y6 k2,y6 k2,y24])
 rw[e,h1,y1y]
 rfl
theorem znm (hn:NowOk n) (h:AcOk acc) (c:Y8) (y:Int):F_q4u n c y acc=some (hasR n acc c y 36000):=by
 have a:=z5b h c y 36000
 have b:=z48 h c y 36000
 have e:=z3x hn.la c y
 simp only[F_q4u,S_q4u,Scr.den,zlx h,z72,obind]
 rw[wrapId (n:=lineA n.P c y+smm (mIn c y 36000) acc) om om,wrapId om om]
 rfl
theorem z7r (h:AcOk acc) (c:Y8) (y d:Int):F_q19 acc c y d=some (smm (mIn c y d) acc,smm (mOut c y d) acc):=by
 have hle:=h.le
 simp only[F_q19,S_q19,Scr.den]
 obtain⟨r,e,h1⟩:=zp (body:=fun i s=>(S_q19_b1 acc c y d i s).den) (n:=acc.length)
  (fun i s=>s=(smm (mIn c y d) (acc.take i),smm (mOut c y d) (acc.take i))) (s0:=((0:Int),(0:Int))) (by simp[smm]) (fun i s hi hs=>by
   refine⟨_,?_,rfl⟩
   have hac:AcOk (acc.take i):=⟨by rw[yx]; omega,fun z hz=>h.am z (y17 hz),fun z hz=>h.fr z (y17 hz),fun z hz=>h.to z (y17 hz)⟩
   have b1:=z5b hac c y d
   have b2:=z48 hac c y d
   have hz:=h.am _ (z8 hi)
   rw[z3w _ hi,z3w _ hi]
   subst hs
   simp only[S_q19_b1,Scr.den,zg]
   generalize acc.getD i dF=z at hz |-
   unfold mIn mOut at *
   by_cases k:(z.C != y||decide (z.G>d))=true
   ·rw[y7 k,y7 k,y7 k,y24,y24]
   ·rw[y6 k,y6 k,y6 k]
    by_cases k1:(z.V==c)=true
    ·rw[y7 k1,y7 k1]
     simp only[outM]
     rw[wrapId om om]
     by_cases k2:(z.L==c)=true
     ·rw[y7 k2,y7 k2,wrapId om om]
     ·rw[y6 k2,y6 k2,y24]
    ·rw[y6 k1,y6 k1,y24]
     simp only[outM]
     by_cases k2:(z.L==c)=true
     ·rw[y7 k2,y7 k2,wrapId om om]
     ·rw[y6 k2,y6 k2,y24])
 rw[e,h1,y1y]
 rfl
theorem zdc (hn:NowOk n) (h:AcOk acc) (c:Y8) (y:Int):F_q3v n acc c y=some (hasR n acc c y 36000):=by
 have a:=z5b h c y 36000
 have b:=z48 h c y 36000
 have e:=z3x hn.la c y
 simp only[F_q3v,S_q3v,Scr.den,z7r h,z72,obind]
 rw[wrapId (n:=lineA n.P c y+smm (mIn c y 36000) acc) om om,wrapId om om]
 rfl
variable {top:Y8}
theorem zk7 (hn:NowOk n) (hs:SmT n.F) (ht:n.F.length<=60) (hf:0<=n.E/\n.E<=100) (hy:1<=n.I/\n.I<=4) (h:AcOk acc) (htop:top.length<=1000000) (y:Int) :
  F_qa n acc top y=some (smm (fun c=>smm (fun i:Nat=>if (y==-1||y==n.E+(i:Int))=true then hasR n acc c (n.E+(i:Int)) 36000 else 0) (List.range n.I.toNat)) (leavesU n.F top)):=by
 have hll:=z1f n.F top
 have bd:∀ c,∀ k:Nat,k<=4->-(800000000000000:Int)<=smm (fun i:Nat=>if (y==-1||y==n.E+(i:Int))=true then hasR n acc c (n.E+(i:Int)) 36000 else 0) (List.range k)/\smm (fun i:Nat=>if (y==-1||y==n.E+(i:Int))=true then hasR n acc c (n.E+(i:Int)) 36000 else 0) (List.range k)<=800000000000000:=fun c k hk=>by
  have:=z66 (fun i:Nat=>if (y==-1||y==n.E+(i:Int))=true then hasR n acc c (n.E+(i:Int)) 36000 else 0) 200000000000000 (List.range k) fun i _=>by
   have:=zgu hn h c (n.E+(i:Int)) 36000
   split <;> omega
  rw[y4y] at this
  omega
 simp only[F_qa,S_qa,Scr.den,z1g hs (show n.F.length<=1000000 from om) htop,obind]
 rw[z3i (leavesU n.F top) (fun c=>smm (fun i:Nat=>if (y==-1||y==n.E+(i:Int))=true then hasR n acc c (n.E+(i:Int)) 36000 else 0) (List.range n.I.toNat)) 800000000000000 (fun c _=>bd c _ om) fun i s hi h1 h2=>by
  simp only[S_qa_b2,Scr.den]
  obtain⟨r,e,hr⟩:=z1b (step:=fun s=>(S_qa_b1 n acc y (leavesU n.F top) i s).den) (fun s=>(n.E+n.I-s.2).toNat)
   (fun s'=>n.E<=s'.2/\s'.2<=n.E+n.I/\s'.1=s+smm (fun i1:Nat=>if (y==-1||y==n.E+(i1:Int))=true then hasR n acc ((leavesU n.F top).getD i dF) (n.E+(i1:Int)) 36000 else 0) (List.range (s'.2-n.E).toNat))
   (fun s'=>s'.1=s+smm (fun i1:Nat=>if (y==-1||y==n.E+(i1:Int))=true then hasR n acc ((leavesU n.F top).getD i dF) (n.E+(i1:Int)) 36000 else 0) (List.range n.I.toNat)) (fun s' ⟨a1,a2,a3⟩=>by
    simp only[S_qa_b1,Scr.den]
    rw[wrapId (n:=n.E+n.I) om om]
    by_cases c:s'.2<n.E+n.I
    ·left
     rw[y7 (by simpa using c),wrapId (n:=s'.2+1) om om]
     have ek:(s'.2+1-n.E).toNat=(s'.2-n.E).toNat+1:=om
     have ey:n.E+((s'.2-n.E).toNat:Int)=s'.2:=om
     have es:smm (fun i1:Nat=>if (y==-1||y==n.E+(i1:Int))=true then hasR n acc ((leavesU n.F top).getD i dF) (n.E+(i1:Int)) 36000 else 0) (List.range (s'.2+1-n.E).toNat)=smm (fun i1:Nat=>if (y==-1||y==n.E+(i1:Int))=true then hasR n acc ((leavesU n.F top).getD i dF) (n.E+(i1:Int)) 36000 else 0) (List.range (s'.2-n.E).toNat)+if (y==-1||y==s'.2)=true then hasR n acc ((leavesU n.F top).getD i dF) s'.2 36000 else 0:=by
      rw[ek,y5b,z73]
      simp only[smm]
      rw[ey,y24]
     have b:=bd ((leavesU n.F top).getD i dF) (s'.2-n.E).toNat om
     have b':=zgu hn h ((leavesU n.F top).getD i dF) s'.2 36000
     rw[zg]
     by_cases k:(y==-1||y==s'.2)=true
     ·rw[y7 k,zdc hn h,obind,wrapId (n:=s'.1+hasR n acc ((leavesU n.F top).getD i dF) s'.2 36000) om om]
      refine⟨_,rfl,⟨by simp only; omega,by simp only; omega,?_⟩,by simp only; omega⟩
      simp only
      rw[es,y7 k,a3,Int.add_assoc]
     ·rw[y6 k]
      refine⟨_,rfl,⟨by simp only; omega,by simp only; omega,?_⟩,by simp only; omega⟩
      simp only
      rw[es,y6 k,a3,y24]
    ·right
     rw[y6 (by simpa using c)]
     refine⟨_,rfl,?_⟩
     simp only
     rw[a3,show (s'.2-n.E).toNat=n.I.toNat from om]) _ (s,n.E) (y2k _) ⟨by simp only; omega,by simp only; omega,by simp[smm]⟩
  rw[e]
  simp only[outM]
  rw[hr]]
 simp only[outM,Int.zero_add]
theorem zk8 (ht:treeE n.F=0) (hl:OrdG plL n.P) (hn:∀ x∈n.P,leafT n.F x.B=true/\n.E<=x.C/\x.C<n.E+n.I) (hy:1<=n.I) {d:Int} (ha:∀ z∈acc,leafT n.F z.L=true/\leafT n.F z.V=true/\n.E<=z.C/\z.C<n.E+n.I/\z.G<=d) (hd:d<=36000) (htop:top≠[]) (y:Int) :
  smm (fun c=>smm (fun i:Nat=>if (y==-1||y==n.E+(i:Int))=true then hasR n acc c (n.E+(i:Int)) 36000 else 0) (List.range n.I.toNat)) (leavesU n.F top)=hasS n acc top y d:=by
 have ek:((n.I.toNat:Nat):Int)=n.I:=om
 have c1:=zaf ht (fun x:TLi=>x.B) (fun x=>x.C) (fun x=>x.D) (f:=n.E) (k:=n.I.toNat) top y (L:=n.P) fun x hx=>by have:=hn x hx; rw[ek]; exact this
 have c2:=zaf ht (fun z:TTr=>z.V) (fun z=>z.C) (fun z=>z.D) (f:=n.E) (k:=n.I.toNat) top y (L:=acc) fun z hz=>by have:=ha z hz; rw[ek]; exact⟨this.2.1,this.2.2.1,this.2.2.2.1⟩
 have c3:=zaf ht (fun z:TTr=>z.L) (fun z=>z.C) (fun z=>z.D) (f:=n.E) (k:=n.I.toNat) top y (L:=acc) fun z hz=>by have:=ha z hz; rw[ek]; exact⟨this.1,this.2.2.1,this.2.2.2.1⟩
 have cell:∀ c (i:Nat),(if (y==-1||y==n.E+(i:Int))=true then hasR n acc c (n.E+(i:Int)) 36000 else 0) =
   ((if (y==-1||y==n.E+(i:Int))=true then smm (fun x:TLi=>if (x.B==c&&x.C==n.E+(i:Int))=true then x.D else 0) n.P else 0) +
    (if (y==-1||y==n.E+(i:Int))=true then smm (fun z:TTr=>if (z.V==c&&z.C==n.E+(i:Int))=true then z.D else 0) acc else 0)) -
    (if (y==-1||y==n.E+(i:Int))=true then smm (fun z:TTr=>if (z.L==c&&z.C==n.E+(i:Int))=true then z.D else 0) acc else 0):=fun c i=>by
  have hi:smm (mIn c (n.E+(i:Int)) 36000) acc=smm (fun z:TTr=>if (z.V==c&&z.C==n.E+(i:Int))=true then z.D else 0) acc:=z14 fun z hz=>by
   have:=(ha z hz).2.2.2.2
   unfold mIn
   rw[y19 (show ¬ z.G>36000 from om),y63]
   by_cases k:z.C=n.E+(i:Int)
   ·rw[y6 (by simp[k]),show (z.C==n.E+(i:Int))=true by simpa using k,y62]
   ·rw[y7 (by simpa using k),show (z.C==n.E+(i:Int))=false by simpa using k,y4k,y6 dk]
  have ho:smm (mOut c (n.E+(i:Int)) 36000) acc=smm (fun z:TTr=>if (z.L==c&&z.C==n.E+(i:Int))=true then z.D else 0) acc:=z14 fun z hz=>by
   have:=(ha z hz).2.2.2.2
   unfold mOut
   rw[y19 (show ¬ z.G>36000 from om),y63]
   by_cases k:z.C=n.E+(i:Int)
   ·rw[y6 (by simp[k]),show (z.C==n.E+(i:Int))=true by simpa using k,y62]
   ·rw[y7 (by simpa using k),show (z.C==n.E+(i:Int))=false by simpa using k,y4k,y6 dk]
  unfold hasR
  rw[hi,ho,<- zgs hl]
  by_cases k:(y==-1||y==n.E+(i:Int))=true
  ·simp only[y7 k]
  ·simp only[y6 k]; rfl
 rw[z14 fun c _=>z14 fun i _=>cell c i]
 rw[z14 fun c _=>z75 _ _ _,z75,z14 fun c _=>z9a _ _ _,z9a,c1,c2,c3]
 have hco:∀ c,coT top c=und c top:=fun c=>by unfold coT; rw[y1v.2 htop,y3o]
 unfold hasS totA
 have t1:smm (fun x:TLi=>if ((y==-1||x.C==y)&&coT top x.B)=true then x.D else 0) n.P=smm (fun x=>if linC top y x=true then x.D else 0) n.P:=z14 fun x _=>by
  unfold linC
  rw[show coT top x.B=(top==[]||und x.B top) from rfl]
 rw[t1,Int.add_sub_assoc,<- z75]
 congr 1
 refine z14 fun z hz=>?_
 have hzd:=(ha z hz).2.2.2.2
 unfold movW
 rw[hco,hco,y19 (show ¬ z.G>d from om),y3o]
 have hf:¬ ((false:Bool)=true):=dk
 by_cases k:y=-1
 ·have h0:(y==-1||z.C==y)=true:=by rw[k]; rfl
  have h1:(y != -1&&z.C != y)=false:=by rw[k]; rfl
  rw[h0,h1,y1m,y1m,y6 hf]
 ·by_cases k':z.C=y
  ·have h0:(y==-1||z.C==y)=true:=by simp[k']
   have h1:(y != -1&&z.C != y)=false:=by simp[k']
   rw[h0,h1,y1m,y1m,y6 hf]
  ·have h0:(y==-1||z.C==y)=false:=by rw[y1v.2 k,y1v.2 k']; rfl
   have h1:(y != -1&&z.C != y)=true:=by simp[k,k']
   rw[h0,h1,y2i,y2i]
   rfl
end Go.Proofs.YtbmpcbbimefmoaaGreatDoor
/- The reference's judge of one transfer. No condition. -/
namespace Go.Proofs.YtbmpcbbimefmoaaGreatDoor
open Go Go.TA
open Go.IntKind (i64)
attribute [-simp] List.getD_eq_getElem?_getD
variable {y:Int}
theorem z9b {f x:Int} (hf:0<=f/\f<=100) (hy:1<=y/\y<=100) (hx:x<9223372036854775808):inY f y x=true↔f<=x/\x<f+y:=by
 unfold inY
 by_cases h:x>=f
 ·rw[y11 h,y1m,y8,z5n (n:=x) om om,z5n (n:=f) om om,z5n (n:=x-f) om om,z5n (n:=y) om om]
  omega
 ·rw[y19 h,y2i]
  simp
  omega
structure NV (n:TLa):Prop where
 ok:errL n=0
 ln:∀ x∈n.P,x.C<9223372036854775808
variable {n:TLa}
theorem NV.yr (h:NV n):(0<=n.E/\n.E<=99)/\(1<=n.I/\n.I<=4):=by
 have:=(z10.1 h.ok).1.yr
 unfold yrB at this
 omega
theorem NV.now (h:NV n):NowOk n:=zk2 h.ok
theorem NV.tr (h:NV n):treeE n.F=0:=(z10.1 h.ok).1.tr
theorem NV.lines (h:NV n):∀ x∈n.P,leafT n.F x.B=true/\n.E<=x.C/\x.C<n.E+n.I:=fun x hx=>by
 obtain⟨hf,hy⟩:=h.yr
 have:=(z10.1 h.ok).2.1.l1 x hx
 unfold z1o at this
 split at this
 ·cases this
 split at this
 ·cases this
 rename_i h1 h2
 exact⟨by simpa using h1,(z9b om om (h.ln x hx)).1 (by simpa using h2)⟩
theorem NV.bd (h:NV n):(∀ b∈n.J,b.B≠[])/\∀ b∈n.O,b.B≠[]:=by
 obtain⟨hr,hw,_⟩:=z10.1 h.ok
 refine⟨fun b hb e=>?_,fun b hb e=>?_⟩
 ·have:=boundG hr.tr (hw.c1 b hb); rw[e] at this; exact absurd this dk
 ·have:=boundG hr.tr (hw.f1 b hb); rw[e] at this; exact absurd this dk
structure AcV (n:TLa) (acc:List TTr) (d:Int):Prop where
 le:acc.length<=62
 fr:∀ z∈acc,leafT n.F z.L=true
 to:∀ z∈acc,leafT n.F z.V=true
 yr:∀ z∈acc,n.E<=z.C/\z.C<n.E+n.I
 da:∀ z∈acc,z.G<=d
 am:∀ z∈acc,1<=z.D/\z.D<=1000000000000
variable {acc:List TTr} {d:Int}
theorem AcV.ac (h:AcV n acc d):AcOk acc:=⟨by have:=h.le; omega,fun z hz=>by have:=h.am z hz; omega,fun z hz=>z1d (h.fr z hz),fun z hz=>z1d (h.to z hz)⟩
variable {x:TTr}
theorem AcV.snoc (h:AcV n acc x.G) (hl:acc.length<=61) (h1:leafT n.F x.L=true) (h2:leafT n.F x.V=true) (h3:n.E<=x.C/\x.C<n.E+n.I) (h4:1<=x.D/\x.D<=1000000000000):AcV n (acc++[x]) x.G:=by
 have key:∀ {P:TTr->Prop},(∀ z∈acc,P z)->P x->∀ z∈acc++[x],P z:=fun a b z hz=>by
  rcases y1c.1 hz with h | h
  ·exact a z h
  ·rw[y1b.1 h]; exact b
 exact⟨by rw[yb,yd]; omega,key h.fr h1,key h.to h2,key h.yr h3,key h.da (y5w _),key h.am h4⟩
theorem z6i (h:NV n) (ha:AcV n acc d) (hd:d<=36000) {top:Y8} (h0:top≠[]) (htop:top.length<=1000000) (y:Int):F_qa n acc top y=some (hasS n acc top y d):=by
 obtain⟨hf,hy⟩:=h.yr
 have hs:=z4g h.ok
 rw[zk7 h.now hs.t (z5t h.tr).1 om om ha.ac htop y,zk8 h.tr (z10.1 h.ok).2.1.lo h.lines om (fun z hz=>⟨ha.fr z hz,ha.to z hz,(ha.yr z hz).1,(ha.yr z hz).2,ha.da z hz⟩) hd h0 y]
theorem z8n (h:NV n) (ha:AcV n acc d) {c:Y8} (hc:leafT n.F c=true) (hy:y≠-1) (e:Int):hasR n acc c y e=hasS n acc c y e:=by
 unfold hasR hasS
 have t:totA n.P c y=lineA n.P c y:=by
  rw[<- zgs (z10.1 h.ok).2.1.lo]
  unfold totA
  refine z14 fun x hx=>?_
  have hu:=zae h.tr (h.lines x hx).1 hc
  have hl:linC c y x=(x.B==c&&x.C==y):=by
   unfold linC
   rw[y1k]
   simp only[ya,yj,yn]
   constructor
   ·rintro⟨a,b⟩
    exact⟨hu.1 (b.resolve_left (znk hc)),a.resolve_left hy⟩
   ·rintro⟨a,b⟩
    exact⟨.inr b,.inr (hu.2 a)⟩
  rw[hl]
 rw[t,Int.add_sub_assoc,<- z75]
 congr 1
 refine z14 fun z hz=>?_
 have u1:(und z.V c=true)↔((z.V==c)=true):=by rw[zae h.tr (ha.to z hz) hc,yn]
 have u2:(und z.L c=true)↔((z.L==c)=true):=by rw[zae h.tr (ha.fr z hz) hc,yn]
 unfold mIn mOut movW
 simp only[u1,u2]
 by_cases k:z.C=y
 ·by_cases k2:z.G>e
  ·have c1:(z.C != y||decide (z.G>e))=true:=by simp[k2]
   have c2:(decide (z.G>e)||(y != -1&&z.C != y))=true:=by simp[k2]
   rw[c1,c2]; rfl
  ·have c1:(z.C != y||decide (z.G>e))=false:=by rw[y19 k2,k]; simp
   have c2:(decide (z.G>e)||(y != -1&&z.C != y))=false:=by rw[y19 k2,k]; simp
   rw[c1,c2]
   simp only[yl,y2g]
 ·have c1:(z.C != y||decide (z.G>e))=true:=by simp[k]
  have c2:(decide (z.G>e)||(y != -1&&z.C != y))=true:=by simp[k,hy]
  rw[c1,c2]; rfl
theorem zbb {r:TRu} (h1:r.L.length<=1000000) (h2:r.V.length<=1000000) (h3:x.L.length<=1000000) (h4:x.V.length<=1000000):F_q3t r x=some (permS x r):=by
 simp only[F_q3t,S_q3t,Scr.den,z15 h3 h1,z15 h4 h2,za,permS]
 cases g1:(r.H==x.U) <;> cases g2:und x.L r.L <;> simp[optD,AllP]
theorem z9n {n p:Int} (hn:0<=n/\n<=1000000000000) (hp:0<=p/\p<=100):F_q3u n p=some (pctS n p,0):=by
 have h1:0<=n * p:=Int.mul_nonneg hn.1 hp.1
 have h2:n * p<=1000000000000 * 100:=Int.mul_le_mul hn.2 hp.2 hp.1 om
 simp only[F_q3u,S_q3u,Scr.den,z38,obind,zg]
 rw[y6 (by rw[z46.2 hn,y19 (show ¬ p<0 from om),y19 (show ¬ p>100 from om)]; simp),wrapId (n:=n * p) om om,y35 h1,wrapId om om]
 rfl
theorem zi1 (h:NV n) (ha:AcV n acc x.G) (hal:acc.length<=61) (hd:x.G<=36000) (h1:leafT n.F x.L=true) (h2:leafT n.F x.V=true) (h3:n.E<=x.C/\x.C<n.E+n.I) (h4:1<=x.D/\x.D<=1000000000000):F_qx n x acc=some (!bndS n acc x):=by
 obtain⟨hf,hy⟩:=h.yr
 have hn:=h.now
 have hcl:=hn.cl; have hfl:=hn.fl
 have hx1:=z1d h1; have hx2:=z1d h2
 have hw:=ha.snoc hal h1 h2 h3 h4
 have hyr:x.C≠-1:=om
 have hadd:∀ (top:Y8) (y:Int),(y==-1||y==x.C)=true->hasS n (acc++[x]) top y x.G=hasS n acc top y x.G+((if und x.V top=true then x.D else 0)-(if und x.L top=true then x.D else 0)):=fun top y hy=>by
  unfold hasS
  rw[z73]
  have:smm (movW top y x.G) [x]=(if und x.V top=true then x.D else 0)-(if und x.L top=true then x.D else 0):=by
   simp only[smm,movW]
   rw[y6 (by
    rw[yj,yn,yn] at hy
    rcases hy with hy | hy
    ·simp[hy]
    ·simp[hy]),y24]
  rw[this]
  omega
 have hlen:(acc++[x]).length=acc.length+1:=sj
 simp only[F_qx,S_qx,Scr.den]
 rw[Gb,Ga]
 rw[zy n.J (fun b=>matS b x.V x.L x.C&&decide (hasS n acc b.B b.C x.G+x.D>b.D)) (fun _=>false) fun i hi=>by
  have hb:=hn.cc _ (z8 hi)
  have hb0:=h.bd.1 _ (z8 hi)
  simp only[S_qx_b1,Scr.den,z15 hx2 hb,z15 hx1 hb,z6i h hw hd hb0 hb,za,zg]
  generalize n.J.getD i dF=b at hb hb0 |-
  have hm:(b.C==x.C||b.C==-1)=(b.C==-1||b.C==x.C):=y5o _ _
  unfold matS
  rw[hm]
  by_cases k1:(b.C==-1||b.C==x.C)=true
  ·rw[hadd b.B b.C k1,k1]
   cases k2:und x.V b.B <;> cases k3:und x.L b.B <;> simp[optD,AllP] <;> (split <;> rfl)
  ·rw[yk.2 k1]
   simp[optD,AllP]]
 unfold bndS
 by_cases k1:n.J.any (fun b=>matS b x.V x.L x.C&&decide (hasS n acc b.B b.C x.G+x.D>b.D))=true
 ·rw[y7 k1,k1]; rfl
 ·rw[y6 k1,yk.2 k1]
  simp only[outM]
  rw[zy n.O (fun b=>matS b x.L x.V x.C&&decide (hasS n acc b.B b.C x.G-x.D<b.D)) (fun _=>false) fun i hi=>by
   have hb:=hn.fc _ (z8 hi)
   have hb0:=h.bd.2 _ (z8 hi)
   simp only[S_qx_b2,Scr.den,z15 hx2 hb,z15 hx1 hb,z6i h hw hd hb0 hb,za,zg]
   generalize n.O.getD i dF=b at hb hb0 |-
   have hm:(b.C==x.C||b.C==-1)=(b.C==-1||b.C==x.C):=y5o _ _
   unfold matS
   rw[hm]
   by_cases k1:(b.C==-1||b.C==x.C)=true
   ·rw[hadd b.B b.C k1,k1]
    cases k2:und x.V b.B <;> cases k3:und x.L b.B <;> simp[optD,AllP,Int.sub_eq_add_neg] <;> (split <;> rfl)
   ·rw[yk.2 k1]
    simp[optD,AllP]]
  by_cases k2:n.O.any (fun b=>matS b x.L x.V x.C&&decide (hasS n acc b.B b.C x.G-x.D<b.D))=true
  ·rw[y7 k2,k2]; rfl
  ·rw[y6 k2,yk.2 k2]; rfl
theorem zfa (h:NV n) (ha:AcV n acc x.G) (hal:acc.length<=61) (hd:x.G<=36000) (h1:leafT n.F x.L=true) (h2:leafT n.F x.V=true) (h3:n.E<=x.C/\x.C<n.E+n.I) (h4:1<=x.D/\x.D<=1000000000000):F_qz n acc x=some (!bndS n acc x):=by
 obtain⟨hf,hy⟩:=h.yr
 have hn:=h.now
 have hcl:=hn.cl; have hfl:=hn.fl
 have hx1:=z1d h1; have hx2:=z1d h2
 have hw:=ha.snoc hal h1 h2 h3 h4
 have hyr:x.C≠-1:=om
 have hadd:∀ (top:Y8) (y:Int),(y==-1||y==x.C)=true->hasS n (acc++[x]) top y x.G=hasS n acc top y x.G+((if und x.V top=true then x.D else 0)-(if und x.L top=true then x.D else 0)):=fun top y hy=>by
  unfold hasS
  rw[z73]
  have:smm (movW top y x.G) [x]=(if und x.V top=true then x.D else 0)-(if und x.L top=true then x.D else 0):=by
   simp only[smm,movW]
   rw[y6 (by
    rw[yj,yn,yn] at hy
    rcases hy with hy | hy
    ·simp[hy]
    ·simp[hy]),y24]
  rw[this]
  omega
 have hlen:(acc++[x]).length=acc.length+1:=sj
 simp only[F_qz,S_qz,Scr.den]
 rw[Gb,Ga]
 rw[zy n.J (fun b=>matS b x.V x.L x.C&&decide (hasS n acc b.B b.C x.G+x.D>b.D)) (fun _=>false) fun i hi=>by
  have hb:=hn.cc _ (z8 hi)
  have hb0:=h.bd.1 _ (z8 hi)
  simp only[S_qz_b1,Scr.den,z15 hx2 hb,z15 hx1 hb,z6i h hw hd hb0 hb,za,zg]
  generalize n.J.getD i dF=b at hb hb0 |-
  have hm:(b.C==x.C||b.C==-1)=(b.C==-1||b.C==x.C):=y5o _ _
  unfold matS
  rw[hm]
  by_cases k1:(b.C==-1||b.C==x.C)=true
  ·rw[hadd b.B b.C k1,k1]
   cases k2:und x.V b.B <;> cases k3:und x.L b.B <;> simp[optD,AllP] <;> (split <;> rfl)
  ·rw[yk.2 k1]
   simp[optD,AllP]]
 unfold bndS
 by_cases k1:n.J.any (fun b=>matS b x.V x.L x.C&&decide (hasS n acc b.B b.C x.G+x.D>b.D))=true
 ·rw[y7 k1,k1]; rfl
 ·rw[y6 k1,yk.2 k1]
  simp only[outM]
  rw[zy n.O (fun b=>matS b x.L x.V x.C&&decide (hasS n acc b.B b.C x.G-x.D<b.D)) (fun _=>false) fun i hi=>by
   have hb:=hn.fc _ (z8 hi)
   have hb0:=h.bd.2 _ (z8 hi)
   simp only[S_qz_b2,Scr.den,z15 hx2 hb,z15 hx1 hb,z6i h hw hd hb0 hb,za,zg]
   generalize n.O.getD i dF=b at hb hb0 |-
   have hm:(b.C==x.C||b.C==-1)=(b.C==-1||b.C==x.C):=y5o _ _
   unfold matS
   rw[hm]
   by_cases k1:(b.C==-1||b.C==x.C)=true
   ·rw[hadd b.B b.C k1,k1]
    cases k2:und x.V b.B <;> cases k3:und x.L b.B <;> simp[optD,AllP,Int.sub_eq_add_neg] <;> (split <;> rfl)
   ·rw[yk.2 k1]
    simp[optD,AllP]]
  by_cases k2:n.O.any (fun b=>matS b x.L x.V x.C&&decide (hasS n acc b.B b.C x.G-x.D<b.D))=true
  ·rw[y7 k2,k2]; rfl
  ·rw[y6 k2,yk.2 k2]; rfl
end Go.Proofs.YtbmpcbbimefmoaaGreatDoor
/- The reference's judge of a transfer. No condition. -/
namespace Go.Proofs.YtbmpcbbimefmoaaGreatDoor
open Go Go.TA
open Go.IntKind (i64)
attribute [-simp] List.getD_eq_getElem?_getD
structure IY (l:TLa):Prop where
 ln:∀ x∈l.P,x.C<9223372036854775808
 am:∀ a∈l.A,∀ c∈a.Q,c.C<9223372036854775808
variable {l:TLa}
theorem zly {c:TCh} (hc:c.C<9223372036854775808) (h:∀ x∈l.P,x.C<9223372036854775808):∀ x∈(setS c l).P,x.C<9223372036854775808:=fun x hx=>by
 unfold setS at hx
 split at hx
 ·rcases za7 hx with rfl | hx
  ·exact hc
  ·exact h x hx
 ·split at hx
  ·exact h x hx
  ·split at hx
   ·exact h x hx
   ·exact h x hx
theorem zbc:∀ (cs:List TCh) {l:TLa},(∀ c∈cs,c.C<9223372036854775808)->(∀ x∈l.P,x.C<9223372036854775808)->∀ x∈(applyS cs l).P,x.C<9223372036854775808
 | [],_,_,h=>h
 | c :: cs,_l,hc,h=>zbc cs (fun d hd=>hc d (ym _ hd)) (zly (hc c y1a) h)
theorem IY.force (h:IY l) (d:Int):∀ x∈(forceL l d).P,x.C<9223372036854775808:=by
 unfold forceL
 refine zbc _ (fun c hc=>?_) h.ln
 obtain⟨a,ha,hc⟩:=y3r.1 hc
 exact h.am a (y17 ha) c hc
variable {d:Int}
theorem IY.nv (h:IY l) (he:errL l=0) (hi:(inS l d).2=0):NV (forceL l d):=⟨(z74 he hi).2.2.1,h.force d⟩
theorem zi2 (he:errL l=0) {z:TTr} (hz:z.C<9223372036854775808) (h:plainS l z=0):l.E<=z.C/\z.C<l.E+l.I:=by
 have hr:=(z10.1 he).1.yr
 unfold yrB at hr
 obtain⟨_,_,_,_,_,_,_,hy,_⟩:=z1q.1 h
 exact (z9b om om hz).1 hy
variable {acc:List TTr}
theorem zfb (he:errL l=0) (hl:acc.length<=62) (ha:∀ z∈acc,plainS l z=0) (hy:∀ z∈acc,z.C<9223372036854775808) (hd:∀ z∈acc,z.G<=d) (d':Int):AcV (forceL l d') acc d:=by
 obtain⟨r1,r2,r3,_⟩:=z4f l d'
 refine⟨hl,fun z hz=>?_,fun z hz=>?_,fun z hz=>?_,hd,fun z hz=>?_⟩
 ·rw[r3]; exact (z1q.1 (ha z hz)).2.2.2.2.1
 ·rw[r3]; exact (z1q.1 (ha z hz)).2.2.2.2.2.1
 ·rw[r1,r2]; exact zi2 he (hy z hz) (ha z hz)
 ·exact (z1q.1 (ha z hz)).2.2.2.1
variable {x:TTr}
theorem zlz (he:errL l=0) (hiy:IY l) (hl:acc.length<=61) (ha:∀ z∈acc,plainS l z=0) (hay:∀ z∈acc,z.C<9223372036854775808) (hd:∀ z∈acc,z.G<=x.G) (hx:x.C<9223372036854775808) (hf:x.L.length<=1000000) (ht:x.V.length<=1000000) :
  F_qy l x acc=some (codeS l acc x):=by
 have hs:=z4g he
 have hr:=(z10.1 he).1.yr
 have hy:1<=l.I:=by unfold yrB at hr; omega
 have hge:=fun (c:Bool) (b:Bool) (i:Decidable (AllP [c=false]))=>lzN c b dF i
 simp only[F_qy,S_qy,Scr.den,LeafB hs.t hf,LeafB hs.t ht,InB hy,zg,obind,z2n]
 unfold codeS
 have e1:(decide (x.H<1)||decide (x.H>1000000)||decide (x.U<1)||decide (x.U>1000000)||decide (x.G<0)||decide (x.G>35990)||decide (x.D<1)||decide (x.D>1000000000000))=(!numB x.H||!numB x.U||decide (x.G<0)||decide (x.G>35990)||!amt x.D||x.D==0):=by
  unfold numB amt
  rw[y1k]
  simp only[yj,y1i,y27,y8,y12,yn]
  omega
 rw[e1]
 have hp:=z1q (l:=l) (x:=x)
 unfold plainS at hp |-
 by_cases h1:(!numB x.H||!numB x.U||decide (x.G<0)||decide (x.G>35990)||!amt x.D||x.D==0)=true
 ·rw[y7 h1,y7 h1,y7 dk]
 ·rw[y6 h1,y6 h1]
  simp only[lzN]
  by_cases h2:(!leafT l.F x.L||!leafT l.F x.V||x.L==x.V)=true
  ·rw[y7 h2,y7 h2,y7 dk]
  ·rw[y6 h2,y6 h2]
   have hday:0<=x.G/\x.G<=35990:=by
    simp only[yj,y1i,y8,yn,y4l] at h1
    omega
   have hyear:F_q33 x.G=some (x.G / 360):=by
    simp only[F_q33,S_q33,F_q32,S_q32,Scr.den,za,obind]
    rw[y6 sk,y35 hday.1,wrapId om om]
   simp only[hyear,z2n,obind,lzG]
   by_cases h3:(!inY l.E l.I x.C||decide (x.G / 360>x.C))=true
   ·rw[y7 h3,y7 h3,y7 dk]
   ·rw[y6 h3,y6 h3,y6 dk]
    rw[y6 h1,y6 h2,y6 h3] at hp
    obtain⟨_,_,_,hxa,f1,f2,fne,hyr,_⟩:=hp.1 rfl
    have hxy:l.E<=x.C/\x.C<l.E+l.I:=by
     unfold yrB at hr
     exact (z9b om om hx).1 hyr
    rw[zf9 he,obind]
    by_cases h4:(inS l x.G).2=0
    ·have hnv:=hiy.nv he h4
     have hin:inS l x.G=(forceL l x.G,0):=Prod.ext (z74 he h4).1 h4
     rw[hin,y6 sj,y6 sj]
     obtain⟨r1,r2,r3,_⟩:=z4f l x.G
     have hac:=zfb he om ha hay hd x.G
     have hf':leafT (forceL l x.G).F x.L=true:=by rw[r3]; exact f1
     have ht':leafT (forceL l x.G).F x.V=true:=by rw[r3]; exact f2
     have hy':(forceL l x.G).E<=x.C/\x.C<(forceL l x.G).E+(forceL l x.G).I:=by rw[r1,r2]; exact hxy
     obtain⟨y1,y2⟩:=hnv.yr
     generalize forceL l x.G=n at *
     have hn:=hnv.now
     have hrl:=hn.rl
     rw[zy n.N (permS x) (fun i=>if x.D>leftS n acc (n.N.getD i dF) x then 13 else if x.D>hasS n acc x.L x.C x.G then 15 else if bndS n acc x=true then 14 else 0) fun i hi=>by
      obtain⟨hp1,hp2,hp3⟩:=hn.ru _ (z8 hi)
      simp only[S_qy_b2,Scr.den,zbb hp2 hp3 hf ht,obind]
      by_cases hp:permS x (n.N.getD i dF)=true
      ·rw[y6 (by rw[hp]; simp),y7 hp]
       rw[Ga]
       rw[z3i (s0:=x.D) acc (givW x) 1000000000000 (zc9 hac.ac x) fun j s hj k1 k2=>by
        have hz:=hac.am _ (z8 hj)
        simp only[S_qy_b1,Scr.den,y1h,za]
        rw[z6 ⟨hj,trivial⟩]
        unfold givW
        generalize acc.getD j dF=z at hz |-
        by_cases c:(z.U==x.U&&z.C==x.C&&z.L==x.L)=true
        ·rw[y7 c,y7 c,wrapId om om]
        ·rw[y6 c,y6 c,y24]]
       simp only[outM,z72,z9n (z3x hn.la x.L x.C) hp1,obind,znm hn hac.ac,z8n hnv hac hf' (show x.C≠-1 from om),zi1 hnv hac hl om hf' ht' hy' hxa]
       have hhas:hasS n acc x.L x.C 36000=hasS n acc x.L x.C x.G:=by
        unfold hasS
        congr 1
        refine z14 fun z hz=>?_
        have:=hac.da z hz
        unfold movW
        rw[y19 (show ¬ z.G>36000 from om),y19 (show ¬ z.G>x.G from om)]
       rw[hhas]
       unfold leftS
       by_cases c1:x.D+smm (givW x) acc>pctS (lineA n.P x.L x.C) (n.N.getD i dF).T
       ·have r1:x.D>pctS (lineA n.P x.L x.C) (n.N.getD i dF).T-smm (givW x) acc:=om
        rw[y7 (by simpa using c1),y7 r1]
       ·have r1:¬ x.D>pctS (lineA n.P x.L x.C) (n.N.getD i dF).T-smm (givW x) acc:=om
        rw[y6 (by simpa using c1),y6 r1]
        by_cases c2:x.D>hasS n acc x.L x.C x.G
        ·have d2:decide (hasS n acc x.L x.C x.G<x.D)=true:=y11 om
         rw[y7 d2,y7 c2]
        ·have d2:¬ decide (hasS n acc x.L x.C x.G<x.D)=true:=by rw[y8]; omega
         rw[y6 d2,y6 c2,Bool.not_not]
         by_cases c3:bndS n acc x=true
         ·rw[y7 c3,y7 c3]
         ·rw[y6 c3,y6 c3]
      ·rw[y7 (by rw[yk.2 hp]; rfl),y6 hp]]
     unfold codeN
     by_cases hru:n.N.any (permS x)=true
     ·rw[y7 hru,y7 hru]
      rfl
     ·rw[y6 hru,y6 hru]
      rfl
    ·rw[y7 (by simpa using h4),y7 (by simpa using h4)]
theorem zi3 (he:errL l=0) (hiy:IY l) (hl:acc.length<=61) (ha:∀ z∈acc,plainS l z=0) (hay:∀ z∈acc,z.C<9223372036854775808) (hd:∀ z∈acc,z.G<=x.G) (hx:x.C<9223372036854775808) (hf:x.L.length<=1000000) (ht:x.V.length<=1000000) :
  F_q10 l acc x=some (codeS l acc x):=by
 have hs:=z4g he
 have hr:=(z10.1 he).1.yr
 have hy:1<=l.I:=by unfold yrB at hr; omega
 have hge:=fun (c:Bool) (b:Bool) (i:Decidable (AllP [c=false]))=>lzN c b dF i
 simp only[F_q10,S_q10,Scr.den,LeafB hs.t hf,LeafB hs.t ht,InB hy,zg,obind,z2n]
 unfold codeS
 have e1:(decide (x.H<1)||decide (x.H>1000000)||decide (x.U<1)||decide (x.U>1000000)||decide (x.G<0)||decide (x.G>35990)||decide (x.D<1)||decide (x.D>1000000000000))=(!numB x.H||!numB x.U||decide (x.G<0)||decide (x.G>35990)||!amt x.D||x.D==0):=by
  unfold numB amt
  rw[y1k]
  simp only[yj,y1i,y27,y8,y12,yn]
  omega
 rw[e1]
 have hp:=z1q (l:=l) (x:=x)
 unfold plainS at hp |-
 by_cases h1:(!numB x.H||!numB x.U||decide (x.G<0)||decide (x.G>35990)||!amt x.D||x.D==0)=true
 ·rw[y7 h1,y7 h1,y7 dk]
 ·rw[y6 h1,y6 h1]
  simp only[lzN]
  by_cases h2:(!leafT l.F x.L||!leafT l.F x.V||x.L==x.V)=true
  ·rw[y7 h2,y7 h2,y7 dk]
  ·rw[y6 h2,y6 h2]
   have hday:0<=x.G/\x.G<=35990:=by
    simp only[yj,y1i,y8,yn,y4l] at h1
    omega
   have hyear:F_q33 x.G=some (x.G / 360):=by
    simp only[F_q33,S_q33,F_q32,S_q32,Scr.den,za,obind]
    rw[y6 sk,y35 hday.1,wrapId om om]
   simp only[hyear,z2n,obind,lzG]
   by_cases h3:(!inY l.E l.I x.C||decide (x.G / 360>x.C))=true
   ·rw[y7 h3,y7 h3,y7 dk]
   ·rw[y6 h3,y6 h3,y6 dk]
    rw[y6 h1,y6 h2,y6 h3] at hp
    obtain⟨_,_,_,hxa,f1,f2,fne,hyr,_⟩:=hp.1 rfl
    have hxy:l.E<=x.C/\x.C<l.E+l.I:=by
     unfold yrB at hr
     exact (z9b om om hx).1 hyr
    rw[zf9 he,obind]
    by_cases h4:(inS l x.G).2=0
    ·have hnv:=hiy.nv he h4
     have hin:inS l x.G=(forceL l x.G,0):=Prod.ext (z74 he h4).1 h4
     rw[hin,y6 sj,y6 sj]
     obtain⟨r1,r2,r3,_⟩:=z4f l x.G
     have hac:=zfb he om ha hay hd x.G
     have hf':leafT (forceL l x.G).F x.L=true:=by rw[r3]; exact f1
     have ht':leafT (forceL l x.G).F x.V=true:=by rw[r3]; exact f2
     have hy':(forceL l x.G).E<=x.C/\x.C<(forceL l x.G).E+(forceL l x.G).I:=by rw[r1,r2]; exact hxy
     obtain⟨y1,y2⟩:=hnv.yr
     generalize forceL l x.G=n at *
     have hn:=hnv.now
     have hrl:=hn.rl
     rw[zy n.N (permS x) (fun i=>if x.D>leftS n acc (n.N.getD i dF) x then 13 else if x.D>hasS n acc x.L x.C x.G then 15 else if bndS n acc x=true then 14 else 0) fun i hi=>by
      obtain⟨hp1,hp2,hp3⟩:=hn.ru _ (z8 hi)
      simp only[S_q10_b2,Scr.den,zbb hp2 hp3 hf ht,obind]
      by_cases hp:permS x (n.N.getD i dF)=true
      ·rw[y6 (by rw[hp]; simp),y7 hp]
       rw[z3i (s0:=x.D) acc (givW x) 1000000000000 (zc9 hac.ac x) fun j s hj k1 k2=>by
        have hz:=hac.am _ (z8 hj)
        simp only[S_q10_b1,Scr.den,za]
        unfold givW
        generalize acc.getD j dF=z at hz |-
        by_cases c:(z.U==x.U&&z.C==x.C&&z.L==x.L)=true
        ·rw[y7 c,y7 c,wrapId om om]
        ·rw[y6 c,y6 c,y24]]
       simp only[outM,z72,z9n (z3x hn.la x.L x.C) hp1,obind,zdc hn hac.ac,z8n hnv hac hf' (show x.C≠-1 from om),zfa hnv hac hl om hf' ht' hy' hxa]
       have hhas:hasS n acc x.L x.C 36000=hasS n acc x.L x.C x.G:=by
        unfold hasS
        congr 1
        refine z14 fun z hz=>?_
        have:=hac.da z hz
        unfold movW
        rw[y19 (show ¬ z.G>36000 from om),y19 (show ¬ z.G>x.G from om)]
       rw[hhas]
       unfold leftS
       by_cases c1:x.D+smm (givW x) acc>pctS (lineA n.P x.L x.C) (n.N.getD i dF).T
       ·have r1:x.D>pctS (lineA n.P x.L x.C) (n.N.getD i dF).T-smm (givW x) acc:=om
        rw[y7 (by simpa using c1),y7 r1]
       ·have r1:¬ x.D>pctS (lineA n.P x.L x.C) (n.N.getD i dF).T-smm (givW x) acc:=om
        rw[y6 (by simpa using c1),y6 r1]
        by_cases c2:x.D>hasS n acc x.L x.C x.G
        ·have d2:decide (hasS n acc x.L x.C x.G<x.D)=true:=y11 om
         rw[y7 d2,y7 c2]
        ·have d2:¬ decide (hasS n acc x.L x.C x.G<x.D)=true:=by rw[y8]; omega
         rw[y6 d2,y6 c2,Bool.not_not]
         by_cases c3:bndS n acc x=true
         ·rw[y7 c3,y7 c3]
         ·rw[y6 c3,y6 c3]
      ·rw[y7 (by rw[yk.2 hp]; rfl),y6 hp]]
     unfold codeN
     by_cases hru:n.N.any (permS x)=true
     ·rw[y7 hru,y7 hru]
      rfl
     ·rw[y6 hru,y6 hru]
      rfl
    ·rw[y7 (by simpa using h4),y7 (by simpa using h4)]
end Go.Proofs.YtbmpcbbimefmoaaGreatDoor
/- Transfers judged,one after the other,in both programs. No condition. -/
namespace Go.Proofs.YtbmpcbbimefmoaaGreatDoor
open Go Go.TA
open Go.IntKind (i64)
attribute [-simp] List.getD_eq_getElem?_getD
theorem z53 {σ ρ:Type} {body:Nat->σ->Option (Step σ ρ)} (I:Nat->σ->Prop):∀ (k m i:Nat) (s:σ),I i s->(∀ j s,i<=j->j<i+k->I j s->∃ s',body j s=some (.cont s')/\I (j+1) s')->∃ s',I (i+k) s'/\rangeM body (k+m) i s=rangeM body m (i+k) s'
 | 0,m,i,s,h,_=>⟨s,h,by rw[y1h]; rfl⟩
 | k+1,m,i,s,h,hs=>by
  obtain⟨s1,e,h1⟩:=hs i s (yc _) om h
  obtain⟨s2,h2,e2⟩:=z53 I k m (i+1) s1 h1 fun j s a b c=>hs j s om om c
  refine⟨s2,by rw[show i+(k+1)=i+1+k from om]; exact h2,?_⟩
  rw[show k+1+m=(k+m)+1 from om,show i+(k+1)=i+1+k from om]
  simp only[rangeM,e]
  exact e2
theorem z8o {α:Type} {p:Prop} {k:Option α} (h:¬ p):guardP p k=none:=by unfold guardP; rw[y6 h]
def ltTB (a b:TTr):Bool:=decide (a.G<b.G)||(a.G==b.G&&decide (a.H<b.H))
theorem zag {a b:TTr}:ltTB a b=true↔ltT a b:=by
 unfold ltTB ltT
 simp only[yj,ya,y8,yn]
theorem z4x (a b:TTr):decide (orE [cmpI a.G b.G,cmpI a.H b.H]>=0)=!ltTB a b:=by
 unfold ltTB
 simp only[z2c,z3h,cmpI]
 rw[y1k]
 simp only[y8,y1i,y1w,y27,y12,y1v]
 (repeat' split) <;> omega
def okT (L:List TTr) (i:Nat):Bool:=i==0||ltTB (L.getD (i-1) dF) (L.getD i dF)
def srtB (L:List TTr):Bool:=(List.range L.length).all (okT L)
variable {L:List TTr}
theorem zah:srtB L=true↔L.Pairwise ltT:=by
 unfold srtB
 rw[y18]
 constructor
 ·intro h
  rw[y20]
  intro i j hi hj hij
  induction j with
  | zero=>omega
  | succ j ih =>
   have hs:=h (j+1) (y1l.2 hj)
   unfold okT at hs
   rw[yj,yn,y60,zh om,zh hj,zag] at hs
   have hs:=hs.resolve_left om
   by_cases e:i=j
   ·subst e; exact hs
   ·have:=ih om om
    unfold ltT at this hs |-
    omega
 ·intro h i hi
  have hi:=y1l.1 hi
  unfold okT
  by_cases h0:i=0
  ·simp[h0]
  ·rw[yj,zag,zh om,zh hi]
   exact .inr (y20.1 h (i-1) i om hi om)
def begE (l:TLa) (L:List TTr):Int:=if errL l≠0 then errL l else if L.length>60 then 3 else if srtB L=true then 0 else 8
variable {l:TLa}
theorem z25:begE l L=0↔errL l=0/\L.length<=60/\L.Pairwise ltT:=by
 unfold begE
 rw[<- zah]
 by_cases h1:errL l=0
 ·rw[y6 (by simp[h1])]
  by_cases h2:L.length>60
  ·rw[y7 h2]
   constructor
   ·intro h; cases h
   ·intro h; omega
  ·rw[y6 h2]
   by_cases h3:srtB L=true
   ·rw[y7 h3]; exact⟨fun _=>⟨h1,om,h3⟩,fun _=>rfl⟩
   ·rw[y6 h3]
    constructor
    ·intro h; cases h
    ·intro h; exact absurd h.2.2 h3
 ·rw[y7 h1]
  exact⟨fun h=>absurd h h1,fun h=>absurd h.1 h1⟩
theorem zi4 (h:errL l≠0):begE l L=errL l:=by unfold begE; rw[y7 h]
theorem zi5 (h:errL l=0) (h2:L.length>60):begE l L=3:=by unfold begE; rw[y6 (by simp[h]),y7 h2]
theorem zi6 (h:errL l=0) (h2:¬ L.length>60) (h3:srtB L=true):begE l L=0:=by unfold begE; rw[y6 (by simp[h]),y6 h2,y7 h3]
theorem zi7 (h:errL l=0) (h2:¬ L.length>60) (h3:¬ srtB L=true):begE l L=8:=by unfold begE; rw[y6 (by simp[h]),y6 h2,y6 h3]
theorem z8p (h:srtB L=false):∃ k,k<L.length/\0<k/\okT L k=false/\∀ j,j<k->okT L j=true:=by
 have hl:(List.range L.length).findIdx (fun i=>!okT L i)<(List.range L.length).length:=y4h.2 (by
  unfold srtB at h
  obtain⟨x,hx,e⟩:=y68.1 h
  exact⟨x,hx,by simpa using e⟩)
 have h1:=y5m (xs:=List.range L.length) (p:=fun i=>!okT L i) (w:=hl)
 rw[y5z] at h1
 have h2:okT L ((List.range L.length).findIdx fun i=>!okT L i)=false:=by simpa using h1
 rw[y4y] at hl
 refine⟨_,hl,?_,h2,fun j hj=>?_⟩
 ·rcases y2u ((List.range L.length).findIdx fun i=>!okT L i) with e | e
  ·rw[e] at h2
   unfold okT at h2
   simp at h2
  ·exact e
 ·have:=List.not_of_lt_findIdx hj
  rw[y5z] at this
  simpa using this
variable {i:Nat}
theorem zbd (h:okT L i=true) (h0:0<i):ltTB (L.getD (i-1) dF) (L.getD i dF)=true:=by
 unfold okT at h
 rw[yj,yn] at h
 exact h.resolve_left om
theorem zbe (h:okT L i=false):ltTB (L.getD (i-1) dF) (L.getD i dF)=false:=by
 unfold okT at h
 rw[y1w] at h
 exact h.2
variable {ask:Bool} {dy fail:Int} {now:TLa}
section
variable {l:TLa} (he:errL l=0) {L:List TTr} (hl:L.length<=60)
include he hl
theorem znn (hi:i<L.length) (hok:okT L i=true) (hJ:ask=true->inS l dy=(now,fail)) :
  ∃ ask' dy' now' fail',(S_qp_b1 L i (l,ask,dy,now,fail,(runJ l (L.take i)).1,(runJ l (L.take i)).2)).den=some (.cont (l,ask',dy',now',fail',(runJ l (L.take (i+1))).1,(runJ l (L.take (i+1))).2))/\(ask'=true->inS l dy'=(now',fail')):=by
 obtain⟨a,b,c,_⟩:=z1h l (L.take i)
 have hlen:(L.take i).length=i:=by rw[yx]; omega
 rw[hlen] at a b
 obtain⟨ask',dy',now',fail',e,hJ',_⟩:=z99 he hJ ⟨om,c⟩ (L.getD i dF)
 refine⟨ask',dy',now',fail',?_,hJ'⟩
 rw[y13 hi,<- zh hi,z3y]
 simp only[S_qp_b1,Scr.den,z4v,e,obind,za]
 rw[z2n,obind]
 have w:0<i->i64.wrap ((i:Int)-1)=((i-1:Nat):Int):=fun h=>wp h om
 have hi0:AllP [decide ((i:Int)>0)=true]->0<i:=fun h=>by have:=h.1; simp at this; omega
 rw[z6 ⟨fun h=>by rw[w (hi0 h)]; omega,fun h=>by rw[w (hi0 h),yi]; omega,trivial⟩]
 have hb:(decide ((i:Int)>0)&&decide ((@ite Int (AllP [decide ((i:Int)>0)=true]) (Classical.propDecidable _) (orE [cmpI (L.getD (i64.wrap ((i:Int)-1)).toNat dF).G (L.getD i dF).G,cmpI (L.getD (i64.wrap ((i:Int)-1)).toNat dF).H (L.getD i dF).H]) dF)>=0))=false:=by
  by_cases h0:0<i
  ·have hd:decide ((i:Int)>0)=true:=sk
   rw[y7 ⟨hd,trivial⟩,w h0,yi,z4x,zbd hok h0]
   simp
  ·rw[y19 (show ¬ (i:Int)>0 from om),y2i]
 rw[hb,y6 sj]
 unfold stepJ
 by_cases hc:codeS l (runJ l (L.take i)).1 (L.getD i dF)=0
 ·rw[y7 (by simpa using hc),Ga]
  simp only[outM]
  rw[Ga,y7 hc]
 ·rw[y6 (by simpa using hc)]
  simp only[outM]
  rw[Ga,y6 hc]
omit he in
theorem zno (hi:i<L.length) (h0:0<i) (hok:okT L i=false) (s:TLa×Bool×Int×TLa×Int×(List TTr)×(List Int)):(S_qp_b1 L i s).den=some (.ret ([],8)):=by
 have w:i64.wrap ((i:Int)-1)=((i-1:Nat):Int):=wp h0 om
 simp only[S_qp_b1,Scr.den,z4v,za]
 have hd:decide ((i:Int)>0)=true:=sk
 rw[w,yi,zq (gs:=[decide ((i:Int)>0)=true]) ⟨hd,trivial⟩,obind,z6 ⟨fun _=>om,fun _=>om,trivial⟩,hd,y1m,z4x,zbe hok]
 rfl
theorem zk9 (k:Nat) (hk:k<=L.length) (hok:∀ j,j<k->okT L j=true):∃ ask dy now fail,(ask=true->inS l dy=(now,fail)) /\
  rangeM (fun i s=>(S_qp_b1 L i s).den) L.length 0 (l,false,0,(⟨0,0,[],[],[],[],[],[],[],[]⟩:TLa),0,[],[])=rangeM (fun i s=>(S_qp_b1 L i s).den) (L.length-k) k (l,ask,dy,now,fail,(runJ l (L.take k)).1,(runJ l (L.take k)).2):=by
 obtain⟨s,⟨ask,dy,now,fail,h1,h2⟩,e⟩:=z53 (body:=fun i s=>(S_qp_b1 L i s).den) (fun i s=>∃ ask dy now fail,s=(l,ask,dy,now,fail,(runJ l (L.take i)).1,(runJ l (L.take i)).2)/\(ask=true->inS l dy=(now,fail))) k (L.length-k) 0
  (l,false,0,(⟨0,0,[],[],[],[],[],[],[],[]⟩:TLa),0,[],[]) ⟨_,_,_,_,rfl,fun h=>by cases h⟩ fun i s _ hi ⟨ask,dy,now,fail,e,hJ⟩=>by
   subst e
   obtain⟨ask',dy',now',fail',e',hJ'⟩:=znn he hl (show i<L.length from om) (hok i om) hJ
   exact⟨_,e',_,_,_,_,rfl,hJ'⟩
 simp only[y1h] at h1 e
 rw[show k+(L.length-k)=L.length from om,h1] at e
 exact⟨ask,dy,now,fail,h2,e⟩
theorem zm0 (hi:i<L.length) (hok:okT L i=true) (hJ:ask=true->inS l dy=(now,fail)) :
  ∃ ask' dy' now' fail',(S_q5_b1 L i (l,ask,dy,now,fail,(runJ l (L.take i)).1,(runJ l (L.take i)).2)).den=some (.cont (l,ask',dy',now',fail',(runJ l (L.take (i+1))).1,(runJ l (L.take (i+1))).2))/\(ask'=true->inS l dy'=(now',fail')):=by
 obtain⟨a,b,c,_⟩:=z1h l (L.take i)
 have hlen:(L.take i).length=i:=by rw[yx]; omega
 rw[hlen] at a b
 obtain⟨ask',dy',now',fail',e,hJ',_⟩:=z99 he hJ ⟨om,c⟩ (L.getD i dF)
 refine⟨ask',dy',now',fail',?_,hJ'⟩
 rw[y13 hi,<- zh hi,z3y]
 simp only[S_q5_b1,Scr.den,z4v,e,obind,za]
 rw[z2n,obind]
 have w:0<i->i64.wrap ((i:Int)-1)=((i-1:Nat):Int):=fun h=>wp h om
 have hi0:AllP [decide ((i:Int)>0)=true]->0<i:=fun h=>by have:=h.1; simp at this; omega
 rw[z6 ⟨fun h=>by rw[w (hi0 h)]; omega,fun h=>by rw[w (hi0 h),yi]; omega,trivial⟩]
 have hb:(decide ((i:Int)>0)&&decide ((@ite Int (AllP [decide ((i:Int)>0)=true]) (Classical.propDecidable _) (orE [cmpI (L.getD (i64.wrap ((i:Int)-1)).toNat dF).G (L.getD i dF).G,cmpI (L.getD (i64.wrap ((i:Int)-1)).toNat dF).H (L.getD i dF).H]) dF)>=0))=false:=by
  by_cases h0:0<i
  ·have hd:decide ((i:Int)>0)=true:=sk
   rw[y7 ⟨hd,trivial⟩,w h0,yi,z4x,zbd hok h0]
   simp
  ·rw[y19 (show ¬ (i:Int)>0 from om),y2i]
 rw[z6 ⟨hb,trivial⟩]
 unfold stepJ
 by_cases hc:codeS l (runJ l (L.take i)).1 (L.getD i dF)=0
 ·rw[y7 (by simpa using hc),Ga]
  simp only[outM]
  rw[Ga,y7 hc]
 ·rw[y6 (by simpa using hc)]
  simp only[outM]
  rw[Ga,y6 hc]
omit he in
theorem zm1 (hi:i<L.length) (h0:0<i) (hok:okT L i=false) (s:TLa×Bool×Int×TLa×Int×(List TTr)×(List Int)):(S_q5_b1 L i s).den=none:=by
 have w:i64.wrap ((i:Int)-1)=((i-1:Nat):Int):=wp h0 om
 simp only[S_q5_b1,Scr.den,z4v,za]
 have hd:decide ((i:Int)>0)=true:=sk
 rw[w,yi,zq (gs:=[decide ((i:Int)>0)=true]) ⟨hd,trivial⟩,obind,z6 ⟨fun _=>om,fun _=>om,trivial⟩,hd,y1m,z4x,zbe hok]
 exact z8o fun h=>by have:=h.1; simp at this
theorem zgv (k:Nat) (hk:k<=L.length) (hok:∀ j,j<k->okT L j=true):∃ ask dy now fail,(ask=true->inS l dy=(now,fail)) /\
  rangeM (fun i s=>(S_q5_b1 L i s).den) L.length 0 (l,false,0,(⟨0,0,[],[],[],[],[],[],[],[]⟩:TLa),0,[],[])=rangeM (fun i s=>(S_q5_b1 L i s).den) (L.length-k) k (l,ask,dy,now,fail,(runJ l (L.take k)).1,(runJ l (L.take k)).2):=by
 obtain⟨s,⟨ask,dy,now,fail,h1,h2⟩,e⟩:=z53 (body:=fun i s=>(S_q5_b1 L i s).den) (fun i s=>∃ ask dy now fail,s=(l,ask,dy,now,fail,(runJ l (L.take i)).1,(runJ l (L.take i)).2)/\(ask=true->inS l dy=(now,fail))) k (L.length-k) 0
  (l,false,0,(⟨0,0,[],[],[],[],[],[],[],[]⟩:TLa),0,[],[]) ⟨_,_,_,_,rfl,fun h=>by cases h⟩ fun i s _ hi ⟨ask,dy,now,fail,e,hJ⟩=>by
   subst e
   obtain⟨ask',dy',now',fail',e',hJ'⟩:=zm0 he hl (show i<L.length from om) (hok i om) hJ
   exact⟨_,e',_,_,_,_,rfl,hJ'⟩
 simp only[y1h] at h1 e
 rw[show k+(L.length-k)=L.length from om,h1] at e
 exact⟨ask,dy,now,fail,h2,e⟩
theorem znp (hi:i<L.length) (hok:okT L i=true) (hJ:ask=true->inS l dy=(now,fail)) :
  ∃ ask' dy' now' fail',(S_qb_b1 L i (l,ask,dy,now,fail,(runJ l (L.take i)).1,(runJ l (L.take i)).2)).den=some (.cont (l,ask',dy',now',fail',(runJ l (L.take (i+1))).1,(runJ l (L.take (i+1))).2))/\(ask'=true->inS l dy'=(now',fail')):=by
 obtain⟨a,b,c,_⟩:=z1h l (L.take i)
 have hlen:(L.take i).length=i:=by rw[yx]; omega
 rw[hlen] at a b
 obtain⟨ask',dy',now',fail',e,hJ',_⟩:=z99 he hJ ⟨om,c⟩ (L.getD i dF)
 refine⟨ask',dy',now',fail',?_,hJ'⟩
 rw[y13 hi,<- zh hi,z3y]
 simp only[S_qb_b1,Scr.den,z4v,e,obind,za]
 rw[z2n,obind]
 have w:0<i->i64.wrap ((i:Int)-1)=((i-1:Nat):Int):=fun h=>wp h om
 have hi0:AllP [decide ((i:Int)>0)=true]->0<i:=fun h=>by have:=h.1; simp at this; omega
 rw[z6 ⟨fun h=>by rw[w (hi0 h)]; omega,fun h=>by rw[w (hi0 h),yi]; omega,trivial⟩]
 have hb:(decide ((i:Int)>0)&&decide ((@ite Int (AllP [decide ((i:Int)>0)=true]) (Classical.propDecidable _) (orE [cmpI (L.getD (i64.wrap ((i:Int)-1)).toNat dF).G (L.getD i dF).G,cmpI (L.getD (i64.wrap ((i:Int)-1)).toNat dF).H (L.getD i dF).H]) dF)>=0))=false:=by
  by_cases h0:0<i
  ·have hd:decide ((i:Int)>0)=true:=sk
   rw[y7 ⟨hd,trivial⟩,w h0,yi,z4x,zbd hok h0]
   simp
  ·rw[y19 (show ¬ (i:Int)>0 from om),y2i]
 rw[hb,y6 sj]
 unfold stepJ
 by_cases hc:codeS l (runJ l (L.take i)).1 (L.getD i dF)=0
 ·rw[y7 (by simpa using hc),Ga]
  simp only[outM]
  rw[Ga,y7 hc]
 ·rw[y6 (by simpa using hc)]
  simp only[outM]
  rw[Ga,y6 hc]
omit he in
theorem znq (hi:i<L.length) (h0:0<i) (hok:okT L i=false) (s:TLa×Bool×Int×TLa×Int×(List TTr)×(List Int)):(S_qb_b1 L i s).den=some (.ret ([],8)):=by
 have w:i64.wrap ((i:Int)-1)=((i-1:Nat):Int):=wp h0 om
 simp only[S_qb_b1,Scr.den,z4v,za]
 have hd:decide ((i:Int)>0)=true:=sk
 rw[w,yi,zq (gs:=[decide ((i:Int)>0)=true]) ⟨hd,trivial⟩,obind,z6 ⟨fun _=>om,fun _=>om,trivial⟩,hd,y1m,z4x,zbe hok]
 rfl
theorem zoq (k:Nat) (hk:k<=L.length) (hok:∀ j,j<k->okT L j=true):∃ ask dy now fail,(ask=true->inS l dy=(now,fail)) /\
  rangeM (fun i s=>(S_qb_b1 L i s).den) L.length 0 (l,false,0,(⟨0,0,[],[],[],[],[],[],[],[]⟩:TLa),0,[],[])=rangeM (fun i s=>(S_qb_b1 L i s).den) (L.length-k) k (l,ask,dy,now,fail,(runJ l (L.take k)).1,(runJ l (L.take k)).2):=by
 obtain⟨s,⟨ask,dy,now,fail,h1,h2⟩,e⟩:=z53 (body:=fun i s=>(S_qb_b1 L i s).den) (fun i s=>∃ ask dy now fail,s=(l,ask,dy,now,fail,(runJ l (L.take i)).1,(runJ l (L.take i)).2)/\(ask=true->inS l dy=(now,fail))) k (L.length-k) 0
  (l,false,0,(⟨0,0,[],[],[],[],[],[],[],[]⟩:TLa),0,[],[]) ⟨_,_,_,_,rfl,fun h=>by cases h⟩ fun i s _ hi ⟨ask,dy,now,fail,e,hJ⟩=>by
   subst e
   obtain⟨ask',dy',now',fail',e',hJ'⟩:=znp he hl (show i<L.length from om) (hok i om) hJ
   exact⟨_,e',_,_,_,_,rfl,hJ'⟩
 simp only[y1h] at h1 e
 rw[show k+(L.length-k)=L.length from om,h1] at e
 exact⟨ask,dy,now,fail,h2,e⟩
end
theorem zbf (l:TLa):F_q3b l=some (l,false,0,(⟨0,0,[],[],[],[],[],[],[],[]⟩:TLa),0,[]):=by
 simp only[F_q3b,S_q3b,Scr.den]
theorem zor (hs:SmL l):F_qp l L=some (if begE l L=0 then ((runJ l L).2,0) else ([],begE l L)):=by
 simp only[F_qp,S_qp,Scr.den,z59 hs,obind,zbf]
 by_cases he:errL l=0
 ·rw[y6 (show ¬ ((errL l != 0)=true) by simp[he])]
  by_cases hl:L.length>60
  ·rw[y7 (show decide ((L.length:Int)>60)=true from y11 om),zi5 he hl]; rfl
  ·rw[y6 (show ¬ decide ((L.length:Int)>60)=true by rw[y8]; omega)]
   have hl':L.length<=60:=om
   obtain⟨a,b,_⟩:=z1h l L
   by_cases hsr:srtB L=true
   ·rw[zi6 he hl hsr]
    have hok:∀ j,j<L.length->okT L j=true:=fun j hj=>y18.1 hsr j (y1l.2 hj)
    obtain⟨ask,dy,now,fail,_,e⟩:=zk9 he hl' L.length (yc _) hok
    rw[e,y5e,y1y]
    simp only[rangeM,outM]
    rw[Ga]
    rfl
   ·rw[zi7 he hl hsr]
    obtain⟨k,k1,k2,k3,k4⟩:=z8p (yk.2 hsr)
    obtain⟨ask,dy,now,fail,_,e⟩:=zk9 he hl' k om k4
    obtain⟨m,hm⟩:∃ m,L.length-k=m+1:=⟨L.length-k-1,om⟩
    rw[e,hm]
    simp only[rangeM,zno hl' k1 k2 k3,outM]
    rfl
 ·rw[y7 (show (errL l != 0)=true by simpa using he),zi4 he,y6 he]
theorem zbg (hs:SmL l) (h:begE l L≠0):F_qb l L=some ([],begE l L):=by
 simp only[F_qb,S_qb,Scr.den,z59 hs,obind,zbf]
 by_cases he:errL l=0
 ·rw[y6 (show ¬ ((errL l != 0)=true) by simp[he])]
  by_cases hl:L.length>60
  ·rw[y7 (show decide ((L.length:Int)>60)=true from y11 om),zi5 he hl]
  ·rw[y6 (show ¬ decide ((L.length:Int)>60)=true by rw[y8]; omega)]
   have hl':L.length<=60:=om
   by_cases hsr:srtB L=true
   ·exact absurd (zi6 he hl hsr) h
   ·rw[zi7 he hl hsr]
    obtain⟨k,k1,k2,k3,k4⟩:=z8p (yk.2 hsr)
    obtain⟨ask,dy,now,fail,_,e⟩:=zoq he hl' k om k4
    obtain⟨m,hm⟩:∃ m,L.length-k=m+1:=⟨L.length-k-1,om⟩
    rw[e,hm]
    simp only[rangeM,znq hl' k1 k2 k3,outM]
    rfl
 ·rw[y7 (show (errL l != 0)=true by simpa using he),zi4 he]
theorem z8q (hs:SmL l) (h:begE l L=0):∃ ask dy now fail,F_q5 l L=some ((runJ l L).2,0,l,ask,dy,now,fail,(runJ l L).1)/\(ask=true->inS l dy=(now,fail)):=by
 obtain⟨he,hl,hsr⟩:=z25.1 h
 obtain⟨a,b,_⟩:=z1h l L
 have hok:∀ j,j<L.length->okT L j=true:=fun j hj=>y18.1 (zah.2 hsr) j (y1l.2 hj)
 obtain⟨ask,dy,now,fail,hJ,e⟩:=zgv he hl L.length (yc _) hok
 refine⟨ask,dy,now,fail,?_,hJ⟩
 simp only[F_q5,S_q5,Scr.den,z59 hs,he,obind,zbf]
 rw[z6 ⟨rfl,trivial⟩,z6 ⟨sk,trivial⟩,e,y5e,y1y]
 simp only[rangeM,outM]
 rw[Ga]
theorem zbh (hs:SmL l) (h:begE l L≠0):F_q5 l L=none:=by
 simp only[F_q5,S_q5,Scr.den,z59 hs,obind,zbf]
 by_cases he:errL l=0
 ·rw[he,z6 ⟨rfl,trivial⟩]
  by_cases hl:L.length>60
  ·exact z8o fun k=>by have:=k.1; simp at this; omega
  ·have hl':L.length<=60:=om
   rw[z6 ⟨sk,trivial⟩]
   by_cases hsr:srtB L=true
   ·exact absurd (z25.2 ⟨he,hl',zah.1 hsr⟩) h
   ·obtain⟨k,k1,k2,k3,k4⟩:=z8p (yk.2 hsr)
    obtain⟨ask,dy,now,fail,_,e⟩:=zgv he hl' k om k4
    obtain⟨m,hm⟩:∃ m,L.length-k=m+1:=⟨L.length-k-1,om⟩
    rw[e,hm]
    simp only[rangeM,zm1 hl' k1 k2 k3,outM]
 ·exact z8o fun k=>by have:=k.1; simp at this; exact he this
theorem zdd (hs:SmL l) (L:List TTr):F_q3f l L=some (if begE l L=0 then ((runJ l L).2,0) else ([],begE l L)):=by
 simp only[F_q3f,S_q3f,Scr.den,zor hs,obind]
theorem zfc (hs:SmL l) (L:List TTr):F_q4v l L=some (if begE l L=0 then ((runJ l L).1,0) else ([],begE l L)):=by
 simp only[F_q4v,S_q4v,Scr.den]
 by_cases h:begE l L=0
 ·obtain⟨ask,dy,now,fail,e,_⟩:=z8q hs h
  obtain⟨a,_⟩:=z1h l L
  have:=(z25.1 h).2.1
  rw[e,y4f,y7 rfl,obind,z6 ⟨rfl,trivial⟩,z6 ⟨by simp only; omega,trivial⟩,y7 h]
 ·rw[zbh hs h,zbg hs h,y6 h]
  simp only[y4v,yl,y2g,obind]
  rw[z6 ⟨by simpa using h,trivial⟩]
theorem zbi (a b:TTr):F_q3s a b=some (ltTB a b):=by
 simp only[F_q3s,S_q3s,Scr.den,zg,za,ltTB]
theorem zka (hs:SmL l) (L:List TTr):F_q12 l L=some (begE l L):=by
 simp only[F_q12,S_q12,Scr.den,zb3 hs,obind]
 by_cases he:errL l=0
 ·rw[y6 (show ¬ ((errL l != 0)=true) by simp[he])]
  by_cases hl:L.length>60
  ·rw[y7 (show decide ((L.length:Int)>60)=true from y11 om),zi5 he hl]
  ·rw[y6 (show ¬ decide ((L.length:Int)>60)=true by rw[y8]; omega)]
   have key:∀ (m k:Nat),L.length-k<=m->1<=k->(∀ j,j<k->j<L.length->okT L j=true)->iterM (fun s=>(S_q12_b1 L s).den) (k:Int)=some (if srtB L=true then .next ((max k L.length:Nat):Int) else .ret 8):=by
    intro m
    induction m with
    | zero =>
     intro k hk h1 hok
     have hsr:srtB L=true:=y18.2 fun j hj=>hok j (by have:=y1l.1 hj; omega) (y1l.1 hj)
     rw[zu]
     simp only[S_q12_b1,Scr.den]
     rw[y6 sk,y7 hsr]
     simp only
     rw[Nat.max_eq_left om]
    | succ m ih =>
     intro k hk h1 hok
     by_cases hkl:k<L.length
     ·have w:i64.wrap ((k:Int)-1)=((k-1:Nat):Int):=wp om om
      have hst:(S_q12_b1 L (k:Int)).den=some (if okT L k=true then .cont ((k+1:Nat):Int) else .ret 8):=by
       simp only[S_q12_b1,Scr.den,zbi,obind,yi]
       rw[y7 (show decide ((k:Int)<(L.length:Int))=true from y11 om),w,yi,z6 ⟨om,om,om,hkl,trivial⟩]
       by_cases c:okT L k=true
       ·rw[zbd c om,y6 sj,wrapId (n:=(k:Int)+1) om om,y7 c]
        rfl
       ·rw[zbe (yk.2 c),y7 sj,y6 c]
      rw[zu]
      simp only[hst]
      by_cases c:okT L k=true
      ·rw[y7 c]
       simp only
       rw[ih (k+1) om om fun j hj hjl=>by
        by_cases e:j=k
        ·subst e; exact c
        ·exact hok j om hjl]
       rw[show max (k+1) L.length=max k L.length from om]
      ·rw[y6 c]
       simp only
       rw[y6]
       intro hsr
       exact c (y18.1 hsr k (y1l.2 hkl))
     ·have hsr:srtB L=true:=y18.2 fun j hj=>hok j (by have:=y1l.1 hj; omega) (y1l.1 hj)
      rw[zu]
      simp only[S_q12_b1,Scr.den]
      rw[y6 (by simpa using hkl),y7 hsr]
      simp only
      rw[Nat.max_eq_left om]
   have:=key L.length 1 om om fun j hj _=>by
    have:j=0:=om
    subst this
    unfold okT; simp
   rw[show (1:Int)=((1:Nat):Int) from rfl,this]
   by_cases hsr:srtB L=true
   ·rw[y7 hsr,zi6 he hl hsr]; rfl
   ·rw[y6 hsr,zi7 he hl hsr]; rfl
 ·rw[y7 (show (errL l != 0)=true by simpa using he),zi4 he]
structure IT (L:List TTr):Prop where
 yr:∀ z∈L,z.C<9223372036854775808
 fr:∀ z∈L,z.L.length<=1000000
 to:∀ z∈L,z.V.length<=1000000
theorem zm2 (hs:L.Pairwise ltT) (hi:i<L.length):∀ z∈(runJ l (L.take i)).1,z.G<=(L.getD i dF).G:=fun z hz=>by
 have hm:=(z1h l (L.take i)).2.2.2.subset hz
 obtain⟨j,hj,rfl⟩:=y2j hm
 rw[yx] at hj
 rw[y66,zh hi]
 have:=y20.1 hs j i om hi om
 unfold ltT at this
 omega
theorem zde (hs:SmL l) (hiy:IY l) (hL:IT L):F_q1a l L=some (if begE l L=0 then ((runJ l L).2,0) else ([],begE l L)):=by
 simp only[F_q1a,S_q1a,Scr.den,zka hs,obind]
 by_cases h:begE l L=0
 ·obtain⟨he,hl,hsr⟩:=z25.1 h
  obtain⟨ra,rb,_⟩:=z1h l L
  rw[y6 (by simpa using h),y7 h]
  obtain⟨r,e,h1⟩:=zp (body:=fun i s=>(S_q1a_b1 l L i s).den) (n:=L.length) (fun i s=>s=((runJ l (L.take i)).2,(runJ l (L.take i)).1)) (s0:=(([]:List Int),([]:List TTr))) rfl (fun i s hi hs'=>by
   refine⟨_,?_,rfl⟩
   obtain⟨a,b,c,d⟩:=z1h l (L.take i)
   have hlen:(L.take i).length=i:=by rw[yx]; omega
   rw[hlen] at a b
   have hm:=z8 hi
   subst hs'
   simp only[S_q1a_b1,Scr.den,zlz he hiy (acc:=(runJ l (L.take i)).1) om c (fun z hz=>hL.yr z (y17 (d.subset hz))) (x:=L.getD i dF) (zm2 hsr hi) (hL.yr _ hm) (hL.fr _ hm) (hL.to _ hm),obind]
   rw[y13 hi,<- zh hi,z3y]
   unfold stepJ
   by_cases hc:codeS l (runJ l (L.take i)).1 (L.getD i dF)=0
   ·rw[y7 (by simpa using hc),Ga]
    simp only[outM]
    rw[Ga,y7 hc]
   ·rw[y6 (by simpa using hc)]
    simp only[outM]
    rw[Ga,y6 hc])
  rw[e,h1,y1y]
  simp only[outM]
  rw[Ga]
 ·rw[y7 (by simpa using h),y6 h]
theorem zgw (l:TLa):∀ (B:List TTr) (s:List TTr×List Int),∃ X,(B.foldl (stepJ l) s).2=s.2++X
 | [],s=>⟨[],sj⟩
 | b :: B,s=>by
  obtain⟨X,e⟩:=zgw l B (stepJ l s b)
  refine⟨codeS l s.1 b :: X,?_⟩
  rw[y3k,e]
  unfold stepJ
  simp
theorem zm3 (l:TLa) (hi:i<L.length):(runJ l L).2.getD i dF=codeS l (runJ l (L.take i)).1 (L.getD i dF):=by
 obtain⟨X,e⟩:=zgw l (L.drop (i+1)) (runJ l (L.take (i+1)))
 have h1:runJ l L=(L.drop (i+1)).foldl (stepJ l) (runJ l (L.take (i+1))):=by
  unfold runJ
  rw[<- y67,y2b]
 rw[h1,e]
 have h2:=(z1h l (L.take i)).2.1
 rw[yx,y5n om] at h2
 have h3:(runJ l (L.take (i+1))).2=(runJ l (L.take i)).2++[codeS l (runJ l (L.take i)).1 (L.getD i dF)]:=by
  rw[y13 hi,<- zh hi,z3y]
  rfl
 rw[h3,y25,zh sk,List.getElem_append_right om]
 simp[h2]
theorem z4h (hs:SmL l) (hiy:IY l) (hL:IT L):F_qd l L=some (if begE l L=0 then ((runJ l L).1,0) else ([],begE l L)):=by
 simp only[F_qd,S_qd,Scr.den,zde hs hiy hL,obind]
 by_cases h:begE l L=0
 ·obtain⟨he,hl,hsr⟩:=z25.1 h
  obtain⟨ra,rb,_⟩:=z1h l L
  simp only[y7 h]
  rw[y6 sj]
  obtain⟨r,e,h1⟩:=zp (body:=fun i s=>(S_qd_b1 L ((runJ l L).2,0) i s).den) (n:=L.length) (fun i s=>s=(runJ l (L.take i)).1) (s0:=([]:List TTr)) rfl (fun i s hi hs'=>by
   refine⟨_,?_,rfl⟩
   have a:=(z1h l (L.take i)).1
   rw[yx] at a
   subst hs'
   simp only[S_qd_b1,Scr.den,zm3 l hi]
   rw[Ga,y13 hi,<- zh hi,z3y]
   unfold stepJ
   by_cases hc:codeS l (runJ l (L.take i)).1 (L.getD i dF)=0
   ·rw[y7 (by simpa using hc),Ga,y7 hc]
   ·rw[y6 (by simpa using hc),y6 hc])
  rw[e,h1,y1y]
  simp only[outM]
  rw[Ga]
 ·simp only[y6 h]
  rw[y7 (by simpa using h)]
end Go.Proofs.YtbmpcbbimefmoaaGreatDoor
/- What the leaves have,and what was moved,in both programs. No condition. -/
namespace Go.Proofs.YtbmpcbbimefmoaaGreatDoor
open Go Go.TA
open Go.IntKind (i64)
attribute [-simp] List.getD_eq_getElem?_getD
theorem zdf (n:TLa) (acc:List TTr) (f d:Int) (j:Nat) (c:Y8):rowS n acc f d (j+1) c=rowS n acc f d j c++(if (hasS n acc c (f+(j:Int)) d != 0)=true then [⟨c,f+(j:Int),hasS n acc c (f+(j:Int)) d⟩] else []):=by
 unfold rowS
 rw[y5b,y4t,y37]
 congr 1
 by_cases h:(hasS n acc c (f+(j:Int)) d != 0)=true
 ·rw[y3d,y7 h,y7 h]; rfl
 ·rw[y3d,y6 h,y6 h]; rfl
theorem zbj (n:TLa) (acc:List TTr) (f d:Int) {k:Nat} (hk:k<=4) {l:List Y8} (hl:l.length<=60):(l.flatMap (rowS n acc f d k)).length<=240:=by
 have:=zf8 (rowS n acc f d k) 4 l fun c _=>by
  have:=zac n acc f d k c; omega
 omega
theorem zgx {α β:Type} [Inhabited α] (f:α->List β) {l:List α} {i:Nat} (hi:i<l.length):(l.take (i+1)).flatMap f=(l.take i).flatMap f++f (l.getD i dF):=by
 rw[y13 hi,y47,<- zh hi]
 simp
def linesA (l:TLa) (L:List TTr) (d:Int):List TLi×Int:=if begE l L=0 then (if (inS l d).2=0 then (linesS (forceL l d) (runJ l L).1 l.F l.E l.I d,0) else ([],(inS l d).2)) else ([],begE l L)
variable {l:TLa}
theorem yrs (he:errL l=0):(0<=l.E/\l.E<=99)/\(1<=l.I/\l.I<=4):=by
 have hr:=(z10.1 he).1.yr
 unfold yrB at hr
 omega
theorem zkb (hs:SmL l) (L:List TTr) (d:Int):F_qn l L d=some (linesA l L d):=by
 simp only[F_qn,S_qn,Scr.den,linesA]
 by_cases h:begE l L=0
 ·obtain⟨ask,dy,now,fail,e,hJ⟩:=z8q hs h
  obtain⟨he,hl,hsr⟩:=z25.1 h
  obtain⟨hf,hy⟩:=yrs he
  have hll:=z1f l.F []
  have htl:=(z5t (z10.1 he).1.tr).1
  obtain⟨k1,_,k3,_⟩:=z1h l L
  have hac:AcOk (runJ l L).1:=AcJ.ac (l:=l) ⟨om,k3⟩
  rw[e,y4f,y7 rfl,obind,z6 ⟨rfl,trivial⟩,y7 h]
  simp only[zmd he d hJ,obind,z8e hs.t hs.tl]
  by_cases hi:(inS l d).2=0
  ·obtain⟨n1,hnow,n3,n4⟩:=z74 he hi
   rw[y6 (show ¬ ((inS l d).2 != 0)=true by simp[hi]),y7 hi,n1]
   obtain⟨r,e2,h2⟩:=zp (body:=fun i s=>(S_qn_b2 l d ((runJ l L).2,0,l,ask,dy,now,fail,(runJ l L).1) ((inS l d).2,l,true,d,forceL l d,(inS l d).2) (leavesU l.F []) i s).den) (n:=(leavesU l.F []).length)
    (fun i s=>s=((leavesU l.F []).take i).flatMap (rowS (forceL l d) (runJ l L).1 l.E d l.I.toNat)) (s0:=[]) sj (fun i s hi hs=>by
     have hlen:s.length<=240:=by
      rw[hs]
      exact zbj _ _ _ _ om (by rw[yx]; omega)
     have hc:=z1d (z52.1 (z8 hi)).1
     obtain⟨r,e3,h3⟩:=zp (body:=fun j s=>(S_qn_b1 l d ((runJ l L).2,0,l,ask,dy,now,fail,(runJ l L).1) ((inS l d).2,l,true,d,forceL l d,(inS l d).2) (leavesU l.F []) i j s).den) (n:=l.I.toNat)
      (fun j s'=>s'=s++rowS (forceL l d) (runJ l L).1 l.E d j ((leavesU l.F []).getD i dF)) (s0:=s) (by simp[rowS]) (fun j s' hj hs'=>by
       have hl2:s'.length<=244:=by
        rw[hs',yb]
        have:=zac (forceL l d) (runJ l L).1 l.E d j ((leavesU l.F []).getD i dF); omega
       simp only[S_qn_b1,Scr.den]
       rw[wrapId (n:=l.E+(j:Int)) om om,zb9 hnow hac hc,obind]
       rw[zdf]
       by_cases h:(hasS (forceL l d) (runJ l L).1 ((leavesU l.F []).getD i dF) (l.E+(j:Int)) d != 0)=true
       ·rw[y7 h,y7 h,Ga]
        exact⟨_,rfl,by rw[hs',y25]⟩
       ·rw[y6 h,y6 h,y2v]
        exact⟨_,rfl,hs'⟩)
     simp only[S_qn_b2,Scr.den]
     rw[Ga,e3]
     simp only[outM]
     refine⟨_,rfl,?_⟩
     rw[h3,zgx _ hi,<- hs])
   rw[e2,h2,y1y]
   simp only[outM]
   have:=zbj (forceL l d) (runJ l L).1 l.E d (k:=l.I.toNat) om (l:=leavesU l.F []) om
   rw[Ga]
   rfl
  ·rw[y7 (show ((inS l d).2 != 0)=true by simpa using hi),y6 hi]
 ·rw[zbh hs h,zbg hs h,y6 h]
  simp only[y4v,yl,y2g,obind]
  rw[z6 ⟨by simpa using h,trivial⟩]
variable {L:List TTr}
theorem zkc (hs:SmL l) (hiy:IY l) (hL:IT L) (d:Int):F_qe l L d=some (linesA l L d):=by
 simp only[F_qe,S_qe,Scr.den,z4h hs hiy hL,obind,linesA]
 by_cases h:begE l L=0
 ·obtain⟨he,hl,hsr⟩:=z25.1 h
  obtain⟨hf,hy⟩:=yrs he
  have hll:=z1f l.F []
  have htl:=(z5t (z10.1 he).1.tr).1
  obtain⟨k1,_,k3,k4⟩:=z1h l L
  have hac:AcOk (runJ l L).1:=AcJ.ac (l:=l) ⟨om,k3⟩
  simp only[y7 h]
  rw[y6 (show ¬ ((0:Int) != 0)=true from sj),zf9 he,obind]
  by_cases hi:(inS l d).2=0
  ·obtain⟨n1,hnow,n3,n4⟩:=z74 he hi
   have hnv:=hiy.nv he hi
   have hav:AcV (forceL l d) (runJ l L).1 36000:=zfb he om k3 (fun z hz=>hL.yr z (k4.subset hz)) (fun z hz=>by have:=z1q.1 (k3 z hz); omega) d
   have hT:=(z4f l d).2.2.1
   rw[y6 (show ¬ ((inS l d).2 != 0)=true by simp[hi]),y7 hi,z1g hs.t hs.tl sj,obind]
   obtain⟨r,e2,h2⟩:=zp (body:=fun i s=>(S_qe_b2 l d ((runJ l L).1,0) (inS l d) (leavesU l.F []) i s).den) (n:=(leavesU l.F []).length)
    (fun i s=>s=((leavesU l.F []).take i).flatMap (rowS (forceL l d) (runJ l L).1 l.E d l.I.toNat)) (s0:=[]) sj (fun i s hi hs=>by
     have hlen:s.length<=240:=by
      rw[hs]
      exact zbj _ _ _ _ om (by rw[yx]; omega)
     have hcl:=(z52.1 (z8 hi)).1
     have hst:∀ j:Nat,j<l.I.toNat->(S_qe_b1 l d ((runJ l L).1,0) (inS l d) (leavesU l.F []) i (s++rowS (forceL l d) (runJ l L).1 l.E d j ((leavesU l.F []).getD i dF),l.E+(j:Int))).den=some (.cont (s++rowS (forceL l d) (runJ l L).1 l.E d (j+1) ((leavesU l.F []).getD i dF),l.E+((j+1:Nat):Int))):=fun j hj=>by
      have hl2:(s++rowS (forceL l d) (runJ l L).1 l.E d j ((leavesU l.F []).getD i dF)).length<=244:=by
       rw[yb]
       have:=zac (forceL l d) (runJ l L).1 l.E d j ((leavesU l.F []).getD i dF); omega
      have a:=z5b hac ((leavesU l.F []).getD i dF) (l.E+(j:Int)) d
      have b:=z48 hac ((leavesU l.F []).getD i dF) (l.E+(j:Int)) d
      have c:=z3x hnow.la ((leavesU l.F []).getD i dF) (l.E+(j:Int))
      have hh:=z8n hnv hav (c:=(leavesU l.F []).getD i dF) (by rw[hT]; exact hcl) (y:=l.E+(j:Int)) om d
      unfold hasR at hh
      simp only[S_qe_b1,Scr.den,z7r hac,z72,obind,n1]
      rw[wrapId (n:=l.E+l.I) om om,y7 (show decide (l.E+(j:Int)<l.E+l.I)=true by rw[y8]; omega)]
      rw[wrapId (n:=lineA (forceL l d).P ((leavesU l.F []).getD i dF) (l.E+(j:Int))+smm (mIn ((leavesU l.F []).getD i dF) (l.E+(j:Int)) d) (runJ l L).1) om om,wrapId (n:=lineA (forceL l d).P ((leavesU l.F []).getD i dF) (l.E+(j:Int))+smm (mIn ((leavesU l.F []).getD i dF) (l.E+(j:Int)) d) (runJ l L).1-smm (mOut ((leavesU l.F []).getD i dF) (l.E+(j:Int)) d) (runJ l L).1) om om,hh,zdf,wrapId (n:=l.E+(j:Int)+1) om om,Int.natCast_add,<- Int.add_assoc]
      by_cases h:(hasS (forceL l d) (runJ l L).1 ((leavesU l.F []).getD i dF) (l.E+(j:Int)) d != 0)=true
      ·rw[y7 h,y7 h,Ga,y25]
       rfl
      ·rw[y6 h,y6 h,y2v]
       rfl
     have key:∀ (m j:Nat),j+m=l.I.toNat->iterM (fun s=>(S_qe_b1 l d ((runJ l L).1,0) (inS l d) (leavesU l.F []) i s).den) (s++rowS (forceL l d) (runJ l L).1 l.E d j ((leavesU l.F []).getD i dF),l.E+(j:Int))=some (.next (s++rowS (forceL l d) (runJ l L).1 l.E d l.I.toNat ((leavesU l.F []).getD i dF),l.E+(l.I.toNat:Int))):=by
      intro m
      induction m with
      | zero =>
       intro j hj
       have ej:j=l.I.toNat:=om
       rw[zu,ej]
       simp only[S_qe_b1,Scr.den]
       rw[wrapId (n:=l.E+l.I) om om,y6 (show ¬ decide (l.E+(l.I.toNat:Int)<l.E+l.I)=true by rw[y8]; omega)]
      | succ m ih =>
       intro j hj
       rw[zu]
       simp only[hst j om]
       exact ih (j+1) om
     have k0:=key l.I.toNat 0 om
     rw[show rowS (forceL l d) (runJ l L).1 l.E d 0 ((leavesU l.F []).getD i dF)=[] from rfl,y2v,show l.E+((0:Nat):Int)=l.E from om] at k0
     simp only[S_qe_b2,Scr.den]
     rw[k0]
     simp only[outM]
     refine⟨_,rfl,?_⟩
     rw[zgx _ hi,<- hs])
   rw[e2,h2,y1y]
   simp only[outM]
   have:=zbj (forceL l d) (runJ l L).1 l.E d (k:=l.I.toNat) om (l:=leavesU l.F []) om
   rw[Ga]
   rfl
  ·rw[y7 (show ((inS l d).2 != 0)=true by simpa using hi),y6 hi]
 ·simp only[y6 h]
  rw[y7 (by simpa using h)]
def movedA (l:TLa) (L:List TTr) (c:Y8) (y d:Int):Int×Int×Int:=if begE l L=0 then (smm (mIn c y d) (runJ l L).1,smm (mOut c y d) (runJ l L).1,0) else (0,0,begE l L)
theorem zkd (hs:SmL l) (hiy:IY l) (hL:IT L) (c:Y8) (y d:Int):F_q4x l L c y d=some (movedA l L c y d):=by
 simp only[F_q4x,S_q4x,Scr.den,z4h hs hiy hL,obind,movedA]
 by_cases h:begE l L=0
 ·obtain⟨he,hl,hsr⟩:=z25.1 h
  obtain⟨k1,_,k3,k4⟩:=z1h l L
  have hac:AcOk (runJ l L).1:=AcJ.ac (l:=l) ⟨om,k3⟩
  simp only[y7 h]
  rw[y6 (show ¬ ((0:Int) != 0)=true from sj),z7r hac,obind]
 ·simp only[y6 h]
  rw[y7 (by simpa using h)]
theorem zke (hs:SmL l) (L:List TTr) (c:Y8) (y d:Int):F_q1j l L c y d=some (movedA l L c y d):=by
 simp only[F_q1j,S_q1j,Scr.den,movedA]
 by_cases h:begE l L=0
 ·obtain⟨ask,dy,now,fail,e,hJ⟩:=z8q hs h
  obtain⟨he,hl,hsr⟩:=z25.1 h
  obtain⟨k1,_,k3,_⟩:=z1h l L
  have hac:AcOk (runJ l L).1:=AcJ.ac (l:=l) ⟨om,k3⟩
  rw[e,y4f,y7 rfl,obind,z6 ⟨rfl,trivial⟩,y7 h]
  simp only
  rw[Ga]
  obtain⟨r,e,h1⟩:=zp (body:=fun i s=>(S_q1j_b1 c y d ((runJ l L).2,0,l,ask,dy,now,fail,(runJ l L).1) i s).den) (n:=(runJ l L).1.length)
   (fun i s=>s=(smm (mIn c y d) ((runJ l L).1.take i),smm (mOut c y d) ((runJ l L).1.take i))) (s0:=((0:Int),(0:Int))) (by simp[smm]) (fun i s hi hs=>by
    refine⟨_,?_,rfl⟩
    have hac':AcOk ((runJ l L).1.take i):=⟨by rw[yx]; omega,fun z hz=>hac.am z (y17 hz),fun z hz=>hac.fr z (y17 hz),fun z hz=>hac.to z (y17 hz)⟩
    have b1:=z5b hac' c y d
    have b2:=z48 hac' c y d
    have hz:=hac.am _ (z8 hi)
    rw[z3w _ hi,z3w _ hi]
    subst hs
    simp only[S_q1j_b1,Scr.den,y1h,zg]
    rw[z6 ⟨hi,trivial⟩]
    generalize (runJ l L).1.getD i dF=z at hz |-
    unfold mIn mOut at *
    rw[y5o (decide (z.G>d))]
    by_cases k:(z.C != y||decide (z.G>d))=true
    ·rw[y7 k,y7 k,y7 k,y24,y24]
    ·rw[y6 k,y6 k,y6 k]
     by_cases k1:(z.V==c)=true
     ·rw[y7 k1,y7 k1]
      simp only[outM]
      rw[wrapId om om]
      by_cases k2:(z.L==c)=true
      ·rw[y7 k2,y7 k2,wrapId om om]
      ·rw[y6 k2,y6 k2,y24]
     ·rw[y6 k1,y6 k1,y24]
      simp only[outM]
      by_cases k2:(z.L==c)=true
      ·rw[y7 k2,y7 k2,wrapId om om]
      ·rw[y6 k2,y6 k2,y24])
  rw[e,h1,y1y]
  rfl
 ·rw[zbh hs h,zbg hs h,y6 h]
  simp only[y4v,yl,y2g,obind]
  rw[z6 ⟨by simpa using h,trivial⟩]
end Go.Proofs.YtbmpcbbimefmoaaGreatDoor
/- Room in both programs: the greatest amount. No condition. -/
namespace Go.Proofs.YtbmpcbbimefmoaaGreatDoor
open Go Go.TA
open Go.IntKind (i64)
attribute [-simp] List.getD_eq_getElem?_getD
structure RmS (l:TLa) (acc:List TTr) (x:TTr) (r:Int):Prop where
 a:0<=r
 b:r<=1000000000000
 lo:∀ m:Int,0<=m->m<r->codeS l acc (setA x (m+1))=0
 hi:∀ m:Int,r<=m->m<1000000000000->codeS l acc (setA x (m+1))≠0
variable {l:TLa} {x:TTr} {acc:List TTr}
theorem RmS.uniq {r s:Int} (h:RmS l acc x r) (k:RmS l acc x s):r=s:=by
 rcases y65 r s with c | c | c
 ·exact absurd (k.lo r h.a c) (h.hi r (y5w _) (by have:=k.b; omega))
 ·exact c
 ·exact absurd (h.lo s k.a c) (k.hi s (y5w _) (by have:=h.b; omega))
theorem midR {a b:Int} (h:0<=a/\a<b/\b<=1000000000000):i64.wrap (a+(i64.wrap ((i64.wrap ((i64.wrap (b-a))+1)).tdiv 2)))=a+(b-a+1) / 2:=by
 rw[wrapId (n:=b-a) om om,wrapId (n:=b-a+1) om om,y35 om,wrapId (n:=(b-a+1) / 2) om om,wrapId (n:=a+(b-a+1) / 2) om om]
theorem SearchR (he:errL l=0) (hiy:IY l) (ha:AcJ l acc) (hay:∀ z∈acc,z.C<9223372036854775808) (hd:∀ z∈acc,z.G<=x.G) (hx:x.C<9223372036854775808) (hf:x.L.length<=1000000) (ht:x.V.length<=1000000) :
  ∃ st,iterM (fun s=>(S_q1k_b1 l (acc,0) s).den) (x,0,1000000000000)=some (.next st)/\RmS l acc x st.2.1:=by
 obtain⟨st,e,h⟩:=z1b (step:=fun s=>(S_q1k_b1 l (acc,0) s).den) (fun s=>(s.2.2-s.2.1).toNat)
  (fun s=>(∃ a,s.1=setA x a)/\(0<=s.2.1/\s.2.1<=s.2.2/\s.2.2<=1000000000000)/\(∀ m:Int,0<=m->m<s.2.1->codeS l acc (setA x (m+1))=0)/\∀ m:Int,s.2.2<=m->m<1000000000000->codeS l acc (setA x (m+1))≠0)
  (fun s=>RmS l acc x s.2.1) (fun s ⟨⟨a,q1⟩,q4,q5,q6⟩=>by
   obtain⟨s0,i,j⟩:=s
   simp only at q1 q4 q5 q6
   subst q1
   simp only[S_q1k_b1,Scr.den]
   by_cases hk:i<j
   ·left
    rw[y7 (by simpa using hk),midR ⟨q4.1,hk,q4.2.2⟩]
    have hw:i64.wrap (i+(j-i+1) / 2-1)=i+(j-i+1) / 2-1:=wrapId om om
    rw[hw,show (⟨(setA x a).H,(setA x a).G,(setA x a).C,(setA x a).U,(setA x a).L,(setA x a).V,i+(j-i+1) / 2⟩:TTr)=setA x (i+(j-i+1) / 2) from rfl]
    rw[zi3 he hiy ha.le ha.ok hay (x:=setA x (i+(j-i+1) / 2)) hd hx hf ht,obind]
    by_cases hc:codeS l acc (setA x (i+(j-i+1) / 2))=0
    ·rw[y7 (by simpa using hc)]
     refine⟨_,rfl,⟨⟨_,rfl⟩,by simp only; omega,fun m h0 hm=>?_,q6⟩,by simp only; omega⟩
     exact z47 hc ⟨om,by simp only at hm; omega⟩
    ·rw[y6 (by simpa using hc)]
     refine⟨_,rfl,⟨⟨_,rfl⟩,by simp only; omega,q5,fun m h0 hm hz=>?_⟩,by simp only; omega⟩
     exact hc (z47 hz ⟨om,by simp only at h0; omega⟩)
   ·right
    rw[y6 (by simpa using hk)]
    have:i=j:=om
    subst this
    exact⟨_,rfl,⟨q4.1,q4.2.2,q5,q6⟩⟩) _ (x,0,1000000000000) (y2k _)
  ⟨⟨x.D,rfl⟩,sj,fun m h0 hm=>absurd hm (by simp only; omega),fun m h0 hm=>absurd hm (by simp only at h0; omega)⟩
 exact⟨st,e,h⟩
def lastB (L:List TTr) (x:TTr):Bool:=L.length==0||ltTB (L.getD (L.length-1) dF) x
variable {L:List TTr}
theorem zkf (hs:L.Pairwise ltT) (h:lastB L x=true):∀ z∈(runJ l L).1,z.G<=x.G:=fun z hz=>by
 obtain⟨i,hi,rfl⟩:=y2j ((z1h l L).2.2.2.subset hz)
 unfold lastB at h
 rw[yj,yn] at h
 have h:=zag.1 (h.resolve_left om)
 rw[zh om] at h
 by_cases e:i=L.length-1
 ·subst e
  unfold ltT at h
  omega
 ·have:=y20.1 hs i (L.length-1) hi om om
  unfold ltT at this h
  omega
theorem zkg (hs:SmL l) (hiy:IY l) (hL:IT L) (hx:x.C<9223372036854775808) (hf:x.L.length<=1000000) (ht:x.V.length<=1000000):∃ r,F_q30 l L x=some r/\F_q1k l L x=some r:=by
 simp only[F_q30,S_q30,F_q1k,S_q1k,Scr.den,z4h hs hiy hL,obind]
 by_cases h:begE l L=0
 ·obtain⟨ask,dy,now,fail,e,hJ⟩:=z8q hs h
  obtain⟨he,hl,hsr⟩:=z25.1 h
  obtain⟨k1,_,k3,k4⟩:=z1h l L
  have ha:AcJ l (runJ l L).1:=⟨om,k3⟩
  rw[e,y4f,y7 rfl,obind,z6 ⟨rfl,trivial⟩]
  simp only[y7 h]
  rw[y6 (show ¬ ((0:Int) != 0)=true from sj)]
  simp only[z4v,zbi,za]
  rw[z2n,obind,z2n,obind]
  have w:0<L.length->i64.wrap ((L.length:Int)-1)=((L.length-1:Nat):Int):=fun h=>wp h om
  have hi0:AllP [decide ((L.length:Int)>0)=true]->0<L.length:=fun h=>by have:=h.1; simp at this; omega
  rw[z6 ⟨fun h=>by rw[w (hi0 h)]; omega,fun h=>by rw[w (hi0 h),yi]; have:=hi0 h; omega,trivial⟩,z6 ⟨fun h=>by rw[w (hi0 h)]; omega,fun h=>by rw[w (hi0 h),yi]; have:=hi0 h; omega,trivial⟩]
  have hb1:(decide ((L.length:Int)>0)&&decide ((@ite Int (AllP [decide ((L.length:Int)>0)=true]) (Classical.propDecidable _) (orE [cmpI (L.getD (i64.wrap ((L.length:Int)-1)).toNat dF).G x.G,cmpI (L.getD (i64.wrap ((L.length:Int)-1)).toNat dF).H x.H]) dF)>=0))=!lastB L x:=by
   unfold lastB
   by_cases h0:0<L.length
   ·have hd:decide ((L.length:Int)>0)=true:=sk
    rw[y7 ⟨hd,trivial⟩,w h0,yi,z4x,hd,y1m,y1v.2 (show L.length≠0 from om),y3o]
   ·rw[y19 (show ¬ (L.length:Int)>0 from om),y2i,yn.2 (show L.length=0 from om),y4s]
    rfl
  have hb2:(decide ((L.length:Int)>0)&&!(@ite Bool (AllP [decide ((L.length:Int)>0)=true]) (Classical.propDecidable _) (ltTB (L.getD (i64.wrap ((L.length:Int)-1)).toNat dF) x) dF))=!lastB L x:=by
   unfold lastB
   by_cases h0:0<L.length
   ·have hd:decide ((L.length:Int)>0)=true:=sk
    rw[y7 ⟨hd,trivial⟩,w h0,yi,hd,y1m,y1v.2 (show L.length≠0 from om),y3o]
   ·rw[y19 (show ¬ (L.length:Int)>0 from om),y2i,yn.2 (show L.length=0 from om),y4s]
    rfl
  rw[hb1,hb2]
  by_cases hb:lastB L x=true
  ·rw[hb,y6 (show ¬ (!true)=true from sj),y6 (show ¬ (!true)=true from sj)]
   by_cases h60:((L.length:Int)==60)=true
   ·rw[y7 h60,y7 h60]
    exact⟨_,rfl,rfl⟩
   ·rw[y6 h60,y6 h60]
    obtain⟨r,e1,r1,r2,r3⟩:=zda he ha x hJ
    obtain⟨st,e2,q⟩:=SearchR he hiy ha (fun z hz=>hL.yr z (k4.subset hz)) (zkf hsr hb) hx hf ht
    rw[e1,obind,e2]
    refine⟨_,rfl,?_⟩
    simp only[outM]
    rw[q.uniq ⟨r1.1,r1.2,r2,r3⟩]
  ·rw[yk.2 hb,y7 (show (!false)=true from rfl),y7 (show (!false)=true from rfl)]
   exact⟨_,rfl,rfl⟩
 ·rw[zbh hs h,zbg hs h,y6 h]
  simp only[y4v,yl,y2g,obind]
  rw[z6 ⟨by simpa using h,trivial⟩,y7 (by simpa using h)]
  exact⟨_,rfl,rfl⟩
end Go.Proofs.YtbmpcbbimefmoaaGreatDoor
/- Years of a law that was made. No condition. -/
namespace Go.Proofs.YtbmpcbbimefmoaaGreatDoor
open Go Go.TA
open Go.IntKind (i64)
attribute [-simp] List.getD_eq_getElem?_getD
section
variable {f y:Int} (hf:0<=f/\f<=12) (hy:1<=y/\y<=2) {t:List THe} (ht:T5 t)
include hf hy
theorem zpd (am:List TAm) (rv:R_q4) (hrv:∀ c∈rv,leafT t c=true) (hp:rv.Pairwise fun a b=>ltK a b=true) (hrl:rv.length<=10) {s:TTape} (hs:TapeOk s) :
  ∃ s' ls,rangeM (fun i s=>(S_q1_b2 rv i s).den) rv.length 0 (s,f,y,t,am,[])=some (.next (s',f,y,t,am,ls))/\TapeOk s'/\ls.length<=20/\OrdG plL ls/\∀ x∈ls,z1o t f y x=0/\x.C<9223372036854775808:=by
 obtain⟨r,e,h1,h2,h3,h4,h5,h6,h7,h8,_⟩:=zp (body:=fun i s=>(S_q1_b2 rv i s).den) (n:=rv.length)
  (fun i r=>TapeOk r.1/\r.2.1=f/\r.2.2.1=y/\r.2.2.2.1=t/\r.2.2.2.2.1=am/\r.2.2.2.2.2.length<=2 * i/\OrdG plL r.2.2.2.2.2/\(∀ x∈r.2.2.2.2.2,(z1o t f y x=0/\x.C<9223372036854775808))/\∀ x∈r.2.2.2.2.2,∃ j,j<i/\x.B=rv.getD j dF) (s0:=(s,f,y,t,am,[])) ⟨hs,rfl,rfl,rfl,rfl,sj,zab _,sj,sj⟩
  (fun i s hi ⟨o,q1,q2,q3,q4,q5,q6,q7,q8⟩=>by
   obtain⟨s0,f0,y0,t0,a0,ls⟩:=s
   simp only at o q1 q2 q3 q4 q5 q6 q7 q8
   subst q1 q2 q3 q4
   have hlf:=hrv _ (z8 hi)
   have hg:=leafGood hlf
   obtain⟨st,e,g1,g2,g3,g4,g5,g6,g7,g8,g9⟩:=z1b (step:=fun s=>(S_q1_b1 rv i s).den) (fun s=>(f0+y0-s.2.2.2.2.2.2).toNat)
    (fun s=>TapeOk s.1/\s.2.1=f0/\s.2.2.1=y0/\s.2.2.2.1=t0/\s.2.2.2.2.1=a0/\(s.2.2.2.2.2.1.length:Int)<=2 * i+(s.2.2.2.2.2.2-f0)/\OrdG plL s.2.2.2.2.2.1/\(∀ x∈s.2.2.2.2.2.1,(z1o t0 f0 y0 x=0/\x.C<9223372036854775808))/\(f0<=s.2.2.2.2.2.2/\s.2.2.2.2.2.2<=f0+y0)/\∀ x∈s.2.2.2.2.2.1,(∃ j,j<i/\x.B=rv.getD j dF)\/(x.B=rv.getD i dF/\x.C<s.2.2.2.2.2.2))
    (fun s=>TapeOk s.1/\s.2.1=f0/\s.2.2.1=y0/\s.2.2.2.1=t0/\s.2.2.2.2.1=a0/\(s.2.2.2.2.2.1.length:Int)<=2 * i+2/\OrdG plL s.2.2.2.2.2.1/\(∀ x∈s.2.2.2.2.2.1,(z1o t0 f0 y0 x=0/\x.C<9223372036854775808))/\∀ x∈s.2.2.2.2.2.1,∃ j,j<i+1/\x.B=rv.getD j dF) (fun s ⟨o,q1,q2,q3,q4,q5,q6,q7,q8,q9⟩=>by
     obtain⟨s0,f1,y1,t1,a1,ls,yy⟩:=s
     simp only at o q1 q2 q3 q4 q5 q6 q7 q8 q9
     subst q1 q2 q3 q4
     simp only[S_q1_b1,Scr.den]
     rw[wrapId (n:=f1+y1) om om]
     by_cases hk:yy<f1+y1
     ·left
      rw[y7 (by simpa using hk)]
      obtain⟨n1,s1,e1,o1,l1,u1⟩:=zm (n:=5000) o om om
      obtain⟨n2,s2,e2,o2,m2⟩:=zo (l:=[100,500,n1]) o1 sj sj
      rw[e1,obind,e2,obind,Ga,wrapId (n:=yy+1) om om]
      have hn2:0<=n2/\n2<=5000:=by simp at m2; omega
      have hE:z1o t1 f1 y1 ⟨rv.getD i dF,yy,n2⟩=0:=by
       have hY:inY f1 y1 yy=true:=(z98 om om om).2 ⟨om,om⟩
       have hA:amt n2=true:=z46.2 ⟨om,om⟩
       unfold z1o
       rw[y6 (by rw[hlf]; simp),y6 (by rw[hY]; simp),y6 (by rw[hA]; simp)]
      refine⟨_,rfl,⟨o2,rfl,rfl,rfl,rfl,by simp only[yb,yd]; omega,?_,?_,by simp only; omega,?_⟩,by simp only; omega⟩
      ·refine zd9 q6 hg fun a ha=>?_
       rcases q9 a ha with ⟨j,hj,e⟩ | ⟨e,h⟩
       ·exact zgl (q6.good a ha) (by show ltK a.B (rv.getD i dF)=true; rw[e]; exact zgm hp hj hi)
       ·exact znc (q6.good a ha) e h
      ·intro x hx
       rcases y1c.1 hx with hx | hx
       ·exact q7 x hx
       ·obtain rfl:=y1b.1 hx
        exact⟨hE,by simp only; omega⟩
      ·intro x hx
       rcases y1c.1 hx with hx | hx
       ·rcases q9 x hx with h | ⟨h,h'⟩
        ·exact .inl h
        ·exact .inr ⟨h,by simp only; omega⟩
       ·obtain rfl:=y1b.1 hx
        exact .inr ⟨rfl,by simp only; omega⟩
     ·right
      rw[y6 (by simpa using hk)]
      refine⟨_,rfl,o,rfl,rfl,rfl,rfl,by simp only; omega,q6,q7,fun x hx=>?_⟩
      rcases q9 x hx with ⟨j,hj,h⟩ | ⟨h,_⟩
      ·exact⟨j,om,h⟩
      ·exact⟨i,om,h⟩) _ (s0,f0,y0,t0,a0,ls,f0) (y2k _)
    ⟨o,rfl,rfl,rfl,rfl,by simp only; omega,q6,q7,by simp only; omega,fun x hx=>.inl (q8 x hx)⟩
   simp only[S_q1_b2,Scr.den]
   rw[e]
   obtain⟨s9,f9,y9,t9,a9,l9,z9⟩:=st
   simp only at g1 g2 g3 g4 g5 g6 g7 g8 g9
   subst g2 g3 g4 g5
   exact⟨_,rfl,g1,rfl,rfl,rfl,rfl,by simp only; omega,g7,g8,g9⟩)
 obtain⟨s9,f9,y9,t9,a9,l9⟩:=r
 simp only at h1 h2 h3 h4 h5 h6 h7 h8
 subst h2 h3 h4 h5
 exact⟨s9,l9,e,h1,om,h7,h8⟩
end
theorem zm4 {f y:Int} (hf:0<=f/\f<=12) (hy:1<=y/\y<=2) {t:List THe} (ht:T5 t) {ρ:Type} (n:Int) {s:TTape} (hs:TapeOk s) :
  ∃ s' am,(if (n==0)=true then ((F_q0 200 s).bind fun r=>(F_qg t r.2).bind fun r1=>(F_q3 [0,50,5000] r1.2).bind fun r2=>some (Out.next (r2.2,f,y,t,[(⟨i64.wrap (i64.wrap (360 * f)+r.1),1,[(⟨1,r1.1,f,r2.1⟩:TCh)]⟩:TAm)]))) else some (Out.next (s,f,y,t,[])):Option (Out (TTape×Int×Int×List THe×List TAm) ρ))=some (Out.next (s',f,y,t,am))/\TapeOk s'/\(∀ a∈am,∀ c∈a.Q,c.C<9223372036854775808)/\AmOk t f y am:=by
 by_cases h:n=0
 ·rw[y7 (by simpa using h)]
  obtain⟨n1,s1,e1,o1,l1,u1⟩:=zm (n:=200) hs om om
  obtain⟨c,s2,e2,o2,hc⟩:=ht.Leaf o1
  obtain⟨w,s3,e3,o3,m3⟩:=zo (l:=[0,50,5000]) o2 sj sj
  have hw:amt w=true:=z46.2 (by simp at m3; omega)
  have hY:inY f y f=true:=(z98 om om om).2 ⟨om,om⟩
  rw[e1,obind,e2,obind,e3,obind,wrapId (n:=360 * f) om om,wrapId (n:=360 * f+n1) om om]
  refine⟨_,_,rfl,o3,sk,sj,sj,?_⟩
  rw[z18]
  intro i hi
  have hi0:i=0:=by simpa using hi
  subst hi0
  unfold amdE
  simp only[y5t]
  rw[y6 om,y6 om,y6 sj,z18]
  intro j hj
  have hj0:j=0:=by simpa using hj
  subst hj0
  unfold chgE
  rw[z4r]
  refine⟨?_,fun h=>absurd h om⟩
  simp only[y5t]
  unfold z1p
  rw[y6 (by simp only; omega),y6 (by rw[zf6 hc,hc]; simp),y6 (by rw[hY]; simp),y6 (by rw[hw]; simp)]
 ·rw[y6 (by simpa using h)]
  exact⟨_,_,rfl,hs,sj,sj,sj,rfl⟩
theorem zg0 {s:TTape} (hs:TapeOk s):∃ l s',F_q1 s=some (l,s')/\TapeOk s'/\RL l/\IY l:=by
 obtain⟨f,s1,e1,o1,hf⟩:=zo (l:=[0,12]) hs sj sj
 obtain⟨y,s2,e2,o2,y1,y2⟩:=z2j (lo:=1) (hi:=2) o1 om om om
 obtain⟨t,s3,e3,o3,ht⟩:=zhu o2
 have hf':0<=f/\f<=12:=by simp at hf; omega
 have hy:1<=y/\y<=2:=⟨y1,y2⟩
 have hle:=ht.le
 have hll:=z1f t []
 simp only[F_q1,S_q1,Scr.den,e1,e2,e3,obind,z1g ht.mt.sm (show t.length<=1000000 from om) (show ([]:Y8).length<=1000000 from sj)]
 obtain⟨s4,ls,e4,o4,l1,l2,l3⟩:=zpd hf' hy (t:=t) [] (leavesU t []) (fun c hc=>z1l.1 hc) (ht.ord []) om o3
 rw[e4]
 simp only[outM]
 obtain⟨s5,ru,e5,o5,r1,r2,r3⟩:=ru2 hf' hy ht [] o4
 rw[e5]
 simp only
 obtain⟨s6,fl,ce,e6,o6,b1,b2,b3,b4,b5,b6⟩:=ru3 hf' hy ht [] (s4,f,y,t,[],ls) s5 ru 4 o5
 rw[e6]
 simp only
 obtain⟨n7,s7,e7,o7,_,_⟩:=zm (n:=2) o6 om om
 rw[e7,obind]
 obtain⟨s8,am,e8,o8,my,m1,m2,m3⟩:=zm4 hf' hy ht (ρ:=R_q1) n7 o7
 rw[e8]
 simp only[z1g ht.mt.sm (show t.length<=1000000 from om) (show ([57]:Y8).length<=1000000 from sj),obind]
 obtain⟨s9,ea,e9,o9,a1,a2,a3⟩:=ru5 hf' hy ht am o8
 rw[e9]
 simp only
 obtain⟨n10,s10,e10,o10,l10,u10⟩:=zm (n:=3) o9 om om
 rw[e10,obind]
 obtain⟨s11,co,i11,e11,o11,c1,c2⟩:=ru6 hf' hy ht am (s4,f,y,t,[],ls) (s5,f,y,t,[],ru,4) (s6,f,y,t,[],fl,ce) (s9,f,y,t,am,ea) (n:=n10) ⟨l10,om⟩ o10
 rw[e11]
 simp only
 rw[Ga,Ga,Ga,Ga,Ga,Ga]
 have hok:errL ⟨f,y,t,ls,ce,fl,ea,co,ru,am⟩=0:=by
  refine z10.2 ⟨⟨?_,ht.mt.ok,?_,a2,a3,?_,r2,m3⟩,⟨l2,fun x hx=>(l3 x hx).1,b4,b6,b3,b5⟩,?_⟩
  ·unfold yrB; simp only; omega
  ·rintro (h | h | h | h | h)
   ·simp only at h; omega
   ·simp only at h; omega
   ·simp only at h; omega
   ·simp only at h; omega
   ·obtain⟨x,hx,h⟩:=y1o.1 h
    have:=m2 x hx
    simp only[y8] at h
    omega
  ·rw[z18]
   intro i hi
   exact c2 _ (z8 hi)
  ·unfold bigL; simp only; omega
 exact⟨_,_,rfl,o11,⟨⟨by simp only; omega,by simp only; omega,ht.mt,hok,z4g hok,by simp only; omega,by simp only; omega,by simp only; omega,by simp only; omega,fun x hx=>by have:=m2 x hx; omega⟩,ht,hf',hy,r1,m1,r3⟩,⟨fun x hx=>(l3 x hx).2,my⟩⟩
end Go.Proofs.YtbmpcbbimefmoaaGreatDoor
/- Laws and transfers that are bent. No condition. -/
namespace Go.Proofs.YtbmpcbbimefmoaaGreatDoor
open Go Go.TA
open Go.IntKind (i64)
attribute [-simp] List.getD_eq_getElem?_getD
variable {α:Type} {P:α->Prop} {l:List α}
theorem z7s [Inhabited α] (h:∀ a∈l,P a) (hd:P dF) (i:Nat):P (l.getD i dF):=by
 by_cases hi:i<l.length
 ·exact h _ (z8 hi)
 ·rw[show l.getD i dF=dF by simp[List.getD,List.getElem?_eq_none (Nat.le_of_not_lt hi)]]
  exact hd
theorem getLen {l:List Y8} (h:(l.all fun c=>decide (c.length<=100))=true) (i:Nat):(l.getD i dF).length<=100:=z7s (P:=fun c:Y8=>c.length<=100) (fun a ha=>y2m (y18.1 h a ha)) (y36 _) i
variable {x:α}
theorem z2p {i:Nat} (h:∀ a∈l,P a) (hx:P x):∀ a∈l.set i x,P a:=fun a ha=>by
 rcases List.mem_or_eq_of_mem_set ha with k | rfl
 ·exact h a k
 ·exact hx
theorem z2g (h:∀ a∈l,P a) (hx:P x):∀ a∈l++[x],P a:=fun a ha=>by
 rcases y1c.1 ha with k | k
 ·exact h a k
 ·rw[y1b.1 k]; exact hx
variable {k:Nat}
theorem zm5 [Inhabited α] {o:Nat} {s:Nat->α} (h:∀ a∈l,P a) (hd:P dF) (hs:∀ i,P (s i)):∀ a∈copyL l o k s,P a:=fun a ha=>by
 unfold copyL at ha
 obtain⟨j,_,rfl⟩:=yz.1 ha
 split
 ·exact hs _
 ·exact z7s h hd j
variable {s:TTape}
theorem BadC (hs:TapeOk s):∃ c s',F_q39 s=some (c,s')/\TapeOk s'/\c.length<=100:=by
 obtain⟨v,s',e,o,h0,h1⟩:=zm (n:=12) hs om om
 simp only[F_q39,S_q39,Scr.den,e,obind]
 rw[z6 ⟨h0,om,trivial⟩]
 exact⟨_,_,rfl,o,getLen kj _⟩
theorem zgy:((List.range 100).all fun u=>decide ((Lib.decDigits u).length<=2))=true:=kj
theorem zi8 (n:Int):∃ c,F_q1i [n]=some c/\c.length<=50:=by
 have hb:(S_q1i_b1 [n] 0 []).den=some (if n<1\/n>99 then .ret [] else .cont (Lib.decDigits n.toNat)):=by
  simp only[S_q1i_b1,Scr.den,y5t,zg,F_q5d]
  by_cases h:n<1\/n>99
  ·rw[y7 h,y7 (by simpa using h)]
  ·rw[y6 h,y6 (by simpa using h),y6 sj]
   simp only[outM]
   rw[z6 (p:=0<=n/\n<100) om]
   simp only[obind,y2e]
   have:(Lib.decDigits n.toNat).length<=2:=y2m (y18.1 zgy n.toNat (y1l.2 om))
   rw[z6 ⟨by simp only[y1n]; omega,trivial⟩]
 simp only[F_q1i,S_q1i,Scr.den]
 rw[y6 sj]
 show ∃ c:Y8,outM (rangeM (fun i s=>(S_q1i_b1 [n] i s).den) 1 0 []) _ _=some c/\c.length<=50
 by_cases h:n<1\/n>99
 ·rw[y7 h] at hb
  simp only[rangeM,hb,outM]
  exact⟨_,rfl,sj⟩
 ·rw[y6 h] at hb
  simp only[rangeM,hb,outM]
  have:(Lib.decDigits n.toNat).length<=2:=y2m (y18.1 zgy n.toNat (y1l.2 om))
  exact⟨_,rfl,om⟩
def SmH (h:THe):Prop:=h.B.length<=1000000/\h.W.length<=1000000
variable {t:List THe}
theorem zdr (ht:∀ h∈t,SmH h) (hl:t.length<=60) (hs:TapeOk s):∃ t' s',F_q1x t s=some (t',s')/\TapeOk s'/\(∀ h∈t',SmH h)/\t'.length<=100:=by
 have hd:SmH dF:=⟨y36 _,y36 _⟩
 have hg:=fun i=>z7s ht hd i
 simp only[F_q1x,S_q1x,Scr.den]
 rw[Ga]
 by_cases h0:t.length=0
 ·rw[y7 (by simpa using h0)]
  exact⟨_,_,rfl,hs,fun h hh=>by rw[y1b.1 hh]; exact⟨sj,sj⟩,sj⟩
 rw[y6 (by simpa using h0)]
 obtain⟨v,s1,e1,o1,v0,v1⟩:=zm (n:=(t.length:Int)) hs om om
 obtain⟨w,s2,e2,o2,w0,w1⟩:=zm (n:=6) o1 om om
 simp only[e1,e2,obind]
 have hv:v.toNat<t.length:=om
 have hw:w=0\/w=1\/w=2\/w=3\/w=4\/w=5:=om
 rcases hw with rfl | rfl | rfl | rfl | rfl | rfl
 ·obtain⟨c,s3,e3,o3,hc⟩:=BadC o2
  simp only[Int.reduceBEq,↓reduceIte,e3,obind]
  rw[z6 ⟨v0,hv,om,trivial⟩,z6 ⟨by simp only[y23]; omega,trivial⟩]
  exact⟨_,_,rfl,o3,z2p ht ⟨by simp only; omega,(hg _).2⟩,by simp only[y23]; omega⟩
 ·obtain⟨c,s3,e3,o3,c0,c1⟩:=zm (n:=5) o2 om om
  simp only[Int.reduceBEq,yl,↓reduceIte,e3,obind]
  rw[z6 ⟨c0,om,v0,hv,om,trivial⟩,z6 ⟨by simp only[y23]; omega,trivial⟩]
  exact⟨_,_,rfl,o3,z2p ht ⟨(hg _).1,y2c (getLen kj _) om⟩,by simp only[y23]; omega⟩
 ·simp only[Int.reduceBEq,yl,↓reduceIte]
  have hw:i64.wrap (v+1)=v+1:=wrapId om om
  rw[hw,z6 ⟨v0,om,om,om,om,trivial⟩,z6 ⟨by rw[zw]; omega,trivial⟩,z6 ⟨by rw[zw]; omega,trivial⟩]
  exact⟨_,_,rfl,o2,fun a ha=>zm5 ht hd (fun i=>hg _) a (y17 ha),by rw[yx,zw]; omega⟩
 ·simp only[Int.reduceBEq,yl,↓reduceIte]
  rw[z6 ⟨v0,hv,om,om,trivial⟩,z6 ⟨by simp only[yb,yd]; omega,trivial⟩]
  exact⟨_,_,rfl,o2,z2g ht (hg _),by simp only[yb,yd]; omega⟩
 ·simp only[Int.reduceBEq,yl,↓reduceIte]
  by_cases h1:v>0
  ·rw[y7 (by simpa using h1)]
   have hw:i64.wrap (v-1)=v-1:=wrapId om om
   rw[hw,z6 ⟨om,om,om,v0,hv,om,by simp only[y23]; omega,trivial⟩,z6 ⟨by simp only[y23]; omega,trivial⟩]
   exact⟨_,_,rfl,o2,z2p (z2p ht (hg _)) (hg _),by simp only[y23]; omega⟩
  ·rw[y6 (by simpa using h1),Ga]
   exact⟨_,_,rfl,o2,ht,om⟩
 ·simp only[Int.reduceBEq,yl,↓reduceIte]
  obtain⟨st,e,h1,h2⟩:=z1b (step:=fun s=>(S_q1x_b1 s).den) (fun s=>101-s.1.length) (fun s=>(∀ h∈s.1,SmH h)/\s.1.length<=100) (fun s=>(∀ h∈s.1,SmH h)/\s.1.length<=100) (fun s ⟨q1,q2⟩=>by
   obtain⟨t0,n⟩:=s
   simp only at q1 q2
   simp only[S_q1x_b1,Scr.den]
   by_cases hk:t0.length<=60
   ·left
    obtain⟨c,ec,hc⟩:=zi8 n
    rw[y7 (show decide ((t0.length:Int)<=60)=true from y11 om),ec,obind,z6 ⟨by simp only[y10,y1n]; omega,om,trivial⟩]
    exact⟨_,rfl,⟨z2g q1 ⟨by simp only[yb,y10,y1n]; omega,sj⟩,by simp only[yb,y10,y1n]; omega⟩,by simp only[yb,y10,y1n]; omega⟩
   ·right
    rw[y6 (show ¬ decide ((t0.length:Int)<=60)=true by rw[y8]; omega)]
    exact⟨_,rfl,q1,q2⟩) _ (t,1) (y2k _) ⟨ht,by simp only; omega⟩
  rw[e]
  simp only[outM]
  rw[Ga]
  exact⟨_,_,rfl,o2,h1,h2⟩
theorem zdg {l:List Y8} (hs:TapeOk s) (h0:1<=l.length) (h1:l.length<=100) (hk:∀ c∈l,c.length<=k):∃ c s',F_q3r l s=some (c,s')/\TapeOk s'/\c.length<=k:=by
 obtain⟨v,s1,e1,o1,v0,v1⟩:=zm (n:=(l.length:Int)) hs om om
 simp only[F_q3r,S_q3r,Scr.den,e1,obind]
 rw[z6 ⟨v0,om,trivial⟩]
 exact⟨_,_,rfl,o1,hk _ (z8 om)⟩
structure GL (l:TLa):Prop where
 sm:SmL l
 iy:IY l
theorem zfd {l:TLa} (hl:RL l) (hi:IY l) (hs:TapeOk s):∃ l' s',F_qk l s=some (l',s')/\TapeOk s'/\GL l':=by
 have o:=hs
 have hf:=hl.fi; have hy:=hl.ye
 obtain⟨hr,_,hb⟩:=z10.1 hl.ml.ok
 have hlim:=hr.li
 unfold bigL at hb
 have htl:=(z5t hr.tr).1
 have hs:=z4g hl.ml.ok
 simp only[F_qk,S_qk,Scr.den]
 obtain⟨bc,s1,e1,o1,hbc⟩:=BadC o
 obtain⟨n2,s2,e2,o2,_,_⟩:=zm (n:=3) o1 om om
 simp only[e1,e2,obind]
 have hcut:∃ s3 c,(if (bif (decide (n2>0)) then (decide ((l.F.length:Int)>0)) else false)=true then ((F_q0 (l.F.length:Int) s2).bind fun rv6=>guardP (AllP [(0:Int)<=rv6.1,(rv6.1).toNat<l.F.length]) (some (.next (rv6.2,(l.F.getD ((rv6.1).toNat) dF).B)))) else some (.next (s2,bc)):Option (Out (TTape×Y8) R_qk))=some (.next (s3,c))/\TapeOk s3/\c.length<=1000000:=by
  by_cases h:(bif (decide (n2>0)) then (decide ((l.F.length:Int)>0)) else false)=true
  ·rw[y7 h]
   rw[za,ya,y8,y8] at h
   obtain⟨v,s3,e3,o3,v0,v1⟩:=zm (n:=(l.F.length:Int)) o2 om om
   rw[e3,obind,z6 ⟨v0,om,trivial⟩]
   exact⟨_,_,rfl,o3,(hs.t _ (z8 om)).1⟩
  ·rw[y6 h]
   exact⟨_,_,rfl,o2,om⟩
 obtain⟨s3,c,e3,o3,hc⟩:=hcut
 rw[e3]
 simp only[outM]
 rw[wrapId (n:=l.E-1) om om,wrapId (n:=l.E+l.I) om om]
 obtain⟨yr,s4,e4,o4,m4⟩:=zo (l:=[-1,l.E-1,l.E,l.E+l.I]) o3 sj sj
 have hyr:yr<9223372036854775808:=by simp at m4; omega
 obtain⟨am,s5,e5,o5,_⟩:=zo (l:=[-2,-1,5,1000000000000,1000000000001]) o4 sj sj
 obtain⟨w,s6,e6,o6,w0,w1⟩:=zm (n:=12) o5 om om
 simp only[e4,e5,e6,obind]
 have hw:w=0\/w=1\/w=2\/w=3\/w=4\/w=5\/w=6\/w=7\/w=8\/w=9\/w=10\/w=11:=om
 rcases hw with rfl | rfl | rfl | rfl | rfl | rfl | rfl | rfl | rfl | rfl | rfl | rfl
 ·obtain⟨v,s7,e7,o7,_⟩:=zo (l:=[-1,0,97,99,100,i64.wrap (l.E+1)]) o6 sj sj
  simp only[Int.reduceBEq,↓reduceIte,e7,obind]
  exact⟨_,_,rfl,o7,⟨⟨hs.t,hs.tl,hs.li,hs.ll,hs.ce,hs.cl,hs.fl,hs.fll,hs.ea,hs.el,hs.co,hs.col,hs.rl,hs.am,hs.al⟩,⟨hi.ln,hi.am⟩⟩⟩
 ·obtain⟨v,s7,e7,o7,_⟩:=zo (l:=[0,1,4,5]) o6 sj sj
  simp only[Int.reduceBEq,yl,↓reduceIte,e7,obind]
  exact⟨_,_,rfl,o7,⟨⟨hs.t,hs.tl,hs.li,hs.ll,hs.ce,hs.cl,hs.fl,hs.fll,hs.ea,hs.el,hs.co,hs.col,hs.rl,hs.am,hs.al⟩,⟨hi.ln,hi.am⟩⟩⟩
 ·obtain⟨t7,s7,e7,o7,k7,k8⟩:=zdr (t:=l.F) (fun h hh=>hs.t h hh) htl o6
  simp only[Int.reduceBEq,yl,↓reduceIte,e7,obind]
  exact⟨_,_,rfl,o7,⟨⟨fun h hh=>k7 h hh,(by simp only; omega),hs.li,hs.ll,hs.ce,hs.cl,hs.fl,hs.fll,hs.ea,hs.el,hs.co,hs.col,hs.rl,hs.am,hs.al⟩,⟨hi.ln,hi.am⟩⟩⟩
 ·simp only[Int.reduceBEq,yl,↓reduceIte]
  rw[Gb,z6 ⟨by simp only[yb,yd]; omega,trivial⟩]
  simp only
  exact⟨_,_,rfl,o6,⟨⟨hs.t,hs.tl,z2g hs.li hc,(by simp only[yb,yd]; omega),hs.ce,hs.cl,hs.fl,hs.fll,hs.ea,hs.el,hs.co,hs.col,hs.rl,hs.am,hs.al⟩,⟨z2g hi.ln hyr,hi.am⟩⟩⟩
 ·simp only[Int.reduceBEq,yl,↓reduceIte]
  rw[z6 ⟨by simp only[yd]; omega,trivial⟩,z6 ⟨by simp only[yb,yd]; omega,trivial⟩]
  simp only
  exact⟨_,_,rfl,o6,⟨⟨hs.t,hs.tl,hs.li,hs.ll,(fun x hx=>by rcases y1c.1 hx with k | k; (· rw[y1b.1 k]; exact hc); (· exact hs.ce x k)),(by simp only[yb,yd]; omega),hs.fl,hs.fll,hs.ea,hs.el,hs.co,hs.col,hs.rl,hs.am,hs.al⟩,⟨hi.ln,hi.am⟩⟩⟩
 ·simp only[Int.reduceBEq,yl,↓reduceIte]
  rw[Gb,z6 ⟨by simp only[yb,yd]; omega,trivial⟩]
  simp only
  exact⟨_,_,rfl,o6,⟨⟨hs.t,hs.tl,hs.li,hs.ll,hs.ce,hs.cl,z2g hs.fl hc,(by simp only[yb,yd]; omega),hs.ea,hs.el,hs.co,hs.col,hs.rl,hs.am,hs.al⟩,⟨hi.ln,hi.am⟩⟩⟩
 ·obtain⟨v,s7,e7,o7,k7⟩:=zdg (l:=[[57],[57,46,50],c]) o6 sj sj (k:=1000000) (fun x hx=>by simp only[yv,y2x,y4g] at hx; rcases hx with rfl | rfl | rfl; (· simp); (· simp); (· exact hc))
  obtain⟨v1,s8,e8,o8,k8⟩:=hl.t5.Leaf o7
  obtain⟨v2,s9,e9,o9,_⟩:=zo (l:=[-1,60,100,101]) o8 sj sj
  simp only[Int.reduceBEq,yl,↓reduceIte,e7,e8,e9,obind]
  rw[Gb,z6 ⟨by simp only[yb,yd]; omega,trivial⟩]
  simp only
  exact⟨_,_,rfl,o9,⟨⟨hs.t,hs.tl,hs.li,hs.ll,hs.ce,hs.cl,hs.fl,hs.fll,z2g hs.ea ⟨k7,z1d k8⟩,(by simp only[yb,yd]; omega),hs.co,hs.col,hs.rl,hs.am,hs.al⟩,⟨hi.ln,hi.am⟩⟩⟩
 ·obtain⟨v,s7,e7,o7,k7⟩:=hl.t5.Leaf o6
  obtain⟨v1,s8,e8,o8,_,_⟩:=z2j (lo:=0) (hi:=3) o7 om om om
  obtain⟨v2,s9,e9,o9,_⟩:=zo (l:=[0,5,-1,36000]) o8 sj sj
  obtain⟨v3,s10,e10,o10,k10⟩:=zdg (l:=[[],[57],c]) o9 sj sj (k:=1000000) (fun x hx=>by simp only[yv,y2x,y4g] at hx; rcases hx with rfl | rfl | rfl; (· simp); (· simp); (· exact hc))
  obtain⟨v4,s11,e11,o11,_⟩:=zo (l:=[0,7,am]) o10 sj sj
  simp only[Int.reduceBEq,yl,↓reduceIte,e7,e8,e9,e10,e11,obind]
  rw[Gb,z6 ⟨by simp only[yb,yd]; omega,trivial⟩]
  simp only
  exact⟨_,_,rfl,o11,⟨⟨hs.t,hs.tl,hs.li,hs.ll,hs.ce,hs.cl,hs.fl,hs.fll,hs.ea,hs.el,z2g hs.co ⟨k10,z1d k7⟩,(by simp only[yb,yd]; omega),hs.rl,hs.am,hs.al⟩,⟨hi.ln,hi.am⟩⟩⟩
 ·obtain⟨v,s7,e7,o7,_⟩:=zo (l:=[0,1,50,1000001]) o6 sj sj
  obtain⟨v1,s8,e8,o8,_⟩:=zo (l:=[0,100,101]) o7 sj sj
  simp only[Int.reduceBEq,yl,↓reduceIte,e7,e8,obind]
  rw[Gb,z6 ⟨by simp only[yb,yd]; omega,trivial⟩]
  simp only
  exact⟨_,_,rfl,o8,⟨⟨hs.t,hs.tl,hs.li,hs.ll,hs.ce,hs.cl,hs.fl,hs.fll,hs.ea,hs.el,hs.co,hs.col,(by simp only[yb,yd]; omega),hs.am,hs.al⟩,⟨hi.ln,hi.am⟩⟩⟩
 ·obtain⟨v,s7,e7,o7,_⟩:=zo (l:=[-1,0,5000,35991]) o6 sj sj
  obtain⟨v1,s8,e8,o8,_,_⟩:=z2j (lo:=0) (hi:=3) o7 om om om
  obtain⟨v2,s9,e9,o9,_,_⟩:=z2j (lo:=0) (hi:=4) o8 om om om
  simp only[Int.reduceBEq,yl,↓reduceIte,e7,e8,e9,obind]
  rw[Gb,z6 ⟨by simp only[yb,yd]; omega,trivial⟩]
  simp only
  exact⟨_,_,rfl,o9,⟨⟨hs.t,hs.tl,hs.li,hs.ll,hs.ce,hs.cl,hs.fl,hs.fll,hs.ea,hs.el,hs.co,hs.col,hs.rl,z2g hs.am ⟨sj,fun d hd=>by rw[y1b.1 hd]; exact hc⟩,(by simp only[yb,yd]; omega)⟩,⟨hi.ln,z2g hi.am (fun d hd=>by rw[y1b.1 hd]; exact hyr)⟩⟩⟩
 ·simp only[Int.reduceBEq,yl,↓reduceIte]
  rw[Gb,z6 ⟨by simp only[yb,yd]; omega,trivial⟩]
  simp only
  exact⟨_,_,rfl,o6,⟨⟨hs.t,hs.tl,hs.li,hs.ll,hs.ce,hs.cl,hs.fl,hs.fll,hs.ea,hs.el,hs.co,hs.col,hs.rl,z2g hs.am ⟨sj,fun d hd=>by cases hd⟩,(by simp only[yb,yd]; omega)⟩,⟨hi.ln,z2g hi.am (fun d hd=>by cases hd)⟩⟩⟩
 ·simp only[Int.reduceBEq,yl,↓reduceIte]
  obtain⟨st,e,h1,h2⟩:=z1b (step:=fun s=>(S_qk_b1 s).den) (fun s=>(21-s.2.2).toNat) (fun s=>TapeOk s.1/\GL s.2.1/\(0<=s.2.2/\s.2.2<=21)/\(s.2.1.N.length:Int)<=20+s.2.2) (fun s=>TapeOk s.1/\GL s.2.1) (fun s ⟨q1,q2,q3,q4⟩=>by
   obtain⟨t0,l0,n⟩:=s
   simp only at q1 q2 q3 q4
   obtain⟨v,s7,e7,o7,m7⟩:=zo (l:=[20,3]) q1 sj sj
   have hv:v<=20:=by simp at m7; omega
   simp only[S_qk_b1,Scr.den,e7,obind]
   have hs:=q2.sm
   have hi:=q2.iy
   by_cases hk:n<=v
   ·left
    rw[y7 (by simpa using hk),Ga,wrapId (n:=n+1) om om]
    exact⟨_,rfl,⟨o7,⟨⟨hs.t,hs.tl,hs.li,hs.ll,hs.ce,hs.cl,hs.fl,hs.fll,hs.ea,hs.el,hs.co,hs.col,(by simp only[yb,yd]; omega),hs.am,hs.al⟩,⟨hi.ln,hi.am⟩⟩,by simp only; omega,by simp only[yb,yd]; omega⟩,by simp only; omega⟩
   ·right
    rw[y6 (by simpa using hk)]
    exact⟨_,rfl,o7,q2⟩) _ (s6,l,0) (y2k _) ⟨o6,⟨hs,hi⟩,sj,by simp only; omega⟩
  rw[e]
  simp only
  exact⟨_,_,rfl,h1,h2⟩
def ITx (z:TTr):Prop:=z.C<9223372036854775808/\z.L.length<=1000000/\z.V.length<=1000000
variable {L:List TTr}
theorem IT.of (h:∀ z∈L,ITx z):IT L:=⟨fun z hz=>(h z hz).1,fun z hz=>(h z hz).2.1,fun z hz=>(h z hz).2.2⟩
theorem z8r (hL:∀ z∈L,ITx z) (hl:L.length<=60) (hs:TapeOk s):∃ L' s',F_q31 L s=some (L',s')/\TapeOk s'/\∀ z∈L',ITx z:=by
 have hd:ITx dF:=⟨dk,y36 _,y36 _⟩
 have hg:=fun i=>z7s hL hd i
 simp only[F_q31,S_q31,Scr.den]
 rw[Ga]
 by_cases h0:L.length=0
 ·rw[y7 (by simpa using h0)]
  exact⟨_,_,rfl,hs,fun h hh=>by rw[y1b.1 hh]; exact⟨sj,sj,sj⟩⟩
 rw[y6 (by simpa using h0)]
 obtain⟨v,s1,e1,o1,v0,v1⟩:=zm (n:=(L.length:Int)) hs om om
 obtain⟨w,s2,e2,o2,w0,w1⟩:=zm (n:=8) o1 om om
 simp only[e1,e2,obind]
 have hv:v.toNat<L.length:=om
 have hw:w=0\/w=1\/w=2\/w=3\/w=4\/w=5\/w=6\/w=7:=om
 rcases hw with rfl | rfl | rfl | rfl | rfl | rfl | rfl | rfl
 ·obtain⟨c,s3,e3,o3,m3⟩:=zo (l:=[0,1,1000001]) o2 sj sj
  simp only[Int.reduceBEq,↓reduceIte,e3,obind]
  rw[z6 ⟨v0,hv,om,trivial⟩,z6 ⟨by simp only[y23]; omega,trivial⟩]
  exact⟨_,_,rfl,o3,z2p hL ⟨(hg _).1,(hg _).2.1,(hg _).2.2⟩⟩
 ·obtain⟨c,s3,e3,o3,m3⟩:=zo (l:=[-1,0,35991]) o2 sj sj
  simp only[Int.reduceBEq,yl,↓reduceIte,e3,obind]
  rw[z6 ⟨v0,hv,om,trivial⟩,z6 ⟨by simp only[y23]; omega,trivial⟩]
  exact⟨_,_,rfl,o3,z2p hL ⟨(hg _).1,(hg _).2.1,(hg _).2.2⟩⟩
 ·obtain⟨c,s3,e3,o3,m3⟩:=zo (l:=[-1,0,99]) o2 sj sj
  simp only[Int.reduceBEq,yl,↓reduceIte,e3,obind]
  rw[z6 ⟨v0,hv,om,trivial⟩,z6 ⟨by simp only[y23]; omega,trivial⟩]
  exact⟨_,_,rfl,o3,z2p hL ⟨by simp at m3; simp only; omega,(hg _).2.1,(hg _).2.2⟩⟩
 ·obtain⟨c,s3,e3,o3,m3⟩:=zo (l:=[0,4,77]) o2 sj sj
  simp only[Int.reduceBEq,yl,↓reduceIte,e3,obind]
  rw[z6 ⟨v0,hv,om,trivial⟩,z6 ⟨by simp only[y23]; omega,trivial⟩]
  exact⟨_,_,rfl,o3,z2p hL ⟨(hg _).1,(hg _).2.1,(hg _).2.2⟩⟩
 ·obtain⟨c,s3,e3,o3,m3⟩:=BadC o2
  simp only[Int.reduceBEq,yl,↓reduceIte,e3,obind]
  rw[z6 ⟨v0,hv,om,trivial⟩,z6 ⟨by simp only[y23]; omega,trivial⟩]
  exact⟨_,_,rfl,o3,z2p hL ⟨(hg _).1,by simp only; omega,(hg _).2.2⟩⟩
 ·simp only[Int.reduceBEq,yl,↓reduceIte]
  rw[z6 ⟨v0,hv,om,trivial⟩,z6 ⟨by simp only[y23]; omega,trivial⟩]
  exact⟨_,_,rfl,o2,z2p hL ⟨(hg _).1,(hg _).2.1,(hg _).2.1⟩⟩
 ·obtain⟨c,s3,e3,o3,m3⟩:=zo (l:=[0,-5,1000000000000,1000000000001]) o2 sj sj
  simp only[Int.reduceBEq,yl,↓reduceIte,e3,obind]
  rw[z6 ⟨v0,hv,om,trivial⟩,z6 ⟨by simp only[y23]; omega,trivial⟩]
  exact⟨_,_,rfl,o3,z2p hL ⟨(hg _).1,(hg _).2.1,(hg _).2.2⟩⟩
 ·simp only[Int.reduceBEq,yl,↓reduceIte]
  rw[Gc,z6 ⟨by simp only[yb,yd]; omega,trivial⟩]
  exact⟨_,_,rfl,o2,z2g hL (hg _)⟩
theorem CodeT (hl:t.length<=60) (hs:TapeOk s):∃ c s',F_q4w t s=some (c,s')/\TapeOk s':=by
 simp only[F_q4w,S_q4w,Scr.den,zg]
 by_cases h0:t.length=0
 ·have hb:((t.length:Int)==0)=true:=by simpa using h0
  rw[z13 (by rw[hb]; simp[AllP]),obind,hb,y4s,y7 rfl]
  obtain⟨c,s3,e3,o3,_⟩:=BadC hs
  simp only[e3,obind]
  exact⟨_,_,rfl,o3⟩
 ·have hb:((t.length:Int)==0)=false:=by simpa using h0
  obtain⟨v,s1,e1,o1,v0,v1⟩:=zm (n:=12) hs om om
  rw[zq (by rw[hb]; simp[AllP]),e1,obind,hb,y3o]
  by_cases h1:(v==11)=true
  ·rw[y7 h1]
   obtain⟨c,s3,e3,o3,_⟩:=BadC o1
   simp only[e3,obind]
   exact⟨_,_,rfl,o3⟩
  ·rw[y6 h1]
   obtain⟨v,s2,e2,o2,v0,v1⟩:=zm (n:=(t.length:Int)) o1 om om
   simp only[e2,obind]
   rw[z6 ⟨v0,om,trivial⟩]
   exact⟨_,_,rfl,o2⟩
end Go.Proofs.YtbmpcbbimefmoaaGreatDoor
/- What mk.Small... say of a law and of transfers. No condition. -/
namespace Go.Proofs.YtbmpcbbimefmoaaGreatDoor
open Go Go.TA
open Go.IntKind (i64)
attribute [-simp] List.getD_eq_getElem?_getD
theorem zfe {n:Int} (h:(Lit.int .i64 n).wf=true):n<9223372036854775808:=by
 simp only[Lit.wf,IntKind.min,IntKind.max,IntKind.signed,IntKind.bits,ya,y8] at h
 simp at h
 omega
theorem zff {n:Nat} (h:n<=reachBytes):n<=140737488351232:=h
variable {α:Type} {b:Bool}
theorem z39 {x y:α}:(if b=true then some x else some y)=some (if b=true then x else y):=by cases b <;> rfl
variable {Q:Prop}
theorem zfg {x y:Option Bool} (hx:∃ r,x=some r/\(r=true->Q)) (hy:b=false->∃ r,y=some r/\(r=true->Q)):∃ r,(if b=true then x else y)=some r/\(r=true->Q):=by
 cases b with
 | true=>exact hx
 | false=>exact hy rfl
theorem z2q [Inhabited α] (l:List α) (p:α->Bool) {body:Nat->Unit->Option (Step Unit Bool)} {k:Unit->Option Bool} (hs:∀ i,i<l.length->body i ()=some (if p (l.getD i dF)=true then .ret false else .cont ())) (hk:(∀ x∈l,p x=false)->∃ r,k ()=some r/\(r=true->Q)) :
  ∃ r,outM (rangeM body l.length 0 ()) k (fun x=>some (id x))=some r/\(r=true->Q):=by
 rw[zy l p (fun _=>false) hs]
 by_cases c:l.any p=true
 ·rw[y7 c]
  exact⟨_,rfl,fun h=>by cases h⟩
 ·rw[y6 c]
  exact hk fun x hx=>by
   have:=y30.1 (yk.2 c) x hx
   exact yk.2 this
theorem zcd (t:List THe):∃ b,F_q28 t=some b/\(b=true->(∀ h∈t,SmH h)/\t.length<=80):=by
 simp only[F_q28,S_q28,Scr.den]
 refine zfg ⟨_,rfl,fun h=>by cases h⟩ fun c0=>?_
 rw[y12] at c0
 refine z2q t (fun h=>decide ((h.B.length:Int)>60)||decide ((h.W.length:Int)>100)) (fun i hi=>by simp only[S_q28_b1,Scr.den,zg]; exact z39) fun c1=>⟨_,rfl,fun _=>⟨fun h hh=>?_,om⟩⟩
 have:=c1 h hh
 rw[y1w,y12,y12] at this
 exact⟨om,om⟩
theorem zce {a b:Nat} (ha:a<=reachBytes) (hb:b<=reachBytes) (h:decide (i64.wrap ((a:Int)+(b:Int))>100)=false):a<=1000000/\b<=1000000:=by
 have ha:=zff ha
 have hb:=zff hb
 rw[wrapId om om,y12] at h
 omega
theorem zds {x:TLa} (h:((∀ a∈x.P,(a.B.length<=reachBytes)/\((Lit.int .i64 a.C).wf=true)))/\((∀ a∈x.K,(a.S.length<=reachBytes)/\(a.B.length<=reachBytes)))/\((∀ a∈x.M,(a.B.length<=reachBytes)/\((Lit.int .i64 a.C).wf=true)/\(a.S.length<=reachBytes)))/\((∀ a∈x.A,(∀ a1∈a.Q,(a1.B.length<=reachBytes)/\((Lit.int .i64 a1.C).wf=true))))) :
  ∃ b,F_q2 x=some b/\(b=true->GL x):=by
 obtain⟨hA,hB,hC,hD⟩:=h
 obtain⟨bt,et,ht⟩:=zcd x.F
 simp only[F_q2,S_q2,Scr.den,et,obind,zg]
 refine zfg ⟨_,rfl,fun h=>by cases h⟩ fun c0=>?_
 simp only[y1w,y12,Bool.not_eq_false'] at c0
 obtain⟨⟨⟨⟨⟨⟨⟨n0,n1⟩,n2⟩,n3⟩,n4⟩,n5⟩,n6⟩,n7⟩:=c0
 obtain⟨t1,t2⟩:=ht n0
 refine z2q x.P (fun a=>decide ((a.B.length:Int)>60)) (fun i hi=>by simp only[S_q2_b1,Scr.den]; exact z39) fun c1=>?_
 refine z2q ([x.J,x.O]:List (List TBo)) (fun l=>l.any fun a=>decide ((a.B.length:Int)>60)) (fun i hi=>by
  simp only[S_q2_b3,Scr.den]
  rw[zy (([x.J,x.O]:List (List TBo)).getD i dF) (fun a=>decide ((a.B.length:Int)>60)) (fun _=>false) fun j hj=>by simp only[S_q2_b2,Scr.den]; exact z39]
  cases (([x.J,x.O]:List (List TBo)).getD i dF).any fun a=>decide ((a.B.length:Int)>60) <;> rfl) fun c2=>?_
 refine z2q x.K (fun a=>decide (i64.wrap ((a.S.length:Int)+(a.B.length:Int))>100)) (fun i hi=>by simp only[S_q2_b4,Scr.den]; exact z39) fun c3=>?_
 refine z2q x.M (fun a=>decide (i64.wrap ((a.S.length:Int)+(a.B.length:Int))>100)) (fun i hi=>by simp only[S_q2_b5,Scr.den]; exact z39) fun c4=>?_
 refine z2q x.N (fun a=>decide (i64.wrap ((a.L.length:Int)+(a.V.length:Int))>100)) (fun i hi=>by simp only[S_q2_b6,Scr.den]; exact z39) fun _=>?_
 refine z2q x.A (fun a=>decide ((a.Q.length:Int)>30)||a.Q.any fun c=>decide ((c.B.length:Int)>60)) (fun i hi=>by
  simp only[S_q2_b8,Scr.den]
  rw[zy (x.A.getD i dF).Q (fun a=>decide ((a.B.length:Int)>60)) (fun _=>false) fun j hj=>by simp only[S_q2_b7,Scr.den]; exact z39]
  cases decide (((x.A.getD i dF).Q.length:Int)>30) <;> cases (x.A.getD i dF).Q.any (fun a=>decide ((a.B.length:Int)>60)) <;> rfl) fun c6=>?_
 refine⟨_,rfl,fun _=>⟨⟨fun h hh=>t1 h hh,om,fun a ha=>?_,om,fun a ha=>?_,om,fun a ha=>?_,om,fun a ha=>?_,om,fun a ha=>?_,om,om,fun a ha=>?_,om⟩,⟨fun a ha=>zfe (hA a ha).2,fun a ha c hc=>zfe (hD a ha c hc).2⟩⟩⟩
 ·have:=y3v (c1 a ha); omega
 ·have:=c2 x.J sj
  have:=y3v (yk.2 (y30.1 this a ha)); omega
 ·have:=c2 x.O sj
  have:=y3v (yk.2 (y30.1 this a ha)); omega
 ·exact zce (hB a ha).1 (hB a ha).2 (c3 a ha)
 ·exact zce (hC a ha).2.2 (hC a ha).1 (c4 a ha)
 ·have:=c6 a ha
  rw[y1w] at this
  have k:=y3v this.1
  refine⟨om,fun c hc=>?_⟩
  have:=y3v (yk.2 (y30.1 this.2 c hc)); omega
theorem z7z {x:List TTr} (h:∀ a∈x,((Lit.int .i64 a.C).wf=true)/\(a.L.length<=reachBytes)/\(a.V.length<=reachBytes)):∃ b,F_q29 x=some b/\(b=true->∀ z∈x,ITx z):=by
 simp only[F_q29,S_q29,Scr.den]
 refine z2q x (fun a=>decide (i64.wrap ((a.L.length:Int)+(a.V.length:Int))>100)) (fun i hi=>by simp only[S_q29_b1,Scr.den]; exact z39) fun c=>⟨_,rfl,fun _ z hz=>?_⟩
 obtain⟨h1,h2,h3⟩:=h z hz
 obtain⟨a,b⟩:=zce h2 h3 (c z hz)
 exact⟨zfe h1,a,b⟩
end Go.Proofs.YtbmpcbbimefmoaaGreatDoor
/- The law TransferAnswers. No condition. -/
namespace Go.Proofs.YtbmpcbbimefmoaaGreatDoor
open Go Go.TA
open Go.IntKind (i64)
attribute [-simp] List.getD_eq_getElem?_getD
theorem zm6 {l:TLa} (hs:SmL l) (he:errL l=0) (x:TTr):∃ n,F_q30 l [] x=some (n,0)/\RmS l [] x n:=by
 obtain⟨ask,dy,now,fail,e,hJ⟩:=z8q hs (L:=[]) (z25.2 ⟨he,sj,y4j⟩)
 have ha:AcJ l (runJ l []).1:=⟨y36 _,fun z hz=>by cases hz⟩
 obtain⟨r,e1,r1,r2,r3⟩:=zda he ha x hJ
 simp only[F_q30,S_q30,Scr.den,za]
 rw[e,y4f,y7 rfl,obind,z6 ⟨rfl,trivial⟩,Gh,obind,z6 ⟨fun h=>by simp[AllP] at h,fun h=>by simp[AllP] at h,trivial⟩]
 rw[y6 sj,y6 sj,e1,obind]
 exact⟨_,rfl,r1.1,r1.2,r2,r3⟩
theorem pw4:begE pw pt=0:=kj
theorem zai:F_q3q=some true:=by
 have hs:=z4g pw0
 have e0:F_q4y=some pw:=rfl
 have e1:F_q3f pw pt=some ([0,13],0):=by rw[zdd hs,y7 pw4,pw1]
 obtain⟨n,e2,q⟩:=zm6 hs pw0 px
 have hn:n=50:=q.uniq ⟨om,om,fun m h0 h1=>z47 pw2 ⟨om,om⟩,fun m h0 h1 hz=>by
  have:=z47 hz (b:=51) ⟨om,om⟩
  rw[pw3] at this
  cases this⟩
 subst hn
 unfold px pt at *
 simp only[F_q3q,S_q3q,Scr.den,e0,e1,e2,obind]
 rw[z6 ⟨fun _=>sj,fun _=>sj,trivial⟩]
 rfl
theorem zi9 {L:List Int}:F_q2s L L=some true:=by
 simp only[F_q2s,S_q2s,Scr.den]
 rw[y6 sj]
 rw[z6p fun i hi=>by
  simp only[S_q2s_b1,Scr.den]
  rw[z6 ⟨hi,trivial⟩,y6 sj]]
 rfl
theorem zia {L:List TLi}:F_q2u L L=some true:=by
 simp only[F_q2u,S_q2u,Scr.den]
 rw[y6 sj]
 rw[z6p fun i hi=>by
  simp only[S_q2u_b1,Scr.den]
  rw[z6 ⟨hi,trivial⟩,y6 sj]]
 rfl
theorem zdh (l:TLa) (L:List TTr) (c:Y8) (y d:Int):(movedA l L c y d).2.2=begE l L:=by
 unfold movedA
 by_cases h:begE l L=0
 ·rw[y7 h,h]
 ·rw[y6 h]
theorem zm7 (l:TLa) (L:List TTr) (c:Y8) (y d:Int):0<=(movedA l L c y d).1/\0<=(movedA l L c y d).2.1:=by
 unfold movedA
 by_cases h:begE l L=0
 ·rw[y7 h]
  obtain⟨he,hl,hsr⟩:=z25.1 h
  obtain⟨k1,_,k3,_⟩:=z1h l L
  have hac:AcOk (runJ l L).1:=AcJ.ac (l:=l) ⟨om,k3⟩
  exact⟨(z5b hac c y d).1,(z48 hac c y d).1⟩
 ·rw[y6 h]
  exact⟨y5w _,y5w _⟩
theorem zos (a1:TLa) (a2:List TTr) (a3:Y8) (a4 a5:Int) (rv1:R_q1) (rv2:R_qc) (rv3:R_qk) (i4:Nat) (rv5:R_q31) (i6:Nat) (rv7:R_qd) (rv8:R_q0) (i9:Nat)
  (hT:rv1.1.F.length<=60) (hG:GL (([rv1.1,rv3.1,a1]:List TLa).getD i4 dF)) (hL:∀ z∈([rv2.1,rv5.1,a2]:List (List TTr)).getD i6 dF,ITx z) (h7:rv7.2=begE (([rv1.1,rv3.1,a1]:List TLa).getD i4 dF) (([rv2.1,rv5.1,a2]:List (List TTr)).getD i6 dF)) {s:TTape} (hs:TapeOk s) :
  ∃ s',(S_q6_b1 a1 a2 a3 a4 a5 rv1 rv2 rv3 i4 rv5 i6 rv7 rv8 i9 s).den=some (.cont s')/\TapeOk s':=by
 obtain⟨c,s',e,o⟩:=CodeT hT hs
 simp only[S_q6_b1,Scr.den,zg]
 generalize ([rv1.1,rv3.1,a1]:List TLa).getD i4 dF=l at hG h7 |-
 generalize ([rv2.1,rv5.1,a2]:List (List TTr)).getD i6 dF=L at hL h7 |-
 generalize ([a5,i64.wrap (i64.wrap (360 * rv1.1.E)+rv8.1)]:List Int).getD i9 dF=d
 simp only[zkb hG.sm,zkc hG.sm hG.iy (IT.of hL),zke hG.sm,zkd hG.sm hG.iy (IT.of hL),e,obind]
 have m:=zm7 l L c rv1.1.E d
 rw[zq (by rw[zdh,h7]; simp[AllP]),zia,obind,y6 (by rw[zdh,h7]; simp; omega),y6 sj]
 exact⟨_,rfl,o⟩
theorem znr (l:TLa) (L:List TTr):(if begE l L=0 then ((runJ l L).1,0) else ([],begE l L)).2=begE l L:=by
 by_cases h:begE l L=0
 ·rw[y7 h,h]
 ·rw[y6 h]
theorem zot (a1:TLa) (a2:List TTr) (a3:Y8) (a4 a5:Int) (rv1:R_q1) (rv2:R_qc) (rv18:R_q0) (rv19:R_qv) (rv20 rv21:R_qg) (rv3:R_qk) (i4:Nat) (rv5:R_q31) (i6:Nat)
  (hF:rv1.1.E<=12) (h20:rv20.1.length<=1000000) (h21:rv21.1.length<=1000000) (hT:rv1.1.F.length<=60) (hG:GL (([rv1.1,rv3.1,a1]:List TLa).getD i4 dF)) (hL:∀ z∈([rv2.1,rv5.1,a2]:List (List TTr)).getD i6 dF,ITx z) {s:TTape} (hs:TapeOk s) :
  ∃ s',(S_q6_b2 a1 a2 a3 a4 a5 rv1 rv2 rv18 rv19 rv20 rv21 rv3 i4 rv5 i6 s).den=some (.cont s')/\TapeOk s':=by
 obtain⟨v,s1,e1,o1,_⟩:=zm (n:=300) hs om om
 simp only[S_q6_b2,Scr.den,zg,zdd hG.sm,zde hG.sm hG.iy (IT.of hL),zfc hG.sm,z4h hG.sm hG.iy (IT.of hL),obind]
 rw[Gg,zi9,obind,Gg,zhz,obind,y6 sj,e1,obind]
 obtain⟨s2,e2,o2⟩:=zp (body:=fun i s=>(S_q6_b1 a1 a2 a3 a4 a5 rv1 rv2 rv3 i4 rv5 i6 (if begE (([rv1.1,rv3.1,a1]:List TLa).getD i4 dF) (([rv2.1,rv5.1,a2]:List (List TTr)).getD i6 dF)=0 then ((runJ (([rv1.1,rv3.1,a1]:List TLa).getD i4 dF) (([rv2.1,rv5.1,a2]:List (List TTr)).getD i6 dF)).1,0) else ([],begE (([rv1.1,rv3.1,a1]:List TLa).getD i4 dF) (([rv2.1,rv5.1,a2]:List (List TTr)).getD i6 dF))) (v,s1) i s).den) (n:=2) (fun _ s=>TapeOk s) (s0:=s1) o1 (fun i s hi h=>zos a1 a2 a3 a4 a5 rv1 rv2 rv3 i4 rv5 i6 _ (v,s1) i hT hG hL (znr _ _) h)
 rw[e2]
 simp only[outM]
 obtain⟨r,r1,r2⟩:=zkg hG.sm hG.iy (IT.of hL) (x:=(⟨90,(i64.wrap ((i64.wrap (360 * rv1.1.E))+rv18.1)),rv1.1.E,rv19.1,rv20.1,rv21.1,0⟩:TTr)) (by simp only; omega) h20 h21
 rw[r1,obind,r2,obind,y6 sj]
 exact⟨_,rfl,o2⟩
theorem zou {α:Type} [Inhabited α] {P:α->Prop} {a b c:α} (ha:P a) (hb:P b) (hc:P c) {i:Nat} (hi:i<3):P (([a,b,c]:List α).getD i dF):=by
 match i,hi with
 | 0,_=>exact ha
 | 1,_=>exact hb
 | 2,_=>exact hc
theorem z7t (a0:List Int) (a1:TLa) (a2:List TTr) (a3:Y8) (a4 a5:Int) (h1:((∀ a∈a1.P,(a.B.length<=reachBytes)/\((Lit.int .i64 a.C).wf=true)))/\((∀ a∈a1.K,(a.S.length<=reachBytes)/\(a.B.length<=reachBytes)))/\((∀ a∈a1.M,(a.B.length<=reachBytes)/\((Lit.int .i64 a.C).wf=true)/\(a.S.length<=reachBytes)))/\((∀ a∈a1.A,(∀ a1∈a.Q,(a1.B.length<=reachBytes)/\((Lit.int .i64 a1.C).wf=true))))) (h2:∀ a∈a2,((Lit.int .i64 a.C).wf=true)/\(a.L.length<=reachBytes)/\(a.V.length<=reachBytes)) :
  F_q6 a0 a1 a2 a3 a4 a5=some true:=by
 obtain⟨b1,e1,g1⟩:=zds h1
 obtain⟨b2,e2,g2⟩:=z7z h2
 simp only[F_q6,S_q6,Scr.den,e1,e2,obind,zg]
 cases b1 with
 | false=>rw[Gh,obind,y7 sj,zai,obind]
 | true =>
  rw[Gg,obind]
  by_cases c:(!true||!b2||decide ((a3.length:Int)>60))=true
  ·rw[y7 c,zai,obind]
  rw[y6 c]
  have hb2:b2=true:=by
   cases b2 with
   | true=>rfl
   | false=>simp at c
  have hA:=g1 rfl
  have hB:=g2 hb2
  obtain⟨s0,e0,o0⟩:=zlc a0
  obtain⟨l,s1,e3,o1,hl,hi⟩:=zg0 o0
  obtain⟨L,s2,e4,o2,hlen,hL⟩:=zc8 hl (n:=8) om o1
  obtain⟨v5,s5,e5,o5,_⟩:=zm (n:=700) o2 om om
  obtain⟨v6,s6,e6,o6,_⟩:=z2j (lo:=1) (hi:=3) o5 om om om
  obtain⟨v7,s7,e7,o7,k7⟩:=hl.t5.Leaf o6
  obtain⟨v8,s8,e8,o8,k8⟩:=hl.t5.Leaf o7
  obtain⟨l3,s9,e9,o9,hl3⟩:=zfd hl hi o8
  have hLx:∀ z∈L,ITx z:=fun z hz=>by
   have h:=hL.ok z hz
   have hy:=h.ye
   have f:=hl.fi; have f2:=hl.ye
   exact⟨om,z1d h.fr,z1d h.to⟩
  have htl:=(z5t (z10.1 hl.ml.ok).1.tr).1
  simp only[e0,e3,e4,e5,e6,e7,e8,e9,obind]
  obtain⟨s10,e10,o10⟩:=zp (body:=fun i s=>(S_q6_b3 a1 a2 a3 a4 a5 (l,s1) (L,s2) (v5,s5) (v6,s6) (v7,s7) (v8,s8) (l3,s9) i s).den) (n:=3) (fun _ s=>TapeOk s) (s0:=s9) o9 (fun i s hi4 h=>by
   obtain⟨L5,s11,e11,o11,h5⟩:=z8r hLx om h
   simp only[S_q6_b3,Scr.den,e11,obind]
   obtain⟨s12,e12,o12⟩:=zp (body:=fun i6 s=>(S_q6_b2 a1 a2 a3 a4 a5 (l,s1) (L,s2) (v5,s5) (v6,s6) (v7,s7) (v8,s8) (l3,s9) i (L5,s11) i6 s).den) (n:=3) (fun _ s=>TapeOk s) (s0:=s11) o11 (fun i6 s hi6 h=>zot a1 a2 a3 a4 a5 (l,s1) (L,s2) (v5,s5) (v6,s6) (v7,s7) (v8,s8) (l3,s9) i (L5,s11) i6 hl.fi.2 (z1d k7) (z1d k8) htl (zou ⟨z4g hl.ml.ok,hi⟩ hl3 hA hi4) (zou (P:=fun L:List TTr=>∀ z∈L,ITx z) hLx h5 hB hi6) h)
   rw[e12]
   exact⟨_,rfl,o12⟩)
  rw[e10]
  simp only[outM,zai,obind]
end Go.Proofs.YtbmpcbbimefmoaaGreatDoor
