/- A part of the proof: plain laws of what the functions compute. No condition. -/
import Derived.Test.YtljnmhapbonmfaaGreatDoorP1
/- The judge's parts. No condition. -/
namespace Go.Proofs.YtljnmhapbonmfaaGreatDoor
open Go Go.TA
open Go.IntKind (i64)
attribute [-simp] List.getD_eq_getElem?_getD
structure AcOk (acc:List TTr):Prop where
 le:acc.length<=100
 am:∀ x∈acc,0<=x.C/\x.C<=1000000000000
 fr:∀ x∈acc,x.L.length<=1000000
 to:∀ x∈acc,x.V.length<=1000000
structure NowOk (n:TLa):Prop where
 ll:n.T.length<=200
 lc:∀ x∈n.T,x.B.length<=1000000
 la:∀ x∈n.T,0<=x.C/\x.C<=1000000000000
 ru:∀ x∈n.J,(0<=x.R/\x.R<=100)/\x.L.length<=1000000/\x.V.length<=1000000
 rl:n.J.length<=1000000
 cl:n.M.length<=1000000
 cc:∀ x∈n.M,x.B.length<=1000000
 fl:n.S.length<=1000000
 fc:∀ x∈n.S,x.B.length<=1000000
def givW (x:TTr) (y:TTr):Int:=if (y.U==x.U&&y.D==x.D&&y.L==x.L)=true then y.C else 0
def leftS (now:TLa) (acc:List TTr) (r:TRu) (x:TTr):Int:=pctS (lineA now.T x.L x.D) r.R-smm (givW x) acc
def movW (top:Y8) (y d:Int) (x:TTr):Int :=
 if (decide (x.I>d)||(y != -1&&x.D != y))=true then 0 else (if und x.V top=true then x.C else 0)-(if und x.L top=true then x.C else 0)
def hasS (now:TLa) (acc:List TTr) (top:Y8) (y d:Int):Int:=totA now.T top y+smm (movW top y d) acc
variable {l:List TLi}
theorem zhl (h:∀ x∈l,0<=x.C/\x.C<=1000000000000) (c:Y8) (y:Int):0<=lineA l c y/\lineA l c y<=1000000000000:=by
 unfold lineA
 split
 ·rename_i x hx; exact h x (List.mem_of_find?_eq_some hx)
 ·omega
theorem zj0 {n p:Int} (hn:0<=n/\n<=1000000000000) (hp:0<=p/\p<=100):0<=pctS n p/\pctS n p<=1000000000000:=by
 have h1:0<=n * p:=Int.mul_nonneg hn.1 hp.1
 have h2:n * p<=1000000000000 * 100:=Int.mul_le_mul hn.2 hp.2 hp.1 om
 unfold pctS; omega
theorem zde (hl:l.length<=200) (h:∀ x∈l,0<=x.C/\x.C<=1000000000000) (top:Y8) (y:Int):-200000000000000<=totA l top y/\totA l top y<=200000000000000:=by
 have:=z91 (fun x:TLi=>if linC top y x=true then x.C else 0) 1000000000000 l fun x hx=>by have:=h x hx; split <;> omega
 unfold totA; omega
variable {acc:List TTr}
theorem zj1 (h:AcOk acc) (x:TTr):∀ y∈acc,-1000000000000<=givW x y/\givW x y<=1000000000000:=fun y hy=>by
 have:=h.am y hy
 unfold givW; split <;> omega
theorem zdf (h:AcOk acc) (top:Y8) (y d:Int):∀ x∈acc,-1000000000000<=movW top y d x/\movW top y d x<=1000000000000:=fun x hx=>by
 have:=h.am x hx
 unfold movW
 (repeat' split) <;> omega
theorem zdg {now:TLa} (hn:NowOk now) (h:AcOk acc) (top:Y8) (y d:Int):-300000000000000<=hasS now acc top y d/\hasS now acc top y d<=300000000000000:=by
 have a:=zde hn.ll hn.la top y
 have b:=z91 (movW top y d) 1000000000000 acc (zdf h top y d)
 have c:=h.le
 unfold hasS; omega
theorem zdh {α:Type} (w:α->Int):∀ l:List α,smm (fun x=>-w x) l=-smm w l
 | []=>rfl
 | x :: l=>by simp only[smm]; rw[zdh w l]; omega
section
variable {l:TLa} {ask:Bool} {dy fail:Int} {now:TLa} {acc:List TTr} (hn:NowOk now) (ha:AcOk acc)
include hn ha
theorem zj2 {r:TRu} (hr:0<=r.R/\r.R<=100) (x:TTr):F_q1i r x l ask dy now fail acc=some (leftS now acc r x):=by
 have hle:=ha.le
 have h1:=zhl hn.la x.L x.D
 have h2:=zj0 h1 hr
 simp only[F_q1i,S_q1i,Scr.den,zhk,zef h1 hr,obind]
 rw[Ga]
 rw[z60 acc (fun y=>-givW x y) 1000000000000 (fun y hy=>by have:=zj1 ha x y hy; omega) fun i s hi k1 k2=>by
  have hg:=ha.am _ (z4 hi)
  simp only[S_q1i_b1,Scr.den,y1e,zb,givW]
  rw[z3 ⟨hi,trivial⟩]
  split
  ·rw[wrapId om om]; congr 2
  ·congr 2; omega]
 simp only[outM]
 rw[zdh]; rfl
theorem zc5 {top:Y8} (ht:top.length<=1000000) (y d:Int):F_qs top y d l ask dy now fail acc=some (hasS now acc top y d):=by
 have hle:=ha.le
 have h1:=zde hn.ll hn.la top y
 simp only[F_qs,S_qs,Scr.den,zg0 hn.ll hn.lc hn.la ht,obind]
 rw[Ga]
 rw[z60 acc (movW top y d) 1000000000000 (zdf ha top y d) fun i s hi k1 k2=>by
  have hg:=ha.am _ (z4 hi)
  have u1:=ha.to _ (z4 hi)
  have u2:=ha.fr _ (z4 hi)
  simp only[S_qs_b1,Scr.den,y1e,zb,zi,z2c u1 ht,z2c u2 ht,obind,movW]
  rw[z3 ⟨hi,trivial⟩]
  by_cases hb:(decide ((acc.getD i dF).I>d)||(y != -1&&(acc.getD i dF).D != y))=true
  ·rw[y4 hb,y4 hb,Int.add_zero]
  ·rw[y3 hb,y3 hb]
   by_cases c1:und (acc.getD i dF).V top=true
   ·rw[y4 c1,y4 c1]
    simp only[outM]
    rw[wrapId (n:=s+(acc.getD i dF).C) om om]
    by_cases c2:und (acc.getD i dF).L top=true
    ·rw[y4 c2,y4 c2,wrapId om om]; congr 2; omega
    ·rw[y3 c2,y3 c2]; congr 2; omega
   ·rw[y3 c1,y3 c1]
    simp only[outM]
    by_cases c2:und (acc.getD i dF).L top=true
    ·rw[y4 c2,y4 c2,wrapId om om]; congr 2; omega
    ·rw[y3 c2,y3 c2]; congr 2; omega]
 simp only[outM]
 rfl
def matS (b:TBo) (wi wo:Y8) (y:Int):Bool:=(b.D==y||b.D==-1)&&und wi b.B&&!und wo b.B
def bndS (now:TLa) (acc:List TTr) (x:TTr):Bool :=
 now.M.any (fun b=>matS b x.V x.L x.D&&decide (hasS now acc b.B b.D x.I+x.C>b.C)) ||
 now.S.any (fun b=>matS b x.L x.V x.D&&decide (hasS now acc b.B b.D x.I-x.C<b.C))
omit hn ha in
theorem zg1 {b:TBo} {wi wo:Y8} (hb:b.B.length<=1000000) (h1:wi.length<=1000000) (h2:wo.length<=1000000) (x:TTr):F_q28 b wi wo x=some (matS b wi wo x.D):=by
 simp only[F_q28,S_q28,Scr.den,z2c h1 hb,z2c h2 hb,zb,zi,matS]
 cases h1:(b.D==x.D||b.D==-1) <;> cases h2:und wi b.B <;> simp[optD,AllP]
theorem zjz {x:TTr} (hf:x.L.length<=1000000) (ht:x.V.length<=1000000) (hx:0<=x.C/\x.C<=1000000000000):F_qe x l ask dy now fail acc=some (bndS now acc x):=by
 have hcl:=hn.cl; have hfl:=hn.fl
 simp only[F_qe,S_qe,Scr.den]
 rw[z2b now.M (fun b=>matS b x.V x.L x.D&&decide (hasS now acc b.B b.D x.I+x.C>b.C)) (fun _=>true) fun i hi=>by
  have hb:=hn.cc _ (z4 hi)
  have hh:=zdg hn ha (now.M.getD i dF).B (now.M.getD i dF).D x.I
  simp only[S_qe_b1,Scr.den,zg1 hb ht hf,obind,zc5 hn ha hb,zb]
  cases hm:matS (now.M.getD i dF) x.V x.L x.D
  ·simp[optD,AllP]
  ·rw[Gg,obind,wrapId om om]; split <;> rfl]
 unfold bndS
 by_cases h1:now.M.any (fun b=>matS b x.V x.L x.D&&decide (hasS now acc b.B b.D x.I+x.C>b.C))=true
 ·rw[y4 h1,h1]; rfl
 ·rw[y3 h1,y13.2 h1]
  simp only[outM]
  rw[z2b now.S (fun b=>matS b x.L x.V x.D&&decide (hasS now acc b.B b.D x.I-x.C<b.C)) (fun _=>true) fun i hi=>by
   have hb:=hn.fc _ (z4 hi)
   have hh:=zdg hn ha (now.S.getD i dF).B (now.S.getD i dF).D x.I
   simp only[S_qe_b2,Scr.den,zg1 hb hf ht,obind,zc5 hn ha hb,zb]
   cases hm:matS (now.S.getD i dF) x.L x.V x.D
   ·simp[optD,AllP]
   ·rw[Gg,obind,wrapId om om]; split <;> rfl]
  by_cases h2:now.S.any (fun b=>matS b x.L x.V x.D&&decide (hasS now acc b.B b.D x.I-x.C<b.C))=true
  ·rw[y4 h2,h2]; rfl
  ·rw[y3 h2,y13.2 h2]; rfl
end
end Go.Proofs.YtljnmhapbonmfaaGreatDoor
/- The code of a transfer. No condition. -/
namespace Go.Proofs.YtljnmhapbonmfaaGreatDoor
open Go Go.TA
open Go.IntKind (i64)
attribute [-simp] List.getD_eq_getElem?_getD
theorem zhm {l:TLa} (hs:SmL l) (c:Y8):F_q27 l c=some (leafT l.E c):=by
 simp only[F_q27,S_q27,Scr.den,zah hs.t hs.tl,z7t,obind]
 congr 1
 rw[y1r,<- z18]
 simp
def numB (n:Int):Bool:=decide (n>=1)&&decide (n<=1000000)
def plainS (l:TLa) (x:TTr):Int :=
 if (!numB x.F||!numB x.U||decide (x.I<0)||decide (x.I>35990)||!amt x.C||x.C==0)=true then 2
 else if (!leafT l.E x.L||!leafT l.E x.V||x.L==x.V)=true then 5
 else if (!inY l.G l.H x.D||decide (x.I / 360>x.D))=true then 16 else 0
theorem z22 {l:TLa} {x:TTr}:plainS l x=0↔(1<=x.F/\x.F<=1000000)/\(1<=x.U/\x.U<=1000000)/\(0<=x.I/\x.I<=35990)/\(1<=x.C/\x.C<=1000000000000)/\leafT l.E x.L=true/\leafT l.E x.V=true/\x.L≠x.V/\inY l.G l.H x.D=true/\x.I / 360<=x.D:=by
 unfold plainS
 by_cases h1:(!numB x.F||!numB x.U||decide (x.I<0)||decide (x.I>35990)||!amt x.C||x.C==0)=true
 ·rw[y4 h1]
  refine⟨fun e=>absurd e dk,fun⟨a,b,c,d,_⟩=>?_⟩
  exfalso
  simp only[yw,y1m,y5,y12,numB,y2j,y16,amt] at h1
  omega
 ·rw[y3 h1]
  simp only[yw,y1m,y5,y12,numB,y2j,y16,amt] at h1
  by_cases h2:(!leafT l.E x.L||!leafT l.E x.V||x.L==x.V)=true
  ·rw[y4 h2]
   refine⟨fun e=>absurd e dk,fun⟨_,_,_,_,a,b,c,_⟩=>?_⟩
   rw[a,b] at h2
   simp[c] at h2
  ·rw[y3 h2]
   simp only[yw,y1m,y12,not_or,y3j] at h2
   by_cases h3:(!inY l.G l.H x.D||decide (x.I / 360>x.D))=true
   ·rw[y4 h3]
    refine⟨fun e=>absurd e dk,fun⟨_,_,_,_,_,_,_,a,b⟩=>?_⟩
    rw[a] at h3
    simp at h3; omega
   ·rw[y3 h3]
    simp only[yw,y1m,y5,not_or,y3j] at h3
    exact⟨fun _=>⟨om,om,om,om,h2.1.1,h2.1.2,h2.2,h3.1,om⟩,fun _=>rfl⟩
section
variable {l:TLa} (he:errL l=0)
include he
omit he in
theorem zj3 (d:Int):F_q2x d=some (if 0<=d/\d<=36000 then d / 360 else -1):=by
 simp only[F_q2x,S_q2x,F_q3g,S_q3g,Scr.den,obind,zb]
 by_cases h:0<=d/\d<=36000
 ·rw[y4 h,y3 sk,Int.tdiv_eq_ediv_of_nonneg h.1,wrapId om om]
 ·rw[y3 h,y4 sk]
omit he in
theorem z4q {α:Type} (gs:List Prop) (v d:α):optD gs (some v) d=some (@ite α (AllP gs) (Classical.propDecidable _) v d):=by
 unfold optD
 split <;> rfl
omit he in
theorem lzN (c b d:Bool) (i:Decidable (AllP [c=false])):(c||!(@ite Bool (AllP [c=false]) i b d))=(c||!b):=by
 cases c
 ·rw[y4 (by simp[AllP])]
 ·rfl
omit he in
theorem lzG (c:Bool) (v d w:Int) (i:Decidable (AllP [c=false])):(c||decide (@ite Int (AllP [c=false]) i v d>w))=(c||decide (v>w)):=by
 cases c
 ·rw[y4 (by simp[AllP])]
 ·rfl
theorem zhn (x:TTr) (ask:Bool) (dy fail:Int) (now:TLa) (acc:List TTr):F_q2y x l ask dy now fail acc=some (plainS l x):=by
 have hs:=z5z he
 obtain⟨hr,_,_⟩:=z2y.1 he
 have hy:1<=l.H:=by have:=hr.yr; unfold yrB at this; omega
 have n1:∀ n,F_q26 n=some (numB n):=fun n=>by simp only[F_q26,S_q26,Scr.den,zb,numB]
 simp only[F_q2y,S_q2y,Scr.den,n1,z3o,zhm hs,z6t hy,zj3,obind,zi,z4q,lzN,lzG]
 unfold plainS
 by_cases h1:(!numB x.F||!numB x.U||decide (x.I<0)||decide (x.I>35990)||!amt x.C||x.C==0)=true
 ·rw[y4 h1,y4 h1]
 ·rw[y3 h1,y3 h1]
  by_cases h2:(!leafT l.E x.L||!leafT l.E x.V||x.L==x.V)=true
  ·rw[y4 h2,y4 h2]
  ·rw[y3 h2,y3 h2]
   simp only[yw,y1m,y5,y12] at h1
   rw[y4 (show 0<=x.I/\x.I<=36000 from om)]
   split <;> rfl
theorem zke (d:Int) {ask:Bool} {dy fail:Int} {now:TLa} (hJ:ask=true->inS l dy=(now,fail)) (acc:List TTr):F_q35 d l ask dy now fail acc=some ((inS l d).2,l,true,d,(inS l d).1,(inS l d).2):=by
 simp only[F_q35,S_q35,Scr.den,zi]
 by_cases h:(!ask||d != dy)=true
 ·rw[y4 h,zeb (z5z he),obind]; rfl
 ·rw[y3 h]
  simp only[yw,y1m,y4m,ne_eq,not_or,y3j,y3x] at h
  obtain⟨h1,rfl⟩:=h
  simp only[outM]
  rw[hJ h1,h1]
theorem zk0:NowOk l:=by
 obtain⟨hr,hw,hb⟩:=z2y.1 he
 have hs:=z5z he
 unfold bigL at hb
 refine⟨om,hs.li,fun x hx=>?_,fun x hx=>?_,hs.rl,hs.cl,hs.ce,hs.fll,hs.fl⟩
 ·have:=hw.l1 x hx
  unfold z1i at this
  split at this
  ·cases this
  split at this
  ·cases this
  split at this
  ·cases this
  ·rename_i h; exact z3p.1 (by simpa using h)
 ·obtain⟨i,hi,rfl⟩:=y35 hx
  have:=(z10.1 hr.ru) i hi
  unfold ruleE at this
  have:=(z3m.1 this).1
  rw[ze hi] at this
  unfold z6s at this
  split at this
  ·cases this
  split at this
  ·cases this
  ·rename_i h1 h2
   refine⟨om,?_⟩
   have f:has l.E l.J[i].L=true/\has l.E l.J[i].V=true:=by
    cases g1:has l.E l.J[i].L <;> cases g2:has l.E l.J[i].V <;> simp_all
   exact⟨lenC (hasGood hr.tr f.1),lenC (hasGood hr.tr f.2)⟩
theorem zk1 {d:Int} (h:(inS l d).2=0):(inS l d).1=forceL l d/\NowOk (forceL l d)/\errL (forceL l d)=0/\0<=d/\d<=36000:=by
 unfold inS at h |-
 rw[y4 he] at h |-
 by_cases h1:d<0\/d>36000
 ·rw[y4 h1] at h; cases h
 ·rw[y3 h1] at h |-
  by_cases h2:bigL (forceL l d)
  ·rw[y4 h2] at h; cases h
  ·rw[y3 h2]
   have:=zhd he d h2
   exact⟨rfl,zk0 this,this,om,om⟩
end
end Go.Proofs.YtljnmhapbonmfaaGreatDoor
/- Judging transfers,one after the other. No condition. -/
namespace Go.Proofs.YtljnmhapbonmfaaGreatDoor
open Go Go.TA
open Go.IntKind (i64)
attribute [-simp] List.getD_eq_getElem?_getD
def permS (x:TTr) (r:TRu):Bool:=r.F==x.U&&und x.L r.L&&und x.V r.V
def codeN (n:TLa) (acc:List TTr) (x:TTr):Int :=
 if n.J.any (permS x)=true then
  (if x.C>leftS n acc (n.J.getD (n.J.findIdx (permS x)) dF) x then 13 else if x.C>hasS n acc x.L x.D x.I then 15 else if bndS n acc x=true then 14 else 0)
 else 12
def codeS (l:TLa) (acc:List TTr) (x:TTr):Int :=
 if plainS l x≠0 then plainS l x else if (inS l x.I).2≠0 then (inS l x.I).2 else codeN (inS l x.I).1 acc x
theorem z62 {t:List THe} {c:Y8} (h:leafT t c=true):c.length<=1000000:=lenC (leafGood h)
structure AcJ (l:TLa) (acc:List TTr):Prop where
 le:acc.length<=61
 ok:∀ x∈acc,plainS l x=0
variable {acc:List TTr} {l:TLa}
theorem AcJ.ac (h:AcJ l acc):AcOk acc:=by
 have hl:=h.le
 refine⟨om,fun x hx=>?_,fun x hx=>z62 (z22.1 (h.ok x hx)).2.2.2.2.1,fun x hx=>z62 (z22.1 (h.ok x hx)).2.2.2.2.2.1⟩
 have:=(z22.1 (h.ok x hx)).2.2.2.1
 omega
variable {x:TTr}
theorem zg2 {r:TRu} (h1:r.L.length<=1000000) (h2:r.V.length<=1000000) (h3:x.L.length<=1000000) (h4:x.V.length<=1000000):F_q36 r x=some (permS x r):=by
 simp only[F_q36,S_q36,Scr.den,z2c h3 h1,z2c h4 h2,zb,permS]
 cases g1:(r.F==x.U) <;> cases g2:und x.L r.L <;> simp[optD,AllP]
theorem zho {n:TLa} (hn:NowOk n) (h3:x.L.length<=1000000) (h4:x.V.length<=1000000):F_q1g n.J x=some (if n.J.any (permS x)=true then (n.J.findIdx (permS x):Int) else -1):=by
 have hrl:=hn.rl
 simp only[F_q1g,S_q1g,Scr.den]
 rw[z2b n.J (permS x) (fun i=>(i:Int)) fun i hi=>by
  have:=hn.ru _ (z4 hi)
  simp only[S_q1g_b1,Scr.den,zg2 this.2.1 this.2.2 h3 h4,obind]
  split <;> rfl]
 split <;> rfl
variable {ask:Bool} {dy fail:Int} {now:TLa}
section
variable {l:TLa} (he:errL l=0)
include he
theorem z7e (hJ:ask=true->inS l dy=(now,fail)) (ha:AcJ l acc) (x:TTr) :
  ∃ ask' dy' now' fail',F_q1t x l ask dy now fail acc=some (codeS l acc x,l,ask',dy',now',fail')/\(ask'=true->inS l dy'=(now',fail'))/\(plainS l x=0->ask'=true/\dy'=x.I):=by
 have hac:=ha.ac
 simp only[F_q1t,S_q1t,Scr.den,zhn he,zke he x.I hJ acc,obind]
 by_cases hp:plainS l x=0
 ·rw[y3 (by simpa using hp)]
  obtain⟨_,_,hd,hm,h3,h4,_⟩:=z22.1 hp
  have h3:=z62 h3
  have h4:=z62 h4
  by_cases hi:(inS l x.I).2=0
  ·have hc:codeS l acc x=codeN (inS l x.I).1 acc x:=by unfold codeS; rw[y3 (by simpa using hp),y3 (by simpa using hi)]
   rw[y3 (by simpa using hi),hc]
   obtain⟨e1,hn,_⟩:=zk1 he hi
   rw[e1,zho hn h3 h4,obind]
   unfold codeN
   have hJ':true=true->inS l x.I=(forceL l x.I,0):=fun _=>by rw[<- e1,<- hi]
   by_cases hr:(forceL l x.I).J.any (permS x)=true
   ·have hlt:(forceL l x.I).J.findIdx (permS x)<(forceL l x.I).J.length:=List.findIdx_lt_length.2 (by obtain⟨r,a,b⟩:=y1l.1 hr; exact⟨r,a,b⟩)
    rw[y4 hr,y4 hr,y3 sj]
    simp only[yg]
    have hru:=hn.ru _ (z4 hlt)
    simp only[zj2 hn hac hru.1,zc5 hn hac h3,zjz hn hac h3 h4 (show 0<=x.C/\x.C<=1000000000000 from om),obind]
    rw[z3 ⟨om,hlt,trivial⟩,hi]
    by_cases k1:x.C>leftS (forceL l x.I) acc ((forceL l x.I).J.getD ((forceL l x.I).J.findIdx (permS x)) dF) x
    ·rw[y4 (by simpa using k1),y4 k1]; exact⟨_,_,_,_,rfl,hJ',fun _=>⟨rfl,rfl⟩⟩
    rw[y3 (by simpa using k1),y3 k1]
    by_cases k2:x.C>hasS (forceL l x.I) acc x.L x.D x.I
    ·rw[y4 (by simpa using k2),y4 k2]; exact⟨_,_,_,_,rfl,hJ',fun _=>⟨rfl,rfl⟩⟩
    rw[y3 (by simpa using k2),y3 k2]
    by_cases k3:bndS (forceL l x.I) acc x=true
    ·rw[y4 k3,y4 k3]; exact⟨_,_,_,_,rfl,hJ',fun _=>⟨rfl,rfl⟩⟩
    rw[y3 k3,y3 k3]; exact⟨_,_,_,_,rfl,hJ',fun _=>⟨rfl,rfl⟩⟩
   ·rw[y3 hr,y3 hr,y4 dk,hi]; exact⟨_,_,_,_,rfl,hJ',fun _=>⟨rfl,rfl⟩⟩
  ·have hc:codeS l acc x=(inS l x.I).2:=by unfold codeS; rw[y3 (by simpa using hp),y4 (by simpa using hi)]
   rw[y4 (by simpa using hi),hc]
   exact⟨_,_,_,_,rfl,fun _=>rfl,fun _=>⟨rfl,rfl⟩⟩
 ·have hc:codeS l acc x=plainS l x:=by unfold codeS; rw[y4 (by simpa using hp)]
  rw[y4 (by simpa using hp),hc]
  exact⟨_,_,_,_,rfl,hJ,fun h=>absurd h hp⟩
end
theorem z63 (h:codeS l acc x=0):plainS l x=0:=by
 unfold codeS at h
 split at h
 ·exact h
 ·rename_i h'; exact y3x.1 h'
def stepJ (l:TLa) (s:List TTr×List Int) (x:TTr):List TTr×List Int:=(if codeS l s.1 x=0 then s.1++[x] else s.1,s.2++[codeS l s.1 x])
def runJ (l:TLa) (L:List TTr):List TTr×List Int:=L.foldl (stepJ l) ([],[])
theorem z4r (l:TLa) (L:List TTr) (x:TTr):runJ l (L++[x])=stepJ l (runJ l L) x:=by
 unfold runJ; rw[List.foldl_append]; rfl
theorem z35 (l:TLa) (L:List TTr):(runJ l L).1.length<=L.length/\(runJ l L).2.length=L.length/\(∀ x∈(runJ l L).1,plainS l x=0)/\(runJ l L).1.Sublist L:=by
 suffices h:∀ n,∀ L:List TTr,L.length=n->(runJ l L).1.length<=L.length/\(runJ l L).2.length=L.length/\(∀ x∈(runJ l L).1,plainS l x=0)/\(runJ l L).1.Sublist L from h _ L rfl
 intro n
 induction n with
 | zero=>intro L h; rw[y1o.1 h]; exact⟨y7 _,rfl,by simp[runJ],List.Sublist.refl _⟩
 | succ n ih =>
  intro L h
  rcases List.eq_nil_or_concat L with rfl | ⟨M,x,rfl⟩
  ·cases h
  ·rw[List.concat_eq_append] at h |-
   rw[yh,ym] at h
   obtain⟨a,b,c,d⟩:=ih M om
   rw[z4r]
   unfold stepJ
   refine⟨?_,by simp only[yh,ym]; omega,?_,?_⟩
   ·simp only[yh,ym]
    split
    ·rw[yh,ym]; omega
    ·omega
   ·simp only
    split
    ·rename_i hc
     intro y hy
     rcases yz.1 hy with hy | hy
     ·exact c y hy
     ·obtain rfl:=y14.1 hy; exact z63 hc
    ·exact c
   ·simp only
    split
    ·exact List.Sublist.append d (List.Sublist.refl _)
    ·exact d.trans (List.sublist_append_left M [x])
theorem z7f (a b:TTr):F_q1s a b=some (orE [cmpI a.I b.I,cmpI a.F b.F]):=by
 simp only[F_q1s,S_q1s,Scr.den,z33,obind,z4n]
theorem z7g {a b:TTr} (h:ltT a b):decide (orE [cmpI a.I b.I,cmpI a.F b.F]>=0)=false:=by
 simp only[z2w,z3n,cmpI,y16]
 unfold ltT at h
 (repeat' split) <;> omega
section
variable {l:TLa} (he:errL l=0) {L:List TTr} (hl:L.length<=60) (hs:L.Pairwise ltT)
include he hl hs
theorem zhp {i:Nat} (hi:i<L.length) (hJ:ask=true->inS l dy=(now,fail)) :
  ∃ ask' dy' now' fail',(S_qj_b1 L i (l,ask,dy,now,fail,(runJ l (L.take i)).1,(runJ l (L.take i)).2)).den=some (.cont (l,ask',dy',now',fail',(runJ l (L.take (i+1))).1,(runJ l (L.take (i+1))).2))/\(ask'=true->inS l dy'=(now',fail')):=by
 obtain⟨a,b,c,_⟩:=z35 l (L.take i)
 have hlen:(L.take i).length=i:=by rw[y17]; omega
 rw[hlen] at a b
 obtain⟨ask',dy',now',fail',e,hJ',_⟩:=z7e he hJ ⟨om,c⟩ (L.getD i dF)
 refine⟨ask',dy',now',fail',?_,hJ'⟩
 rw[y18 hi,<- ze hi,z4r]
 simp only[S_qj_b1,Scr.den,z7f,e,obind,zb]
 rw[z4q,obind]
 have w:0<i->i64.wrap ((i:Int)-1)=((i-1:Nat):Int):=fun h=>wp h om
 have hi0:AllP [decide ((i:Int)>0)=true]->0<i:=fun h=>by have:=h.1; simp at this; omega
 rw[z3 ⟨fun h=>by rw[w (hi0 h)]; omega,fun h=>by rw[w (hi0 h),yg]; omega,trivial⟩]
 have hb:(decide ((i:Int)>0)&&decide ((@ite Int (AllP [decide ((i:Int)>0)=true]) (Classical.propDecidable _) (orE [cmpI (L.getD (i64.wrap ((i:Int)-1)).toNat dF).I (L.getD i dF).I,cmpI (L.getD (i64.wrap ((i:Int)-1)).toNat dF).F (L.getD i dF).F]) dF)>=0))=false:=by
  by_cases h0:0<i
  ·have hd:decide ((i:Int)>0)=true:=sk
   rw[y4 ⟨hd,trivial⟩,w h0,yg]
   have hlt:ltT (L.getD (i-1) dF) (L.getD i dF):=by
    rw[ze om,ze hi]
    exact y1p.1 hs (i-1) i om hi om
   rw[z7g hlt,y3z]
  ·rw[y24 (show ¬ (i:Int)>0 from om),y37]
 rw[z3 ⟨hb,trivial⟩]
 unfold stepJ
 by_cases hc:codeS l (runJ l (L.take i)).1 (L.getD i dF)=0
 ·rw[y4 (by simpa using hc),Ga]
  simp only[outM]
  rw[Ga,y4 hc]
 ·rw[y3 (by simpa using hc)]
  simp only[outM]
  rw[Ga,y3 hc]
theorem zk2:∃ ask dy now fail,F_qj l L=some ((runJ l L).2,0,l,ask,dy,now,fail,(runJ l L).1)/\(ask=true->inS l dy=(now,fail)):=by
 have hsm:=z5z he
 obtain⟨a,b,c,_⟩:=z35 l L
 simp only[F_qj,S_qj,Scr.den,z51 hsm,he,obind,F_q14,S_q14]
 rw[z3 ⟨rfl,trivial⟩,z3 ⟨sk,trivial⟩]
 obtain⟨r,e,ask,dy,now,fail,h1,h2⟩:=zq (body:=fun i s=>(S_qj_b1 L i s).den) (n:=L.length) (fun i s=>∃ ask dy now fail,s=(l,ask,dy,now,fail,(runJ l (L.take i)).1,(runJ l (L.take i)).2)/\(ask=true->inS l dy=(now,fail)))
  (s0:=(l,false,0,(⟨0,0,[],[],[],[],[],[],[],[]⟩:TLa),0,[],[])) ⟨_,_,_,_,rfl,fun h=>by cases h⟩ (fun i s hi ⟨ask,dy,now,fail,e,hJ⟩=>by
   subst e
   obtain⟨ask',dy',now',fail',e',hJ'⟩:=zhp he hl hs hi hJ
   exact⟨_,e',_,_,_,_,rfl,hJ'⟩)
 rw[e,h1,y2c]
 simp only[outM]
 rw[Ga]
 exact⟨_,_,_,_,rfl,h2⟩
theorem zkf:F_q18 l L=some ((runJ l L).2,0):=by
 have hsm:=z5z he
 obtain⟨a,b,c,_⟩:=z35 l L
 simp only[F_q18,S_q18,Scr.den,z51 hsm,he,obind,F_q14,S_q14]
 rw[y3 sj,y3 sk,Ga]
 obtain⟨r,e,ask,dy,now,fail,h1,h2⟩:=zq (body:=fun i s=>(S_q18_b1 L i s).den) (n:=L.length) (fun i s=>∃ ask dy now fail,s=(l,ask,dy,now,fail,(runJ l (L.take i)).1,(runJ l (L.take i)).2)/\(ask=true->inS l dy=(now,fail)))
  (s0:=(l,false,0,(⟨0,0,[],[],[],[],[],[],[],[]⟩:TLa),0,[],[])) ⟨_,_,_,_,rfl,fun h=>by cases h⟩ (fun i s hi ⟨ask,dy,now,fail,e,hJ⟩=>by
   subst e
   obtain⟨a,b,c,_⟩:=z35 l (L.take i)
   have hlen:(L.take i).length=i:=by rw[y17]; omega
   rw[hlen] at a b
   obtain⟨ask',dy',now',fail',e,hJ',_⟩:=z7e he hJ ⟨om,c⟩ (L.getD i dF)
   refine⟨_,?_,ask',dy',now',fail',rfl,hJ'⟩
   rw[y18 hi,<- ze hi,z4r]
   simp only[S_q18_b1,Scr.den,y1e,z7f,e,obind,zb]
   rw[z3 ⟨hi,trivial⟩,z4q,obind]
   have w:0<i->i64.wrap ((i:Int)-1)=((i-1:Nat):Int):=fun h=>wp h om
   have hi0:AllP [decide ((i:Int)>0)=true]->0<i:=fun h=>by have:=h.1; simp at this; omega
   rw[z3 ⟨fun h=>by rw[w (hi0 h)]; omega,fun h=>by rw[w (hi0 h),yg]; omega,fun h=>by rw[w (hi0 h),yg]; omega,trivial⟩]
   have hb:(decide ((i:Int)>0)&&decide ((@ite Int (AllP [decide ((i:Int)>0)=true]) (Classical.propDecidable _) (orE [cmpI (L.getD (i64.wrap ((i:Int)-1)).toNat dF).I (L.getD i dF).I,cmpI (L.getD (i64.wrap ((i:Int)-1)).toNat dF).F (L.getD i dF).F]) dF)>=0))=false:=by
    by_cases h0:0<i
    ·have hd:decide ((i:Int)>0)=true:=sk
     rw[y4 ⟨hd,trivial⟩,w h0,yg]
     have hlt:ltT (L.getD (i-1) dF) (L.getD i dF):=by
      rw[ze om,ze hi]
      exact y1p.1 hs (i-1) i om hi om
     rw[z7g hlt,y3z]
    ·rw[y24 (show ¬ (i:Int)>0 from om),y37]
   rw[hb,y3 sj]
   unfold stepJ
   by_cases hc:codeS l (runJ l (L.take i)).1 (L.getD i dF)=0
   ·rw[y4 (by simpa using hc),Ga]
    simp only[outM]
    rw[Ga,y4 hc]
   ·rw[y3 (by simpa using hc)]
    simp only[outM]
    rw[Ga,y3 hc])
 rw[e,h1,y2c]
 simp only[outM]
 rw[Ga]
theorem zk3:F_q19 l L=some ((runJ l L).2,0):=by
 have hsm:=z5z he
 obtain⟨a,b,c,_⟩:=z35 l L
 simp only[F_q19,S_q19,Scr.den,z51 hsm,he,obind,F_q14,S_q14]
 rw[y3 sj,y3 sk]
 obtain⟨r,e,ask,dy,now,fail,h1,h2⟩:=zq (body:=fun i s=>(S_q19_b1 L i s).den) (n:=L.length) (fun i s=>∃ ask dy now fail,s=(l,ask,dy,now,fail,(runJ l (L.take i)).1,(runJ l (L.take i)).2)/\(ask=true->inS l dy=(now,fail)))
  (s0:=(l,false,0,(⟨0,0,[],[],[],[],[],[],[],[]⟩:TLa),0,[],[])) ⟨_,_,_,_,rfl,fun h=>by cases h⟩ (fun i s hi ⟨ask,dy,now,fail,e,hJ⟩=>by
   subst e
   obtain⟨a,b,c,_⟩:=z35 l (L.take i)
   have hlen:(L.take i).length=i:=by rw[y17]; omega
   rw[hlen] at a b
   obtain⟨ask',dy',now',fail',e,hJ',_⟩:=z7e he hJ ⟨om,c⟩ (L.getD i dF)
   refine⟨_,?_,ask',dy',now',fail',rfl,hJ'⟩
   rw[y18 hi,<- ze hi,z4r]
   simp only[S_q19_b1,Scr.den,z7f,e,obind,zb]
   rw[z4q,obind]
   have w:0<i->i64.wrap ((i:Int)-1)=((i-1:Nat):Int):=fun h=>wp h om
   have hi0:AllP [decide ((i:Int)>0)=true]->0<i:=fun h=>by have:=h.1; simp at this; omega
   rw[z3 ⟨fun h=>by rw[w (hi0 h)]; omega,fun h=>by rw[w (hi0 h),yg]; omega,trivial⟩]
   have hb:(decide ((i:Int)>0)&&decide ((@ite Int (AllP [decide ((i:Int)>0)=true]) (Classical.propDecidable _) (orE [cmpI (L.getD (i64.wrap ((i:Int)-1)).toNat dF).I (L.getD i dF).I,cmpI (L.getD (i64.wrap ((i:Int)-1)).toNat dF).F (L.getD i dF).F]) dF)>=0))=false:=by
    by_cases h0:0<i
    ·have hd:decide ((i:Int)>0)=true:=sk
     rw[y4 ⟨hd,trivial⟩,w h0,yg]
     have hlt:ltT (L.getD (i-1) dF) (L.getD i dF):=by
      rw[ze om,ze hi]
      exact y1p.1 hs (i-1) i om hi om
     rw[z7g hlt,y3z]
    ·rw[y24 (show ¬ (i:Int)>0 from om),y37]
   rw[hb,y3 sj]
   unfold stepJ
   by_cases hc:codeS l (runJ l (L.take i)).1 (L.getD i dF)=0
   ·rw[y4 (by simpa using hc),Ga]
    simp only[outM]
    rw[Ga,y4 hc]
   ·rw[y3 (by simpa using hc)]
    simp only[outM]
    rw[Ga,y3 hc])
 rw[e,h1,y2c]
 simp only[outM]
 rw[Ga]
theorem zhq:F_q3a l L=some ((runJ l L).2,0):=by
 simp only[F_q3a,S_q3a,Scr.den,zkf he hl hs,obind]
theorem zg3:F_q2a l L=some ((runJ l L).2,0):=by
 simp only[F_q2a,S_q2a,Scr.den,zk3 he hl hs,obind]
end
end Go.Proofs.YtljnmhapbonmfaaGreatDoor
/- Room: the search for the greatest amount. No condition. -/
namespace Go.Proofs.YtljnmhapbonmfaaGreatDoor
open Go Go.TA
open Go.IntKind (i64)
attribute [-simp] List.getD_eq_getElem?_getD
def ruleS (n:TLa) (x:TTr):TRu:=n.J.getD (n.J.findIdx (permS x)) dF
structure OkN (n:TLa) (acc:List TTr) (x:TTr):Prop where
 ru:n.J.any (permS x)=true
 le:x.C<=leftS n acc (ruleS n x) x
 fu:x.C<=hasS n acc x.L x.D x.I
 bo:bndS n acc x=false
variable {x:TTr} {acc:List TTr}
theorem zeg {n:TLa}:codeN n acc x=0↔OkN n acc x:=by
 unfold codeN
 by_cases h1:n.J.any (permS x)=true
 ·rw[y4 h1]
  by_cases h2:x.C>leftS n acc (n.J.getD (n.J.findIdx (permS x)) dF) x
  ·rw[y4 h2]; exact⟨fun h=>(by cases h),fun h=>absurd h.le (by unfold ruleS; omega)⟩
  rw[y3 h2]
  by_cases h3:x.C>hasS n acc x.L x.D x.I
  ·rw[y4 h3]; exact⟨fun h=>(by cases h),fun h=>absurd h.fu om⟩
  rw[y3 h3]
  by_cases h4:bndS n acc x=true
  ·rw[y4 h4]; exact⟨fun h=>(by cases h),fun h=>by rw[h.bo] at h4; cases h4⟩
  rw[y3 h4]
  exact⟨fun _=>⟨h1,by unfold ruleS; omega,om,y13.2 h4⟩,fun _=>rfl⟩
 ·rw[y3 h1]; exact⟨fun h=>(by cases h),fun h=>absurd h.ru h1⟩
variable {l:TLa}
theorem z92:codeS l acc x=0↔plainS l x=0/\(inS l x.I).2=0/\OkN (inS l x.I).1 acc x:=by
 unfold codeS
 by_cases h1:plainS l x=0
 ·rw[y3 (by simpa using h1)]
  by_cases h2:(inS l x.I).2=0
  ·rw[y3 (by simpa using h2),zeg]; exact⟨fun h=>⟨h1,h2,h⟩,fun h=>h.2.2⟩
  ·rw[y4 (by simpa using h2)]; exact⟨fun h=>absurd h h2,fun h=>absurd h.2.1 h2⟩
 ·rw[y4 (by simpa using h1)]; exact⟨fun h=>absurd h h1,fun h=>absurd h.1 h1⟩
def setA (x:TTr) (a:Int):TTr:=⟨x.F,x.I,x.D,x.U,x.L,x.V,a⟩
variable {a b:Int}
theorem zg4 (h:plainS l (setA x a)=0) (hb:1<=b/\b<=1000000000000):plainS l (setA x b)=0:=by
 obtain⟨h1,h2,h3,_,h5⟩:=z22.1 h
 exact z22.2 ⟨h1,h2,h3,hb,h5⟩
theorem zan (h:codeS l acc (setA x a)=0) (hb:1<=b/\b<=a):codeS l acc (setA x b)=0:=by
 obtain⟨h1,h2,h3⟩:=z92.1 h
 have ha:=(z22.1 h1).2.2.2.1
 have ha':a<=1000000000000:=ha.2
 refine z92.2 ⟨zg4 h1 ⟨hb.1,om⟩,h2,⟨h3.ru,?_,?_,?_⟩⟩
 ·exact Int.le_trans (show (setA x b).C<=(setA x a).C from hb.2) h3.le
 ·exact Int.le_trans (show (setA x b).C<=(setA x a).C from hb.2) h3.fu
 ·have h4:=h3.bo
  unfold bndS at h4 |-
  rw[y22,y3w,y3w] at h4 |-
  refine⟨fun z hz=>?_,fun z hz=>?_⟩
  ·have:=h4.1 z hz
   simp only[y6,y5,not_and] at this |-
   intro hm
   have:=this hm
   show ¬ hasS (inS l x.I).1 acc z.B z.D x.I+b>z.C
   have h5:¬ hasS (inS l x.I).1 acc z.B z.D x.I+a>z.C:=this
   omega
  ·have:=h4.2 z hz
   simp only[y6,y5,not_and] at this |-
   intro hm
   have:=this hm
   show ¬ hasS (inS l x.I).1 acc z.B z.D x.I-b<z.C
   have h5:¬ hasS (inS l x.I).1 acc z.B z.D x.I-a<z.C:=this
   omega
theorem half {n:Int} (h:0<=n/\n<=2000000000000):i64.wrap ((IntKind.u64.wrap (i64.wrap n)).fdiv (2 ^ (min (1:Int).toNat IntKind.u64.bits)))=n / 2:=by
 rw[wrapId (n:=n) om om,z90 om om]
 rw[show (2:Int) ^ (min (1:Int).toNat IntKind.u64.bits)=2 from rfl]
 rw[show n.fdiv 2=n / 2 by rw[Int.fdiv_eq_ediv_of_nonneg]; omega]
 exact wrapId om om
section
variable {l:TLa} (he:errL l=0) {acc:List TTr} (ha:AcJ l acc) (x:TTr)
include he ha
theorem zg5 {ask:Bool} {dy fail:Int} {now:TLa} (hJ:ask=true->inS l dy=(now,fail)) :
  ∃ r,F_q17 1000000000000 x l ask dy now fail acc=some r/\(0<=r.1/\r.1<=1000000000000)/\(∀ m:Int,0<=m->m<r.1->codeS l acc (setA x (m+1))=0)/\∀ m:Int,r.1<=m->m<1000000000000->codeS l acc (setA x (m+1))≠0:=by
 obtain⟨st,e,h1,h2,h3⟩:=z1g (step:=fun s=>(S_q17_b1 acc s).den) (fun s=>(s.2.2.2.2.2.2.2-s.2.2.2.2.2.2.1).toNat)
  (fun s=>(∃ a,s.1=setA x a)/\s.2.1=l/\(s.2.2.1=true->inS l s.2.2.2.1=(s.2.2.2.2.1,s.2.2.2.2.2.1))/\(0<=s.2.2.2.2.2.2.1/\s.2.2.2.2.2.2.1<=s.2.2.2.2.2.2.2/\s.2.2.2.2.2.2.2<=1000000000000)/\(∀ m:Int,0<=m->m<s.2.2.2.2.2.2.1->codeS l acc (setA x (m+1))=0)/\∀ m:Int,s.2.2.2.2.2.2.2<=m->m<1000000000000->codeS l acc (setA x (m+1))≠0)
  (fun s=>(0<=s.2.2.2.2.2.2.1/\s.2.2.2.2.2.2.1<=1000000000000)/\(∀ m:Int,0<=m->m<s.2.2.2.2.2.2.1->codeS l acc (setA x (m+1))=0)/\∀ m:Int,s.2.2.2.2.2.2.1<=m->m<1000000000000->codeS l acc (setA x (m+1))≠0) (fun s ⟨⟨a,q1⟩,q2,q3,q4,q5,q6⟩=>by
   obtain⟨s0,l0,ask,dy,now,fail,i,j⟩:=s
   simp only at q1 q2 q3 q4 q5 q6
   subst q1 q2
   simp only[S_q17_b1,Scr.den]
   by_cases hk:i<j
   ·left
    rw[y4 (by simpa using hk),half om]
    have hw:i64.wrap ((i+j) / 2+1)=(i+j) / 2+1:=wrapId om om
    obtain⟨ask',dy',now',fail',e,hJ',_⟩:=z7e he q3 ha (setA x ((i+j) / 2+1))
    simp only[F_q3o,S_q3o,Scr.den,hw]
    rw[show (⟨(setA x a).F,(setA x a).I,(setA x a).D,(setA x a).U,(setA x a).L,(setA x a).V,(i+j) / 2+1⟩:TTr)=setA x ((i+j) / 2+1) from rfl,e]
    simp only[obind]
    by_cases hc:codeS l0 acc (setA x ((i+j) / 2+1))=0
    ·rw[y4 (by simpa using hc)]
     refine⟨_,rfl,⟨⟨_,rfl⟩,rfl,hJ',by simp only; omega,fun m h0 hm=>?_,q6⟩,by simp only; omega⟩
     exact zan hc ⟨om,by simp only at hm; omega⟩
    ·rw[y3 (by simpa using hc)]
     refine⟨_,rfl,⟨⟨_,rfl⟩,rfl,hJ',by simp only; omega,q5,fun m h0 hm hz=>?_⟩,by simp only; omega⟩
     exact hc (zan hz ⟨om,by simp only at h0; omega⟩)
   ·right
    rw[y3 (by simpa using hk)]
    have:i=j:=om
    subst this
    exact⟨_,rfl,by simp only; omega,q5,q6⟩) _ (x,l,ask,dy,now,fail,0,1000000000000) (y2y _)
  ⟨⟨x.C,rfl⟩,rfl,hJ,sj,fun m h0 hm=>absurd hm (by simp only; omega),fun m h0 hm=>absurd hm (by simp only at h0; omega)⟩
 simp only[F_q17,S_q17,Scr.den,e,outM]
 exact⟨_,rfl,h1,h2,h3⟩
end
theorem zdi (he:errL l=0) {L:List TTr} (hl:L.length<=59) (hs:L.Pairwise ltT) (x:TTr) (hx:∀ a∈L,ltT a x) :
  ∃ n,F_q1v l L x=some (n,0)/\0<=n/\∀ y:Int,y<=1000000000001->(codeS l (runJ l L).1 (setA x y)=0↔1<=y/\y<=n):=by
 obtain⟨ask,dy,now,fail,e,hJ⟩:=zk2 he om hs
 obtain⟨a,b,c,_⟩:=z35 l L
 obtain⟨r,e2,h1,h2,h3⟩:=zg5 he ⟨om,c⟩ x hJ
 simp only[F_q1v,S_q1v,Scr.den,e,z7f,obind]
 rw[Option.isSome_some,y4 rfl,z3 ⟨rfl,trivial⟩,z4q,obind]
 simp only[zb]
 have w:0<L.length->i64.wrap ((L.length:Int)-1)=((L.length-1:Nat):Int):=fun h=>wp h om
 have hi0:AllP [decide ((L.length:Int)>0)=true]->0<L.length:=fun h=>by have:=h.1; simp at this; omega
 rw[z3 ⟨fun h=>by rw[w (hi0 h)]; omega,fun h=>by have:=hi0 h; rw[w (hi0 h),yg]; omega,trivial⟩]
 have hb:(decide ((L.length:Int)>0)&&decide ((@ite Int (AllP [decide ((L.length:Int)>0)=true]) (Classical.propDecidable _) (orE [cmpI (L.getD (i64.wrap ((L.length:Int)-1)).toNat dF).I x.I,cmpI (L.getD (i64.wrap ((L.length:Int)-1)).toNat dF).F x.F]) dF)>=0))=false:=by
  by_cases h0:0<L.length
  ·have hd:decide ((L.length:Int)>0)=true:=sk
   rw[y4 ⟨hd,trivial⟩,w h0,yg,z7g (hx _ (z4 om)),y3z]
  ·rw[y24 (show ¬ (L.length:Int)>0 from om),y37]
 rw[hb,y3 sj,y3 sk,e2,obind]
 refine⟨r.1,rfl,h1.1,fun y hy=>?_⟩
 constructor
 ·intro h
  have hp:=(z22.1 (z63 h)).2.2.2.1
  have hp':1<=y/\y<=1000000000000:=hp
  refine⟨hp'.1,?_⟩
  rcases Int.lt_or_le r.1 y with h' | h'
  ·exact absurd (by rw[show y-1+1=y from om]; exact h) (h3 (y-1) om om)
  ·exact h'
 ·rintro⟨k1,k2⟩
  have:=h2 (y-1) om om
  rwa [show y-1+1=y from om] at this
end Go.Proofs.YtljnmhapbonmfaaGreatDoor
/- The law TransferRoom. No condition. -/
namespace Go.Proofs.YtljnmhapbonmfaaGreatDoor
open Go Go.TA
open Go.IntKind (i64)
attribute [-simp] List.getD_eq_getElem?_getD
def pw:TLa:=⟨0,1,[⟨[49],[97]⟩,⟨[49,46,49],[98]⟩,⟨[50],[99]⟩],[⟨[49,46,49],0,500⟩,⟨[50],0,100⟩],[],[],[],[],[⟨1,[49],[50],10⟩],[]⟩
def px:TTr:=⟨1,0,0,1,[49,46,49],[50],0⟩
def pt:List TTr:=[⟨1,0,0,1,[49,46,49],[50],50⟩,⟨2,0,0,1,[49,46,49],[50],1⟩]
theorem pw0:errL pw=0:=kj
theorem pw1:(runJ pw pt).2=[0,13]:=kj
theorem pw2:codeS pw [] (setA px 50)=0:=kj
theorem pw3:codeS pw [] (setA px 51)=13:=kj
theorem zhr:F_q2b=some true:=by
 have hp:pt.Pairwise ltT:=y3d.2 ⟨fun b hb=>by obtain rfl:=y14.1 hb; exact .inr ⟨rfl,dk⟩,y2l _ _⟩
 have e1:F_q2a pw pt=some ([0,13],0):=by rw[zg3 pw0 dk hp,pw1]
 obtain⟨n,e2,h0,h1⟩:=zdi pw0 (L:=[]) sj y3y px sj
 have hn:n=50:=by
  have a:=(h1 50 om).1 pw2
  have b:=fun h=>(h1 51 om).2 h
  rcases Int.lt_or_le n 51 with c | c
  ·omega
  ·have:=b ⟨om,c⟩
   rw[show (runJ pw []).1=[] from rfl,pw3] at this
   cases this
 subst hn
 have e0:F_q3p=some pw:=rfl
 simp only[F_q2b,S_q2b,Scr.den,e0,obind]
 rw[show ([(⟨1,0,0,1,[49,46,49],[50],50⟩:TTr),⟨2,0,0,1,[49,46,49],[50],1⟩]:List TTr)=pt from rfl,show (⟨1,0,0,1,[49,46,49],[50],0⟩:TTr)=px from rfl,e1,obind,e2,obind,z3 ⟨fun _=>dk,fun _=>dk,trivial⟩]
 rfl
theorem TL.room {l:TLa} {L:List TTr} (h:TL l L) {x:TTr} (hx:∀ a∈L,ltT a x):(L++[x]).Pairwise ltT:=by
 rw[y30]
 refine⟨h.so,y2l _ _,fun a ha b hb=>?_⟩
 obtain rfl:=y14.1 hb
 exact hx a ha
theorem z7j (a:List Int):F_qt a=some true:=by
 obtain⟨s0,e0,o0⟩:=zh0 a
 obtain⟨l,s1,e1,o1,hl⟩:=zee o0
 obtain⟨L,s2,e2,o2,hlen,hL⟩:=z9p hl (n:=5) om o1
 obtain⟨ru,s3,e3,o3,r1,r2⟩:=z3c (lo:=1) (hi:=3) o2 om om om
 obtain⟨fr,s4,e4,o4,hfr⟩:=hl.t5.Leaf o3
 obtain⟨to,s5,e5,o5,hto⟩:=hl.t5.Leaf o4
 have hf:=hl.fi; have hy:=hl.ye
 have he:=hl.ml.ok
 simp only[F_qt,S_qt,Scr.den,e0,e1,e2,e3,e4,e5,obind]
 have wy:i64.wrap (i64.wrap (l.G+l.H)-1)=l.G+l.H-1:=by rw[wrapId (n:=l.G+l.H) om om,wrapId om om]
 have fin:∀ (s:TTape) (d:Int),(∀ z∈L,z.I<=d) ->
   ((F_q1v l L ⟨90,d,l.G+l.H-1,ru,fr,to,0⟩).bind fun r=>if (r.2 != 0||decide (r.1<0))=true then some false else outM (rangeM (fun i s=>(S_qt_b1 (l,s1) (L,s2) r i s).den) 3 0 (⟨90,d,l.G+l.H-1,ru,fr,to,0⟩:TTr)) (fun _=>(F_q2b).bind fun r=>some r) (fun x=>some (id x)))=some true:=fun s d hd=>by
  have hx:∀ (v:Int),∀ z∈L,ltT z ⟨90,d,l.G+l.H-1,ru,fr,to,v⟩:=fun v z hz=>by
   have:=hd z hz
   have:=hL.nu z hz
   unfold ltT; simp only; omega
  obtain⟨n,e6,n0,hn⟩:=zdi he om hL.so ⟨90,d,l.G+l.H-1,ru,fr,to,0⟩ (hx 0)
  have hn1:n<=1000000000000:=by
   rcases Int.lt_or_le 1000000000000 n with c | c
   ·have:=(z22.1 (z63 ((hn 1000000000001 om).2 ⟨om,om⟩))).2.2.2.1
    have:(1000000000001:Int)<=1000000000000:=this.2
    omega
   ·exact c
  rw[e6,obind,y3 sk]
  have wn:i64.wrap (n+1)=n+1:=wrapId om om
  have wl:i64.wrap ((L.length:Int)+1)=(L.length:Int)+1:=wrapId om om
  obtain⟨s',e7,_⟩:=zq (body:=fun i s=>(S_qt_b1 (l,s1) (L,s2) (n,0) i s).den) (n:=3) (fun _ s=>∃ v,s=(⟨90,d,l.G+l.H-1,ru,fr,to,v⟩:TTr)) (s0:=⟨90,d,l.G+l.H-1,ru,fr,to,0⟩) ⟨_,rfl⟩ (fun i s hi ⟨v,hv⟩=>by
   subst hv
   obtain⟨y,hyv⟩:∃ y,y=([n,i64.wrap (n+1),1]:List Int).getD i dF:=⟨_,rfl⟩
   have hy3:y=n\/y=n+1\/y=1:=by
    rw[hyv,wn]
    match i,hi with
    | 0,_=>left; rfl
    | 1,_=>right; left; rfl
    | 2,_=>right; right; rfl
   simp only[S_qt_b1,Scr.den,zi,zb]
   rw[<- hyv]
   have hJ:=zhq he (L:=L++[⟨90,d,l.G+l.H-1,ru,fr,to,y⟩]) (by simp only[yh,ym]; omega) (hL.room (hx y))
   obtain⟨_,b,_⟩:=z35 l L
   rw[hJ,obind,z4r]
   simp only[stepJ]
   have hlast:((runJ l L).2++[codeS l (runJ l L).1 (⟨90,d,l.G+l.H-1,ru,fr,to,y⟩:TTr)]).getD L.length dF=codeS l (runJ l L).1 ⟨90,d,l.G+l.H-1,ru,fr,to,y⟩:=by
    rw[<- b]
    simp only[List.getD_eq_getElem?_getD,List.getElem?_concat_length,y3a]
   rw[Gb,z3 ⟨fun _=>by rw[yh,ym,b]; omega,trivial⟩]
   simp only[hlast]
   rw[wl,yh,ym,b]
   have hc:=hn y om
   have hb:((codeS l (runJ l L).1 (⟨90,d,l.G+l.H-1,ru,fr,to,y⟩:TTr))==0)=(decide (y>=1)&&decide (y<=n)):=by
    rw[y1r,y12,y6,y5,y5]
    exact hc
   rw[hb,y3 sj]
   exact⟨_,rfl,y,rfl⟩)
  rw[e7]
  simp only[outM,zhr,obind]
 by_cases h0:0<L.length
 ·rw[y4 sk]
  obtain⟨v,s6,e6,o6,l6,u6⟩:=zk (n:=20) o5 om om
  have w:i64.wrap ((L.length:Int)-1)=((L.length-1:Nat):Int):=wp h0 om
  have hlast:=hL.ok _ (z4 (show L.length-1<L.length from om))
  have hld:=hlast.da
  simp only[e6,obind,w,yg]
  rw[Gb]
  simp only[outM,wy]
  rw[wrapId (n:=(L.getD (L.length-1) dF).I+v) om om]
  refine fin s6 _ fun z hz=>?_
  obtain⟨i,hi,rfl⟩:=y35 hz
  have:L[i].I<=(L.getD (L.length-1) dF).I:=by
   by_cases e:i=L.length-1
   ·rw[ze om]; subst e; exact Int.le_refl _
   ·rw[ze om]
    exact y1p.1 hL.dd i (L.length-1) hi om om
  omega
 ·rw[y3 (by rw[y5]; omega)]
  have:L=[]:=y1o.1 om
  simp only[outM,wy]
  exact fin s5 _ fun z hz=>by rw[this] at hz; cases hz
end Go.Proofs.YtljnmhapbonmfaaGreatDoor
