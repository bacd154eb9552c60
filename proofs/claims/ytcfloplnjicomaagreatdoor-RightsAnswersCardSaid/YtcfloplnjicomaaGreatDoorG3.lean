/- A part of the proof: what the functions compute, and that their calls return it. No condition. -/
import Derived.Test.YtcfloplnjicomaaGreatDoorT6
import Derived.Lib.AppendZerosOnto
import Derived.Test.YtcfloplnjicomaaGreatDoorProg
import Derived.Test.YtcfloplnjicomaaGreatDoorT4
import Derived.Test.YtcfloplnjicomaaGreatDoorG2
/- slices.Insert of one element. No condition. -/
namespace Go.Proofs.YtcfloplnjicomaaGreatDoor
namespace Ins61
open Go Go.TA
open Go.IntKind (i64)
def cL:Code->Code
 | .seq x _=>x
 | _=>.skip
def cR:Code->Code
 | .seq _ y=>y
 | _=>.skip
def cT:Code->Code
 | .cond _ x _=>x
 | _=>.skip
noncomputable def regOps:Code->Array Oper
 | .region _ ops _=>ops
 | _=>#[]
noncomputable def opAt (ops : Array Oper) (i : Nat) : Oper := (ops[i]?).getD { dst := none, op := .move (.tmp 0), type := 0, pos := "", after := #[], guard := none }
noncomputable def ci:Code:=Tryz.f61.body.getD .skip
noncomputable def R0:Code:=cL ci
noncomputable def R1:Code:=cL (cR ci)
noncomputable def R2:Code:=cL (cR (cR ci))
noncomputable def X3:Code:=cL (cR (cR (cR ci)))
noncomputable def R5:Code:=cL (cR (cR (cR (cR ci))))
noncomputable def X6:Code:=cL (cR (cR (cR (cR (cR ci)))))
noncomputable def T8:Code:=cR (cR (cR (cR (cR (cR ci)))))
noncomputable def R8:Code:=cL (cL T8)
noncomputable def B9:Code:=cT (cR (cL T8))
noncomputable def R9:Code:=cL B9
noncomputable def B10:Code:=cR B9
noncomputable def C13:Code:=cR T8
theorem zhq:Tryz.f61.body=some (.seq R0 (.seq R1 (.seq R2 (.seq (.seq (cL X3) (.cond (.tmp 16) (cT (cR X3)) .skip)) (.seq R5 (.seq (.seq (cL X6) (.cond (.tmp 22) (cT (cR X6)) .skip)) (.seq (.seq R8 (.cond (.tmp 31) (.seq R9 B10) .skip)) C13))))))):=kj
theorem zjr:R8 = .region 8 (regOps R8) false:=kj
theorem zjs:R9 = .region 9 (regOps R9) false:=kj
variable {i zn:Nat} {a:Act} {Q:Exit->Act->World->Prop} {X:Nat->Prop} {ms:Blocks} {w:World}
section
variable {α:Type} [Inhabited α] {e:α->DV}
def gB (e:α->DV) (l:List α) (i:Nat):Nat->AV:=fun j=>if j<i then .d (e (l.getD j dF)) else garb 7
noncomputable def sB (l:List α) (x:α) (i:Nat) (n1:(0:Int)<=i) (h1:i<=l.length+1) (w0:0<=i64.wrap ((i:Int)+1)) (w1:(i64.wrap ((i:Int)+1)).toNat<=l.length+1) (h2:i<=l.length)
  (hx:∀ k,k<1->(AV.d (e ([x].getD (0+k) dF))).wd=7) (hl:∀ k,k<l.length-i->(AV.d (e (l.getD (0+i+k) dF))).wd=7)
  (ho:OLe (.seq 7 (l.length+1) fun j=>if 0+(i64.wrap ((i:Int)+1)).toNat<=j/\j<0+(i64.wrap ((i:Int)+1)).toNat+min (l.length-i) (l.length+1-(i64.wrap ((i:Int)+1)).toNat) then .d (e (l.getD (0+i+(j-(0+(i64.wrap ((i:Int)+1)).toNat))) dF))
   else if 0+i<=j/\j<0+i+min 1 (l.length+1-i) then .d (e ([x].getD (0+(j-(0+i))) dF)) else gB e l i j) (eS 7 e (insL l i x))):SC Unit Unit :=
 .reg 10 [] [] [.pf n1,.pf h1,.pf (y27 (l.length+1)),.pf (y27 1),.pf (y27 (l.length+1)),.pf hx] <|
 .reg 11 [8] [(8,{ obs:=[(2,eS 7 e (insL l i x))] })] [.pf w0,.pf w1,.pf (y27 (l.length+1)),.pf n1,.pf h2,.pf (y27 l.length),.pf (y27 l.length),.pf (y27 (l.length+1)),.pf hl,.pf ho] <|
 .ret [] ()
def frI (n i:Nat) (s:AV):Fr:=[(7,.d (.i .i64 1)),(8,.d (.i .i64 (n:Int))),(2,.ref 1 1 0 1),(1,.d (.i .i64 (i:Int))),(0,s)]
theorem tailB (he:∀ x,(e x).wd=7) {l:List α} {x:α} (hi:i<l.length) (hl:l.length<100000000000000) :
  AW none Tryz.prog Tryz.f61.ntmps B10 (fun e1 fr L=>e1 = .ret/\FR Tryz.prog Tryz.f61 (.ref 2 (l.length+1) 0 (l.length+1)) [eS 7 e l,eS 7 e [x],eS 7 e (insL l i x)] fr L)
   ((9,.ref 2 (l.length+1) 0 (l.length+1)) :: frI l.length i (.ref 0 l.length 0 l.length)) [eS 7 e l,eS 7 e [x],.seq 7 (l.length+1) (gB e l i)]:=by
 have hw:i64.wrap ((i:Int)+1)=(i:Int)+1:=by rw[z2k] <;> omega
 exact pTailR (ρ:=Unit) (V:=fun _=>.ref 2 (l.length+1) 0 (l.length+1)) (Lr:=fun _=>[eS 7 e l,eS 7 e [x],eS 7 e (insL l i x)]) (r:=())
  (s:=sB (e:=e) l x i om om (by rw[hw]; omega) (by rw[hw]; omega) om (fun k _=>he _) (fun k _=>he _) (by
   rw[hw]
   refine z2s zt.symm fun j hj=>?_
   rw[z1w om,show ((i:Int)+1).toNat=i+1 from om]
   by_cases h1:j<i
   ·rw[ya om,ya om,yb h1,gB,yb h1]
   ·by_cases h2:j=i
    ·subst h2
     rw[ya om,yb om,ya h1,yb rfl,show 0+(j-(0+j))=0 from om]
     rfl
    ·rw[yb om,ya h1,ya h2]
     congr 3; omega)) kj rfl
def gC (e:α->DV) (l:List α):Nat->AV:=fun j=>if j<l.length then .d (e (l.getD j dF)) else garb 7
noncomputable def sC (l:List α) (x:α) (i:Nat) (a0:(0:Int)<=i64.wrap ((l.length:Int)+1)) (a1:(i64.wrap ((l.length:Int)+1)).toNat<=l.length+1) (a2:(i64.wrap ((l.length:Int)+1)).toNat=l.length+1)
  (w0:(0:Int)<=i64.wrap ((i:Int)+1)) (w1:(i64.wrap ((i:Int)+1)).toNat<=l.length+1) (n1:(0:Int)<=i) (h1:i<=l.length+1)
  (hx:ExtOk Tryz.prog 87 [.ref 1 1 0 1,.ref 0 (l.length+1) (0+(i64.wrap ((i:Int)+1)).toNat) (l.length+1-(i64.wrap ((i:Int)+1)).toNat)] [.seq 7 (l.length+1) (gC e l),eS 7 e [x]] (.d (.b false)))
  (hg:∀ k,k<l.length+1-i->(gC e l (0+i+k)).wd=7) (hy:∀ k,k<1->(AV.d (e ([x].getD (0+k) dF))).wd=7)
  (ho:OLe (.seq 7 (l.length+1) fun j=>if 0+i<=j/\j<0+i+min 1 (l.length+1-i) then .d (e ([x].getD (0+(j-(0+i))) dF))
   else if 0+(i64.wrap ((i:Int)+1)).toNat<=j/\j<0+(i64.wrap ((i:Int)+1)).toNat+min (l.length+1-i) (l.length+1-(i64.wrap ((i:Int)+1)).toNat) then gC e l (0+i+(j-(0+(i64.wrap ((i:Int)+1)).toNat)))
   else gC e l j) (eS 7 e (insL l i x))):SC Unit Unit :=
 .reg 13 [] [] [.pf a0,.pf a1,.pf (y27 (l.length+1))] <|
 .cst (A:=(i64.wrap ((l.length:Int)+1)).toNat=l.length+1) (.pf a2) [(0,.ref 0 (l.length+1) (0+0) ((i64.wrap ((l.length:Int)+1)).toNat-0)),(1,.d (.i .i64 (i:Int))),(2,.ref 1 1 0 1),(7,.d (.i .i64 1))]
  [(0,.ref 0 (l.length+1) 0 (l.length+1)),(1,.d (.i .i64 (i:Int))),(2,.ref 1 1 0 1),(7,.d (.i .i64 1))]
  [.seq 7 (l.length+1) (gC e l),eS 7 e [x]] [.seq 7 (l.length+1) (gC e l),eS 7 e [x]] (fun h=>⟨by rw[h]; rfl,rfl⟩) <|
 .reg 14 [] [(6,{ h:=.callr (.d (.b false)) })] [.pf w0,.pf w1,.pf (y27 (l.length+1)),.pf hx] <|
 .br true (.pf (p:=(!false)=true) rfl) <|
 .reg 15 [8] [] [.pf w0,.pf w1,.pf (y27 (l.length+1)),.pf n1,.pf h1,.pf (y27 (l.length+1)),.pf (y27 (l.length+1)),.pf (y27 (l.length+1)),.pf hg] <|
 .reg 16 [] [(4,{ obs:=[(0,eS 7 e (insL l i x))] })] [.pf n1,.pf h1,.pf (y27 (l.length+1)),.pf (y27 1),.pf (y27 (l.length+1)),.pf hy,.pf ho] <|
 .reg 17 [] [] [] <|
 .ret [] ()
theorem tailC (he:∀ x,(e x).wd=7) {l:List α} {x:α} (hi:i<l.length) (hl:l.length<100000000000000) :
  AW none Tryz.prog Tryz.f61.ntmps C13 (FQ Tryz.prog Tryz.f61 (.ref 0 (l.length+1) 0 (l.length+1)) [eS 7 e (insL l i x),eS 7 e [x]])
   (frI l.length i (.ref 0 (l.length+1) 0 l.length)) [.seq 7 (l.length+1) (gC e l),eS 7 e [x]]:=by
 have hw:i64.wrap ((i:Int)+1)=(i:Int)+1:=by rw[z2k] <;> omega
 have hw2:i64.wrap ((l.length:Int)+1)=(l.length:Int)+1:=by rw[z2k] <;> omega
 have hwd:∀ k,(gC e l k).wd=7:=fun k=>by
  unfold gC
  split
  ·exact he _
  ·rfl
 exact pTailG (ρ:=Unit) (V:=fun _=>.ref 0 (l.length+1) 0 (l.length+1)) (Lr:=fun _=>[eS 7 e (insL l i x),eS 7 e [x]]) (r:=())
  (s:=sC (e:=e) l x i (by rw[hw2]; omega) (by rw[hw2]; omega) (by rw[hw2]; omega) (by rw[hw]; omega) (by rw[hw]; omega) om om
   (zda (fn:=Tryz.f87) (tR:=4) (te:=27) (sz:=7) (z1:=7) (z2:=7) Tryz.func87 kj kj kj kj Tryz.underlying23 Tryz.sizeOf27 dk rfl rfl dk rfl (by rw[hw]; omega) (by rw[hw]; omega) dk)
   (fun k _=>hwd _) (fun k _=>he _) (by
   rw[hw]
   refine z2s zt.symm fun j hj=>?_
   rw[z1w om,show ((i:Int)+1).toNat=i+1 from om]
   by_cases h2:j=i
   ·subst h2
    rw[yb om,ya om,yb rfl,show 0+(j-(0+j))=0 from om]
    rfl
   ·rw[ya om,ya h2]
    by_cases h1:j<i
    ·rw[ya om,yb h1,gC,yb om]
    ·rw[yb om,ya h1,gC,yb om]
     congr 3; omega)) kj rfl
theorem z3r {c:Cx} {G:GFr} {t:Nat} {v:AV} (hf:FrIs c G a.tmps) (h:(t,[],v)∈G):AV.IsV c v (a.tmps.getD t undef):=(hf _ h).2.1 (fun z hz=>by cases hz)
theorem zjt {l:List α} {x:α} (h0:0<l.length) (hr:Rel X ms [eS 7 e l,eS 7 e [x]] w) (hf:FrIs (cxOf X ms [eS 7 e l,eS 7 e [x]] w) (frI l.length i (.ref 0 l.length 0 l.length)).up a.tmps) (hN:a.tmps.size=Tryz.f61.ntmps) (hQ:∀ a' ms' w' b tc,Rel X ms' [eS 7 e l,eS 7 e [x]] w'->Ext ms w ms' w'->(cxOf X ms [eS 7 e l,eS 7 e [x]] w).le (cxOf X ms' [eS 7 e l,eS 7 e [x]] w')->FrIs (cxOf X ms' [eS 7 e l,eS 7 e [x]] w') (frI l.length i (.ref 0 l.length 0 l.length)).up a'.tmps ->
   a'.tmps.size=Tryz.f61.ntmps->a'.defers=a.defers->ms'[0]? = some (some (b,tc))->l.length<=tc->a'.eval (.tmp 0) = .slice (some ⟨b,0,none⟩) l.length tc->a'.eval (.tmp 31) = .bool (decide (i64.wrap ((l.length:Int)+1)>(tc:Int)))->Q .normal a' w') :
  R8.wpIn (fenceOf none) zn Tryz.prog Q a w:=by
 rw[zjr]
 refine y4g ?_
 rw[show List.range (regOps R8).size=[0,1,2,3]++[4,5] from kj]
 refine zb6 (hs:=[]) (C:=[]) (L1:=[eS 7 e l,eS 7 e [x]]) (G1:=[(29,[],.ref 0 l.length 0 l.length),(28,[],.d (.i .i64 (i64.wrap ((l.length:Int)+1)))),(27,[],.d (.i .i64 1)),(26,[],.d (.i .i64 (l.length:Int))),
  (7,[],.d (.i .i64 1)),(8,[],.d (.i .i64 (l.length:Int))),(2,[],.ref 1 1 0 1),(1,[],.d (.i .i64 (i:Int))),(0,[],.ref 0 l.length 0 l.length)]) kj trivial hr hf hN fun a1 ms1 w1 r1 e1 c1 f1 n1 d1=>?_
 have k1:=IsV.is1 rfl sj sj (z3r f1 (t:=29) (v:=.ref 0 l.length 0 l.length) sj)
 have k0:=IsV.is1 rfl sj sj (z3r f1 (t:=0) (v:=.ref 0 l.length 0 l.length) sj)
 have at0:∀ {t:Nat} {v:Value},a1.tmps.getD t undef=v->AV.Is (cxOf X ms1 [eS 7 e l,eS 7 e [x]] w1) (.ref 0 l.length 0 l.length) [v]->∃ b tc,ms1[0]? = some (some (b,tc))/\l.length<=tc/\v = .slice (some ⟨b,0,none⟩) l.length tc:=fun {t v} _ h=>by
  cases h with
  | ref _ _ _ _ _ h =>
  obtain⟨_,⟨_,_,rfl⟩,_,h⟩:=h
  obtain⟨_,h⟩:=h 7 _ rfl
  rcases h with ⟨_,_,h⟩ | ⟨h,_⟩ | ⟨b,tc,m,h1,h2⟩
  ·simp only[y2o] at h; omega
  ·exact absurd rfl h
  ·exact⟨b,tc,m,h1,by simpa using h2⟩
 obtain⟨b,tc,m1,hle,h29⟩:=at0 rfl k1
 obtain⟨b',tc',m1',_,h0'⟩:=at0 rfl k0
 have e1':=m1'.symm.trans m1
 cases e1'
 refine zdo (o:=opAt (regOps R8) 4) kj kj (OpOk.value (zii (x:=.tmp 29) (t:=23) kj Tryz.underlying23 h29) ?_)
 rw[show (opAt (regOps R8) 4).dst=some 30 from kj]
 obtain⟨p1,p2,p3⟩:=z3m (dst:=some 30) (ch:=[]) (v:=.d (.i .i64 (tc:Int))) (u:=.int .i64 tc) (G:=[(29,[],.ref 0 l.length 0 l.length),(28,[],.d (.i .i64 (i64.wrap ((l.length:Int)+1)))),(27,[],.d (.i .i64 1)),(26,[],.d (.i .i64 (l.length:Int))),
  (7,[],.d (.i .i64 1)),(8,[],.d (.i .i64 (l.length:Int))),(2,[],.ref 1 1 0 1),(1,[],.d (.i .i64 (i:Int))),(0,[],.ref 0 l.length 0 l.length)]) (G1:=(30,[],.d (.i .i64 (tc:Int))) :: [(29,[],.ref 0 l.length 0 l.length),(28,[],.d (.i .i64 (i64.wrap ((l.length:Int)+1)))),(27,[],.d (.i .i64 1)),(26,[],.d (.i .i64 (l.length:Int))),
  (7,[],.d (.i .i64 1)),(8,[],.d (.i .i64 (l.length:Int))),(2,[],.ref 1 1 0 1),(1,[],.d (.i .i64 (i:Int))),(0,[],.ref 0 l.length 0 l.length)]) (N:=Tryz.f61.ntmps) kj n1 f1 (fun _=>.one _ _ rfl (.d _ _ (.i _ _))) (fun h=>absurd (fun z hz=>by cases hz) h)
 refine z1t (hs:=[]) none zn [5] _ _ ([(31,[],.d (.b (decide (i64.wrap ((l.length:Int)+1)>(tc:Int)))))]++(30,[],.d (.i .i64 (tc:Int))) :: [(29,[],.ref 0 l.length 0 l.length),(28,[],.d (.i .i64 (i64.wrap ((l.length:Int)+1)))),(27,[],.d (.i .i64 1)),(26,[],.d (.i .i64 (l.length:Int))),
  (7,[],.d (.i .i64 1)),(8,[],.d (.i .i64 (l.length:Int))),(2,[],.ref 1 1 0 1),(1,[],.d (.i .i64 (i:Int))),(0,[],.ref 0 l.length 0 l.length)]) [eS 7 e l,eS 7 e [x]] [] ms1 w1 _ kj trivial r1 p1 p2 fun a2 ms2 w2 r2 e2 c2 f2 n2 d2=>?_
 have m2:ms2[0]? = some (some (b,tc)):=by
  obtain⟨_,h1,_,_,h2⟩:=c2.ob 0 (eS 7 e l) (by simp[cxOf]) rfl (by simp[eS,Ob.stamp])
  obtain rfl:_=eS 7 e l:=y10 h1.symm
  exact (h2 rfl).trans m1
 have k0':=IsV.is1 rfl sj sj (z3r f2 (t:=0) (v:=.ref 0 l.length 0 l.length) sj)
 have h0'':a2.tmps.getD 0 undef = .slice (some ⟨b,0,none⟩) l.length tc:=by
  generalize a2.tmps.getD 0 undef=v at k0'
  cases k0' with
  | ref _ _ _ _ _ h =>
  obtain⟨_,⟨_,_,rfl⟩,_,h⟩:=h
  obtain⟨_,h⟩:=h 7 _ rfl
  rcases h with ⟨_,_,h⟩ | ⟨h,_⟩ | ⟨b'',tc'',m,h1,h2⟩
  ·simp only[y2o] at h; omega
  ·exact absurd rfl h
  ·have e:=m2.symm.trans m
   cases e
   simpa using h2
 exact hQ a2 ms2 w2 b tc r2 (e1.trans e2) (c1.trans c2) (fun q hq=>f2 q (by
  simp only[frI,Fr.up,y2q,List.map_nil,yy,y26,y3c] at hq
  rcases hq with rfl | rfl | rfl | rfl | rfl <;> simp)) n2 (d2.trans (p3.trans d1)) m2 hle h0'' (IsV.b (z3r f2 (t:=31) (v:=.d (.b (decide (i64.wrap ((l.length:Int)+1)>(tc:Int))))) sj))
theorem zju {l:List α} {x:α} (hi:i<l.length) (hl:(l.length+1) * (4 * 128)<=2 ^ 48) {b:Nat} (hr:Rel X ms [eS 7 e l,eS 7 e [x]] w) (hf:FrIs (cxOf X ms [eS 7 e l,eS 7 e [x]] w) (frI l.length i (.ref 0 l.length 0 l.length)).up a.tmps) (hN:a.tmps.size=Tryz.f61.ntmps) (hm:ms[0]? = some (some (b,l.length))) (hQ:∀ a' ms' w',Rel X ms' [eS 7 e l,eS 7 e [x],.seq 7 (l.length+1) (gB e l i)] w'->Ext ms w ms' w'->(cxOf X ms [eS 7 e l,eS 7 e [x]] w).le (cxOf X ms' [eS 7 e l,eS 7 e [x],.seq 7 (l.length+1) (gB e l i)] w') ->
   FrIs (cxOf X ms' [eS 7 e l,eS 7 e [x],.seq 7 (l.length+1) (gB e l i)] w') (Fr.up ((9,.ref 2 (l.length+1) 0 (l.length+1)) :: frI l.length i (.ref 0 l.length 0 l.length))) a'.tmps ->
   a'.tmps.size=Tryz.f61.ntmps->a'.defers=a.defers->Q .normal a' w') :
  R9.wpIn (fenceOf none) zn Tryz.prog Q a w:=by
 have hn:l.length<100000000000000:=om
 have hw2:i64.wrap ((l.length:Int)+1)=(l.length:Int)+1:=by rw[z2k] <;> omega
 have hw3:i64.wrap (i64.wrap ((l.length:Int)+1)-(i:Int))=((l.length+1-i:Nat):Int):=by rw[hw2,z2k] <;> omega
 rw[zjs]
 refine y4g ?_
 rw[show List.range (regOps R9).size=[0,1,2,3,4,5,6,7]++[8,9] from kj]
 refine zb6 (hs:=[]) (C:=[(0:Int)<=(i:Int),i<=l.length,l.length=l.length]) (L1:=[eS 7 e l,eS 7 e [x]]) (G1:=[(39,[],.d (.i .i64 (i64.wrap (i64.wrap ((l.length:Int)+1)-(i:Int))))),(38,[],.d (.i .i64 (i:Int))),(37,[],.d (.i .i64 (i64.wrap ((l.length:Int)+1)))),
  (36,[],.d (.i .i64 1)),(35,[],.d (.i .i64 (l.length:Int))),(34,[],.ref 0 l.length (0+0) (i-0)),(33,[],.d (.i .i64 (i:Int))),(32,[],.ref 0 l.length 0 l.length),
  (7,[],.d (.i .i64 1)),(8,[],.d (.i .i64 (l.length:Int))),(2,[],.ref 1 1 0 1),(1,[],.d (.i .i64 (i:Int))),(0,[],.ref 0 l.length 0 l.length)]) kj ⟨om,om,rfl,trivial⟩ hr hf hN fun a1 ms1 w1 r1 e1 c1 f1 n1 d1=>?_
 have m1:ms1[0]? = some (some (b,l.length)):=by
  obtain⟨_,h1,_,_,h2⟩:=c1.ob 0 (eS 7 e l) (by simp[cxOf]) rfl (by simp[eS,Ob.stamp])
  obtain rfl:_=eS 7 e l:=y10 h1.symm
  exact (h2 rfl).trans hm
 have k34:=IsV.is1 rfl sj sj (z3r f1 (t:=34) (v:=.ref 0 l.length (0+0) (i-0)) sj)
 have h34:a1.eval (.tmp 34) = .slice (some ⟨b,0,none⟩) i l.length:=by
  show a1.tmps.getD 34 undef=_
  generalize a1.tmps.getD 34 undef=v at k34
  cases k34 with
  | ref _ _ _ _ _ h =>
  obtain⟨_,⟨_,_,rfl⟩,_,h⟩:=h
  obtain⟨_,h⟩:=h 7 _ rfl
  rcases h with ⟨h,_⟩ | ⟨h,_⟩ | ⟨b'',tc'',m,h1,h2⟩
  ·have e:some (none:Option (Nat×Nat))=some (some (b,l.length)):=h.symm.trans m1
   cases e
  ·exact absurd rfl h
  ·have e:=m1.symm.trans m
   cases e
   simpa using h2
 have h39:a1.eval (.tmp 39) = .int .i64 ((l.length+1-i:Nat):Int):=by
  have:=IsV.i (z3r f1 (t:=39) (v:=.d (.i .i64 (i64.wrap (i64.wrap ((l.length:Int)+1)-(i:Int))))) sj)
  rw[hw3] at this
  exact this
 obtain⟨arr,ty,cs,g1,g2,g3,g4,g5,g6⟩:=r1.seq (o:=0) rfl m1
 obtain⟨info,hinf⟩:∃ info,Tryz.prog.info? 27=some info:=⟨_,Option.eq_some_of_isSome kj⟩
 have hsz:info.size=7:=by
  have:(Tryz.prog.info? 27).map (·.size)=some 7:=kj
  rw[hinf] at this; simpa using this
 have hby:info.bytes=128:=by
  have:(Tryz.prog.info? 27).map (·.bytes)=some 128:=kj
  rw[hinf] at this; simpa using this
 obtain⟨z,hz⟩:∃ z,info.zero=some z:=by
  have:((Tryz.prog.info? 27).bind (·.zero)).isSome=true:=kj
  rw[hinf] at this
  exact y2j.1 this
 have hzs:z.cells.size=7:=by
  have:((Tryz.prog.info? 27).bind (·.zero)).map (fun z=>z.cells.size)=some 7:=kj
  rw[hinf] at this
  simpa [hz] using this
 have hzone:∀ v∈z.cells.toList,v.oneCell'=true:=by
  have:((Tryz.prog.info? 27).bind (·.zero)).map (fun z=>z.cells.toList.all fun v=>v.oneCell')=some true:=kj
  rw[hinf] at this
  have h:z.cells.toList.all (fun v=>v.oneCell')=true:=by simpa [hz] using this
  exact y1f.1 h
 have hcsi:∀ k,k<i->(cs k).length=7:=fun k hk=>g5 k om
 have hold:(Builtin.firstCells info.size i (.slice (some ⟨b,0,none⟩) i l.length)).run Tryz.prog w1.drew = .ok ((List.range i).flatMap cs).toArray w1.drew:=by
  rw[hsz]
  exact z2p (w:=w1) (w1:=w1.drew) (off:=0) (cap:=l.length) rfl g1 hcsi (fun k hk j hj=>by simpa using g6 k om j hj) i
 have hfit:Builtin.nextslicecap (i+(l.length+1-i)) l.length * info.bytes<=281474976710656:=by
  have h1:=z5j (need:=i+(l.length+1-i)) (old:=l.length) om
  rw[hby]
  omega
 have hap:=Lib.run_append_grow_zeros (P:=Tryz.prog) w1 23 3 (opAt (regOps R9) 8).type 27 info z .i64 .i64 Tryz.underlying23 Tryz.underlying3 hinf hz (some ⟨b,0,none⟩) i l.length ((List.range i).flatMap cs) hold (l.length+1-i) om om om om (by rw[hby]; omega) hfit
 rw[show i+(l.length+1-i)=l.length+1 from om] at hap
 obtain⟨nc,hnc⟩:∃ nc,nc=grownCap w1 (l.length+1) l.length 27:=⟨_,rfl⟩
 have hge:=grownCap_ge w1 (l.length+1) l.length 27
 rw[<- hnc] at hap hge
 obtain⟨row,hrow⟩:∃ row:Array Value,row=((List.range i).flatMap cs).toArray++Builtin.zeroCells z.cells (l.length+1-i)++Builtin.zeroCells z.cells (nc-(l.length+1)):=⟨_,rfl⟩
 rw[<- hrow] at hap
 have hkl:=zd i 7 cs hcsi
 have hrs:row.size=nc * 7:=by
  rw[hrow,y32,y32,y1x,hkl,y3q,y3q,hzs]
  omega
 have hone:∀ v∈row.toList,v.oneCell'=true:=by
  rw[hrow]
  simp only[y2p,y2b]
  rintro v ((hv | hv) | hv)
  ·exact z24 (fun k (hk:k<i)=>g4 k om) v hv
  ·exact z2z hzone _ v hv
  ·exact z2z hzone _ v hv
 have hget:∀ k,k<i->∀ j,j<7->row[k * 7+j]? = (cs k)[j]? := fun k hk j hj=>by
  rw[hrow,<- y18]
  simp only[y2p,y2g]
  rw[yl (by rw[hkl]; omega)]
  exact zf? i 7 cs hcsi k j hk hj
 have hcl:∀ j,j<l.length+1->((row.toList.drop (j * 7)).take 7).length=7:=fun j hj=>by
  simp only[y2w,y3z,y1g,hrs]
  omega
 obtain⟨w2,hw⟩:∃ w2,w2=w1.drew.alloc (.cells row 27):=⟨_,rfl⟩
 rw[<- hw] at hap
 have hgrow:Grow w1 w2:=by rw[hw]; exact (Grow.drew w1).trans (Grow.alloc _ _)
 have hhp:w2.heap[w1.heap.size]? = some (.cells row 27 (0,0)):=by rw[hw]; exact z1u w1.drew _
 have hsize:w1.heap.size<w2.heap.size:=z98 hhp
 obtain⟨q1,q2,q3⟩:=r1.push (m:=some (w1.heap.size,nc)) (obj:=.seq 7 (l.length+1) (gB e l i)) hgrow (fun b tc e=>by cases e; exact⟨ye _,hsize⟩) (fun hcx=>by
  refine .inr ⟨w1.heap.size,nc,row,27,fun j=>if j<i then cs j else (row.toList.drop (j * 7)).take 7,by simp[cxOf,<- r1.len],hhp,hge,⟨hrs,hone⟩,fun j hj=>?_,fun j hj=>?_,fun j hj q hq=>?_⟩
  ·by_cases hji:j<i
   ·simp only[gB,yb hji]; exact (g4 j om).mono hcx
   ·simp only[gB,ya hji,garb]
    have:=zaj (c:=cxOf X (ms1++[some (w1.heap.size,nc)]) ([eS 7 e l,eS 7 e [x]]++[.seq 7 (l.length+1) (gB e l i)]) w2) (l:=(row.toList.drop (j * 7)).take 7) fun v hv=>hone v (y45 (y34 hv))
    rw[hcl j hj] at this
    exact .agg _ _ this
  ·by_cases hji:j<i
   ·simp only[yb hji]; exact g5 j om
   ·simp only[ya hji]; exact hcl j hj
  ·by_cases hji:j<i
   ·simp only[yb hji]; exact hget j hji q hq
   ·simp only[ya hji]
    rw[y1h hq,y2x,y18])
 have hexec:(execOp a1.eval (opAt (regOps R9) 8)).run Tryz.prog w1 = .ok (.value (.slice (some ⟨w1.heap.size,0,none⟩) (l.length+1) nc)) w2:=by
  have hop:(opAt (regOps R9) 8).op = .call ⟨.builtin .append,#[.tmp 34,.tmp 39],#[23,3]⟩:=kj
  generalize opAt (regOps R9) 8=o at hop hap
  obtain⟨dst,op,ty,pos,after,guard⟩:=o
  subst hop
  refine zu (s:=Builtin.append_ #[23,3] ty (#[.tmp 34,.tmp 39].map a1.eval)) ?_
  have ha:(#[.tmp 34,.tmp 39]:Array Operand).map a1.eval = #[.slice (some ⟨b,0,none⟩) i l.length,.int .i64 ((l.length+1-i:Nat):Int)]:=by
   simp[h34,h39]
  rw[ha]
  exact hap
 refine zdo (o:=opAt (regOps R9) 8) kj kj (OpOk.value hexec ?_)
 rw[show (opAt (regOps R9) 8).dst=some 40 from kj]
 obtain⟨p1,p2,p3⟩:=z3m (dst:=some 40) (ch:=[]) (v:=.ref 2 (l.length+1) 0 (l.length+1)) (u:=.slice (some ⟨w1.heap.size,0,none⟩) (l.length+1) nc) (G:=(frI l.length i (.ref 0 l.length 0 l.length)).up)
  (G1:=(40,[],.ref 2 (l.length+1) 0 (l.length+1)) :: (frI l.length i (.ref 0 l.length 0 l.length)).up) (N:=Tryz.f61.ntmps) kj n1 (fun q hq=>(f1.mono q3) q (by
  simp only[frI,Fr.up,y2q,List.map_nil,yy,y26,y3c] at hq
  rcases hq with rfl | rfl | rfl | rfl | rfl <;> simp)) (fun _=>z7t r1.len hge) (fun h=>absurd (fun z hz=>by cases hz) h)
 refine z1t (hs:=[]) none zn [9] _ _ ((9,[],.ref 2 (l.length+1) 0 (l.length+1)) :: (40,[],.ref 2 (l.length+1) 0 (l.length+1)) :: (frI l.length i (.ref 0 l.length 0 l.length)).up) [eS 7 e l,eS 7 e [x],.seq 7 (l.length+1) (gB e l i)] [] _ w2 _ kj trivial q1 p1 p2 fun a2 ms2 w3 r2 e2 c2 f2 n2 d2=>?_
 exact hQ a2 ms2 w3 r2 ((e1.trans q2).trans e2) ((c1.trans q3).trans c2) (fun q hq=>f2 q (by
  rcases yy.1 (show q∈(9,[],AV.ref 2 (l.length+1) 0 (l.length+1)) :: (frI l.length i (.ref 0 l.length 0 l.length)).up from hq) with hq | hq
  ·exact yy.2 (.inl hq)
  ·exact yy.2 (.inr (yy.2 (.inr hq))))) n2 (d2.trans (p3.trans d1))
theorem regc {N:Nat} {Q:Post} {fr fr' fr2:Fr} {L L':List Ob} {id:Nat} {c:Code} {C:List Prop} (hq:c = .region id (regOps c) false) (h:regionRun Tryz.prog (regOps c) N [] fr L=some (fr',L',C)) (hc:AllP C)
  (hm:∀ q∈fr2,q∈fr') (k:Q .normal fr2 L'):AW none Tryz.prog N c Q fr L:=by
 have:=zij (id:=id) (Q:=Q) h hc hm k
 rwa [<- hq] at this
theorem head (_he:∀ x,(e x).wd=7) {l:List α} {x:α} (hi:i<l.length) (Q:Post) (h:AW none Tryz.prog Tryz.f61.ntmps (.seq (.seq R8 (.cond (.tmp 31) (.seq R9 B10) .skip)) C13) Q (frI l.length i (.ref 0 l.length 0 l.length)) [eS 7 e l,eS 7 e [x]]) :
  AW none Tryz.prog Tryz.f61.ntmps (.seq R0 (.seq R1 (.seq R2 (.seq (.seq (cL X3) (.cond (.tmp 16) (cT (cR X3)) .skip)) (.seq R5 (.seq (.seq (cL X6) (.cond (.tmp 22) (cT (cR X6)) .skip)) (.seq (.seq R8 (.cond (.tmp 31) (.seq R9 B10) .skip)) C13))))))) Q
   (argFr [.ref 0 l.length 0 l.length,.d (.i .i64 (i:Int)),.ref 1 1 0 1] 0) [eS 7 e l,eS 7 e [x]]:=by
 have hne:((i:Int)==(l.length:Int))=false:=sk
 refine z3a (regc (L':=[eS 7 e l,eS 7 e [x]]) (id:=0) (C:=[]) (fr':=(6,.full 0 fun _=>.b false) :: argFr [.ref 0 l.length 0 l.length,.d (.i .i64 (i:Int)),.ref 1 1 0 1] 0) (fr2:=argFr [.ref 0 l.length 0 l.length,.d (.i .i64 (i:Int)),.ref 1 1 0 1] 0)
  kj kj trivial (fun q hq=>y1b _ hq) ?_)
 refine z3a (regc (L':=[eS 7 e l,eS 7 e [x]]) (id:=1) (C:=[(0:Int)<=(i:Int),i<=l.length,l.length=l.length]) (fr':=(12,.ref 0 l.length (0+i) (l.length-i)) :: (11,.d (.i .i64 (i:Int))) :: (10,.ref 0 l.length 0 l.length) :: argFr [.ref 0 l.length 0 l.length,.d (.i .i64 (i:Int)),.ref 1 1 0 1] 0)
  (fr2:=argFr [.ref 0 l.length 0 l.length,.d (.i .i64 (i:Int)),.ref 1 1 0 1] 0)
  kj kj ⟨om,om,rfl,trivial⟩ (fun q hq=>y1b _ (y1b _ (y1b _ hq))) ?_)
 refine z3a (regc (L':=[eS 7 e l,eS 7 e [x]]) (id:=2) (C:=[]) (fr':=(7,.d (.i .i64 1)) :: (14,.d (.i .i64 1)) :: (13,.ref 1 1 0 1) :: argFr [.ref 0 l.length 0 l.length,.d (.i .i64 (i:Int)),.ref 1 1 0 1] 0)
  (fr2:=[(7,.d (.i .i64 1)),(2,.ref 1 1 0 1),(1,.d (.i .i64 (i:Int))),(0,.ref 0 l.length 0 l.length)])
  kj kj trivial (fun q hq=>by
   simp only[yy,y26,y3c] at hq
   simp only[argFr,yy,y26,y3c]
   rcases hq with rfl | rfl | rfl | rfl <;> simp) ?_)
 refine z3a (z3a (regc (L':=[eS 7 e l,eS 7 e [x]]) (id:=3) (C:=[]) (fr':=(16,.d (.b false)) :: (15,.d (.i .i64 1)) :: [(7,.d (.i .i64 1)),(2,.ref 1 1 0 1),(1,.d (.i .i64 (i:Int))),(0,.ref 0 l.length 0 l.length)])
  (fr2:=[(16,.d (.b false)),(7,.d (.i .i64 1)),(2,.ref 1 1 0 1),(1,.d (.i .i64 (i:Int))),(0,.ref 0 l.length 0 l.length)])
  kj kj trivial (fun q hq=>by
   simp only[yy,y26,y3c] at hq |-
   rcases hq with rfl | rfl | rfl | rfl | rfl <;> simp) ?_))
 refine z7u (b:=false) rfl (fun h=>by cases h) fun _=>za9 ?_
 refine z3a (regc (L':=[eS 7 e l,eS 7 e [x]]) (id:=5) (C:=[]) (fr':=(8,.d (.i .i64 (l.length:Int))) :: (19,.d (.i .i64 (l.length:Int))) :: (18,.ref 0 l.length 0 l.length) :: [(16,.d (.b false)),(7,.d (.i .i64 1)),(2,.ref 1 1 0 1),(1,.d (.i .i64 (i:Int))),(0,.ref 0 l.length 0 l.length)])
  (fr2:=frI l.length i (.ref 0 l.length 0 l.length))
  kj kj trivial (fun q hq=>by
   simp only[frI,yy,y26,y3c] at hq |-
   rcases hq with rfl | rfl | rfl | rfl | rfl <;> simp) ?_)
 refine z3a (z3a (regc (L':=[eS 7 e l,eS 7 e [x]]) (id:=6) (C:=[]) (fr':=(22,.d (.b ((i:Int)==(l.length:Int)))) :: (21,.d (.i .i64 (l.length:Int))) :: (20,.d (.i .i64 (i:Int))) :: frI l.length i (.ref 0 l.length 0 l.length))
  (fr2:=(22,.d (.b ((i:Int)==(l.length:Int)))) :: frI l.length i (.ref 0 l.length 0 l.length))
  kj kj trivial (fun q hq=>by
   rcases yy.1 hq with rfl | hq
   ·exact y23
   ·exact y1b _ (y1b _ (y1b _ hq))) ?_))
 refine z7u (b:=((i:Int)==(l.length:Int))) rfl (fun h=>by rw[hne] at h; cases h) fun _=>za9 ?_
 exact zfd h fun q hq=>⟨q.2,y1b _ hq,LeV.refl _⟩
theorem zjv (he:∀ x,(e x).wd=7) {l:List α} {x:α} (hi:i<l.length) (hl:(l.length+1) * (4 * 128)<=2 ^ 48) :
  AW none Tryz.prog Tryz.f61.ntmps (.seq (.seq R8 (.cond (.tmp 31) (.seq R9 B10) .skip)) C13)
   (fun e1 fr L=>FQ Tryz.prog Tryz.f61 (.ref 0 (l.length+1) 0 (l.length+1)) [eS 7 e (insL l i x),eS 7 e [x]] e1 fr L \/
    FQ Tryz.prog Tryz.f61 (.ref 2 (l.length+1) 0 (l.length+1)) [eS 7 e l,eS 7 e [x],eS 7 e (insL l i x)] e1 fr L)
   (frI l.length i (.ref 0 l.length 0 l.length)) [eS 7 e l,eS 7 e [x]]:=by
 have hn:l.length<100000000000000:=om
 have hw2:i64.wrap ((l.length:Int)+1)=(l.length:Int)+1:=by rw[z2k] <;> omega
 intro zn df X ms w a hr hf hN hd
 refine y3x (y3x (zjt om hr hf hN fun a1 ms1 w1 b tc r1 e1 c1 f1 n1 d1 m1 hle h0e h31=>?_))
 by_cases hcap:l.length+1<=tc
 ·refine wpIn_cond_false (h31.trans (by rw[hw2]; simp; omega)) (wpIn_skip ?_)
  obtain⟨q1,q3⟩:=r1.room (o:=0) (n':=l.length+1) rfl m1 om hcap
  refine y2d (tailC he hi hn zn df X ms1 w1 a1 q1 (fun q hq=>?_) n1 (d1.trans hd)) ?_
  ·simp only[frI,Fr.up,y2q,List.map_nil,yy,y26,y3c] at hq
   have f1':=f1.mono q3
   rcases hq with rfl | rfl | rfl | rfl | rfl
   ·exact f1' _ (by simp[frI,Fr.up])
   ·exact f1' _ (by simp[frI,Fr.up])
   ·exact f1' _ (by simp[frI,Fr.up])
   ·exact f1' _ (by simp[frI,Fr.up])
   ·obtain⟨s1,s2,s3⟩:=f1 (0,[],.ref 0 l.length 0 l.length) (by simp[frI,Fr.up])
    refine⟨s1,fun _=>?_,s3⟩
    have h0e':a1.tmps.getD 0 undef = .slice (some ⟨b,0,none⟩) l.length tc:=h0e
    rw[h0e']
    refine .one _ _ rfl (.ref _ _ _ _ _ ⟨by simp[cxOf],⟨_,_,rfl⟩,fun obj s ho hs=>?_,fun sz' f' hL'=>⟨om,.inr (.inr ⟨b,tc,m1,hcap,sj⟩)⟩⟩)
    obtain rfl:=y10 ho
    simp[Ob.stamp] at hs; omega
  ·rintro e2 a2 w2 ⟨ms2,fr2,L2,hq,r2,e3,c3,f3,n3,d3⟩
   exact⟨ms2,fr2,L2,.inl hq,r2,e1.trans e3,(c1.trans q3).trans c3,f3,n3,d3⟩
 ·have htc:tc=l.length:=om
  subst htc
  refine wpIn_cond_true (h31.trans (by rw[hw2]; simp; omega)) (y3x (zju hi hl r1 f1 n1 m1 fun a2 ms2 w2 r2 e2 c2 f2 n2 d2=>?_))
  refine y2d (tailB he hi hn zn df X ms2 w2 a2 r2 f2 n2 ((d2.trans d1).trans hd)) ?_
  rintro e3 a3 w3 ⟨ms3,fr3,L3,⟨rfl,hq⟩,r3,e3,c3,f3,n3,d3⟩
  exact⟨ms3,fr3,L3,.inr ⟨.inr rfl,hq⟩,r3,(e1.trans e2).trans e3,(c1.trans c2).trans c3,f3,n3,d3⟩
theorem zjc (he:∀ x,(e x).wd=7) {l:List α} {x:α} (hi:i<l.length) (hl:(l.length+1) * (4 * 128)<=2 ^ 48) :
  CallOk Tryz.prog 61 [.ref 0 l.length 0 l.length,.d (.i .i64 (i:Int)),.ref 1 1 0 1] [eS 7 e l,eS 7 e [x]] (.ref 0 (l.length+1) 0 (l.length+1)) [eS 7 e (insL l i x),eS 7 e [x]]:=by
 intro X ms w us hr hu
 have hlen:=zt (l:=l) (i:=i) (x:=x)
 refine (zh5 (L:=[eS 7 e l,eS 7 e [x]]) (v:=.ref 0 (l.length+1) 0 (l.length+1)) (v3:=.ref 2 (l.length+1) 0 (l.length+1)) Tryz.func61 zhq (y2h kj) sj rfl (lsOk (n:=2) (L:=[eS 7 e (insL l i x),eS 7 e [x]]) ⟨fun _ _=>rfl,fun _ _=>rfl,trivial⟩)
  sj rfl (lsOk (n:=3) (L:=[eS 7 e l,eS 7 e [x],eS 7 e (insL l i x)]) ⟨fun _ _=>rfl,fun _ _=>rfl,fun _ _=>rfl,trivial⟩) (head (x:=x) he hi _ (zjv he hi hl)) hr hu).mono fun e1 w1 h=>?_
 rcases h with h | ⟨u,ms1,rfl,h1,h2,h3,h4⟩
 ·exact h
 ·rw[<- hlen] at h4 |-
  obtain⟨ms2,k1,k2,k3,k4⟩:=third hr hlen h1 h2 h3 h4
  exact⟨u,ms2,rfl,k1,k2,k3,k4⟩
noncomputable def sE (l:List α) (x:α) (a1:(0:Int)<=(l.length:Int)) (a2:l.length<=l.length) (a3:((l.length:Int)==(l.length:Int))=true)
  (hx:∀ k,k<1->(AV.d (e ([x].getD k dF))).wd=7) (hs:(l.length+1) * (2 * 128)<=2 ^ 48)
  (ho:OLe (.seq 7 (l.length+1) (catF l.length (fun j=>.d (e (l.getD j dF))) (fun j=>.d (e ([x].getD j dF))))) (eS 7 e (insL l l.length x))):SC Unit Unit :=
 .reg 0 [] [] [] <|
 .reg 1 [] [] [.pf a1,.pf a2,.pf (y27 l.length)] <|
 .reg 2 [] [] [] <|
 .reg 3 [] [] [] <|
 .br false (.pf (p:=((1:Int)==0)=false) dk) <|
 .reg 5 [] [] [] <|
 .reg 6 [] [] [] <|
 .br true (.pf a3) <|
 .reg 7 [] [(2,{ obs:=[(0,eS 7 e (insL l l.length x))] })] [.pf (y27 1),.pf (y27 l.length),.pf (y27 l.length),.pf hx,.pf hs,.pf ho] <|
 .ret [] ()
set_option maxRecDepth 100000 in
theorem zjd (he:∀ x,(e x).wd=7) {l:List α} {x:α} (hl:(l.length+1) * (4 * 128)<=2 ^ 48) :
  CallOk Tryz.prog 61 [.ref 0 l.length 0 l.length,.d (.i .i64 (l.length:Int)),.ref 1 1 0 1] [eS 7 e l,eS 7 e [x]] (.ref 0 (l.length+1) 0 (l.length+1)) [eS 7 e (insL l l.length x),eS 7 e [x]] :=
 fOk (ρ:=Unit) (V:=fun _=>.ref 0 (l.length+1) 0 (l.length+1)) (Lr:=fun _=>[eS 7 e (insL l l.length x),eS 7 e [x]]) (r:=())
  (s:=sE (e:=e) l x om (ye _) sj (fun k _=>he _) om (by
   refine z2s zt.symm fun j hj=>?_
   rw[z1w (ye _)]
   by_cases h1:j<l.length
   ·rw[z17 h1,yb h1]
   ·have h2:j=l.length:=om
    subst h2
    rw[z1b om,ya om,yb rfl,y3o]
    rfl)) Tryz.func61 zhq kj rfl
theorem ins_ok (he:∀ x,(e x).wd=7) {l:List α} {x:α} (hi:i<=l.length) (hl:(l.length+1) * (4 * 128)<=2 ^ 48) :
  CallOk Tryz.prog 61 [.ref 0 l.length 0 l.length,.d (.i .i64 (i:Int)),.ref 1 1 0 1] [eS 7 e l,eS 7 e [x]] (.ref 0 (insL l i x).length 0 (insL l i x).length) [eS 7 e (insL l i x),eS 7 e [x]]:=by
 rw[zt]
 rcases yu i l.length with h | h
 ·exact zjc he h hl
 ·obtain rfl:i=l.length:=om
  exact zjd he hl
end
end Ins61
end Go.Proofs.YtcfloplnjicomaaGreatDoor
/- The shapes of data. No condition. -/
namespace Go.Proofs.YtcfloplnjicomaaGreatDoor
open Go Go.TA
open Go.IntKind (i64)
abbrev Z0:DV:=DV.sl 0 fun _=>DV.b false
structure TPo where
 F:Y8
 G:Int
 H:Int
 A:(List Int)
 D:(List Int)
 C:(List Int)
 E:(List Int)
 deriving Inhabited
def TPo.e (x:TPo):DV:=.agg [(DV.str x.F),(DV.i .i64 x.G),(DV.i .i64 x.H),(eL (DV.i .i64) x.A),(eL (DV.i .i64) x.D),(eL (DV.i .i64) x.C),(eL (DV.i .i64) x.E)]
abbrev TPo.d (x:TPo):AV:=AV.d (TPo.e x)
abbrev TPo.b (x:TPo):Ob:=bx (TPo.e x)
structure TTr where
 I:Int
 B:(List TPo)
 deriving Inhabited
def TTr.e (x:TTr):DV:=.agg [(DV.i .i64 x.I),(eL TPo.e x.B)]
abbrev TTr.d (x:TTr):AV:=AV.d (TTr.e x)
abbrev TTr.b (x:TTr):Ob:=bx (TTr.e x)
structure TRi where
 F:Y8
 G:Int
 A:Int
 C:Int
 J:Int
 deriving Inhabited
def TRi.e (x:TRi):DV:=.agg [(DV.str x.F),(DV.i .i64 x.G),(DV.i .i64 x.A),(DV.i .i64 x.C),(DV.i .i64 x.J)]
abbrev TRi.d (x:TRi):AV:=AV.d (TRi.e x)
abbrev TRi.b (x:TRi):Ob:=bx (TRi.e x)
structure TMe where
 K:Int
 L:Int
 F:Y8
 G:Int
 A:Int
 C:Int
 J:Int
 E:Int
 deriving Inhabited
def TMe.e (x:TMe):DV:=.agg [(DV.i .i64 x.K),(DV.i .i64 x.L),(DV.str x.F),(DV.i .i64 x.G),(DV.i .i64 x.A),(DV.i .i64 x.C),(DV.i .i64 x.J),(DV.i .i64 x.E)]
abbrev TMe.d (x:TMe):AV:=AV.d (TMe.e x)
abbrev TMe.b (x:TMe):Ob:=bx (TMe.e x)
structure TTape where
 l:(List Int)
 at_:Int
 deriving Inhabited
def TTape.e (x:TTape):DV:=.agg [(eL (DV.i .i64) x.l),(DV.i .i64 x.at_)]
abbrev TTape.d (x:TTape):AV:=AV.d (TTape.e x)
abbrev TTape.b (x:TTape):Ob:=bx (TTape.e x)
end Go.Proofs.YtcfloplnjicomaaGreatDoor
/- What the functions compute,and that their calls return it. No condition. -/
namespace Go.Proofs.YtcfloplnjicomaaGreatDoor
open Go Go.TA
open Go.IntKind (i64)
noncomputable section
set_option maxRecDepth 100000
theorem cz1:OLe (bx (DV.agg [(DV.str ([])),(DV.i .i64 0),(DV.i .i64 0),Z0,Z0,Z0,Z0])) (TPo.b (⟨[],0,0,[],[],[],[]⟩:TPo)):=zab (DLe.agg (DLeL.cons (DLe.refl _) (DLeL.cons (DLe.refl _) (DLeL.cons (DLe.refl _) (DLeL.cons DLe.sl0 (DLeL.cons DLe.sl0 (DLeL.cons DLe.sl0 (DLeL.cons DLe.sl0 DLeL.nil))))))))
def S_qm_b1 (a0:TTr) (i3:Nat) (_:Unit):SC Bool (Step (Unit) Bool) :=
.reg 3 [] [(2,{ obs:=[(1,(TPo.b (⟨[],0,0,[],[],[],[]⟩:TPo)))] })] [.w i3,.ev 0,.pf cz1]<|
 let e0_:=(a0.B.getD i3 dF)
.ite (cO (cO (cO (cO (decide (((e0_.F).length:Int)>60)) (decide (((e0_.A).length:Int)>12))) (decide (((e0_.D).length:Int)>12))) (decide (((e0_.C).length:Int)>12))) (decide (((e0_.E).length:Int)>12))) (
.r (.ret false)) (
.r (.cont ()))
def S_qm (a0:TTr):SC Bool Bool :=
.range (a0.B.length:Int) a0.B.length rfl (.slot 6) 8 [1,6,7] (fun (_:Unit)=>[]) (fun _=>[]) () (S_qm_b1 a0) (fun _ => 
.r (decide ((a0.B.length:Int)<=70))) id
def F_qm (a0:TTr):=(S_qm a0).den
theorem F_qm_ok {a0:TTr}:FO (F_qm a0) 4 [(TTr.d a0)] [] vb NL:=fO (s:=S_qm a0) Tryz.func4
def S_q6 (a0:Int) (a1:Int) (a2:Int):SC Bool Bool :=
.r (bif (decide (a0>=a1)) then (decide (a0<=a2)) else false)
def F_q6 (a0:Int) (a1:Int) (a2:Int):=(S_q6 a0 a1 a2).den
theorem F_q6_ok {a0:Int} {a1:Int} {a2:Int}:FO (F_q6 a0 a1 a2) 48 [(vi a0),(vi a1),(vi a2)] [] vb NL:=fO (s:=S_q6 a0 a1 a2) Tryz.func48
def S_q14 (a0:Y8) (a1:Int):SC Bool Bool :=
.call (@F_q2v_ok a0) fun rv1 cv1=>
 let e0_:=(decide ((rv1.length:Int)>0))
.calld [e0_=true] dF (@F_q6_ok a1 0 99) fun rv2 cv2 =>
.reg 1 [] [(1,hc cv1 [] true),(6,hc cv2 [] true)] [.cl 2 cv1 [] 0 true,.clg 0 [e0_=true] cv2 [] 0 true]<|
.r (bif e0_ then rv2 else false)
def F_q14 (a0:Y8) (a1:Int):=(S_q14 a0 a1).den
theorem F_q14_ok {a0:Y8} {a1:Int}:FO (F_q14 a0 a1) 58 [(AV.d (DV.str a0)),(vi a1)] [] vb NL:=fO (s:=S_q14 a0 a1) Tryz.func58
def S_qr (a0:Int):SC Bool Bool :=
.a 1 1 0 (@F_q6_ok a0 0 1000000000000000) fun rv1=>
.r rv1
def F_qr (a0:Int):=(S_qr a0).den
theorem F_qr_ok {a0:Int}:FO (F_qr a0) 73 [(vi a0)] [] vb NL:=fO (s:=S_qr a0) Tryz.func73
def S_q2l (a0:Int):SC Bool Bool :=
.a 1 1 0 (@F_qr_ok a0) fun rv1=>
.r (!rv1)
def F_q2l (a0:Int):=(S_q2l a0).den
theorem F_q2l_ok {a0:Int}:FO (F_q2l a0) 76 [(vi a0)] [] vb NL:=fO (s:=S_q2l a0) Tryz.func76
def S_qz_b1 (a0:(List Int)) (iv1:Nat) (_:Unit):SC Int (Step (Unit) Int) :=
.call (@F_q2l_ok (a0.getD iv1 dF)) fun rv2 cv2=>
.reg 4 [] [(5,hc cv2 [] true)] [.w iv1,.ev 1,.cl 0 cv2 [] 0 true]<|
.ite rv2 (
.r (.ret (iv1:Int))) (
.r (.cont ()))
def S_qz (a0:(List Int)):SC Int Int :=
.range (a0.length:Int) a0.length rfl (.slot 0) 8 [0,1,7] (fun (_:Unit)=>[]) (fun _=>[]) () (S_qz_b1 a0) (fun _ => 
.r (-1)) id
def F_qz (a0:(List Int)):=(S_qz a0).den
theorem F_qz_ok {a0:(List Int)}:FO (F_qz a0) 89 [(vl a0),(AV.fn 76 [])] [] vi NL:=fO (s:=S_qz a0) Tryz.func89
def S_q26 (a0:(List Int)):SC Bool Bool :=
.a 1 2 0 (@F_qz_ok a0) fun rv1=>
.r (decide (rv1>=0))
def F_q26 (a0:(List Int)):=(S_q26 a0).den
theorem F_q26_ok {a0:(List Int)}:FO (F_q26 a0) 71 [(vl a0),(AV.fn 76 [])] [] vb NL:=fO (s:=S_q26 a0) Tryz.func71
def S_qb_b1 (a0:(List Int)) (iv1:Nat) (sv2:Int):SC Int (Step (Int) Int) :=
.reg 4 [] [] [.w iv1,.ev 0]<|
.c (i64.wrap (sv2+(a0.getD iv1 dF)))
def S_qb (a0:(List Int)):SC Int Int :=
.range (a0.length:Int) a0.length rfl (.slot 6) 8 [6,7] (fun (sv2:Int)=>[(3,(vi sv2))]) (fun _=>[]) 0 (S_qb_b1 a0) (fun sv2 => 
.r sv2) id
def F_qb (a0:(List Int)):=(S_qb a0).den
theorem F_qb_ok {a0:(List Int)}:FO (F_qb a0) 53 [(vl a0)] [] vi NL:=fO (s:=S_qb a0) Tryz.func53
def S_q7_b1 (a0:TPo) (a1:Int) (iv1:Nat) (_:Unit):SC Bool (Step (Unit) Bool) :=
.reg 6 [] [] [.w iv1,.ev 0]<|
 let e0_:=(([a0.A,a0.D,a0.C,a0.E]:List (List Int)).getD iv1 dF)
 let e1_:=((e0_.length:Int) != a1)
.calld [e1_=false] dF (@F_q26_ok e0_) fun rv2 cv2 =>
.reg 7 [] [(7,hc cv2 [] true)] [.clg 0 [e1_=false] cv2 [] 1 true]<|
.ite (cO e1_ rv2) (
.r (.ret false)) (
.r (.cont ()))
def S_q7_b2 (a0:TPo) (iv3:Nat) (_:Unit):SC Bool (Step (Unit) Bool) :=
.reg 12 [] [] [.w iv3,.ev 0]<|
 let e1_:=(a0.A.getD iv3 dF)
 let e0_:=(decide ((a0.D.getD iv3 dF)>e1_))
.guard [iv3<a0.D.length,AllP [e0_=false]->(iv3<a0.C.length)]<|
.reg 13 [] [] [.w iv3,.ev 0,.pf (p:=AllP [e0_=false]->((0:Int)<=(iv3:Int))) (fun _=>(y25 _)),.ev 1]<|
.ite (cO e0_ (decide ((a0.C.getD iv3 dF)>e1_))) (
.r (.ret false)) (
.r (.cont ()))
def S_q7 (a0:TPo) (a1:Int):SC Bool Bool :=
.call (@F_q14_ok a0.F a0.G) fun rv4 cv4=>
.calld [(!rv4)=false] dF (@F_q6_ok a0.H (-1000000000000000) 1000000000000000) fun rv5 cv5 =>
.reg 1 [] [(4,hc cv4 [] true),(9,hc cv5 [] true)] [.cl 2 cv4 [] 1 true,.clg 0 [(!rv4)=false] cv5 [] 1 true]<|
.ite (cO (!rv4) (!rv5)) (
.r false) (
 let e0_:=([a0.A,a0.D,a0.C,a0.E]:List (List Int))
.reg 4 [] [(8,hv (AV.d (eL (eL (DV.i .i64)) e0_)))] [.pf (zp (eL (DV.i .i64)) e0_)]<|
.range 4 4 rfl (.why (.pf (p:=4<2 ^ 63) dk)) 32 [1,2,5,30,31] (fun (_:Unit)=>[]) (fun _=>[]) () (S_q7_b1 a0 a1) (fun _ => 
.range (a0.A.length:Int) a0.A.length rfl (.slot 47) 49 [2,47,48] (fun (_:Unit)=>[]) (fun _=>[]) () (S_q7_b2 a0) (fun _ => 
.a 16 2 1 (@F_qb_ok a0.A) fun rv6=>
.r (decide (rv6<=1000000000000000))) id) id)
def F_q7 (a0:TPo) (a1:Int):=(S_q7 a0 a1).den
theorem F_q7_ok {a0:TPo} {a1:Int}:FO (F_q7 a0 a1) 49 [(TPo.d a0),(vi a1)] [] vb NL:=fO (s:=S_q7 a0 a1) Tryz.func49
def S_q27 (a0:Y8):SC Bool Bool :=
.r (!(a0==a0))
def F_q27 (a0:Y8):=(S_q27 a0).den
theorem F_q27_ok {a0:Y8}:FO (F_q27 a0) 98 [(AV.d (DV.str a0))] [] vb NL:=fO (s:=S_q27 a0) Tryz.func98
def S_q2m (a0:Y8) (a1:Y8):SC Int Int :=
.a 1 1 0 (@F_q27_ok a0) fun rv1=>
.a 2 1 0 (@F_q27_ok a1) fun rv2=>
.ite rv1 (
.ite rv2 (
.r 0) (
.r (-1))) (
.ite rv2 (
.r 1) (
.ite (Op.bytesLess a0 a1) (
.r (-1)) (
.ite (!(Op.bytesLess a0 a1||a0==a1)) (
.r 1) (
.r 0))))
def F_q2m (a0:Y8) (a1:Y8):=(S_q2m a0 a1).den
theorem F_q2m_ok {a0:Y8} {a1:Y8}:FO (F_q2m a0 a1) 90 [(AV.d (DV.str a0)),(AV.d (DV.str a1))] [] vi NL:=fO (s:=S_q2m a0 a1) Tryz.func90
def S_q28 (a0:Int):SC Bool Bool :=
.r (a0 != a0)
def F_q28 (a0:Int):=(S_q28 a0).den
theorem F_q28_ok {a0:Int}:FO (F_q28 a0) 92 [(vi a0)] [] vb NL:=fO (s:=S_q28 a0) Tryz.func92
def S_q1r (a0:Int) (a1:Int):SC Int Int :=
.a 1 1 0 (@F_q28_ok a0) fun rv1=>
.a 2 1 0 (@F_q28_ok a1) fun rv2=>
.ite rv1 (
.ite rv2 (
.r 0) (
.r (-1))) (
.ite rv2 (
.r 1) (
.ite (decide (a0<a1)) (
.r (-1)) (
.ite (decide (a0>a1)) (
.r 1) (
.r 0))))
def F_q1r (a0:Int) (a1:Int):=(S_q1r a0 a1).den
theorem F_q1r_ok {a0:Int} {a1:Int}:FO (F_q1r a0 a1) 79 [(vi a0),(vi a1)] [] vi NL:=fO (s:=S_q1r a0 a1) Tryz.func79
def S_qv_b1 (a0:(List Int)) (a1:(List Int)) (iv1:Nat) (_:Unit):SC Int (Step (Unit) Int) :=
.reg 3 [] [] [.w iv1,.ev 0]<|
.ite (decide ((iv1:Int)>=(a1.length:Int))) (
.r (.ret 1)) (
.guard [iv1<a1.length]<|
.reg 6 [] [] [.w iv1,.ev 0]<|
.a 7 2 0 (@F_q1r_ok (a0.getD iv1 dF) (a1.getD iv1 dF)) fun rv2=>
.ite (rv2 != 0) (
.r (.ret rv2)) (
.r (.cont ())))
def S_qv (a0:(List Int)) (a1:(List Int)):SC Int Int :=
.range (a0.length:Int) a0.length rfl (.slot 0) 11 [0,1,9,10] (fun (_:Unit)=>[]) (fun _=>[]) () (S_qv_b1 a0 a1) (fun _ => 
.ite (decide ((a0.length:Int)<(a1.length:Int))) (
.r (-1)) (
.r 0)) id
def F_qv (a0:(List Int)) (a1:(List Int)):=(S_qv a0 a1).den
theorem F_qv_ok {a0:(List Int)} {a1:(List Int)}:FO (F_qv a0 a1) 91 [(vl a0),(vl a1)] [] vi NL:=fO (s:=S_qv a0 a1) Tryz.func91
def S_q29 (a0:Y8) (a1:Y8):SC Int Int :=
.call (@F_q2v_ok a0) fun rv1 cv1=>
.call (@F_q2v_ok a1) fun rv2 cv2=>
.reg 1 [] [(1,hc cv1 [] true),(3,hc cv2 [] true)] [.cl 1 cv1 [] 0 true,.cl 0 cv2 [] 0 true]<|
.ite (bif ((rv1.length:Int)==0) then ((rv2.length:Int)==0) else false) (
.a 3 2 0 (@F_q2m_ok a0 a1) fun rv3=>
.r rv3) (
.a 4 2 0 (@F_qv_ok rv1 rv2) fun rv4=>
.r rv4)
def F_q29 (a0:Y8) (a1:Y8):=(S_q29 a0 a1).den
theorem F_q29_ok {a0:Y8} {a1:Y8}:FO (F_q29 a0 a1) 78 [(AV.d (DV.str a0)),(AV.d (DV.str a1))] [] vi NL:=fO (s:=S_q29 a0 a1) Tryz.func78
def S_q15_b1 (a0:(List Int)) (iv1:Nat) (_:Unit):SC Int (Step (Unit) Int) :=
.reg 4 [] [] [.w iv1,.ev 0]<|
.ite ((a0.getD iv1 dF) != 0) (
.r (.ret (a0.getD iv1 dF))) (
.r (.cont ()))
def S_q15 (a0:(List Int)):SC Int Int :=
.range (a0.length:Int) a0.length rfl (.slot 6) 8 [3,6,7] (fun (_:Unit)=>[]) (fun _=>[]) () (S_q15_b1 a0) (fun _ => 
.r 0) id
def F_q15 (a0:(List Int)):=(S_q15 a0).den
theorem F_q15_ok {a0:(List Int)}:FO (F_q15 a0) 77 [(vl a0)] [] vi NL:=fO (s:=S_q15 a0) Tryz.func77
def S_q1a (a0:TPo) (a1:TPo):SC Int Int :=
.call (@F_q29_ok a0.F a1.F) fun rv1 cv1=>
.call (@F_q1r_ok a0.G a1.G) fun rv2 cv2=>
 let e0_:=([rv1,rv2]:List Int)
.call (@F_q15_ok e0_) fun rv3 cv3=>
.reg 1 [] [(4,hc cv1 [] true),(9,hc cv2 [] true),(10,hv (vl e0_)),(11,hc cv3 [] true)] [.cl 2 cv1 [] 2 true,.cl 1 cv2 [] 2 true,.pf (zp (DV.i .i64) e0_),.cl 0 cv3 [] 2 true]<|
.r rv3
def F_q1a (a0:TPo) (a1:TPo):=(S_q1a a0 a1).den
theorem F_q1a_ok {a0:TPo} {a1:TPo}:FO (F_q1a a0 a1) 50 [(TPo.d a0),(TPo.d a1)] [] vi NL:=fO (s:=S_q1a a0 a1) Tryz.func50
def S_q8_b1 (a0:TTr) (iv1:Nat) (_:Unit):SC Bool (Step (Unit) Bool) :=
.reg 5 [] [(3,{ obs:=[(1,(TPo.b (⟨[],0,0,[],[],[],[]⟩:TPo)))] })] [.w iv1,.ev 0,.pf cz1]<|
 let e2_:=(a0.B.getD iv1 dF)
.call (@F_q7_ok e2_ a0.I) fun rv2 cv2=>
 let e0_:=(decide ((iv1:Int)>0))
 let e1_:=(i64.wrap ((iv1:Int)-1))
.calld [e0_=true,(!rv2)=false] dF (@F_q1a_ok (a0.B.getD ((e1_).toNat) dF) e2_) fun rv3 cv3 =>
.guard [AllP [e0_=true,(!rv2)=false]->((0:Int)<=e1_),AllP [e0_=true,(!rv2)=false]->((e1_).toNat<a0.B.length)]<|
.reg 6 [] [(3,hc cv2 [] true),(16,hc cv3 [] true)] [.cl 4 cv2 [] 2 true,.ev 0,.ev 1,.clg 2 [e0_=true,(!rv2)=false] cv3 [] 2 true]<|
.ite (cO (!rv2) (bif e0_ then (decide (rv3>=0)) else false)) (
.r (.ret false)) (
.r (.cont ()))
def S_q8 (a0:TTr):SC Bool Bool :=
.a 1 2 1 (@F_q6_ok a0.I 1 6) fun rv4=>
.ite (cO (!rv4) (decide ((a0.B.length:Int)>60))) (
.r false) (
.range (a0.B.length:Int) a0.B.length rfl (.slot 16) 18 [1,16,17] (fun (_:Unit)=>[]) (fun _=>[]) () (S_q8_b1 a0) (fun _ => 
.r true) id)
def F_q8 (a0:TTr):=(S_q8 a0).den
theorem F_q8_ok {a0:TTr}:FO (F_q8 a0) 12 [(TTr.d a0)] [] vb NL:=fO (s:=S_q8 a0) Tryz.func12
theorem cz2:∀ k,k<0->(DV.b false).wd=1:=fun _ h=>absurd h (Nat.not_lt_zero _)
def S_q1b (a0:(List Int)):SC (List Int) (List Int) :=
.reg 0 [] [] []<|
.nils 0 (
.guard [(0+a0.length) * (2 * 8)<=2 ^ 48]<|
.reg 1 [] [] []<|
.lev 0 (vl a0) (.pf (lvQ true a0.length fun j=>(DV.i .i64 (a0.getD j dF))))<|
.br true (.pf (p:=true=true) rfl)<|
.reg 2 [] [] []<|
.lev 2 (vl a0) (.der (fun (h:a0.length=0)=>lvZ (DV.i .i64) a0 h) 1)<|
.r a0) (
.reg 1 [] [] []<|
.lev 0 (vl a0) (.pf (lvQ false a0.length fun j=>(DV.i .i64 (a0.getD j dF))))<|
.br false (.pf (p:=false=false) rfl)<|
.guard [(0+a0.length) * (2 * 8)<=2 ^ 48]<|
.reg 3 [] [(2,hv (vl a0))] [.pf (p:=∀ k,k<a0.length->AV.d ((DV.i .i64) (a0.getD k dF))=AV.d ((DV.i .i64) (a0.getD k dF))/\((DV.i .i64) (a0.getD k dF)).wd=1) (fun _ _=>⟨rfl,rfl⟩),.pf cz2,.ev 0,.pf (z50 (e:=(DV.i .i64)) (x:=a0))]<|
.r a0)
def F_q1b (a0:(List Int)):=(S_q1b a0).den
theorem F_q1b_ok {a0:(List Int)}:FO (F_q1b a0) 83 [(vl a0)] [] vl NL:=fO (s:=S_q1b a0) Tryz.func83
def S_q1c (a0:TPo):SC TPo TPo :=
.reg 0 [] [(1,{ obs:=[(1,(TPo.b (⟨[],0,0,[],[],[],[]⟩:TPo)))] })] [.pf cz1]<|
.call (@F_q1b_ok a0.A) fun rv1 cv1=>
.call (@F_q1b_ok a0.D) fun rv2 cv2=>
.call (@F_q1b_ok a0.C) fun rv3 cv3=>
.call (@F_q1b_ok a0.E) fun rv4 cv4=>
.reg 1 [13,15,17,19] [(2,hc cv1 [] true),(5,hc cv2 [] true),(8,hc cv3 [] true),(11,hc cv4 [] true)] [.cl 3 cv1 [] 2 true,.cl 2 cv2 [] 2 true,.cl 1 cv3 [] 2 true,.cl 0 cv4 [] 2 true]<|
.r (⟨a0.F,a0.G,a0.H,rv1,rv2,rv3,rv4⟩:TPo)
def F_q1c (a0:TPo):=(S_q1c a0).den
theorem F_q1c_ok {a0:TPo}:FO (F_q1c a0) 55 [(TPo.d a0)] [] (fun x=>(TPo.d x)) NL:=fO (s:=S_q1c a0) Tryz.func55
theorem cz3:OLe (bx (DV.agg [(DV.i .i64 0),Z0])) (TTr.b (⟨0,[]⟩:TTr)):=zab (DLe.agg (DLeL.cons (DLe.refl _) (DLeL.cons DLe.sl0 DLeL.nil)))
abbrev R_q10:=Int×(List TPo)
def S_q10_b1 (a0:TTr) (iv1:Nat) (sv2:Int×(List TPo)):SC R_q10 (Step (Int×(List TPo)) R_q10) :=
.reg 5 [] [(2,{ obs:=[(3,(TPo.b (⟨[],0,0,[],[],[],[]⟩:TPo)))] })] [.w iv1,.ev 0,.pf cz1]<|
.call (@F_q1c_ok (a0.B.getD iv1 dF)) fun rv3 cv3=>
 let e0_:=([rv3]:List TPo)
.guard [(sv2.2.length+e0_.length) * (2 * 128)<=2 ^ 48]<|
.reg 6 [4,5,7] [(3,hc cv3 [] true),(4,{ h:=.obj,obs:=[(4,(eS 7 TPo.e e0_))] }),(5,{ h:=.obj,cast:=some (AV.ref 2 ((sv2.2++e0_).length) 0 ((sv2.2++e0_).length)),obs:=[(2,(eS 7 TPo.e (sv2.2++e0_)))] })] [.cl 1 cv3 [] 4 true,.pf (z81 (sz:=7) (e:=TPo.e) (l:=e0_)),.e (e0_.length),.e sv2.2.length,.e sv2.2.length,.pf (p:=∀ k,k<e0_.length->(TPo.d (e0_.getD k dF)).wd=7) (fun _ _=>rfl),.ev 0,.pf (z2d (o:=2) (l:=sv2.2) (x:=e0_)),.pf (z3n (sz:=7) (e:=TPo.e) (l:=sv2.2) (x:=e0_))]<|
.c (sv2.1,(sv2.2++e0_))
def S_q10 (a0:TTr):SC R_q10 R_q10 :=
 let e0_:=(TTr.b (⟨0,[]⟩:TTr))
.reg 0 [] [(1,{ obs:=[(1,e0_)] })] [.pf cz3]<|
.reg 2 [] [] []<|
 let e1_:=[(1,(vp 0)),(2,(vp 1)),(3,(AV.d (eL TPo.e a0.B)))]
.sh (A:=True) (.pf trivial) e1_ e1_ [(Ob.box (AV.agg [(vi a0.I),(AV.full 0 fun _=>DV.b false)])),e0_] [(Ob.box (AV.agg [(vi a0.I),(AV.ref 2 0 0 0)])),e0_,(eS 7 TPo.e ([]:List TPo))] (fun _=>(z26 (sz:=7) (f:=fun j=>AV.d (TPo.e (([]:List TPo).getD j dF))) (.box _ _ _ _ _ (y13 rfl) (TrV.agg (TrL.cons (TrV.keep _) (TrL.cons TrV.born TrL.nil))) (.keep _ _ _ _ (y13 rfl) (.nil _))))) (z1f (k:=0) rfl (TrS.keep _) (z1f (k:=1) rfl (TrS.keep _) (z1f (k:=2) rfl (TrS.keep _) z2r)))<|
.range (a0.B.length:Int) a0.B.length rfl (.slot 9) 11 [1,2,9,10] (fun (_:Int×(List TPo))=>[]) (fun sv2=>[(0,(Ob.box (AV.agg [(vi sv2.1),(AV.ref 2 sv2.2.length 0 sv2.2.length)]))),(2,(eS 7 TPo.e sv2.2))]) (a0.I,([]:List TPo)) (S_q10_b1 a0) (fun sv2 => 
.reg 8 [] [] []<|
.kill 0<|
.r (sv2.1,sv2.2)) id
def F_q10 (a0:TTr):=(S_q10 a0).den
theorem F_q10_ok {a0:TTr}:FO (F_q10 a0) 59 [(TTr.d a0)] [] (fun x=>(AV.agg [(vi x.1),(AV.ref 2 x.2.length 0 x.2.length)])) (fun x=>[Ob.dead,(Ob.box (AV.agg [(vi x.1),(AV.ref 2 x.2.length 0 x.2.length)])),(eS 7 TPo.e x.2)]):=fO (s:=S_q10 a0) Tryz.func59
abbrev R_qw:=Int×Bool
def S_qw_b1 (a1:TPo) (p0:(List TPo)) (sv1:Int×Int):SC R_qw (Step (Int×Int) R_qw) :=
.ite (decide (sv1.1<sv1.2)) (
.reg 4 [] [] [.pf (p:=(0:Int)<=1) dk]<|
 let e0_:=(i64.wrap ((IntKind.u64.wrap (i64.wrap (sv1.1+sv1.2))).fdiv (2 ^ (min (1:Int).toNat IntKind.u64.bits))))
.call (@F_q1a_ok (p0.getD (0+(e0_).toNat) dF) a1) fun rv2 cv2=>
.guard [(0:Int)<=e0_,(e0_).toNat<p0.length,(0+(e0_).toNat)<p0.length]<|
.reg 5 [] [(6,hc cv2 [] true)] [.e p0.length,.ev 0,.ev 1,.e p0.length,.ev 2,.cl 3 cv2 [] 2 true]<|
.ite (decide (rv2<0)) (
.r (.cont ((i64.wrap (e0_+1)),sv1.2))) (
.r (.cont (sv1.1,e0_)))) (
.r (.brk (sv1.1,sv1.2)))
def S_qw (a1:TPo) (p0:(List TPo)):SC R_qw R_qw :=
.iter [0,2,4,8] (fun (sv1:Int×Int)=>[(9,(vi sv1.1)),(10,(vi sv1.2))]) (fun _=>[]) (0,(p0.length:Int)) (S_qw_b1 a1 p0) (fun sv1 =>
 let e0_:=(decide (sv1.1<(p0.length:Int)))
.calld [e0_=true] dF (@F_q1a_ok (p0.getD (0+(sv1.1).toNat) dF) a1) fun rv3 cv3 =>
.guard [AllP [e0_=true]->((0:Int)<=sv1.1),AllP [e0_=true]->((sv1.1).toNat<p0.length),AllP [e0_=true]->((0+(sv1.1).toNat)<p0.length)]<|
.reg 8 [] [(11,hc cv3 [] true)] [.pf (p:=AllP [e0_=true]->(p0.length=p0.length)) (fun _=>rfl),.ev 0,.ev 1,.pf (p:=AllP [e0_=true]->(p0.length=p0.length)) (fun _=>rfl),.ev 2,.clg 3 [e0_=true] cv3 [] 2 true]<|
.r (sv1.1,(bif e0_ then (rv3==0) else false))) id
def F_qw (a1:TPo) (p0:(List TPo)):=(S_qw a1 p0).den
theorem F_qw_ok {a1:TPo} {p0:(List TPo)}:FO (F_qw a1 p0) 60 [(AV.ref 0 p0.length 0 p0.length),(TPo.d a1),(AV.fn 50 [])] [(eS 7 TPo.e p0)] (fun x=>(AV.tup [(vi x.1),(vb x.2)])) (fun _=>[(eS 7 TPo.e p0)]):=fO (s:=S_qw a1 p0) Tryz.func60
def V_q2t (x:(List TPo)):AV:=.ref 0 x.length 0 x.length
def L_q2t (p1:List TPo) (x:(List TPo)):List Ob:=[eS 7 TPo.e x,eS 7 TPo.e p1]
def F_q2t (a1:Int) (p0 p1:List TPo):Option (List TPo):=match p1 with
 | [y]=>guardP (0<=a1/\a1.toNat<=p0.length/\(p0.length+1) * (4 * 128)<=2 ^ 48) (some (insL p0 a1.toNat y))
 | _=>none
theorem F_q2t_ok {a1:Int} {p0 p1:List TPo} (r:(List TPo)) (h:F_q2t a1 p0 p1=some r):CallOk Tryz.prog 61 [(AV.ref 0 p0.length 0 p0.length),(AV.d (.i .i64 a1)),(AV.ref 1 p1.length 0 p1.length)] [(eS 7 TPo.e p0),(eS 7 TPo.e p1)] (V_q2t r) (L_q2t p1 r):=by
 unfold F_q2t at h
 split at h
 ·rename_i y
  obtain⟨⟨h1,h2,h3⟩,h⟩:=z2c h
  obtain rfl:=y10 h
  obtain⟨i,rfl⟩:∃ i:Nat,a1=(i:Int):=⟨a1.toNat,(Int.toNat_of_nonneg h1).symm⟩
  exact Ins61.ins_ok (fun _=>rfl) h2 h3
 ·cases h
theorem cz4:LeV (AV.d (DV.agg [(DV.i .i64 0),Z0])) (TTr.d (⟨0,[]⟩:TTr)):=z4u rfl (DLe.agg (DLeL.cons (DLe.refl _) (DLeL.cons DLe.sl0 DLeL.nil)))
def S_q1d (a0:TTr) (a1:Y8) (a2:Int) (a3:Int):SC (TTr×Int) (TTr×Int) :=
 let e6_:=(TTr.b (⟨0,[]⟩:TTr))
.reg 0 [] [(1,{ obs:=[(1,e6_)] })] [.pf cz3]<|
.a 1 1 2 (@F_q8_ok a0) fun rv1=>
 let e5_:=(TTr.d (⟨0,[]⟩:TTr))
.ite (!rv1) (
.reg 2 [] [(0,hv e5_)] [.pf cz4]<|
.r ((⟨0,[]⟩:TTr),1)) (
.a 3 1 2 (@F_q2v_ok a1) fun rv2=>
.ite ((rv2.length:Int)==0) (
.reg 4 [] [(0,hv e5_)] [.pf cz4]<|
.r ((⟨0,[]⟩:TTr),5)) (
.call (@F_q14_ok a1 a2) fun rv3 cv3=>
.calld [(!rv3)=false] dF (@F_q6_ok a3 (-1000000000000000) 1000000000000000) fun rv4 cv4 =>
.reg 5 [] [(2,hc cv3 [] true),(6,hc cv4 [] true)] [.cl 2 cv3 [] 2 true,.clg 0 [(!rv3)=false] cv4 [] 2 true]<|
.ite (cO (!rv3) (!rv4)) (
.reg 6 [] [(0,hv e5_)] [.pf cz4]<|
.r ((⟨0,[]⟩:TTr),2)) (
.call (@F_q10_ok a0) fun rv5 cv5=>
.k 7 1 cv5 [] 2 false<|
.kill 3<|
 let e4_:=(⟨a1,a2,0,[],[],[],[]⟩:TPo)
.reg 8 [] [(2,hv (TPo.d e4_)),(3,{ obs:=[(5,(TPo.b (⟨[],0,0,[],[],[],[]⟩:TPo)))] })] [.pf (p:=LeV (AV.d (DV.agg [(DV.str a1),(DV.i .i64 a2),(DV.i .i64 0),Z0,Z0,Z0,Z0])) (TPo.d e4_)) (z4u rfl (DLe.agg (DLeL.cons (DLe.refl _) (DLeL.cons (DLe.refl _) (DLeL.cons (DLe.refl _) (DLeL.cons DLe.sl0 (DLeL.cons DLe.sl0 (DLeL.cons DLe.sl0 (DLeL.cons DLe.sl0 DLeL.nil))))))))),.pf cz1]<|
.call (@F_qw_ok e4_ rv5.2) fun rv6 cv6=>
.k 9 3 cv6 [4] 6 true<|
.cut none [3,4,8,11] (fun (_:Int×(List TPo)×TPo)=>[]) (fun sv7=>[(0,(Ob.box (AV.agg [(vi sv7.1),(AV.ref 4 sv7.2.1.length 0 sv7.2.1.length)]))),(4,(eS 7 TPo.e sv7.2.1)),(5,(TPo.b sv7.2.2))]) (
.ite (!rv6.2) (
.ite ((rv5.2.length:Int)==60) (
.reg 12 [] [(0,hv e5_)] [.pf cz4]<|
.r (.ret ((⟨0,[]⟩:TTr),3))) (
.guard [(0:Int)<=rv5.1,rv5.1 * 8<=2 ^ 47]<|
 let e7_:=((List.replicate rv5.1.toNat (0:Int)).length)
.reg 13 [] [(2,{ cast:=some (AV.ref 6 e7_ 0 e7_),obs:=[(6,(eS 1 (DV.i .i64) (List.replicate rv5.1.toNat (0:Int))))] })] [.ev 0,.pf (p:=rv5.1<=rv5.1) (y1y _),.ev 1,.pf (z82 (o:=6) (k:=rv5.1.toNat) (z:=(0:Int))),.pf (z83 (sz:=1) (k:=rv5.1.toNat) (e:=(DV.i .i64)) (z:=(0:Int)))]<|
.guard [(List.replicate rv5.1.toNat (0:Int)).length<2 ^ 63]<|
.frz 6 (.ev 0) none [13] []<|
 let e1_:=(⟨e4_.F,e4_.G,e4_.H,(List.replicate rv5.1.toNat (0:Int)),(List.replicate rv5.1.toNat (0:Int)),(List.replicate rv5.1.toNat (0:Int)),(List.replicate rv5.1.toNat (0:Int))⟩:TPo)
.call (@F_q1c_ok e1_) fun rv8 cv8=>
 let e9_:=([rv8]:List TPo)
.call (@F_q2t_ok rv6.1 rv5.2 e9_) fun rv9 cv9=>
.reg 15 [5,6,8] [(4,hc cv8 [] true),(5,{ h:=.obj,obs:=[(7,(eS 7 TPo.e e9_))] }),(6,hc cv9 [4,7] false)] [.cl 1 cv8 [] 7 true,.pf (z81 (sz:=7) (e:=TPo.e) (l:=e9_)),.cl 0 cv9 [4,7] 8 false]<|
.r (.next (rv5.1,rv9,e1_)))) (
.r (.next (rv5.1,rv5.2,e4_)))) fun sv7=>
 let e8_:=(0+(rv6.1).toNat)
.guard [(0:Int)<=rv6.1,(rv6.1).toNat<sv7.2.1.length,e8_<sv7.2.1.length]<|
 let e3_:=(sv7.2.1.getD e8_ dF)
 let e0_:=(⟨e3_.F,e3_.G,a3,e3_.A,e3_.D,e3_.C,e3_.E⟩:TPo)
 let e2_:=(sv7.2.1.set e8_ e0_)
 let e10_:=(eS 7 TPo.e e2_)
.reg 16 [] [(6,{ obs:=[(4,e10_)] })] [.e sv7.2.1.length,.ev 0,.ev 1,.e sv7.2.1.length,.e sv7.2.1.length,.ev 2,.pf (z15 (sz:=7) (e:=TPo.e) (l:=sv7.2.1) (i:=e8_) (x:=e0_) (fun _=>rfl))]<|
 let e11_:=[(4,(vp 0)),(8,(vp 1))]
.cst (A:=True) (.pf trivial) e11_ e11_ [(Ob.box (AV.agg [(vi sv7.1),(AV.ref 4 sv7.2.1.length 0 sv7.2.1.length)])),e6_,Ob.dead,Ob.dead,e10_,(TPo.b sv7.2.2)] [(Ob.box (AV.agg [(vi sv7.1),(AV.ref 4 (e2_.length) 0 (e2_.length))])),e6_,Ob.dead,Ob.dead,e10_,(TPo.b sv7.2.2)] (fun _=>⟨by simp +zetaDelta only,by simp +zetaDelta only[yi]⟩)<|
.guard [e2_.length<2 ^ 63]<|
.reg 17 [] [] []<|
.frz 4 (.ev 0) none [] [0,1]<|
.r ((⟨sv7.1,e2_⟩:TTr),0))))
def F_q1d (a0:TTr) (a1:Y8) (a2:Int) (a3:Int):=(S_q1d a0 a1 a2 a3).den
theorem F_q1d_ok {a0:TTr} {a1:Y8} {a2:Int} {a3:Int}:FO (F_q1d a0 a1 a2 a3) 23 [(TTr.d a0),(AV.d (DV.str a1)),(vi a2),(vi a3)] [] (fun x=>(AV.tup [(TTr.d x.1),(vi x.2)])) NL:=fO (s:=S_q1d a0 a1 a2 a3) Tryz.func23
def S_q2n (a0:TPo) (p0:Y8) (p1:Int):SC Bool Bool :=
.r (bif (a0.F==p0) then (a0.G==p1) else false)
def F_q2n (a0:TPo) (p0:Y8) (p1:Int):=(S_q2n a0 p0 p1).den
theorem F_q2n_ok {a0:TPo} {p0:Y8} {p1:Int}:FO (F_q2n a0 p0 p1) 82 [(TPo.d a0),(vp 0),(vp 1)] [(bx (DV.str p0)),(Ob.box (vi p1))] vb (fun _=>[(bx (DV.str p0)),(Ob.box (vi p1))]):=fO (s:=S_q2n a0 p0 p1) Tryz.func82
def S_q16_b1 (a0:(List TPo)) (p0:Y8) (p1:Int) (iv1:Nat) (_:Unit):SC Int (Step (Unit) Int) :=
.call (@F_q2n_ok (a0.getD iv1 dF) p0 p1) fun rv2 cv2=>
.reg 4 [] [(5,hc cv2 [0,1] true)] [.w iv1,.ev 1,.cl 0 cv2 [0,1] 2 true]<|
.ite rv2 (
.r (.ret (iv1:Int))) (
.r (.cont ()))
def S_q16 (a0:(List TPo)) (p0:Y8) (p1:Int):SC Int Int :=
.range (a0.length:Int) a0.length rfl (.slot 0) 8 [0,1,7] (fun (_:Unit)=>[]) (fun _=>[]) () (S_q16_b1 a0 p0 p1) (fun _ => 
.r (-1)) id
def F_q16 (a0:(List TPo)) (p0:Y8) (p1:Int):=(S_q16 a0 p0 p1).den
theorem F_q16_ok {a0:(List TPo)} {p0:Y8} {p1:Int}:FO (F_q16 a0 p0 p1) 81 [(AV.d (eL TPo.e a0)),(AV.fn 82 [(vp 0),(vp 1)])] [(bx (DV.str p0)),(Ob.box (vi p1))] vi (fun _=>[(bx (DV.str p0)),(Ob.box (vi p1))]):=fO (s:=S_q16 a0 p0 p1) Tryz.func81
def S_q11 (a0:TTr) (a1:Y8) (a2:Int):SC Int Int :=
.call (@F_q16_ok a0.B a1 a2) fun rv1 cv1=>
.k 1 3 cv1 [1,2] 3 true<|
.r rv1
def F_q11 (a0:TTr) (a1:Y8) (a2:Int):=(S_q11 a0 a1 a2).den
theorem F_q11_ok {a0:TTr} {a1:Y8} {a2:Int}:FO (F_q11 a0 a1 a2) 54 [(TTr.d a0),(AV.d (DV.str a1)),(vi a2)] [] vi NL:=fO (s:=S_q11 a0 a1 a2) Tryz.func54
def oTApiPot:Opn TPo where
 sz:=7
 T:=fun a b c d x=>.agg [.d (.str x.F),vi x.G,vi x.H,a,b,c,d]
 e:=TPo.e
 g1:=TPo.A
 g2:=TPo.D
 g3:=TPo.C
 g4:=TPo.E
 tr:=fun _ h1 h2 h3 h4=>TrV.agg (.cons (.keep _) (.cons (.keep _) (.cons (.keep _) (.cons h1 (.cons h2 (.cons h3 (.cons h4 .nil)))))))
 cl:=fun x=>TrV.aggD (ys:=[.str x.F,.i .i64 x.G,.i .i64 x.H,eL (.i .i64) x.A,eL (.i .i64) x.D,eL (.i .i64) x.C,eL (.i .i64) x.E])
  (.cons (.keep _) (.cons (.keep _) (.cons (.keep _) (.cons (.keep _) (.cons (.keep _) (.cons (.keep _) (.cons (.keep _) .nil)))))))
 wd:=fun _ h1 h2 h3 h4=>by simp[AV.wd,AV.wdL,DV.wd,h1,h2,h3,h4]
def S_q1e (a0:(List Int)):SC (List Int) (List Int) :=
.reg 0 [] [] []<|
.nils 0 (
.guard [a0.length * (2 * 8)<=2 ^ 48]<|
.reg 1 [] [] []<|
.lev 0 (vl a0) (.pf (lvQ true a0.length fun j=>(DV.i .i64 (a0.getD j dF))))<|
.br true (.pf (p:=true=true) rfl)<|
.reg 2 [] [] []<|
.bor 1 (fun j=>AV.d ((DV.i .i64) (a0.getD j dF))) [2]<|
.cst (A:=a0.length=0) (.ev 1) [(2,AV.ref 0 0 0 0)] [(2,(AV.ref 0 a0.length 0 a0.length))] [(Ob.seq 1 0 fun j=>AV.d ((DV.i .i64) (a0.getD j dF)))] [(eS 1 (DV.i .i64) a0)] (fun h=>⟨by rw[h],by unfold eS; rw[h]⟩)<|
.r a0) (
.reg 1 [] [] []<|
.lev 0 (vl a0) (.pf (lvQ false a0.length fun j=>(DV.i .i64 (a0.getD j dF))))<|
.br false (.pf (p:=false=false) rfl)<|
.guard [a0.length * (2 * 8)<=2 ^ 48]<|
.reg 3 [] [(2,{ h:=.obj })] [.pf (p:=∀ k,k<a0.length->(AV.d ((DV.i .i64) (a0.getD k dF))).wd=1) (fun _ _=>rfl),.ev 0]<|
.r a0)
def F_q1e (a0:(List Int)):=(S_q1e a0).den
theorem F_q1e_ok {a0:(List Int)}:FO (F_q1e a0) 83 [(vl a0)] [] (fun x=>(AV.ref 0 x.length 0 x.length)) (fun x=>[(eS 1 (DV.i .i64) x)]):=fO (s:=S_q1e a0) Tryz.func83
abbrev R_q2a:=Y8×Int×Int×(List Int)×(List Int)×(List Int)×(List Int)
def S_q2a (a0:TPo):SC R_q2a R_q2a :=
.reg 0 [] [(1,{ obs:=[(1,(TPo.b (⟨[],0,0,[],[],[],[]⟩:TPo)))] })] [.pf cz1]<|
.call (@F_q1e_ok a0.A) fun rv1 cv1=>
.call (@F_q1e_ok a0.D) fun rv2 cv2=>
.call (@F_q1e_ok a0.C) fun rv3 cv3=>
.call (@F_q1e_ok a0.E) fun rv4 cv4=>
.reg 1 [2,5,8,11,13,15,17,19] [(2,hc cv1 [] false),(5,hc cv2 [] false),(8,hc cv3 [] false),(11,hc cv4 [] false)] [.cl 3 cv1 [] 2 false,.cl 2 cv2 [] 3 false,.cl 1 cv3 [] 4 false,.cl 0 cv4 [] 5 false]<|
.reg 2 [] [] []<|
.kill 0<|
.r (a0.F,a0.G,a0.H,rv1,rv2,rv3,rv4)
def F_q2a (a0:TPo):=(S_q2a a0).den
theorem F_q2a_ok {a0:TPo}:FO (F_q2a a0) 55 [(TPo.d a0)] [] (fun x=>(AV.agg [(AV.d (DV.str x.1)),(vi x.2.1),(vi x.2.2.1),(AV.ref 2 x.2.2.2.1.length 0 x.2.2.2.1.length),(AV.ref 3 x.2.2.2.2.1.length 0 x.2.2.2.2.1.length),(AV.ref 4 x.2.2.2.2.2.1.length 0 x.2.2.2.2.2.1.length),(AV.ref 5 x.2.2.2.2.2.2.length 0 x.2.2.2.2.2.2.length)])) (fun x=>[Ob.dead,(Ob.box (AV.agg [(AV.d (DV.str x.1)),(vi x.2.1),(vi x.2.2.1),(AV.ref 2 x.2.2.2.1.length 0 x.2.2.2.1.length),(AV.ref 3 x.2.2.2.2.1.length 0 x.2.2.2.2.1.length),(AV.ref 4 x.2.2.2.2.2.1.length 0 x.2.2.2.2.2.1.length),(AV.ref 5 x.2.2.2.2.2.2.length 0 x.2.2.2.2.2.2.length)])),(eS 1 (DV.i .i64) x.2.2.2.1),(eS 1 (DV.i .i64) x.2.2.2.2.1),(eS 1 (DV.i .i64) x.2.2.2.2.2.1),(eS 1 (DV.i .i64) x.2.2.2.2.2.2)]):=fO (s:=S_q2a a0) Tryz.func55
end
end Go.Proofs.YtcfloplnjicomaaGreatDoor
/- What the functions compute,and that their calls return it. No condition. -/
namespace Go.Proofs.YtcfloplnjicomaaGreatDoor
open Go Go.TA
open Go.IntKind (i64)
noncomputable section
set_option maxRecDepth 100000
abbrev R_qn:=Int×(List TPo)
def S_qn_b1 (a0:TTr) (i0:Nat) (iv1:Nat) (sv2:Int×(List TPo)):SC R_qn (Step (Int×(List TPo)) R_qn) :=
.reg 5 [] [(2,{ obs:=[(7,(TPo.b (⟨[],0,0,[],[],[],[]⟩:TPo)))] })] [.w iv1,.ev 0,.pf cz1]<|
.call (@F_q2a_ok (a0.B.getD iv1 dF)) fun rv3 cv3=>
.guard [(sv2.2.length+1) * (2 * 128)<=2 ^ 48]<|
.reg 6 [3,4,5,7] [(3,hc cv3 [] false),(4,{ h:=.obj }),(5,{ h:=.obj,cast:=some (AV.ref 2 ((sv2.2++[(⟨rv3.1,rv3.2.1,rv3.2.2.1,rv3.2.2.2.1,rv3.2.2.2.2.1,rv3.2.2.2.2.2.1,rv3.2.2.2.2.2.2⟩:TPo)]).length) 0 ((sv2.2++[(⟨rv3.1,rv3.2.1,rv3.2.2.1,rv3.2.2.2.1,rv3.2.2.2.2.1,rv3.2.2.2.2.2.1,rv3.2.2.2.2.2.2⟩:TPo)]).length)),obs:=[(2,(Ob.seq 7 ((sv2.2++[(⟨rv3.1,rv3.2.1,rv3.2.2.1,rv3.2.2.2.1,rv3.2.2.2.2.1,rv3.2.2.2.2.2.1,rv3.2.2.2.2.2.2⟩:TPo)]).length) (catF sv2.2.length (fun j=>AV.sel (decide (j=i0)) 7 (AV.agg [(AV.d (DV.str (sv2.2.getD i0 dF).F)),(vi (sv2.2.getD i0 dF).G),(vi (sv2.2.getD i0 dF).H),(rr 3 (sv2.2.getD i0 dF).A),(rr 4 (sv2.2.getD i0 dF).D),(rr 5 (sv2.2.getD i0 dF).C),(rr 6 (sv2.2.getD i0 dF).E)]) (TPo.d (sv2.2.getD j dF))) (listF AV.bot [(AV.agg [(AV.d (DV.str rv3.1)),(vi rv3.2.1),(vi rv3.2.2.1),(rr 10 rv3.2.2.2.1),(rr 11 rv3.2.2.2.2.1),(rr 12 rv3.2.2.2.2.2.1),(rr 13 rv3.2.2.2.2.2.2)])]))))] })] [.cl 1 cv3 [] 8 false,.e 1,.e sv2.2.length,.e sv2.2.length,.pf (p:=∀ k,k<1->(listF AV.bot [(AV.agg [(AV.d (DV.str rv3.1)),(vi rv3.2.1),(vi rv3.2.2.1),(rr 10 rv3.2.2.2.1),(rr 11 rv3.2.2.2.2.1),(rr 12 rv3.2.2.2.2.2.1),(rr 13 rv3.2.2.2.2.2.2)])] k).wd=7) (fun k hk=>by obtain rfl:k=0:=om; rfl),.ev 0,.pf (z2d (o:=2) (l:=sv2.2) (x:=[(⟨rv3.1,rv3.2.1,rv3.2.2.1,rv3.2.2.2.1,rv3.2.2.2.2.1,rv3.2.2.2.2.2.1,rv3.2.2.2.2.2.2⟩:TPo)])),.pf (p:=OLe (Ob.seq 7 (sv2.2.length+1) (catF sv2.2.length (fun j=>AV.sel (decide (j=i0)) 7 (AV.agg [(AV.d (DV.str (sv2.2.getD i0 dF).F)),(vi (sv2.2.getD i0 dF).G),(vi (sv2.2.getD i0 dF).H),(rr 3 (sv2.2.getD i0 dF).A),(rr 4 (sv2.2.getD i0 dF).D),(rr 5 (sv2.2.getD i0 dF).C),(rr 6 (sv2.2.getD i0 dF).E)]) (TPo.d (sv2.2.getD j dF))) (listF AV.bot [(AV.agg [(AV.d (DV.str rv3.1)),(vi rv3.2.1),(vi rv3.2.2.1),(rr 10 rv3.2.2.2.1),(rr 11 rv3.2.2.2.2.1),(rr 12 rv3.2.2.2.2.2.1),(rr 13 rv3.2.2.2.2.2.2)])]))) (Ob.seq 7 ((sv2.2++[(⟨rv3.1,rv3.2.1,rv3.2.2.1,rv3.2.2.2.1,rv3.2.2.2.2.1,rv3.2.2.2.2.2.1,rv3.2.2.2.2.2.2⟩:TPo)]).length) (catF sv2.2.length (fun j=>AV.sel (decide (j=i0)) 7 (AV.agg [(AV.d (DV.str (sv2.2.getD i0 dF).F)),(vi (sv2.2.getD i0 dF).G),(vi (sv2.2.getD i0 dF).H),(rr 3 (sv2.2.getD i0 dF).A),(rr 4 (sv2.2.getD i0 dF).D),(rr 5 (sv2.2.getD i0 dF).C),(rr 6 (sv2.2.getD i0 dF).E)]) (TPo.d (sv2.2.getD j dF))) (listF AV.bot [(AV.agg [(AV.d (DV.str rv3.1)),(vi rv3.2.1),(vi rv3.2.2.1),(rr 10 rv3.2.2.2.1),(rr 11 rv3.2.2.2.2.1),(rr 12 rv3.2.2.2.2.2.1),(rr 13 rv3.2.2.2.2.2.2)])])))) (zah sj)]<|
 let e0_:=(⟨rv3.1,rv3.2.1,rv3.2.2.1,rv3.2.2.2.1,rv3.2.2.2.2.1,rv3.2.2.2.2.2.1,rv3.2.2.2.2.2.2⟩:TPo)
.guard [((sv2.2.length=i0->0<e0_.A.length/\0<e0_.D.length/\0<e0_.C.length/\0<e0_.E.length)/\(e0_.A.length<2 ^ 63/\e0_.D.length<2 ^ 63/\e0_.C.length<2 ^ 63/\e0_.E.length<2 ^ 63))]<|
.sh (A:=((sv2.2.length=i0->0<(⟨rv3.1,rv3.2.1,rv3.2.2.1,rv3.2.2.2.1,rv3.2.2.2.2.1,rv3.2.2.2.2.2.1,rv3.2.2.2.2.2.2⟩:TPo).A.length/\0<(⟨rv3.1,rv3.2.1,rv3.2.2.1,rv3.2.2.2.1,rv3.2.2.2.2.1,rv3.2.2.2.2.2.1,rv3.2.2.2.2.2.2⟩:TPo).D.length/\0<(⟨rv3.1,rv3.2.1,rv3.2.2.1,rv3.2.2.2.1,rv3.2.2.2.2.1,rv3.2.2.2.2.2.1,rv3.2.2.2.2.2.2⟩:TPo).C.length/\0<(⟨rv3.1,rv3.2.1,rv3.2.2.1,rv3.2.2.2.1,rv3.2.2.2.2.1,rv3.2.2.2.2.2.1,rv3.2.2.2.2.2.2⟩:TPo).E.length)/\((⟨rv3.1,rv3.2.1,rv3.2.2.1,rv3.2.2.2.1,rv3.2.2.2.2.1,rv3.2.2.2.2.2.1,rv3.2.2.2.2.2.2⟩:TPo).A.length<2 ^ 63/\(⟨rv3.1,rv3.2.1,rv3.2.2.1,rv3.2.2.2.1,rv3.2.2.2.2.1,rv3.2.2.2.2.2.1,rv3.2.2.2.2.2.2⟩:TPo).D.length<2 ^ 63/\(⟨rv3.1,rv3.2.1,rv3.2.2.1,rv3.2.2.2.1,rv3.2.2.2.2.1,rv3.2.2.2.2.2.1,rv3.2.2.2.2.2.2⟩:TPo).C.length<2 ^ 63/\(⟨rv3.1,rv3.2.1,rv3.2.2.1,rv3.2.2.2.1,rv3.2.2.2.2.1,rv3.2.2.2.2.2.1,rv3.2.2.2.2.2.2⟩:TPo).E.length<2 ^ 63))) (.ev 0) [(1,(vp 0)),(2,(vp 1)),(9,(AV.d (eL TPo.e a0.B))),(10,(vi (a0.B.length:Int))),(11,(vi (iv1:Int)))] [(1,(vp 0)),(2,(vp 1)),(9,(AV.d (eL TPo.e a0.B))),(10,(vi (a0.B.length:Int))),(11,(vi (iv1:Int)))] [(Ob.box (AV.agg [(vi sv2.1),(AV.ref 2 ((sv2.2++[(⟨rv3.1,rv3.2.1,rv3.2.2.1,rv3.2.2.2.1,rv3.2.2.2.2.1,rv3.2.2.2.2.2.1,rv3.2.2.2.2.2.2⟩:TPo)]).length) 0 ((sv2.2++[(⟨rv3.1,rv3.2.1,rv3.2.2.1,rv3.2.2.2.1,rv3.2.2.2.2.1,rv3.2.2.2.2.2.1,rv3.2.2.2.2.2.2⟩:TPo)]).length))])),(TTr.b (⟨0,[]⟩:TTr)),(Ob.seq 7 (sv2.2++[(⟨rv3.1,rv3.2.1,rv3.2.2.1,rv3.2.2.2.1,rv3.2.2.2.2.1,rv3.2.2.2.2.2.1,rv3.2.2.2.2.2.2⟩:TPo)]).length (catF sv2.2.length (fun j=>AV.sel (decide (j=i0)) 7 (AV.agg [(AV.d (DV.str (sv2.2.getD i0 dF).F)),(vi (sv2.2.getD i0 dF).G),(vi (sv2.2.getD i0 dF).H),(rr 3 (sv2.2.getD i0 dF).A),(rr 4 (sv2.2.getD i0 dF).D),(rr 5 (sv2.2.getD i0 dF).C),(rr 6 (sv2.2.getD i0 dF).E)]) (TPo.d (sv2.2.getD j dF))) (listF AV.bot [(AV.agg [(AV.d (DV.str rv3.1)),(vi rv3.2.1),(vi rv3.2.2.1),(rr 10 rv3.2.2.2.1),(rr 11 rv3.2.2.2.2.1),(rr 12 rv3.2.2.2.2.2.1),(rr 13 rv3.2.2.2.2.2.2)])]))),(eQ (opQ TPo.A i0 sv2.2)),(eQ (opQ TPo.D i0 sv2.2)),(eQ (opQ TPo.C i0 sv2.2)),(eQ (opQ TPo.E i0 sv2.2)),(TPo.b (a0.B.getD iv1 dF)),Ob.dead,(Ob.box (AV.agg [(AV.d (DV.str rv3.1)),(vi rv3.2.1),(vi rv3.2.2.1),(rr 10 rv3.2.2.2.1),(rr 11 rv3.2.2.2.2.1),(rr 12 rv3.2.2.2.2.2.1),(rr 13 rv3.2.2.2.2.2.2)])),(eQ (⟨rv3.1,rv3.2.1,rv3.2.2.1,rv3.2.2.2.1,rv3.2.2.2.2.1,rv3.2.2.2.2.2.1,rv3.2.2.2.2.2.2⟩:TPo).A),(eQ (⟨rv3.1,rv3.2.1,rv3.2.2.1,rv3.2.2.2.1,rv3.2.2.2.2.1,rv3.2.2.2.2.2.1,rv3.2.2.2.2.2.2⟩:TPo).D),(eQ (⟨rv3.1,rv3.2.1,rv3.2.2.1,rv3.2.2.2.1,rv3.2.2.2.2.1,rv3.2.2.2.2.2.1,rv3.2.2.2.2.2.2⟩:TPo).C),(eQ (⟨rv3.1,rv3.2.1,rv3.2.2.1,rv3.2.2.2.1,rv3.2.2.2.2.1,rv3.2.2.2.2.2.1,rv3.2.2.2.2.2.2⟩:TPo).E),(Ob.seq 7 1 (listF AV.bot [(AV.agg [(AV.d (DV.str rv3.1)),(vi rv3.2.1),(vi rv3.2.2.1),(rr 10 rv3.2.2.2.1),(rr 11 rv3.2.2.2.2.1),(rr 12 rv3.2.2.2.2.2.1),(rr 13 rv3.2.2.2.2.2.2)])]))] [(Ob.box (AV.agg [(vi sv2.1),(AV.ref 2 ((sv2.2++[(⟨rv3.1,rv3.2.1,rv3.2.2.1,rv3.2.2.2.1,rv3.2.2.2.2.1,rv3.2.2.2.2.2.1,rv3.2.2.2.2.2.2⟩:TPo)]).length) 0 ((sv2.2++[(⟨rv3.1,rv3.2.1,rv3.2.2.1,rv3.2.2.2.1,rv3.2.2.2.2.1,rv3.2.2.2.2.2.1,rv3.2.2.2.2.2.2⟩:TPo)]).length))])),(TTr.b (⟨0,[]⟩:TTr)),(oTApiPot.R 3 i0 (sv2.2++[(⟨rv3.1,rv3.2.1,rv3.2.2.1,rv3.2.2.2.1,rv3.2.2.2.2.1,rv3.2.2.2.2.2.1,rv3.2.2.2.2.2.2⟩:TPo)])),(eQ (opQ TPo.A i0 (sv2.2++[(⟨rv3.1,rv3.2.1,rv3.2.2.1,rv3.2.2.2.1,rv3.2.2.2.2.1,rv3.2.2.2.2.2.1,rv3.2.2.2.2.2.2⟩:TPo)]))),(eQ (opQ TPo.D i0 (sv2.2++[(⟨rv3.1,rv3.2.1,rv3.2.2.1,rv3.2.2.2.1,rv3.2.2.2.2.1,rv3.2.2.2.2.2.1,rv3.2.2.2.2.2.2⟩:TPo)]))),(eQ (opQ TPo.C i0 (sv2.2++[(⟨rv3.1,rv3.2.1,rv3.2.2.1,rv3.2.2.2.1,rv3.2.2.2.2.1,rv3.2.2.2.2.2.1,rv3.2.2.2.2.2.2⟩:TPo)]))),(eQ (opQ TPo.E i0 (sv2.2++[(⟨rv3.1,rv3.2.1,rv3.2.2.1,rv3.2.2.2.1,rv3.2.2.2.2.1,rv3.2.2.2.2.2.1,rv3.2.2.2.2.2.2⟩:TPo)]))),(TPo.b (a0.B.getD iv1 dF)),Ob.dead,(Ob.box (AV.agg [(AV.d (DV.str rv3.1)),(vi rv3.2.1),(vi rv3.2.2.1),(rr 10 rv3.2.2.2.1),(rr 11 rv3.2.2.2.2.1),(rr 12 rv3.2.2.2.2.2.1),(rr 13 rv3.2.2.2.2.2.2)])),Ob.dead,Ob.dead,Ob.dead,Ob.dead,(Ob.seq 7 1 (listF AV.bot [(AV.agg [(AV.d (DV.str rv3.1)),(vi rv3.2.1),(vi rv3.2.2.1),(rr 10 rv3.2.2.2.1),(rr 11 rv3.2.2.2.2.1),(rr 12 rv3.2.2.2.2.2.1),(rr 13 rv3.2.2.2.2.2.2)])]))] (fun h=>z55 oTApiPot (P:=[(Ob.box (AV.agg [(vi sv2.1),(AV.ref 2 ((sv2.2++[(⟨rv3.1,rv3.2.1,rv3.2.2.1,rv3.2.2.2.1,rv3.2.2.2.2.1,rv3.2.2.2.2.2.1,rv3.2.2.2.2.2.2⟩:TPo)]).length) 0 ((sv2.2++[(⟨rv3.1,rv3.2.1,rv3.2.2.1,rv3.2.2.2.1,rv3.2.2.2.2.1,rv3.2.2.2.2.2.1,rv3.2.2.2.2.2.2⟩:TPo)]).length))])),(TTr.b (⟨0,[]⟩:TTr))]) (D:=[(TPo.b (a0.B.getD iv1 dF)),Ob.dead,(Ob.box (AV.agg [(AV.d (DV.str rv3.1)),(vi rv3.2.1),(vi rv3.2.2.1),(rr 10 rv3.2.2.2.1),(rr 11 rv3.2.2.2.2.1),(rr 12 rv3.2.2.2.2.2.1),(rr 13 rv3.2.2.2.2.2.2)]))]) (E:=[(Ob.seq 7 1 (listF AV.bot [(AV.agg [(AV.d (DV.str rv3.1)),(vi rv3.2.1),(vi rv3.2.2.1),(rr 10 rv3.2.2.2.1),(rr 11 rv3.2.2.2.2.1),(rr 12 rv3.2.2.2.2.2.1),(rr 13 rv3.2.2.2.2.2.2)])]))]) (i:=i0) (l:=sv2.2) (x:=(⟨rv3.1,rv3.2.1,rv3.2.2.1,rv3.2.2.2.1,rv3.2.2.2.2.1,rv3.2.2.2.2.2.1,rv3.2.2.2.2.2.2⟩:TPo)) rfl rfl (fun j hj=>z17 hj) (by rw[z1b (ye _),y3o]; rfl) h.1 h.2) (zm _)<|
.c (sv2.1,sv2.2++[e0_])
def S_qn (a0:TTr) (i0:Nat):SC R_qn R_qn :=
 let e2_:=(TTr.b (⟨0,[]⟩:TTr))
.reg 0 [] [(1,{ obs:=[(1,e2_)] })] [.pf cz3]<|
.reg 2 [] [] []<|
 let e0_:=(([]:List TPo).getD i0 dF)
 let e1_:=[(1,(vp 0)),(2,(vp 1)),(3,(AV.d (eL TPo.e a0.B)))]
 let e6_:=(AV.agg [(vi a0.I),(AV.ref 2 0 0 0)])
 let e3_:=[(Ob.box e6_),e2_,(oTApiPot.R 3 i0 [])]
.sh (A:=True) (.pf trivial) e1_ e1_ [(Ob.box (AV.agg [(vi a0.I),(AV.full 0 fun _=>DV.b false)])),e2_] e3_ (fun _=>(z26 (sz:=7) (f:=(fun j=>AV.sel (decide (j=i0)) 7 (AV.agg [(AV.d (DV.str e0_.F)),(vi e0_.G),(vi e0_.H),(rr 3 e0_.A),(rr 4 e0_.D),(rr 5 e0_.C),(rr 6 e0_.E)]) (TPo.d (([]:List TPo).getD j dF)))) (.box _ _ _ _ _ (y13 rfl) (TrV.agg (TrL.cons (TrV.keep _) (TrL.cons TrV.born TrL.nil))) (.keep _ _ _ _ (y13 rfl) (.nil _))))) (z1f (k:=0) rfl (TrS.keep _) (z1f (k:=1) rfl (TrS.keep _) (z1f (k:=2) rfl (TrS.keep _) z2r)))<|
.sh (A:=True) (.pf trivial) e1_ e1_ e3_ [(Ob.box e6_),e2_,(oTApiPot.R 3 i0 []),(eQ (opQ TPo.A i0 ([]:List TPo))),(eQ (opQ TPo.D i0 ([]:List TPo))),(eQ (opQ TPo.C i0 ([]:List TPo))),(eQ (opQ TPo.E i0 ([]:List TPo)))] (fun _=>z5w) (zm _)<|
.range (a0.B.length:Int) a0.B.length rfl (.slot 9) 11 [1,2,9,10] (fun (_:Int×(List TPo))=>[]) (fun sv2=>[(0,(Ob.box (AV.agg [(vi sv2.1),(AV.ref 2 sv2.2.length 0 sv2.2.length)]))),(2,(oTApiPot.R 3 i0 sv2.2)),(3,(eQ (opQ TPo.A i0 sv2.2))),(4,(eQ (opQ TPo.D i0 sv2.2))),(5,(eQ (opQ TPo.C i0 sv2.2))),(6,(eQ (opQ TPo.E i0 sv2.2)))]) (a0.I,([]:List TPo)) (S_qn_b1 a0 i0) (fun sv2 => 
.reg 8 [] [] []<|
.kill 0<|
.guard [i0<sv2.2.length]<|
 let e4_:=(AV.agg [(vi sv2.1),(AV.ref 2 sv2.2.length 0 sv2.2.length)])
 let e5_:=(sv2.2.getD i0 dF)
.cst (A:=i0<sv2.2.length) (.ev 0) [(2,(vp 1))] [(2,(vp 1))] [Ob.dead,(Ob.box e4_),(oTApiPot.R 3 i0 sv2.2),(eQ (opQ TPo.A i0 sv2.2)),(eQ (opQ TPo.D i0 sv2.2)),(eQ (opQ TPo.C i0 sv2.2)),(eQ (opQ TPo.E i0 sv2.2))] [Ob.dead,(Ob.box e4_),(oTApiPot.R 3 i0 sv2.2),(eQ e5_.A),(eQ e5_.D),(eQ e5_.C),(eQ e5_.E)] (fun h=>⟨rfl,by simp +zetaDelta only[zch h]⟩)<|
.r (sv2.1,sv2.2)) id
def F_qn (a0:TTr) (i0:Nat):=(S_qn a0 i0).den
theorem F_qn_ok {a0:TTr} {i0:Nat}:FO (F_qn a0 i0) 59 [(TTr.d a0)] [] (fun x=>(AV.agg [(vi x.1),(AV.ref 2 x.2.length 0 x.2.length)])) (fun x=>[Ob.dead,(Ob.box (AV.agg [(vi x.1),(AV.ref 2 x.2.length 0 x.2.length)])),(opS 7 TPo.e i0 (AV.agg [(AV.d (DV.str (x.2.getD i0 dF).F)),(vi (x.2.getD i0 dF).G),(vi (x.2.getD i0 dF).H),(rr 3 (x.2.getD i0 dF).A),(rr 4 (x.2.getD i0 dF).D),(rr 5 (x.2.getD i0 dF).C),(rr 6 (x.2.getD i0 dF).E)]) x.2),(eQ (x.2.getD i0 dF).A),(eQ (x.2.getD i0 dF).D),(eQ (x.2.getD i0 dF).C),(eQ (x.2.getD i0 dF).E)]):=fO (s:=S_qn a0 i0) Tryz.func59
def S_q1s (a0:Int):SC Bool Bool :=
.a 1 1 0 (@F_qr_ok a0) fun rv1=>
.r (!rv1)
def F_q1s (a0:Int):=(S_q1s a0).den
theorem F_q1s_ok {a0:Int}:FO (F_q1s a0) 72 [(vi a0)] [] vb NL:=fO (s:=S_q1s a0) Tryz.func72
def S_qo_b1 (a0:(List Int)) (iv1:Nat) (_:Unit):SC Int (Step (Unit) Int) :=
.call (@F_q1s_ok (a0.getD iv1 dF)) fun rv2 cv2=>
.reg 4 [] [(5,hc cv2 [] true)] [.w iv1,.ev 1,.cl 0 cv2 [] 0 true]<|
.ite rv2 (
.r (.ret (iv1:Int))) (
.r (.cont ()))
def S_qo (a0:(List Int)):SC Int Int :=
.range (a0.length:Int) a0.length rfl (.slot 0) 8 [0,1,7] (fun (_:Unit)=>[]) (fun _=>[]) () (S_qo_b1 a0) (fun _ => 
.r (-1)) id
def F_qo (a0:(List Int)):=(S_qo a0).den
theorem F_qo_ok {a0:(List Int)}:FO (F_qo a0) 89 [(vl a0),(AV.fn 72 [])] [] vi NL:=fO (s:=S_qo a0) Tryz.func89
def S_q1f (a0:(List Int)):SC Bool Bool :=
.a 1 2 0 (@F_qo_ok a0) fun rv1=>
.r (decide (rv1>=0))
def F_q1f (a0:(List Int)):=(S_q1f a0).den
theorem F_q1f_ok {a0:(List Int)}:FO (F_q1f a0) 71 [(vl a0),(AV.fn 72 [])] [] vb NL:=fO (s:=S_q1f a0) Tryz.func71
def S_q1g (a0:TPo):SC Int Int :=
 let e0_:=(if (a0.D.length:Int)<(a0.A.length:Int) then (a0.D.length:Int) else (a0.A.length:Int))
 let e1_:=((e0_).toNat)
.call (@F_qb_ok (a0.A.take e1_)) fun rv1 cv1=>
.call (@F_qb_ok (a0.D.take e1_)) fun rv2 cv2=>
.guard [(0:Int)<=e0_,(e0_).toNat<=a0.A.length,(e0_).toNat<=a0.D.length]<|
.reg 2 [] [(3,hv (vl (a0.A.take e1_))),(4,hc cv1 [] true),(8,hv (vl (a0.D.take e1_))),(9,hc cv2 [] true)] [.ev 0,.ev 1,.der (fun (h0:(e0_).toNat<=a0.A.length)=>lvT (DV.i .i64) a0.A h0) 1,.cl 4 cv1 [] 1 true,.ev 0,.ev 2,.der (fun (h0:(e0_).toNat<=a0.D.length)=>lvT (DV.i .i64) a0.D h0) 2,.cl 3 cv2 [] 1 true]<|
.r (i64.wrap (rv1-rv2))
def F_q1g (a0:TPo):=(S_q1g a0).den
theorem F_q1g_ok {a0:TPo}:FO (F_q1g a0) 14 [(TPo.d a0)] [] vi NL:=fO (s:=S_q1g a0) Tryz.func14
def S_q1m (a0:TPo):SC Int Int :=
.a 1 3 1 (@F_q1g_ok a0) fun rv1=>
.r (i64.wrap (a0.H-rv1))
def F_q1m (a0:TPo):=(S_q1m a0).den
theorem F_q1m_ok {a0:TPo}:FO (F_q1m a0) 16 [(TPo.d a0)] [] vi NL:=fO (s:=S_q1m a0) Tryz.func16
abbrev R_q9:=Int×(List Int)
def S_q9_b1 (a1:(List Int)) (p0_0:Nat) (p0_1:(List TPo)) (p1:(List Int)) (iv1:Nat) (sv2:(List Int)):SC R_q9 (Step ((List Int)) R_q9) :=
.reg 8 [] [] [.w iv1,.ev 0]<|
.guard [sv2.length=p1.length,iv1<p1.length,(0+iv1)<sv2.length]<|
 let e0_:=(i64.wrap ((sv2.getD (0+iv1) dF)+(a1.getD iv1 dF)))
.reg 9 [] [(10,{ obs:=[(1,(eS 1 (DV.i .i64) (sv2.set (0+iv1) e0_)))] })] [.e p0_1.length,.e p0_1.length,.ev 8,.pf (p:=decide (p0_0=p0_0)=true) (yc rfl),.ev 0,.w iv1,.ev 1,.ev 0,.ev 2,.ev 0,.w iv1,.ev 1,.ev 0,.ev 2,.pf (z15 (sz:=1) (e:=(DV.i .i64)) (l:=sv2) (i:=(0+iv1)) (x:=e0_) (fun _=>rfl))]<|
.c (sv2.set (0+iv1) e0_)
def S_q9 (a1:(List Int)) (p0_0:Nat) (p0_1:(List TPo)) (p0_2:Y8) (p0_3:Int) (p0_4:Int) (p1:(List Int)) (p2:(List Int)) (p3:(List Int)) (p4:(List Int)):SC R_q9 R_q9 :=
.a 1 1 5 (@F_qb_ok a1) fun rv3=>
 let e0_:=(AV.ref 0 p1.length 0 p1.length)
.call (lendOk (xs:=[(AV.agg [(AV.d (DV.str p0_2)),(vi p0_3),(vi p0_4),e0_,(AV.ref 1 p2.length 0 p2.length),(AV.ref 2 p3.length 0 p3.length),(AV.ref 3 p4.length 0 p4.length)])]) (L:=[(eS 1 (DV.i .i64) p1),(eS 1 (DV.i .i64) p2),(eS 1 (DV.i .i64) p3),(eS 1 (DV.i .i64) p4)]) (g:=p1.length<2 ^ 63/\p2.length<2 ^ 63/\p3.length<2 ^ 63/\p4.length<2 ^ 63) (@F_q1m_ok (⟨p0_2,p0_3,p0_4,p1,p2,p3,p4⟩:TPo)) (fun _=>rfl) (fun hg=>(LendVs.cons (LendS.agg (ys:=[(DV.str p0_2),(DV.i .i64 p0_3),(DV.i .i64 p0_4),(eL (DV.i .i64) p1),(eL (DV.i .i64) p2),(eL (DV.i .i64) p3),(eL (DV.i .i64) p4)]) (LendL.cons LendV.d (LendL.cons LendV.d (LendL.cons LendV.d (LendL.cons (LendV.ref (sz:=1) (g:=fun j=>(DV.i .i64) (p1.getD j dF)) rfl hg.1) (LendL.cons (LendV.ref (sz:=1) (g:=fun j=>(DV.i .i64) (p2.getD j dF)) rfl hg.2.1) (LendL.cons (LendV.ref (sz:=1) (g:=fun j=>(DV.i .i64) (p3.getD j dF)) rfl hg.2.2.1) (LendL.cons (LendV.ref (sz:=1) (g:=fun j=>(DV.i .i64) (p4.getD j dF)) rfl hg.2.2.2) LendL.nil)))))))) LendVs.nil)) (fun _=>FlatV.i)) fun rv4 cv4=>
.guard [p0_0<p0_1.length]<|
.reg 2 [] [(4,hc cv4 [1,2,3,4] true)] [.e p0_1.length,.ev 0,.pf (p:=decide (p0_0=p0_0)=true) (yc rfl),.cl 1 cv4 [1,2,3,4] 5 true]<|
.ite (decide (rv3>rv4)) (
.r (15,p1)) (
.call (lendOk (xs:=[e0_]) (L:=[(eS 1 (DV.i .i64) p1)]) (g:=p1.length<2 ^ 63) (@F_qb_ok p1) (fun _=>rfl) (fun hg=>(LendVs.cons (LendS.one rfl rfl rfl (LendV.ref (sz:=1) (g:=fun j=>(DV.i .i64) (p1.getD j dF)) rfl hg)) LendVs.nil)) (fun _=>FlatV.i)) fun rv5 cv5=>
.reg 4 [] [(4,hc cv5 [1] true)] [.e p0_1.length,.e p0_1.length,.ev 2,.pf (p:=decide (p0_0=p0_0)=true) (yc rfl),.cl 0 cv5 [1] 5 true]<|
.ite (decide ((i64.wrap (rv5+rv3))>1000000000000000)) (
.r (3,p1)) (
.range (a1.length:Int) a1.length rfl (.slot 26) 28 [0,26,27] (fun (_:(List Int))=>[]) (fun sv2=>[(1,(eS 1 (DV.i .i64) sv2))]) p1 (S_q9_b1 a1 p0_0 p0_1 p1) (fun sv2 => 
.r (0,sv2)) id))
def F_q9 (a1:(List Int)) (p0_0:Nat) (p0_1:(List TPo)) (p0_2:Y8) (p0_3:Int) (p0_4:Int) (p1:(List Int)) (p2:(List Int)) (p3:(List Int)) (p4:(List Int)):=(S_q9 a1 p0_0 p0_1 p0_2 p0_3 p0_4 p1 p2 p3 p4).den
theorem F_q9_ok {a1:(List Int)} {p0_0:Nat} {p0_1:(List TPo)} {p0_2:Y8} {p0_3:Int} {p0_4:Int} {p1:(List Int)} {p2:(List Int)} {p3:(List Int)} {p4:(List Int)}:FO (F_q9 a1 p0_0 p0_1 p0_2 p0_3 p0_4 p1 p2 p3 p4) 67 [(AV.ptr 0 p0_1.length [.x p0_0 7]),(vl a1)] [(opS 7 TPo.e p0_0 (AV.agg [(AV.d (DV.str p0_2)),(vi p0_3),(vi p0_4),(AV.ref 1 p1.length 0 p1.length),(AV.ref 2 p2.length 0 p2.length),(AV.ref 3 p3.length 0 p3.length),(AV.ref 4 p4.length 0 p4.length)]) p0_1),(eS 1 (DV.i .i64) p1),(eS 1 (DV.i .i64) p2),(eS 1 (DV.i .i64) p3),(eS 1 (DV.i .i64) p4)] (fun x=>(vi x.1)) (fun x=>[(opS 7 TPo.e p0_0 (AV.agg [(AV.d (DV.str p0_2)),(vi p0_3),(vi p0_4),(AV.ref 1 p1.length 0 p1.length),(AV.ref 2 p2.length 0 p2.length),(AV.ref 3 p3.length 0 p3.length),(AV.ref 4 p4.length 0 p4.length)]) p0_1),(eS 1 (DV.i .i64) x.2),(eS 1 (DV.i .i64) p2),(eS 1 (DV.i .i64) p3),(eS 1 (DV.i .i64) p4)]):=fO (s:=S_q9 a1 p0_0 p0_1 p0_2 p0_3 p0_4 p1 p2 p3 p4) Tryz.func67
abbrev R_q17:=Int×(List Int)
def S_q17 (p0_0:Nat) (p0_1:(List TPo)) (p0_2:Y8) (p0_3:Int) (p0_4:Int) (p1:(List Int)) (p2:(List Int)) (p3:(List Int)) (p4:(List Int)) (p5:(List Int)):SC R_q17 R_q17 :=
.guard [p0_0<p0_1.length]<|
.reg 1 [] [] [.e p0_1.length,.e p0_1.length,.ev 0,.pf (p:=decide (p0_0=p0_0)=true) (yc rfl)]<|
.ite ((p1.length:Int) != (p2.length:Int)) (
.r (6,p2)) (
.a 3 1 6 (@F_q1f_ok p1) fun rv1=>
.ite rv1 (
.r (2,p2)) (
.call (@F_q9_ok p1 p0_0 p0_1 p0_2 p0_3 p0_4 p2 p3 p4 p5) fun rv2 cv2=>
.k 5 2 cv2 [0,2,3,4,5] 6 false<|
.r (rv2.1,rv2.2)))
def F_q17 (p0_0:Nat) (p0_1:(List TPo)) (p0_2:Y8) (p0_3:Int) (p0_4:Int) (p1:(List Int)) (p2:(List Int)) (p3:(List Int)) (p4:(List Int)) (p5:(List Int)):=(S_q17 p0_0 p0_1 p0_2 p0_3 p0_4 p1 p2 p3 p4 p5).den
theorem F_q17_ok {p0_0:Nat} {p0_1:(List TPo)} {p0_2:Y8} {p0_3:Int} {p0_4:Int} {p1:(List Int)} {p2:(List Int)} {p3:(List Int)} {p4:(List Int)} {p5:(List Int)}:FO (F_q17 p0_0 p0_1 p0_2 p0_3 p0_4 p1 p2 p3 p4 p5) 70 [(AV.ptr 0 p0_1.length [.x p0_0 7]),(vp 1)] [(opS 7 TPo.e p0_0 (AV.agg [(AV.d (DV.str p0_2)),(vi p0_3),(vi p0_4),(AV.ref 2 p2.length 0 p2.length),(AV.ref 3 p3.length 0 p3.length),(AV.ref 4 p4.length 0 p4.length),(AV.ref 5 p5.length 0 p5.length)]) p0_1),(Ob.box (vl p1)),(eS 1 (DV.i .i64) p2),(eS 1 (DV.i .i64) p3),(eS 1 (DV.i .i64) p4),(eS 1 (DV.i .i64) p5)] (fun x=>(vi x.1)) (fun x=>[(opS 7 TPo.e p0_0 (AV.agg [(AV.d (DV.str p0_2)),(vi p0_3),(vi p0_4),(AV.ref 2 p2.length 0 p2.length),(AV.ref 3 p3.length 0 p3.length),(AV.ref 4 p4.length 0 p4.length),(AV.ref 5 p5.length 0 p5.length)]) p0_1),(Ob.box (vl p1)),(eS 1 (DV.i .i64) x.2),(eS 1 (DV.i .i64) p3),(eS 1 (DV.i .i64) p4),(eS 1 (DV.i .i64) p5)]):=fO (s:=S_q17 p0_0 p0_1 p0_2 p0_3 p0_4 p1 p2 p3 p4 p5) Tryz.func70
def S_q1t (a0:TTr) (a1:Y8) (a2:Int) (p0:(List Int)):SC (TTr×Int) (TTr×Int) :=
.reg 0 [] [(1,{ obs:=[(2,(TTr.b (⟨0,[]⟩:TTr)))] })] [.pf cz3]<|
.a 1 1 3 (@F_q8_ok a0) fun rv1=>
 let e7_:=(TTr.d (⟨0,[]⟩:TTr))
.ite (!rv1) (
.reg 2 [] [(0,hv e7_)] [.pf cz4]<|
.r ((⟨0,[]⟩:TTr),1)) (
.a 3 3 3 (@F_q11_ok a0 a1 a2) fun rv2=>
.ite (decide (rv2<0)) (
.reg 5 [] [(0,hv e7_)] [.pf cz4]<|
.r ((⟨0,[]⟩:TTr),6)) (
 let e4_:=((rv2).toNat)
.call (@F_qn_ok a0 e4_) fun rv3 cv3=>
.k 6 1 cv3 [] 3 false<|
.kill 4<|
 let e0_:=(rv3.2.getD e4_ dF)
.call (@F_q17_ok e4_ rv3.2 (e0_.F) (e0_.G) (e0_.H) p0 (e0_.A) (e0_.D) (e0_.C) (e0_.E)) fun rv4 cv4=>
.guard [(0:Int)<=rv2,(rv2).toNat<rv3.2.length]<|
 let e14_:=(AV.ptr 5 rv3.2.length [.x e4_ 7])
.reg 7 [] [(4,hv e14_),(5,hc cv4 [5,0,6,7,8,9] false)] [.e rv3.2.length,.ev 0,.ev 1,.pf (p:=LeV (AV.ptr 5 rv3.2.length [.x (0+e4_) 7]) e14_) (z2a),.cl 2 cv4 [5,0,6,7,8,9] 10 false]<|
.ite (rv4.1 != 0) (
.reg 9 [] [(0,hv e7_)] [.pf cz4]<|
.r ((⟨0,[]⟩:TTr),rv4.1)) (
.reg 10 [] [] []<|
.guard [rv4.2.length=(e0_.A).length]<|
 let e9_:=(eS 1 (DV.i .i64) (e0_.D))
 let e10_:=(eS 1 (DV.i .i64) (e0_.C))
 let e11_:=(eS 1 (DV.i .i64) (e0_.E))
 let e12_:=(eS 1 (DV.i .i64) rv4.2)
 let e13_:=(AV.d (DV.str (e0_.F)))
.cst (A:=rv4.2.length=(e0_.A).length) (.ev 0) [(8,(vp 2)),(9,(vi 0))] [(8,(vp 2)),(9,(vi 0))] [(Ob.box (vl p0)),(Ob.box (AV.agg [(vi rv3.1),(AV.ref 5 rv3.2.length 0 rv3.2.length)])),(Ob.box (AV.agg [(vi rv3.1),(AV.ref 5 rv3.2.length 0 rv3.2.length)])),Ob.dead,Ob.dead,(opS 7 TPo.e e4_ (AV.agg [e13_,(vi (e0_.G)),(vi (e0_.H)),(AV.ref 6 ((e0_.A).length) 0 ((e0_.A).length)),(AV.ref 7 ((e0_.D).length) 0 ((e0_.D).length)),(AV.ref 8 ((e0_.C).length) 0 ((e0_.C).length)),(AV.ref 9 ((e0_.E).length) 0 ((e0_.E).length))]) rv3.2),e12_,e9_,e10_,e11_] [(Ob.box (vl p0)),(Ob.box (AV.agg [(vi rv3.1),(AV.ref 5 rv3.2.length 0 rv3.2.length)])),(Ob.box (AV.agg [(vi rv3.1),(AV.ref 5 rv3.2.length 0 rv3.2.length)])),Ob.dead,Ob.dead,(opS 7 TPo.e e4_ (AV.agg [e13_,(vi (e0_.G)),(vi (e0_.H)),(AV.ref 6 rv4.2.length 0 rv4.2.length),(AV.ref 7 ((e0_.D).length) 0 ((e0_.D).length)),(AV.ref 8 ((e0_.C).length) 0 ((e0_.C).length)),(AV.ref 9 ((e0_.E).length) 0 ((e0_.E).length))]) rv3.2),e12_,e9_,e10_,e11_] (fun h=>⟨rfl,by rw[h]⟩)<|
.guard [rv4.2.length<2 ^ 63/\(e0_.D).length<2 ^ 63/\(e0_.C).length<2 ^ 63/\(e0_.E).length<2 ^ 63]<|
 let e8_:=(⟨e0_.F,e0_.G,e0_.H,rv4.2,e0_.D,e0_.C,e0_.E⟩:TPo)
 let e1_:=(rv3.2.set e4_ e8_)
 let e2_:=(AV.agg [(vi rv3.1),(AV.ref 5 rv3.2.length 0 rv3.2.length)])
 let e3_:=[(Ob.box (vl p0)),(Ob.box e2_),(Ob.box e2_),Ob.dead,Ob.dead,(eS 7 TPo.e e1_),Ob.dead,Ob.dead,Ob.dead,Ob.dead]
 let e6_:=[(8,(vp 2)),(9,(vi 0))]
.sh (A:=rv4.2.length<2 ^ 63/\(e0_.D).length<2 ^ 63/\(e0_.C).length<2 ^ 63/\(e0_.E).length<2 ^ 63) (.ev 0) e6_ e6_ [(Ob.box (vl p0)),(Ob.box e2_),(Ob.box e2_),Ob.dead,Ob.dead,(opS 7 TPo.e e4_ (AV.agg [e13_,(vi (e0_.G)),(vi (e0_.H)),(AV.ref 6 rv4.2.length 0 rv4.2.length),(AV.ref 7 ((e0_.D).length) 0 ((e0_.D).length)),(AV.ref 8 ((e0_.C).length) 0 ((e0_.C).length)),(AV.ref 9 ((e0_.E).length) 0 ((e0_.E).length))]) rv3.2),e12_,e9_,e10_,e11_] e3_ (fun h=>zw oTApiPot (P:=[(Ob.box (vl p0)),(Ob.box e2_),(Ob.box e2_),Ob.dead,Ob.dead]) (D:=[]) rfl (⟨e0_.F,e0_.G,e0_.H,[],[],[],[]⟩:TPo) e8_ h rfl) (zm _)<|
 let e5_:=(AV.agg [(vi rv3.1),(AV.ref 5 (e1_.length) 0 (e1_.length))])
.cst (A:=True) (.pf trivial) e6_ e6_ e3_ [(Ob.box (vl p0)),(Ob.box e5_),(Ob.box e5_),Ob.dead,Ob.dead,(eS 7 TPo.e e1_),Ob.dead,Ob.dead,Ob.dead,Ob.dead] (fun _=>⟨by simp +zetaDelta only,by simp +zetaDelta only[yi]⟩)<|
.guard [e1_.length<2 ^ 63]<|
.frz 5 (.ev 0) none [] [1,2]<|
.r ((⟨rv3.1,e1_⟩:TTr),0))))
def F_q1t (a0:TTr) (a1:Y8) (a2:Int) (p0:(List Int)):=(S_q1t a0 a1 a2 p0).den
theorem F_q1t_ok {a0:TTr} {a1:Y8} {a2:Int} {p0:(List Int)}:FO (F_q1t a0 a1 a2 p0) 65 [(TTr.d a0),(AV.d (DV.str a1)),(vi a2),(AV.fn 70 [(vp 0)])] [(Ob.box (vl p0))] (fun x=>(AV.tup [(TTr.d x.1),(vi x.2)])) (fun _=>[(Ob.box (vl p0))]):=fO (s:=S_q1t a0 a1 a2 p0) Tryz.func65
def S_q18 (a0:TTr) (a1:Y8) (a2:Int) (a3:(List Int)):SC (TTr×Int) (TTr×Int) :=
.reg 0 [] [(2,{ obs:=[(2,(TTr.b (⟨0,[]⟩:TTr)))] })] [.pf cz3]<|
.call (@F_q1t_ok a0 a1 a2 a3) fun rv1 cv1=>
.k 1 4 cv1 [1] 3 true<|
.r (rv1.1,rv1.2)
def F_q18 (a0:TTr) (a1:Y8) (a2:Int) (a3:(List Int)):=(S_q18 a0 a1 a2 a3).den
theorem F_q18_ok {a0:TTr} {a1:Y8} {a2:Int} {a3:(List Int)}:FO (F_q18 a0 a1 a2 a3) 34 [(TTr.d a0),(AV.d (DV.str a1)),(vi a2),(vl a3)] [] (fun x=>(AV.tup [(TTr.d x.1),(vi x.2)])) NL:=fO (s:=S_q18 a0 a1 a2 a3) Tryz.func34
theorem cz5:LeV (AV.d (DV.agg [(DV.str ([])),(DV.i .i64 0),(DV.i .i64 0),Z0,Z0,Z0,Z0])) (TPo.d (⟨[],0,0,[],[],[],[]⟩:TPo)):=z4u rfl (DLe.agg (DLeL.cons (DLe.refl _) (DLeL.cons (DLe.refl _) (DLeL.cons (DLe.refl _) (DLeL.cons DLe.sl0 (DLeL.cons DLe.sl0 (DLeL.cons DLe.sl0 (DLeL.cons DLe.sl0 DLeL.nil))))))))
abbrev R_q12:=TPo×Bool
def S_q12 (a0:TTr) (a1:Y8) (a2:Int):SC R_q12 R_q12 :=
 let e0_:=(⟨[],0,0,[],[],[],[]⟩:TPo)
.reg 0 [] [(1,{ obs:=[(1,(TPo.b e0_))] })] [.pf cz1]<|
.a 1 3 2 (@F_q11_ok a0 a1 a2) fun rv1=>
.ite (decide (rv1<0)) (
.reg 3 [] [(0,hv (TPo.d e0_))] [.pf cz5]<|
.r (e0_,false)) (
.call (@F_q1c_ok (a0.B.getD ((rv1).toNat) dF)) fun rv2 cv2=>
.guard [(0:Int)<=rv1,(rv1).toNat<a0.B.length]<|
.reg 4 [] [(5,hc cv2 [] true)] [.ev 0,.ev 1,.cl 2 cv2 [] 2 true]<|
.r (rv2,true))
def F_q12 (a0:TTr) (a1:Y8) (a2:Int):=(S_q12 a0 a1 a2).den
theorem F_q12_ok {a0:TTr} {a1:Y8} {a2:Int}:FO (F_q12 a0 a1 a2) 21 [(TTr.d a0),(AV.d (DV.str a1)),(vi a2)] [] (fun x=>(AV.tup [(TPo.d x.1),(vb x.2)])) NL:=fO (s:=S_q12 a0 a1 a2) Tryz.func21
def S_q1n (a0:TPo):SC Int Int :=
.a 1 1 1 (@F_q1g_ok a0) fun rv1=>
 let e0_:=(i64.wrap (rv1-a0.H))
.r (if 0>e0_ then 0 else e0_)
def F_q1n (a0:TPo):=(S_q1n a0).den
theorem F_q1n_ok {a0:TPo}:FO (F_q1n a0) 18 [(TPo.d a0)] [] vi NL:=fO (s:=S_q1n a0) Tryz.func18
abbrev R_q1u:=Int×(List Int)
def S_q1u (p0_0:Nat) (p0_1:(List TPo)) (_:Y8) (_:Int) (_:Int) (p1:Int) (p2:Int) (p3:(List Int)) (_:(List Int)) (p5:(List Int)) (_:(List Int)):SC R_q1u R_q1u :=
.call (@F_q6_ok p1 1 (p5.length:Int)) fun rv1 cv1=>
.guard [p0_0<p0_1.length]<|
.reg 1 [] [(6,hc cv1 [] true)] [.e p0_1.length,.e p0_1.length,.ev 0,.pf (p:=decide (p0_0=p0_0)=true) (yc rfl),.cl 1 cv1 [] 7 true]<|
.ite (!rv1) (
.r (6,p5)) (
.a 3 1 7 (@F_q6_ok p2 1 1000000000000000) fun rv2=>
.ite (!rv2) (
.r (2,p5)) (
 let e2_:=(i64.wrap (p1-1))
 let e0_:=(0+(e2_).toNat)
.guard [(0:Int)<=e2_,(e2_).toNat<p5.length,e0_<p5.length,(e2_).toNat<p3.length,e0_<p3.length]<|
.reg 5 [] [] [.e p0_1.length,.e p0_1.length,.ev 8,.pf (p:=decide (p0_0=p0_0)=true) (yc rfl),.e p5.length,.ev 0,.ev 1,.e p5.length,.ev 2,.e p0_1.length,.e p0_1.length,.ev 8,.pf (p:=decide (p0_0=p0_0)=true) (yc rfl),.e p3.length,.ev 0,.ev 3,.e p3.length,.ev 4]<|
 let e1_:=(i64.wrap ((p5.getD e0_ dF)+p2))
.ite (decide (e1_>(p3.getD e0_ dF))) (
.r (15,p5)) (
.reg 7 [11] [(11,{ obs:=[(5,(eS 1 (DV.i .i64) (p5.set e0_ e1_)))] })] [.e p0_1.length,.e p0_1.length,.ev 9,.pf (p:=decide (p0_0=p0_0)=true) (yc rfl),.e p5.length,.ev 1,.ev 2,.e p5.length,.ev 3,.e p5.length,.ev 1,.ev 2,.e p5.length,.ev 3,.pf (z15 (sz:=1) (e:=(DV.i .i64)) (l:=p5) (i:=e0_) (x:=e1_) (fun _=>rfl))]<|
.r (0,(p5.set e0_ e1_)))))
def F_q1u (p0_0:Nat) (p0_1:(List TPo)) (p0_2:Y8) (p0_3:Int) (p0_4:Int) (p1:Int) (p2:Int) (p3:(List Int)) (p4:(List Int)) (p5:(List Int)) (p6:(List Int)):=(S_q1u p0_0 p0_1 p0_2 p0_3 p0_4 p1 p2 p3 p4 p5 p6).den
theorem F_q1u_ok {p0_0:Nat} {p0_1:(List TPo)} {p0_2:Y8} {p0_3:Int} {p0_4:Int} {p1:Int} {p2:Int} {p3:(List Int)} {p4:(List Int)} {p5:(List Int)} {p6:(List Int)}:FO (F_q1u p0_0 p0_1 p0_2 p0_3 p0_4 p1 p2 p3 p4 p5 p6) 69 [(AV.ptr 0 p0_1.length [.x p0_0 7]),(vp 1),(vp 2)] [(opS 7 TPo.e p0_0 (AV.agg [(AV.d (DV.str p0_2)),(vi p0_3),(vi p0_4),(AV.ref 3 p3.length 0 p3.length),(AV.ref 4 p4.length 0 p4.length),(AV.ref 5 p5.length 0 p5.length),(AV.ref 6 p6.length 0 p6.length)]) p0_1),(Ob.box (vi p1)),(Ob.box (vi p2)),(eS 1 (DV.i .i64) p3),(eS 1 (DV.i .i64) p4),(eS 1 (DV.i .i64) p5),(eS 1 (DV.i .i64) p6)] (fun x=>(vi x.1)) (fun x=>[(opS 7 TPo.e p0_0 (AV.agg [(AV.d (DV.str p0_2)),(vi p0_3),(vi p0_4),(AV.ref 3 p3.length 0 p3.length),(AV.ref 4 p4.length 0 p4.length),(AV.ref 5 p5.length 0 p5.length),(AV.ref 6 p6.length 0 p6.length)]) p0_1),(Ob.box (vi p1)),(Ob.box (vi p2)),(eS 1 (DV.i .i64) p3),(eS 1 (DV.i .i64) p4),(eS 1 (DV.i .i64) x.2),(eS 1 (DV.i .i64) p6)]):=fO (s:=S_q1u p0_0 p0_1 p0_2 p0_3 p0_4 p1 p2 p3 p4 p5 p6) Tryz.func69
end
end Go.Proofs.YtcfloplnjicomaaGreatDoor
/- What the functions compute,and that their calls return it. No condition. -/
namespace Go.Proofs.YtcfloplnjicomaaGreatDoor
open Go Go.TA
open Go.IntKind (i64)
noncomputable section
set_option maxRecDepth 100000
def S_q2o (a0:TTr) (a1:Y8) (a2:Int) (p0:Int) (p1:Int):SC (TTr×Int) (TTr×Int) :=
.reg 0 [] [(1,{ obs:=[(3,(TTr.b (⟨0,[]⟩:TTr)))] })] [.pf cz3]<|
.a 1 1 4 (@F_q8_ok a0) fun rv1=>
 let e7_:=(TTr.d (⟨0,[]⟩:TTr))
.ite (!rv1) (
.reg 2 [] [(0,hv e7_)] [.pf cz4]<|
.r ((⟨0,[]⟩:TTr),1)) (
.a 3 3 4 (@F_q11_ok a0 a1 a2) fun rv2=>
.ite (decide (rv2<0)) (
.reg 5 [] [(0,hv e7_)] [.pf cz4]<|
.r ((⟨0,[]⟩:TTr),6)) (
 let e4_:=((rv2).toNat)
.call (@F_qn_ok a0 e4_) fun rv3 cv3=>
.k 6 1 cv3 [] 4 false<|
.kill 5<|
 let e0_:=(rv3.2.getD e4_ dF)
.call (@F_q1u_ok e4_ rv3.2 (e0_.F) (e0_.G) (e0_.H) p0 p1 (e0_.A) (e0_.D) (e0_.C) (e0_.E)) fun rv4 cv4=>
.guard [(0:Int)<=rv2,(rv2).toNat<rv3.2.length]<|
 let e14_:=(AV.ptr 6 rv3.2.length [.x e4_ 7])
.reg 7 [] [(4,hv e14_),(5,hc cv4 [6,0,1,7,8,9,10] false)] [.e rv3.2.length,.ev 0,.ev 1,.pf (p:=LeV (AV.ptr 6 rv3.2.length [.x (0+e4_) 7]) e14_) (z2a),.cl 2 cv4 [6,0,1,7,8,9,10] 11 false]<|
.ite (rv4.1 != 0) (
.reg 9 [] [(0,hv e7_)] [.pf cz4]<|
.r ((⟨0,[]⟩:TTr),rv4.1)) (
.reg 10 [] [] []<|
.guard [rv4.2.length=(e0_.C).length]<|
 let e9_:=(eS 1 (DV.i .i64) (e0_.A))
 let e10_:=(eS 1 (DV.i .i64) (e0_.D))
 let e11_:=(eS 1 (DV.i .i64) (e0_.E))
 let e12_:=(eS 1 (DV.i .i64) rv4.2)
 let e13_:=(AV.d (DV.str (e0_.F)))
.cst (A:=rv4.2.length=(e0_.C).length) (.ev 0) [(8,(vp 3)),(9,(vi 0))] [(8,(vp 3)),(9,(vi 0))] [(Ob.box (vi p0)),(Ob.box (vi p1)),(Ob.box (AV.agg [(vi rv3.1),(AV.ref 6 rv3.2.length 0 rv3.2.length)])),(Ob.box (AV.agg [(vi rv3.1),(AV.ref 6 rv3.2.length 0 rv3.2.length)])),Ob.dead,Ob.dead,(opS 7 TPo.e e4_ (AV.agg [e13_,(vi (e0_.G)),(vi (e0_.H)),(AV.ref 7 ((e0_.A).length) 0 ((e0_.A).length)),(AV.ref 8 ((e0_.D).length) 0 ((e0_.D).length)),(AV.ref 9 ((e0_.C).length) 0 ((e0_.C).length)),(AV.ref 10 ((e0_.E).length) 0 ((e0_.E).length))]) rv3.2),e9_,e10_,e12_,e11_] [(Ob.box (vi p0)),(Ob.box (vi p1)),(Ob.box (AV.agg [(vi rv3.1),(AV.ref 6 rv3.2.length 0 rv3.2.length)])),(Ob.box (AV.agg [(vi rv3.1),(AV.ref 6 rv3.2.length 0 rv3.2.length)])),Ob.dead,Ob.dead,(opS 7 TPo.e e4_ (AV.agg [e13_,(vi (e0_.G)),(vi (e0_.H)),(AV.ref 7 ((e0_.A).length) 0 ((e0_.A).length)),(AV.ref 8 ((e0_.D).length) 0 ((e0_.D).length)),(AV.ref 9 rv4.2.length 0 rv4.2.length),(AV.ref 10 ((e0_.E).length) 0 ((e0_.E).length))]) rv3.2),e9_,e10_,e12_,e11_] (fun h=>⟨rfl,by rw[h]⟩)<|
.guard [(e0_.A).length<2 ^ 63/\(e0_.D).length<2 ^ 63/\rv4.2.length<2 ^ 63/\(e0_.E).length<2 ^ 63]<|
 let e8_:=(⟨e0_.F,e0_.G,e0_.H,e0_.A,e0_.D,rv4.2,e0_.E⟩:TPo)
 let e1_:=(rv3.2.set e4_ e8_)
 let e2_:=(AV.agg [(vi rv3.1),(AV.ref 6 rv3.2.length 0 rv3.2.length)])
 let e3_:=[(Ob.box (vi p0)),(Ob.box (vi p1)),(Ob.box e2_),(Ob.box e2_),Ob.dead,Ob.dead,(eS 7 TPo.e e1_),Ob.dead,Ob.dead,Ob.dead,Ob.dead]
 let e6_:=[(8,(vp 3)),(9,(vi 0))]
.sh (A:=(e0_.A).length<2 ^ 63/\(e0_.D).length<2 ^ 63/\rv4.2.length<2 ^ 63/\(e0_.E).length<2 ^ 63) (.ev 0) e6_ e6_ [(Ob.box (vi p0)),(Ob.box (vi p1)),(Ob.box e2_),(Ob.box e2_),Ob.dead,Ob.dead,(opS 7 TPo.e e4_ (AV.agg [e13_,(vi (e0_.G)),(vi (e0_.H)),(AV.ref 7 ((e0_.A).length) 0 ((e0_.A).length)),(AV.ref 8 ((e0_.D).length) 0 ((e0_.D).length)),(AV.ref 9 rv4.2.length 0 rv4.2.length),(AV.ref 10 ((e0_.E).length) 0 ((e0_.E).length))]) rv3.2),e9_,e10_,e12_,e11_] e3_ (fun h=>zw oTApiPot (P:=[(Ob.box (vi p0)),(Ob.box (vi p1)),(Ob.box e2_),(Ob.box e2_),Ob.dead,Ob.dead]) (D:=[]) rfl (⟨e0_.F,e0_.G,e0_.H,[],[],[],[]⟩:TPo) e8_ h rfl) (zm _)<|
 let e5_:=(AV.agg [(vi rv3.1),(AV.ref 6 (e1_.length) 0 (e1_.length))])
.cst (A:=True) (.pf trivial) e6_ e6_ e3_ [(Ob.box (vi p0)),(Ob.box (vi p1)),(Ob.box e5_),(Ob.box e5_),Ob.dead,Ob.dead,(eS 7 TPo.e e1_),Ob.dead,Ob.dead,Ob.dead,Ob.dead] (fun _=>⟨by simp +zetaDelta only,by simp +zetaDelta only[yi]⟩)<|
.guard [e1_.length<2 ^ 63]<|
.frz 6 (.ev 0) none [] [2,3]<|
.r ((⟨rv3.1,e1_⟩:TTr),0))))
def F_q2o (a0:TTr) (a1:Y8) (a2:Int) (p0:Int) (p1:Int):=(S_q2o a0 a1 a2 p0 p1).den
theorem F_q2o_ok {a0:TTr} {a1:Y8} {a2:Int} {p0:Int} {p1:Int}:FO (F_q2o a0 a1 a2 p0 p1) 65 [(TTr.d a0),(AV.d (DV.str a1)),(vi a2),(AV.fn 69 [(vp 0),(vp 1)])] [(Ob.box (vi p0)),(Ob.box (vi p1))] (fun x=>(AV.tup [(TTr.d x.1),(vi x.2)])) (fun _=>[(Ob.box (vi p0)),(Ob.box (vi p1))]):=fO (s:=S_q2o a0 a1 a2 p0 p1) Tryz.func65
def S_q1h (a0:TTr) (a1:Int) (a2:Y8) (a3:Int) (a4:Int):SC (TTr×Int) (TTr×Int) :=
.reg 0 [] [(3,{ obs:=[(3,(TTr.b (⟨0,[]⟩:TTr)))] })] [.pf cz3]<|
.call (@F_q2o_ok a0 a2 a3 a1 a4) fun rv1 cv1=>
.k 1 4 cv1 [1,2] 4 true<|
.r (rv1.1,rv1.2)
def F_q1h (a0:TTr) (a1:Int) (a2:Y8) (a3:Int) (a4:Int):=(S_q1h a0 a1 a2 a3 a4).den
theorem F_q1h_ok {a0:TTr} {a1:Int} {a2:Y8} {a3:Int} {a4:Int}:FO (F_q1h a0 a1 a2 a3 a4) 29 [(TTr.d a0),(vi a1),(AV.d (DV.str a2)),(vi a3),(vi a4)] [] (fun x=>(AV.tup [(TTr.d x.1),(vi x.2)])) NL:=fO (s:=S_q1h a0 a1 a2 a3 a4) Tryz.func29
def S_q1i (a0:TTr) (a1:Int) (a2:Y8) (a3:Int):SC (TMe×Int) (TMe×Int) :=
.a 1 1 2 (@F_q8_ok a0) fun rv1=>
 let e1_:=(⟨0,0,[],0,0,0,0,0⟩:TMe)
.ite (!rv1) (
.r (e1_,1)) (
.call (@F_q12_ok a0 a2 a3) fun rv2 cv2=>
.reg 3 [] [(3,hc cv2 [] true),(7,{ obs:=[(2,(TPo.b (⟨[],0,0,[],[],[],[]⟩:TPo)))] })] [.cl 0 cv2 [] 2 true,.pf cz1]<|
.calld [(!rv2.2)=false] dF (@F_q6_ok a1 1 a0.I) fun rv3 cv3 =>
.reg 4 [] [(6,hc cv3 [] true)] [.clg 0 [(!rv2.2)=false] cv3 [] 3 true]<|
.ite (cO (!rv2.2) (!rv3)) (
.r (e1_,6)) (
 let e0_:=(i64.wrap (a1-1))
.guard [(0:Int)<=e0_,(e0_).toNat<rv2.1.A.length,(e0_).toNat<rv2.1.C.length]<|
.reg 6 [16] [] [.ev 0,.ev 1,.ev 0,.ev 2]<|
.r ((⟨0,a1,a2,a3,(rv2.1.A.getD ((e0_).toNat) dF),(rv2.1.C.getD ((e0_).toNat) dF),0,0⟩:TMe),0)))
def F_q1i (a0:TTr) (a1:Int) (a2:Y8) (a3:Int):=(S_q1i a0 a1 a2 a3).den
theorem F_q1i_ok {a0:TTr} {a1:Int} {a2:Y8} {a3:Int}:FO (F_q1i a0 a1 a2 a3) 31 [(TTr.d a0),(vi a1),(AV.d (DV.str a2)),(vi a3)] [] (fun x=>(AV.tup [(TMe.d x.1),(vi x.2)])) NL:=fO (s:=S_q1i a0 a1 a2 a3) Tryz.func31
def S_q1j (a0:TRi):SC Bool Bool :=
.call (@F_q14_ok a0.F a0.G) fun rv1 cv1=>
.calld [rv1=true] dF (@F_qr_ok a0.A) fun rv2 cv2 =>
 let e1_:=(bif rv1 then rv2 else false)
.calld [e1_=true] dF (@F_qr_ok a0.C) fun rv3 cv3 =>
 let e0_:=(bif e1_ then rv3 else false)
.calld [e0_=true] dF (@F_q6_ok a0.J 0 a0.A) fun rv4 cv4 =>
.reg 1 [] [(4,hc cv1 [] true),(8,hc cv2 [] true),(13,hc cv3 [] true),(20,hc cv4 [] true)] [.cl 6 cv1 [] 1 true,.clg 4 [rv1=true] cv2 [] 1 true,.clg 2 [e1_=true] cv3 [] 1 true,.clg 0 [e0_=true] cv4 [] 1 true]<|
.r (bif e0_ then rv4 else false)
def F_q1j (a0:TRi):=(S_q1j a0).den
theorem F_q1j_ok {a0:TRi}:FO (F_q1j a0) 45 [(TRi.d a0)] [] vb NL:=fO (s:=S_q1j a0) Tryz.func45
def S_q1v (a0:TRi) (a1:TMe):SC (TRi×Int) (TRi×Int) :=
.a 1 1 3 (@F_q1j_ok a0) fun rv1=>
.ite (cO (cO (cO (!rv1) (a1.K != 0)) (!(a1.F==a0.F))) (a1.G != a0.G)) (
.r ((⟨[],0,0,0,0⟩:TRi),1)) (
.call (@F_qr_ok a1.A) fun rv2 cv2=>
.calld [(!rv2)=false] dF (@F_qr_ok a1.C) fun rv3 cv3 =>
.reg 3 [] [(2,hc cv2 [] true),(7,hc cv3 [] true)] [.cl 2 cv2 [] 3 true,.clg 0 [(!rv2)=false] cv3 [] 3 true]<|
.ite (cO (!rv2) (!rv3)) (
.r ((⟨[],0,0,0,0⟩:TRi),2)) (
.reg 5 [11,13] [] []<|
.r ((⟨a0.F,a0.G,(if a1.A>a0.A then a1.A else a0.A),(if a1.C>a0.C then a1.C else a0.C),a0.J⟩:TRi),0)))
def F_q1v (a0:TRi) (a1:TMe):=(S_q1v a0 a1).den
theorem F_q1v_ok {a0:TRi} {a1:TMe}:FO (F_q1v a0 a1) 39 [(TRi.d a0),(TMe.d a1)] [] (fun x=>(AV.tup [(TRi.d x.1),(vi x.2)])) NL:=fO (s:=S_q1v a0 a1) Tryz.func39
def S_q1w (a0:TRi) (a1:Int):SC Int Int :=
.call (@F_q1j_ok a0) fun rv1 cv1=>
.calld [(!rv1)=false] dF (@F_q6_ok a1 0 (i64.wrap (a0.A-a0.J))) fun rv2 cv2 =>
.reg 1 [] [(1,hc cv1 [] true),(10,hc cv2 [] true)] [.cl 2 cv1 [] 1 true,.clg 0 [(!rv1)=false] cv2 [] 1 true]<|
.ite (cO (!rv1) (!rv2)) (
.r 0) (
 let e1_:=(i64.wrap (a0.A-a1))
 let e0_:=(i64.wrap ((if e1_<a0.C then e1_ else a0.C)-a0.J))
.r (if 0>e0_ then 0 else e0_))
def F_q1w (a0:TRi) (a1:Int):=(S_q1w a0 a1).den
theorem F_q1w_ok {a0:TRi} {a1:Int}:FO (F_q1w a0 a1) 43 [(TRi.d a0),(vi a1)] [] vi NL:=fO (s:=S_q1w a0 a1) Tryz.func43
def S_q1x (a0:TRi) (a1:Int) (a2:Int):SC (TRi×Int) (TRi×Int) :=
.call (@F_q1j_ok a0) fun rv1 cv1=>
 let e1_:=(i64.wrap (a0.A-a0.J))
.calld [(!rv1)=false] dF (@F_q6_ok a1 0 e1_) fun rv2 cv2 =>
.reg 1 [] [(1,hc cv1 [] true),(10,hc cv2 [] true)] [.cl 2 cv1 [] 2 true,.clg 0 [(!rv1)=false] cv2 [] 2 true]<|
 let e0_:=(⟨[],0,0,0,0⟩:TRi)
.ite (cO (!rv1) (!rv2)) (
.r (e0_,1)) (
.a 3 1 2 (@F_q6_ok a2 1 1000000000000000) fun rv3=>
.ite (!rv3) (
.r (e0_,2)) (
.ite (decide (a2>(i64.wrap (e1_-a1)))) (
.r (e0_,15)) (
.r ((⟨a0.F,a0.G,a0.A,a0.C,(i64.wrap (a0.J+a2))⟩:TRi),0))))
def F_q1x (a0:TRi) (a1:Int) (a2:Int):=(S_q1x a0 a1 a2).den
theorem F_q1x_ok {a0:TRi} {a1:Int} {a2:Int}:FO (F_q1x a0 a1 a2) 41 [(TRi.d a0),(vi a1),(vi a2)] [] (fun x=>(AV.tup [(TRi.d x.1),(vi x.2)])) NL:=fO (s:=S_q1x a0 a1 a2) Tryz.func41
abbrev R_q1y:=Int×(List Int)×(List Int)
def S_q1y (p0_0:Nat) (p0_1:(List TPo)) (_:Y8) (_:Int) (_:Int) (p1:TMe) (p2:(List Int)) (p3:(List Int)) (_:(List Int)) (p5:(List Int)):SC R_q1y R_q1y :=
.call (@F_q6_ok p1.K 1 (p3.length:Int)) fun rv1 cv1=>
.guard [p0_0<p0_1.length]<|
.reg 2 [] [(7,hc cv1 [] true)] [.e p0_1.length,.e p0_1.length,.ev 0,.pf (p:=decide (p0_0=p0_0)=true) (yc rfl),.cl 1 cv1 [] 6 true]<|
.ite (!rv1) (
.r (6,p3,p5)) (
 let e2_:=(i64.wrap (p1.K-1))
 let e0_:=(0+(e2_).toNat)
.call (@F_q6_ok p1.J 0 (p2.getD e0_ dF)) fun rv2 cv2=>
.calld [(!rv2)=false] dF (@F_qr_ok p1.E) fun rv3 cv3 =>
.guard [(0:Int)<=e2_,(e2_).toNat<p2.length,e0_<p2.length]<|
.reg 4 [] [(9,hc cv2 [] true),(14,hc cv3 [] true)] [.e p0_1.length,.e p0_1.length,.ev 7,.pf (p:=decide (p0_0=p0_0)=true) (yc rfl),.e p2.length,.ev 0,.ev 1,.e p2.length,.ev 2,.cl 5 cv2 [] 6 true,.clg 3 [(!rv2)=false] cv3 [] 6 true]<|
.ite (cO (!rv2) (!rv3)) (
.r (2,p3,p5)) (
.guard [(e2_).toNat<p3.length,e0_<p3.length,(e2_).toNat<p5.length,e0_<p5.length]<|
 let e1_:=(if p1.J>(p3.getD e0_ dF) then p1.J else (p3.getD e0_ dF))
.reg 6 [23,25] [(23,{ obs:=[(3,(eS 1 (DV.i .i64) (p3.set e0_ e1_)))] }),(25,{ obs:=[(5,(eS 1 (DV.i .i64) (p5.set e0_ p1.E)))] })] [.e p0_1.length,.e p0_1.length,.ev 12,.pf (p:=decide (p0_0=p0_0)=true) (yc rfl),.e p0_1.length,.e p0_1.length,.ev 12,.pf (p:=decide (p0_0=p0_0)=true) (yc rfl),.e p0_1.length,.e p0_1.length,.ev 12,.pf (p:=decide (p0_0=p0_0)=true) (yc rfl),.e p3.length,.ev 5,.ev 0,.e p3.length,.ev 1,.e p3.length,.ev 5,.ev 0,.e p3.length,.ev 1,.pf (z15 (sz:=1) (e:=(DV.i .i64)) (l:=p3) (i:=e0_) (x:=e1_) (fun _=>rfl)),.e p5.length,.ev 5,.ev 2,.e p5.length,.ev 3,.pf (z15 (sz:=1) (e:=(DV.i .i64)) (l:=p5) (i:=e0_) (x:=p1.E) (fun _=>rfl))]<|
.r (0,(p3.set e0_ e1_),(p5.set e0_ p1.E))))
def F_q1y (p0_0:Nat) (p0_1:(List TPo)) (p0_2:Y8) (p0_3:Int) (p0_4:Int) (p1:TMe) (p2:(List Int)) (p3:(List Int)) (p4:(List Int)) (p5:(List Int)):=(S_q1y p0_0 p0_1 p0_2 p0_3 p0_4 p1 p2 p3 p4 p5).den
theorem F_q1y_ok {p0_0:Nat} {p0_1:(List TPo)} {p0_2:Y8} {p0_3:Int} {p0_4:Int} {p1:TMe} {p2:(List Int)} {p3:(List Int)} {p4:(List Int)} {p5:(List Int)}:FO (F_q1y p0_0 p0_1 p0_2 p0_3 p0_4 p1 p2 p3 p4 p5) 75 [(AV.ptr 0 p0_1.length [.x p0_0 7]),(vp 1)] [(opS 7 TPo.e p0_0 (AV.agg [(AV.d (DV.str p0_2)),(vi p0_3),(vi p0_4),(AV.ref 2 p2.length 0 p2.length),(AV.ref 3 p3.length 0 p3.length),(AV.ref 4 p4.length 0 p4.length),(AV.ref 5 p5.length 0 p5.length)]) p0_1),(TMe.b p1),(eS 1 (DV.i .i64) p2),(eS 1 (DV.i .i64) p3),(eS 1 (DV.i .i64) p4),(eS 1 (DV.i .i64) p5)] (fun x=>(vi x.1)) (fun x=>[(opS 7 TPo.e p0_0 (AV.agg [(AV.d (DV.str p0_2)),(vi p0_3),(vi p0_4),(AV.ref 2 p2.length 0 p2.length),(AV.ref 3 p3.length 0 p3.length),(AV.ref 4 p4.length 0 p4.length),(AV.ref 5 p5.length 0 p5.length)]) p0_1),(TMe.b p1),(eS 1 (DV.i .i64) p2),(eS 1 (DV.i .i64) x.2.1),(eS 1 (DV.i .i64) p4),(eS 1 (DV.i .i64) x.2.2)]):=fO (s:=S_q1y p0_0 p0_1 p0_2 p0_3 p0_4 p1 p2 p3 p4 p5) Tryz.func75
def S_q2p (a0:TTr) (a1:Y8) (a2:Int) (p0:TMe):SC (TTr×Int) (TTr×Int) :=
.reg 0 [] [(1,{ obs:=[(2,(TTr.b (⟨0,[]⟩:TTr)))] })] [.pf cz3]<|
.a 1 1 3 (@F_q8_ok a0) fun rv1=>
 let e7_:=(TTr.d (⟨0,[]⟩:TTr))
.ite (!rv1) (
.reg 2 [] [(0,hv e7_)] [.pf cz4]<|
.r ((⟨0,[]⟩:TTr),1)) (
.a 3 3 3 (@F_q11_ok a0 a1 a2) fun rv2=>
.ite (decide (rv2<0)) (
.reg 5 [] [(0,hv e7_)] [.pf cz4]<|
.r ((⟨0,[]⟩:TTr),6)) (
 let e4_:=((rv2).toNat)
.call (@F_qn_ok a0 e4_) fun rv3 cv3=>
.k 6 1 cv3 [] 3 false<|
.kill 4<|
 let e0_:=(rv3.2.getD e4_ dF)
.call (@F_q1y_ok e4_ rv3.2 (e0_.F) (e0_.G) (e0_.H) p0 (e0_.A) (e0_.D) (e0_.C) (e0_.E)) fun rv4 cv4=>
.guard [(0:Int)<=rv2,(rv2).toNat<rv3.2.length]<|
 let e15_:=(AV.ptr 5 rv3.2.length [.x e4_ 7])
.reg 7 [] [(4,hv e15_),(5,hc cv4 [5,0,6,7,8,9] false)] [.e rv3.2.length,.ev 0,.ev 1,.pf (p:=LeV (AV.ptr 5 rv3.2.length [.x (0+e4_) 7]) e15_) (z2a),.cl 2 cv4 [5,0,6,7,8,9] 10 false]<|
.ite (rv4.1 != 0) (
.reg 9 [] [(0,hv e7_)] [.pf cz4]<|
.r ((⟨0,[]⟩:TTr),rv4.1)) (
.reg 10 [] [] []<|
.guard [rv4.2.1.length=(e0_.D).length/\rv4.2.2.length=(e0_.E).length]<|
 let e9_:=(TMe.b p0)
 let e10_:=(eS 1 (DV.i .i64) (e0_.A))
 let e11_:=(eS 1 (DV.i .i64) rv4.2.1)
 let e12_:=(eS 1 (DV.i .i64) (e0_.C))
 let e13_:=(eS 1 (DV.i .i64) rv4.2.2)
 let e14_:=(AV.d (DV.str (e0_.F)))
.cst (A:=rv4.2.1.length=(e0_.D).length/\rv4.2.2.length=(e0_.E).length) (.ev 0) [(8,(vp 2)),(9,(vi 0))] [(8,(vp 2)),(9,(vi 0))] [e9_,(Ob.box (AV.agg [(vi rv3.1),(AV.ref 5 rv3.2.length 0 rv3.2.length)])),(Ob.box (AV.agg [(vi rv3.1),(AV.ref 5 rv3.2.length 0 rv3.2.length)])),Ob.dead,Ob.dead,(opS 7 TPo.e e4_ (AV.agg [e14_,(vi (e0_.G)),(vi (e0_.H)),(AV.ref 6 ((e0_.A).length) 0 ((e0_.A).length)),(AV.ref 7 ((e0_.D).length) 0 ((e0_.D).length)),(AV.ref 8 ((e0_.C).length) 0 ((e0_.C).length)),(AV.ref 9 ((e0_.E).length) 0 ((e0_.E).length))]) rv3.2),e10_,e11_,e12_,e13_] [e9_,(Ob.box (AV.agg [(vi rv3.1),(AV.ref 5 rv3.2.length 0 rv3.2.length)])),(Ob.box (AV.agg [(vi rv3.1),(AV.ref 5 rv3.2.length 0 rv3.2.length)])),Ob.dead,Ob.dead,(opS 7 TPo.e e4_ (AV.agg [e14_,(vi (e0_.G)),(vi (e0_.H)),(AV.ref 6 ((e0_.A).length) 0 ((e0_.A).length)),(AV.ref 7 rv4.2.1.length 0 rv4.2.1.length),(AV.ref 8 ((e0_.C).length) 0 ((e0_.C).length)),(AV.ref 9 rv4.2.2.length 0 rv4.2.2.length)]) rv3.2),e10_,e11_,e12_,e13_] (fun h=>⟨rfl,by rw[h.1,h.2]⟩)<|
.guard [(e0_.A).length<2 ^ 63/\rv4.2.1.length<2 ^ 63/\(e0_.C).length<2 ^ 63/\rv4.2.2.length<2 ^ 63]<|
 let e8_:=(⟨e0_.F,e0_.G,e0_.H,e0_.A,rv4.2.1,e0_.C,rv4.2.2⟩:TPo)
 let e1_:=(rv3.2.set e4_ e8_)
 let e2_:=(AV.agg [(vi rv3.1),(AV.ref 5 rv3.2.length 0 rv3.2.length)])
 let e3_:=[e9_,(Ob.box e2_),(Ob.box e2_),Ob.dead,Ob.dead,(eS 7 TPo.e e1_),Ob.dead,Ob.dead,Ob.dead,Ob.dead]
 let e6_:=[(8,(vp 2)),(9,(vi 0))]
.sh (A:=(e0_.A).length<2 ^ 63/\rv4.2.1.length<2 ^ 63/\(e0_.C).length<2 ^ 63/\rv4.2.2.length<2 ^ 63) (.ev 0) e6_ e6_ [e9_,(Ob.box e2_),(Ob.box e2_),Ob.dead,Ob.dead,(opS 7 TPo.e e4_ (AV.agg [e14_,(vi (e0_.G)),(vi (e0_.H)),(AV.ref 6 ((e0_.A).length) 0 ((e0_.A).length)),(AV.ref 7 rv4.2.1.length 0 rv4.2.1.length),(AV.ref 8 ((e0_.C).length) 0 ((e0_.C).length)),(AV.ref 9 rv4.2.2.length 0 rv4.2.2.length)]) rv3.2),e10_,e11_,e12_,e13_] e3_ (fun h=>zw oTApiPot (P:=[e9_,(Ob.box e2_),(Ob.box e2_),Ob.dead,Ob.dead]) (D:=[]) rfl (⟨e0_.F,e0_.G,e0_.H,[],[],[],[]⟩:TPo) e8_ h rfl) (zm _)<|
 let e5_:=(AV.agg [(vi rv3.1),(AV.ref 5 (e1_.length) 0 (e1_.length))])
.cst (A:=True) (.pf trivial) e6_ e6_ e3_ [e9_,(Ob.box e5_),(Ob.box e5_),Ob.dead,Ob.dead,(eS 7 TPo.e e1_),Ob.dead,Ob.dead,Ob.dead,Ob.dead] (fun _=>⟨by simp +zetaDelta only,by simp +zetaDelta only[yi]⟩)<|
.guard [e1_.length<2 ^ 63]<|
.frz 5 (.ev 0) none [] [1,2]<|
.r ((⟨rv3.1,e1_⟩:TTr),0))))
def F_q2p (a0:TTr) (a1:Y8) (a2:Int) (p0:TMe):=(S_q2p a0 a1 a2 p0).den
theorem F_q2p_ok {a0:TTr} {a1:Y8} {a2:Int} {p0:TMe}:FO (F_q2p a0 a1 a2 p0) 65 [(TTr.d a0),(AV.d (DV.str a1)),(vi a2),(AV.fn 75 [(vp 0)])] [(TMe.b p0)] (fun x=>(AV.tup [(TTr.d x.1),(vi x.2)])) (fun _=>[(TMe.b p0)]):=fO (s:=S_q2p a0 a1 a2 p0) Tryz.func65
def S_q1z (a0:TTr) (a1:TMe):SC (TTr×Int) (TTr×Int) :=
.reg 0 [] [(2,{ obs:=[(2,(TTr.b (⟨0,[]⟩:TTr)))] })] [.pf cz3]<|
.ite (a1.L != 0) (
.reg 2 [] [(0,hv (TTr.d (⟨0,[]⟩:TTr)))] [.pf cz4]<|
.r ((⟨0,[]⟩:TTr),1)) (
.call (@F_q2p_ok a0 a1.F a1.G a1) fun rv1 cv1=>
.k 3 6 cv1 [1] 3 true<|
.r (rv1.1,rv1.2))
def F_q1z (a0:TTr) (a1:TMe):=(S_q1z a0 a1).den
theorem F_q1z_ok {a0:TTr} {a1:TMe}:FO (F_q1z a0 a1) 36 [(TTr.d a0),(TMe.d a1)] [] (fun x=>(AV.tup [(TTr.d x.1),(vi x.2)])) NL:=fO (s:=S_q1z a0 a1) Tryz.func36
theorem cz6:LeV (AV.d (DV.agg [(DV.i .i64 2),Z0])) (TTr.d (⟨2,[]⟩:TTr)):=z4u rfl (DLe.agg (DLeL.cons (DLe.refl _) (DLeL.cons DLe.sl0 DLeL.nil)))
def S_q20:SC Bool Bool :=
.call (@F_q1d_ok (⟨2,[]⟩:TTr) ([49]) 12 100) fun rv1 cv1=>
.reg 1 [] [(0,hv (TTr.d (⟨2,[]⟩:TTr))),(1,hc cv1 [] true),(5,{ obs:=[(0,(TTr.b (⟨0,[]⟩:TTr)))] })] [.pf cz6,.cl 0 cv1 [] 0 true,.pf cz3]<|
.call (@F_q18_ok rv1.1 ([49]) 12 ([60,40]:List Int)) fun rv2 cv2=>
.reg 2 [] [(1,hv (vl ([60,40]:List Int))),(2,hc cv2 [] true)] [.pf (zp (DV.i .i64) ([60,40]:List Int)),.cl 0 cv2 [] 1 true]<|
.a 3 1 1 (@F_q1d_ok rv2.1 ([49]) 12 90) fun rv3=>
.call (@F_q12_ok rv3.1 ([49]) 12) fun rv4 cv4=>
.reg 4 [] [(1,hc cv4 [] true),(5,{ obs:=[(1,(TPo.b (⟨[],0,0,[],[],[],[]⟩:TPo)))] })] [.cl 0 cv4 [] 1 true,.pf cz1]<|
 let e1_:=(cO (cO (cO (rv1.2 != 0) (rv2.2 != 0)) (rv3.2 != 0)) (!rv4.2))
.calld [e1_=false] dF (@F_q1n_ok rv4.1) fun rv5 cv5 =>
.reg 5 [] [(16,hc cv5 [] true)] [.clg 0 [e1_=false] cv5 [] 2 true]<|
.ite (cO e1_ (rv5 != 10)) (
.r false) (
.a 7 1 2 (@F_q1h_ok rv3.1 1 ([49]) 12 10) fun rv6=>
.a 8 1 2 (@F_q1i_ok rv6.1 1 ([49]) 12) fun rv7=>
.a 9 2 3 (@F_q1v_ok (⟨[49],12,0,0,0⟩:TRi) rv7.1) fun rv8=>
.a 10 1 4 (@F_q1w_ok rv8.1 20) fun rv9=>
.a 11 2 4 (@F_q1x_ok rv8.1 20 rv9) fun rv10=>
.a 12 4 4 (@F_q1z_ok rv6.1 (⟨1,0,[49],12,0,0,rv10.1.J,20⟩:TMe)) fun rv11=>
.a 13 1 4 (@F_q12_ok rv11.1 ([49]) 12) fun rv12=>
 let e0_:=(bif (bif (bif (bif (bif (rv6.2==0) then (rv7.2==0) else false) then (rv8.2==0) else false) then (rv10.2==0) else false) then (rv11.2==0) else false) then (rv9==10) else false)
.calld [e0_=true] dF (@F_q1n_ok rv12.1) fun rv13 cv13 =>
 let e2_:=(bif e0_ then (rv13==0) else false)
.calld [e2_=true] dF (@F_q1g_ok rv12.1) fun rv14 cv14 =>
.reg 14 [] [(24,hc cv13 [] true),(29,hc cv14 [] true)] [.clg 2 [e0_=true] cv13 [] 4 true,.clg 0 [e2_=true] cv14 [] 4 true]<|
.r (bif e2_ then (rv14==90) else false))
def F_q20:=(S_q20).den
theorem F_q20_ok :FO (F_q20) 5 [] [] vb NL:=fO (s:=S_q20) Tryz.func5
def S_q2b (a0:(List Int)):SC TTape TTape :=
 let e0_:=(if 500<(a0.length:Int) then 500 else (a0.length:Int))
.guard [(0:Int)<=e0_,(e0_).toNat<=a0.length]<|
 let e1_:=(a0.take ((e0_).toNat))
.reg 1 [] [(4,hv (vl e1_))] [.ev 0,.ev 1,.der (fun (h0:(e0_).toNat<=a0.length)=>lvT (DV.i .i64) a0 h0) 1]<|
.r (⟨e1_,0⟩:TTape)
def F_q2b (a0:(List Int)):=(S_q2b a0).den
theorem F_q2b_ok {a0:(List Int)}:FO (F_q2b a0) 6 [(vl a0)] [] (fun _=>(vp 0)) (fun x=>[(TTape.b x)]):=fO (s:=S_q2b a0) Tryz.func6
abbrev R_q0:=Int×TTape
def S_q0 (a1:Int) (p0:TTape):SC R_q0 R_q0 :=
.ite (decide (p0.at_>=(p0.l.length:Int))) (
.r (0,p0)) (
.guard [(0:Int)<=p0.at_,(p0.at_).toNat<p0.l.length,(a1:Int)≠0]<|
.reg 3 [] [] [.ev 0,.ev 1,.ev 2]<|
 let e0_:=((p0.l.getD ((p0.at_).toNat) dF).tmod a1)
 let e1_:=(⟨p0.l,(i64.wrap (p0.at_+1))⟩:TTape)
.ite (decide (e0_<0)) (
.r ((i64.wrap (e0_+a1)),e1_)) (
.r (e0_,e1_)))
def F_q0 (a1:Int) (p0:TTape):=(S_q0 a1 p0).den
theorem F_q0_ok {a1:Int} {p0:TTape}:FO (F_q0 a1 p0) 10 [(vp 0),(vi a1)] [(TTape.b p0)] (fun x=>(vi x.1)) (fun x=>[(TTape.b x.2)]):=fO (s:=S_q0 a1 p0) Tryz.func10
abbrev R_qe:=Int×TTape
def S_qe (a1:Int) (a2:Int) (p0:TTape):SC R_qe R_qe :=
.call (@F_q0_ok (i64.wrap ((i64.wrap (a2-a1))+1)) p0) fun rv1 cv1=>
.k 1 6 cv1 [0] 1 false<|
.r ((i64.wrap (a1+rv1.1)),rv1.2)
def F_qe (a1:Int) (a2:Int) (p0:TTape):=(S_qe a1 a2 p0).den
theorem F_qe_ok {a1:Int} {a2:Int} {p0:TTape}:FO (F_qe a1 a2 p0) 8 [(vp 0),(vi a1),(vi a2)] [(TTape.b p0)] (fun x=>(vi x.1)) (fun x=>[(TTape.b x.2)]):=fO (s:=S_qe a1 a2 p0) Tryz.func8
abbrev R_qf:=Y8×TTape
def S_qf (p0:TTape):SC R_qf R_qf :=
.call (@F_q0_ok 3 p0) fun rv1 cv1=>
.guard [(0:Int)<=rv1.1,(rv1.1).toNat<3]<|
.reg 1 [] [(0,hv (AV.d (eL DV.str ([[49],[49,46,50],[50]]:List Y8)))),(2,hc cv1 [0] false)] [.pf (zp DV.str ([[49],[49,46,50],[50]]:List Y8)),.cl 2 cv1 [0] 1 false,.ev 0,.ev 1]<|
.r ((([[49],[49,46,50],[50]]:List Y8).getD ((rv1.1).toNat) dF),rv1.2)
def F_qf (p0:TTape):=(S_qf p0).den
theorem F_qf_ok {p0:TTape}:FO (F_qf p0) 9 [(vp 0)] [(TTape.b p0)] (fun x=>(AV.d (DV.str x.1))) (fun x=>[(TTape.b x.2)]):=fO (s:=S_qf p0) Tryz.func9
abbrev R_q4:=Int×TTape
def S_q4 (a1:(List Int)) (p0:TTape):SC R_q4 R_q4 :=
.call (@F_q0_ok (a1.length:Int) p0) fun rv1 cv1=>
.guard [(0:Int)<=rv1.1,(rv1.1).toNat<a1.length]<|
.reg 1 [] [(4,hc cv1 [0] false)] [.cl 2 cv1 [0] 1 false,.ev 0,.ev 1]<|
.r ((a1.getD ((rv1.1).toNat) dF),rv1.2)
def F_q4 (a1:(List Int)) (p0:TTape):=(S_q4 a1 p0).den
theorem F_q4_ok {a1:(List Int)} {p0:TTape}:FO (F_q4 a1 p0) 20 [(vp 0),(vl a1)] [(TTape.b p0)] (fun x=>(vi x.1)) (fun x=>[(TTape.b x.2)]):=fO (s:=S_q4 a1 p0) Tryz.func20
def S_qp_b1 (a0:Y8) (sv1:Int×Int×Int):SC Bool (Step (Int×Int×Int) Bool) :=
.ite (decide (sv1.2.2<(a0.length:Int))) (
.guard [(0:Int)<=sv1.2.2,(sv1.2.2).toNat<a0.length]<|
.reg 6 [] [] [.ev 0,.ev 1]<|
 let e0_:=((a0.getD ((sv1.2.2).toNat) 0).toNat:Int)
 let e2_:=(i64.wrap (sv1.2.2+1))
.ite (e0_==46) (
.ite (sv1.1==0) (
.r (.ret false)) (
.r (.cont (0,(i64.wrap (sv1.2.1+1)),e2_)))) (
 let e3_:=(decide (e0_<48))
 let e1_:=(cO e3_ (decide (e0_>57)))
 let e4_:=((sv1.2.2).toNat<a0.length)
.guard [AllP [e3_=false]->((0:Int)<=sv1.2.2),AllP [e3_=false]->e4_,AllP [(sv1.1==0)=true,e1_=false]->((0:Int)<=sv1.2.2),AllP [(sv1.1==0)=true,e1_=false]->e4_]<|
.reg 11 [] [] [.ev 5,.ev 6,.ev 0,.ev 1,.ev 2,.ev 3]<|
.ite (cO (cO e1_ (bif (sv1.1==0) then (e0_==48) else false)) (sv1.1==2)) (
.r (.ret false)) (
.r (.cont ((i64.wrap (sv1.1+1)),sv1.2.1,e2_))))) (
.r (.brk (sv1.1,sv1.2.1,sv1.2.2)))
def S_qp (a0:Y8):SC Bool Bool :=
.iter [0] (fun (sv1:Int×Int×Int)=>[(3,(vi sv1.1)),(4,(vi sv1.2.1)),(5,(vi sv1.2.2))]) (fun _=>[]) (0,1,0) (S_qp_b1 a0) (fun sv1 =>
.r (bif (decide (sv1.1>0)) then (decide (sv1.2.1<=4)) else false)) id
def F_qp (a0:Y8):=(S_qp a0).den
theorem F_qp_ok {a0:Y8}:FO (F_qp a0) 62 [(AV.d (DV.str a0))] [] vb NL:=fO (s:=S_qp a0) Tryz.func62
def S_qc (a0:Int):SC Bool Bool :=
.r (bif (decide (a0>=0)) then (decide (a0<=1000000000000000)) else false)
def F_qc (a0:Int):=(S_qc a0).den
theorem F_qc_ok {a0:Int}:FO (F_qc a0) 74 [(vi a0)] [] vb NL:=fO (s:=S_qc a0) Tryz.func74
def S_qt_b1 (a0:TPo) (iv1:Nat) (sv2:Int):SC Bool (Step (Int) Bool) :=
 let e5_:=(a0.A.getD iv1 dF)
.call (@F_qc_ok e5_) fun rv3 cv3=>
 let e6_:=(a0.D.getD iv1 dF)
.calld [(!rv3)=false] dF (@F_qc_ok e6_) fun rv4 cv4 =>
 let e2_:=(cO (!rv3) (!rv4))
 let e7_:=(a0.C.getD iv1 dF)
.calld [e2_=false] dF (@F_qc_ok e7_) fun rv5 cv5 =>
 let e0_:=(cO e2_ (!rv5))
.calld [e0_=false] dF (@F_qc_ok (a0.E.getD iv1 dF)) fun rv6 cv6 =>
 let e3_:=(cO e0_ (!rv6))
 let e1_:=(cO e3_ (decide (e6_>e5_)))
.guard [AllP [(!rv3)=false]->(iv1<a0.D.length),AllP [e2_=false]->(iv1<a0.C.length),AllP [e0_=false]->(iv1<a0.E.length),AllP [e3_=false]->(iv1<a0.D.length),AllP [e1_=false]->(iv1<a0.C.length)]<|
 let e4_:=((0:Int)<=(iv1:Int))
.reg 9 [] [(5,hc cv3 [] true),(13,hc cv4 [] true),(22,hc cv5 [] true),(31,hc cv6 [] true)] [.w iv1,.ev 12,.cl 11 cv3 [] 1 true,.pf (p:=AllP [(!rv3)=false]->e4_) (fun _=>(y25 _)),.ev 0,.clg 9 [(!rv3)=false] cv4 [] 1 true,.pf (p:=AllP [e2_=false]->e4_) (fun _=>(y25 _)),.ev 1,.clg 7 [e2_=false] cv5 [] 1 true,.pf (p:=AllP [e0_=false]->e4_) (fun _=>(y25 _)),.ev 2,.clg 5 [e0_=false] cv6 [] 1 true,.pf (p:=AllP [e3_=false]->e4_) (fun _=>(y25 _)),.ev 3,.pf (p:=AllP [e3_=false]->e4_) (fun _=>(y25 _)),.der (fun (h:iv1<a0.A.length) (_:AllP [e3_=false])=>h) 12,.pf (p:=AllP [e1_=false]->e4_) (fun _=>(y25 _)),.ev 4,.pf (p:=AllP [e1_=false]->e4_) (fun _=>(y25 _)),.der (fun (h:iv1<a0.A.length) (_:AllP [e1_=false])=>h) 12]<|
.ite (cO e1_ (decide (e7_>e5_))) (
.r (.ret false)) (
.reg 11 [] [] [.w iv1,.ev 13]<|
.r (.cont (i64.wrap (sv2+e5_))))
def S_qt (a0:TPo) (a1:Int):SC Bool Bool :=
.a 1 2 1 (@F_qp_ok a0.F) fun rv7=>
.ite (cO (cO (cO (cO (!rv7) (decide (a0.G<0))) (decide (a0.G>99))) (decide (a0.H<(-1000000000000000)))) (decide (a0.H>1000000000000000))) (
.r false) (
.ite (cO (cO (cO ((a0.A.length:Int) != a1) ((a0.D.length:Int) != a1)) ((a0.C.length:Int) != a1)) ((a0.E.length:Int) != a1)) (
.r false) (
.guard [a0.A.length<2 ^ 63]<|
.range (a0.A.length:Int) a0.A.length rfl (.why (.ev 0)) 60 [2,59] (fun (sv2:Int)=>[(5,(vi sv2))]) (fun _=>[]) 0 (S_qt_b1 a0) (fun sv2 => 
.r (decide (sv2<=1000000000000000))) id))
def F_qt (a0:TPo) (a1:Int):=(S_qt a0 a1).den
theorem F_qt_ok {a0:TPo} {a1:Int}:FO (F_qt a0 a1) 51 [(TPo.d a0),(vi a1)] [] vb NL:=fO (s:=S_qt a0 a1) Tryz.func51
end
end Go.Proofs.YtcfloplnjicomaaGreatDoor
