/- A part of the proof: what the functions compute, and that their calls return it. No condition. -/
import Derived.Test.YtiohhffifhaboaaGreatDoorT9
import Derived.Lib.AppendZerosOnto
import Derived.Test.YtiohhffifhaboaaGreatDoorProg
import Derived.Test.YtiohhffifhaboaaGreatDoorT4
import Derived.Test.YtiohhffifhaboaaGreatDoorG2
import Derived.Test.YtiohhffifhaboaaGreatDoorG3
import Derived.Test.YtiohhffifhaboaaGreatDoorP1
import Derived.Test.YtiohhffifhaboaaGreatDoorP2
/- slices.Insert of one element. No condition. -/
namespace Go.Proofs.YtiohhffifhaboaaGreatDoor
namespace Ins62
open Go Go.TA
open Go.IntKind (i64)
def cL:Code->Code
 | .seq x _=>x
 | _=>.skip
def cR:Code->Code
 | .seq _ y=>y
 | _=>.skip
def cT:Code->Code
 | .cond _ x _=>x
 | _=>.skip
noncomputable def regOps:Code->Array Oper
 | .region _ ops _=>ops
 | _=>#[]
noncomputable def opAt (ops : Array Oper) (i : Nat) : Oper := (ops[i]?).getD { dst := none, op := .move (.tmp 0), type := 0, pos := "", after := #[], guard := none }
noncomputable def ci:Code:=Tryz.f62.body.getD .skip
noncomputable def R0:Code:=cL ci
noncomputable def R1:Code:=cL (cR ci)
noncomputable def R2:Code:=cL (cR (cR ci))
noncomputable def X3:Code:=cL (cR (cR (cR ci)))
noncomputable def R5:Code:=cL (cR (cR (cR (cR ci))))
noncomputable def X6:Code:=cL (cR (cR (cR (cR (cR ci)))))
noncomputable def T8:Code:=cR (cR (cR (cR (cR (cR ci)))))
noncomputable def R8:Code:=cL (cL T8)
noncomputable def B9:Code:=cT (cR (cL T8))
noncomputable def R9:Code:=cL B9
noncomputable def B10:Code:=cR B9
noncomputable def C13:Code:=cR T8
theorem znl:Tryz.f62.body=some (.seq R0 (.seq R1 (.seq R2 (.seq (.seq (cL X3) (.cond (.tmp 16) (cT (cR X3)) .skip)) (.seq R5 (.seq (.seq (cL X6) (.cond (.tmp 22) (cT (cR X6)) .skip)) (.seq (.seq R8 (.cond (.tmp 31) (.seq R9 B10) .skip)) C13))))))):=kj
theorem zqc:R8 = .region 8 (regOps R8) false:=kj
theorem zqd:R9 = .region 9 (regOps R9) false:=kj
variable {i zn:Nat} {a:Act} {Q:Exit->Act->World->Prop} {X:Nat->Prop} {ms:Blocks} {w:World}
section
variable {α:Type} [Inhabited α] {e:α->DV}
def gB (e:α->DV) (l:List α) (i:Nat):Nat->AV:=fun j=>if j<i then .d (e (l.getD j dF)) else garb 14
noncomputable def sB (l:List α) (x:α) (i:Nat) (n1:(0:Int)<=i) (h1:i<=l.length+1) (w0:0<=i64.wrap ((i:Int)+1)) (w1:(i64.wrap ((i:Int)+1)).toNat<=l.length+1) (h2:i<=l.length)
  (hx:∀ k,k<1->(AV.d (e ([x].getD (0+k) dF))).wd=14) (hl:∀ k,k<l.length-i->(AV.d (e (l.getD (0+i+k) dF))).wd=14)
  (ho:OLe (.seq 14 (l.length+1) fun j=>if 0+(i64.wrap ((i:Int)+1)).toNat<=j/\j<0+(i64.wrap ((i:Int)+1)).toNat+min (l.length-i) (l.length+1-(i64.wrap ((i:Int)+1)).toNat) then .d (e (l.getD (0+i+(j-(0+(i64.wrap ((i:Int)+1)).toNat))) dF))
   else if 0+i<=j/\j<0+i+min 1 (l.length+1-i) then .d (e ([x].getD (0+(j-(0+i))) dF)) else gB e l i j) (eS 14 e (insL l i x))):SC Unit Unit :=
 .reg 10 [] [] [.pf n1,.pf h1,.pf (y2l (l.length+1)),.pf (y2l 1),.pf (y2l (l.length+1)),.pf hx] <|
 .reg 11 [8] [(8,{ obs:=[(2,eS 14 e (insL l i x))] })] [.pf w0,.pf w1,.pf (y2l (l.length+1)),.pf n1,.pf h2,.pf (y2l l.length),.pf (y2l l.length),.pf (y2l (l.length+1)),.pf hl,.pf ho] <|
 .ret [] ()
def frI (n i:Nat) (s:AV):Fr:=[(7,.d (.i .i64 1)),(8,.d (.i .i64 (n:Int))),(2,.ref 1 1 0 1),(1,.d (.i .i64 (i:Int))),(0,s)]
theorem tailB (he:∀ x,(e x).wd=14) {l:List α} {x:α} (hi:i<l.length) (hl:l.length<100000000000000) :
  AW none Tryz.prog Tryz.f62.ntmps B10 (fun e1 fr L=>e1 = .ret/\FR Tryz.prog Tryz.f62 (.ref 2 (l.length+1) 0 (l.length+1)) [eS 14 e l,eS 14 e [x],eS 14 e (insL l i x)] fr L)
   ((9,.ref 2 (l.length+1) 0 (l.length+1)) :: frI l.length i (.ref 0 l.length 0 l.length)) [eS 14 e l,eS 14 e [x],.seq 14 (l.length+1) (gB e l i)]:=by
 have hw:i64.wrap ((i:Int)+1)=(i:Int)+1:=by rw[z35] <;> omega
 exact pTailR (ρ:=Unit) (V:=fun _=>.ref 2 (l.length+1) 0 (l.length+1)) (Lr:=fun _=>[eS 14 e l,eS 14 e [x],eS 14 e (insL l i x)]) (r:=())
  (s:=sB (e:=e) l x i om om (by rw[hw]; omega) (by rw[hw]; omega) om (fun k _=>he _) (fun k _=>he _) (by
   rw[hw]
   refine z3z z1c.symm fun j hj=>?_
   rw[z4k om,show ((i:Int)+1).toNat=i+1 from om]
   by_cases h1:j<i
   ·rw[y8 om,y8 om,y9 h1,gB,y9 h1]
   ·by_cases h2:j=i
    ·subst h2
     rw[y8 om,y9 om,y8 h1,y9 rfl,show 0+(j-(0+j))=0 from om]
     rfl
    ·rw[y9 om,y8 h1,y8 h2]
     congr 3; omega)) kj rfl
def gC (e:α->DV) (l:List α):Nat->AV:=fun j=>if j<l.length then .d (e (l.getD j dF)) else garb 14
noncomputable def sC (l:List α) (x:α) (i:Nat) (a:(0:Int)<=i64.wrap ((l.length:Int)+1)) (c:(i64.wrap ((l.length:Int)+1)).toNat<=l.length+1) (f:(i64.wrap ((l.length:Int)+1)).toNat=l.length+1)
  (w0:(0:Int)<=i64.wrap ((i:Int)+1)) (w1:(i64.wrap ((i:Int)+1)).toNat<=l.length+1) (n1:(0:Int)<=i) (h1:i<=l.length+1)
  (hx:ExtOk Tryz.prog 85 [.ref 1 1 0 1,.ref 0 (l.length+1) (0+(i64.wrap ((i:Int)+1)).toNat) (l.length+1-(i64.wrap ((i:Int)+1)).toNat)] [.seq 14 (l.length+1) (gC e l),eS 14 e [x]] (.d (.b false)))
  (hg:∀ k,k<l.length+1-i->(gC e l (0+i+k)).wd=14) (hy:∀ k,k<1->(AV.d (e ([x].getD (0+k) dF))).wd=14)
  (ho:OLe (.seq 14 (l.length+1) fun j=>if 0+i<=j/\j<0+i+min 1 (l.length+1-i) then .d (e ([x].getD (0+(j-(0+i))) dF))
   else if 0+(i64.wrap ((i:Int)+1)).toNat<=j/\j<0+(i64.wrap ((i:Int)+1)).toNat+min (l.length+1-i) (l.length+1-(i64.wrap ((i:Int)+1)).toNat) then gC e l (0+i+(j-(0+(i64.wrap ((i:Int)+1)).toNat)))
   else gC e l j) (eS 14 e (insL l i x))):SC Unit Unit :=
 .reg 13 [] [] [.pf a,.pf c,.pf (y2l (l.length+1))] <|
 .cst (A:=(i64.wrap ((l.length:Int)+1)).toNat=l.length+1) (.pf f) [(0,.ref 0 (l.length+1) (0+0) ((i64.wrap ((l.length:Int)+1)).toNat-0)),(1,.d (.i .i64 (i:Int))),(2,.ref 1 1 0 1),(7,.d (.i .i64 1))]
  [(0,.ref 0 (l.length+1) 0 (l.length+1)),(1,.d (.i .i64 (i:Int))),(2,.ref 1 1 0 1),(7,.d (.i .i64 1))]
  [.seq 14 (l.length+1) (gC e l),eS 14 e [x]] [.seq 14 (l.length+1) (gC e l),eS 14 e [x]] (fun h=>⟨by rw[h]; rfl,rfl⟩) <|
 .reg 14 [] [(6,{ h:=.callr (.d (.b false)) })] [.pf w0,.pf w1,.pf (y2l (l.length+1)),.pf hx] <|
 .br true (.pf (p:=(!false)=true) rfl) <|
 .reg 15 [8] [] [.pf w0,.pf w1,.pf (y2l (l.length+1)),.pf n1,.pf h1,.pf (y2l (l.length+1)),.pf (y2l (l.length+1)),.pf (y2l (l.length+1)),.pf hg] <|
 .reg 16 [] [(4,{ obs:=[(0,eS 14 e (insL l i x))] })] [.pf n1,.pf h1,.pf (y2l (l.length+1)),.pf (y2l 1),.pf (y2l (l.length+1)),.pf hy,.pf ho] <|
 .reg 17 [] [] [] <|
 .ret [] ()
theorem tailC (he:∀ x,(e x).wd=14) {l:List α} {x:α} (hi:i<l.length) (hl:l.length<100000000000000) :
  AW none Tryz.prog Tryz.f62.ntmps C13 (FQ Tryz.prog Tryz.f62 (.ref 0 (l.length+1) 0 (l.length+1)) [eS 14 e (insL l i x),eS 14 e [x]])
   (frI l.length i (.ref 0 (l.length+1) 0 l.length)) [.seq 14 (l.length+1) (gC e l),eS 14 e [x]]:=by
 have hw:i64.wrap ((i:Int)+1)=(i:Int)+1:=by rw[z35] <;> omega
 have hw2:i64.wrap ((l.length:Int)+1)=(l.length:Int)+1:=by rw[z35] <;> omega
 have hwd:∀ k,(gC e l k).wd=14:=fun k=>by
  unfold gC
  split
  ·exact he _
  ·rfl
 exact pTailG (ρ:=Unit) (V:=fun _=>.ref 0 (l.length+1) 0 (l.length+1)) (Lr:=fun _=>[eS 14 e (insL l i x),eS 14 e [x]]) (r:=())
  (s:=sC (e:=e) l x i (by rw[hw2]; omega) (by rw[hw2]; omega) (by rw[hw2]; omega) (by rw[hw]; omega) (by rw[hw]; omega) om om
   (zgc (fn:=Tryz.f85) (tR:=4) (te:=29) (sz:=14) (z1:=14) (z2:=14) Tryz.func85 kj kj kj kj Tryz.underlying48 Tryz.sizeOf29 dk rfl rfl dk rfl (by rw[hw]; omega) (by rw[hw]; omega) dk)
   (fun k _=>hwd _) (fun k _=>he _) (by
   rw[hw]
   refine z3z z1c.symm fun j hj=>?_
   rw[z4k om,show ((i:Int)+1).toNat=i+1 from om]
   by_cases h2:j=i
   ·subst h2
    rw[y9 om,y8 om,y9 rfl,show 0+(j-(0+j))=0 from om]
    rfl
   ·rw[y8 om,y8 h2]
    by_cases h1:j<i
    ·rw[y8 om,y9 h1,gC,y9 om]
    ·rw[y9 om,y8 h1,gC,y9 om]
     congr 3; omega)) kj rfl
theorem z4m {c:Cx} {G:GFr} {t:Nat} {v:AV} (hf:FrIs c G a.tmps) (h:(t,[],v)∈G):AV.IsV c v (a.tmps.getD t undef):=(hf _ h).2.1 (fun z hz=>by cases hz)
theorem zqe {l:List α} {x:α} (h0:0<l.length) (hr:Rel X ms [eS 14 e l,eS 14 e [x]] w) (hf:FrIs (cxOf X ms [eS 14 e l,eS 14 e [x]] w) (frI l.length i (.ref 0 l.length 0 l.length)).up a.tmps) (hN:a.tmps.size=Tryz.f62.ntmps) (hQ:∀ a' ms' w' b tc,Rel X ms' [eS 14 e l,eS 14 e [x]] w'->Ext ms w ms' w'->(cxOf X ms [eS 14 e l,eS 14 e [x]] w).le (cxOf X ms' [eS 14 e l,eS 14 e [x]] w')->FrIs (cxOf X ms' [eS 14 e l,eS 14 e [x]] w') (frI l.length i (.ref 0 l.length 0 l.length)).up a'.tmps ->
   a'.tmps.size=Tryz.f62.ntmps->a'.defers=a.defers->ms'[0]? = some (some (b,tc))->l.length<=tc->a'.eval (.tmp 0) = .slice (some ⟨b,0,none⟩) l.length tc->a'.eval (.tmp 31) = .bool (decide (i64.wrap ((l.length:Int)+1)>(tc:Int)))->Q .normal a' w') :
  R8.wpIn (fenceOf none) zn Tryz.prog Q a w:=by
 rw[zqc]
 refine y54 ?_
 rw[show List.range (regOps R8).size=[0,1,2,3]++[4,5] from kj]
 refine zcz (hs:=[]) (C:=[]) (L1:=[eS 14 e l,eS 14 e [x]]) (G1:=[(29,[],.ref 0 l.length 0 l.length),(28,[],.d (.i .i64 (i64.wrap ((l.length:Int)+1)))),(27,[],.d (.i .i64 1)),(26,[],.d (.i .i64 (l.length:Int))),
  (7,[],.d (.i .i64 1)),(8,[],.d (.i .i64 (l.length:Int))),(2,[],.ref 1 1 0 1),(1,[],.d (.i .i64 (i:Int))),(0,[],.ref 0 l.length 0 l.length)]) kj trivial hr hf hN fun f ms1 w1 r1 e1 c1 f1 n1 d1=>?_
 have k1:=IsV.is1 rfl sj sj (z4m f1 (t:=29) (v:=.ref 0 l.length 0 l.length) sj)
 have k0:=IsV.is1 rfl sj sj (z4m f1 (t:=0) (v:=.ref 0 l.length 0 l.length) sj)
 have at0:∀ {t:Nat} {v:Value},f.tmps.getD t undef=v->AV.Is (cxOf X ms1 [eS 14 e l,eS 14 e [x]] w1) (.ref 0 l.length 0 l.length) [v]->∃ b tc,ms1[0]? = some (some (b,tc))/\l.length<=tc/\v = .slice (some ⟨b,0,none⟩) l.length tc:=fun {t v} _ h=>by
  cases h with
  | ref _ _ _ _ _ h =>
  obtain⟨_,⟨_,_,rfl⟩,_,h⟩:=h
  obtain⟨_,h⟩:=h 14 _ rfl
  rcases h with ⟨_,_,h⟩ | ⟨h,_⟩ | ⟨b,tc,m,h1,h2⟩
  ·simp only[y33] at h; omega
  ·exact absurd rfl h
  ·exact⟨b,tc,m,h1,by simpa using h2⟩
 obtain⟨b,tc,m1,hle,h29⟩:=at0 rfl k1
 obtain⟨b',tc',m1',_,h0'⟩:=at0 rfl k0
 have e1':=m1'.symm.trans m1
 cases e1'
 refine zhd (o:=opAt (regOps R8) 4) kj kj (OpOk.value (zog (x:=.tmp 29) (t:=48) kj Tryz.underlying48 h29) ?_)
 rw[show (opAt (regOps R8) 4).dst=some 30 from kj]
 obtain⟨g,j,k⟩:=z4f (dst:=some 30) (ch:=[]) (v:=.d (.i .i64 (tc:Int))) (u:=.int .i64 tc) (G:=[(29,[],.ref 0 l.length 0 l.length),(28,[],.d (.i .i64 (i64.wrap ((l.length:Int)+1)))),(27,[],.d (.i .i64 1)),(26,[],.d (.i .i64 (l.length:Int))),
  (7,[],.d (.i .i64 1)),(8,[],.d (.i .i64 (l.length:Int))),(2,[],.ref 1 1 0 1),(1,[],.d (.i .i64 (i:Int))),(0,[],.ref 0 l.length 0 l.length)]) (G1:=(30,[],.d (.i .i64 (tc:Int))) :: [(29,[],.ref 0 l.length 0 l.length),(28,[],.d (.i .i64 (i64.wrap ((l.length:Int)+1)))),(27,[],.d (.i .i64 1)),(26,[],.d (.i .i64 (l.length:Int))),
  (7,[],.d (.i .i64 1)),(8,[],.d (.i .i64 (l.length:Int))),(2,[],.ref 1 1 0 1),(1,[],.d (.i .i64 (i:Int))),(0,[],.ref 0 l.length 0 l.length)]) (N:=Tryz.f62.ntmps) kj n1 f1 (fun _=>.one _ _ rfl (.d _ _ (.i _ _))) (fun h=>absurd (fun z hz=>by cases hz) h)
 refine z2k (hs:=[]) none zn [5] _ _ ([(31,[],.d (.b (decide (i64.wrap ((l.length:Int)+1)>(tc:Int)))))]++(30,[],.d (.i .i64 (tc:Int))) :: [(29,[],.ref 0 l.length 0 l.length),(28,[],.d (.i .i64 (i64.wrap ((l.length:Int)+1)))),(27,[],.d (.i .i64 1)),(26,[],.d (.i .i64 (l.length:Int))),
  (7,[],.d (.i .i64 1)),(8,[],.d (.i .i64 (l.length:Int))),(2,[],.ref 1 1 0 1),(1,[],.d (.i .i64 (i:Int))),(0,[],.ref 0 l.length 0 l.length)]) [eS 14 e l,eS 14 e [x]] [] ms1 w1 _ kj trivial r1 g j fun c ms2 w2 r2 e2 c2 f2 n2 d2=>?_
 have m2:ms2[0]? = some (some (b,tc)):=by
  obtain⟨_,h1,_,_,h2⟩:=c2.ob 0 (eS 14 e l) (by simp[cxOf]) rfl (by simp[eS,Ob.stamp])
  obtain rfl:_=eS 14 e l:=yn h1.symm
  exact (h2 rfl).trans m1
 have k0':=IsV.is1 rfl sj sj (z4m f2 (t:=0) (v:=.ref 0 l.length 0 l.length) sj)
 have h0'':c.tmps.getD 0 undef = .slice (some ⟨b,0,none⟩) l.length tc:=by
  generalize c.tmps.getD 0 undef=v at k0'
  cases k0' with
  | ref _ _ _ _ _ h =>
  obtain⟨_,⟨_,_,rfl⟩,_,h⟩:=h
  obtain⟨_,h⟩:=h 14 _ rfl
  rcases h with ⟨_,_,h⟩ | ⟨h,_⟩ | ⟨b'',tc'',m,h1,h2⟩
  ·simp only[y33] at h; omega
  ·exact absurd rfl h
  ·have e:=m2.symm.trans m
   cases e
   simpa using h2
 exact hQ c ms2 w2 b tc r2 (e1.trans e2) (c1.trans c2) (fun q hq=>f2 q (by
  simp only[frI,Fr.up,y2o,List.map_nil,yu,y1n,y3c] at hq
  rcases hq with rfl | rfl | rfl | rfl | rfl <;> simp)) n2 (d2.trans (k.trans d1)) m2 hle h0'' (IsV.b (z4m f2 (t:=31) (v:=.d (.b (decide (i64.wrap ((l.length:Int)+1)>(tc:Int))))) sj))
theorem zqf {l:List α} {x:α} (hi:i<l.length) (hl:(l.length+1) * (4 * 120)<=2 ^ 48) {b:Nat} (hr:Rel X ms [eS 14 e l,eS 14 e [x]] w) (hf:FrIs (cxOf X ms [eS 14 e l,eS 14 e [x]] w) (frI l.length i (.ref 0 l.length 0 l.length)).up a.tmps) (hN:a.tmps.size=Tryz.f62.ntmps) (hm:ms[0]? = some (some (b,l.length))) (hQ:∀ a' ms' w',Rel X ms' [eS 14 e l,eS 14 e [x],.seq 14 (l.length+1) (gB e l i)] w'->Ext ms w ms' w'->(cxOf X ms [eS 14 e l,eS 14 e [x]] w).le (cxOf X ms' [eS 14 e l,eS 14 e [x],.seq 14 (l.length+1) (gB e l i)] w') ->
   FrIs (cxOf X ms' [eS 14 e l,eS 14 e [x],.seq 14 (l.length+1) (gB e l i)] w') (Fr.up ((9,.ref 2 (l.length+1) 0 (l.length+1)) :: frI l.length i (.ref 0 l.length 0 l.length))) a'.tmps ->
   a'.tmps.size=Tryz.f62.ntmps->a'.defers=a.defers->Q .normal a' w') :
  R9.wpIn (fenceOf none) zn Tryz.prog Q a w:=by
 have hn:l.length<100000000000000:=om
 have hw2:i64.wrap ((l.length:Int)+1)=(l.length:Int)+1:=by rw[z35] <;> omega
 have hw3:i64.wrap (i64.wrap ((l.length:Int)+1)-(i:Int))=((l.length+1-i:Nat):Int):=by rw[hw2,z35] <;> omega
 rw[zqd]
 refine y54 ?_
 rw[show List.range (regOps R9).size=[0,1,2,3,4,5,6,7]++[8,9] from kj]
 refine zcz (hs:=[]) (C:=[(0:Int)<=(i:Int),i<=l.length,l.length=l.length]) (L1:=[eS 14 e l,eS 14 e [x]]) (G1:=[(39,[],.d (.i .i64 (i64.wrap (i64.wrap ((l.length:Int)+1)-(i:Int))))),(38,[],.d (.i .i64 (i:Int))),(37,[],.d (.i .i64 (i64.wrap ((l.length:Int)+1)))),
  (36,[],.d (.i .i64 1)),(35,[],.d (.i .i64 (l.length:Int))),(34,[],.ref 0 l.length (0+0) (i-0)),(33,[],.d (.i .i64 (i:Int))),(32,[],.ref 0 l.length 0 l.length),
  (7,[],.d (.i .i64 1)),(8,[],.d (.i .i64 (l.length:Int))),(2,[],.ref 1 1 0 1),(1,[],.d (.i .i64 (i:Int))),(0,[],.ref 0 l.length 0 l.length)]) kj ⟨om,om,rfl,trivial⟩ hr hf hN fun f ms1 w1 r1 e1 c1 f1 n1 d1=>?_
 have m1:ms1[0]? = some (some (b,l.length)):=by
  obtain⟨_,h1,_,_,h2⟩:=c1.ob 0 (eS 14 e l) (by simp[cxOf]) rfl (by simp[eS,Ob.stamp])
  obtain rfl:_=eS 14 e l:=yn h1.symm
  exact (h2 rfl).trans hm
 have k34:=IsV.is1 rfl sj sj (z4m f1 (t:=34) (v:=.ref 0 l.length (0+0) (i-0)) sj)
 have h34:f.eval (.tmp 34) = .slice (some ⟨b,0,none⟩) i l.length:=by
  show f.tmps.getD 34 undef=_
  generalize f.tmps.getD 34 undef=v at k34
  cases k34 with
  | ref _ _ _ _ _ h =>
  obtain⟨_,⟨_,_,rfl⟩,_,h⟩:=h
  obtain⟨_,h⟩:=h 14 _ rfl
  rcases h with ⟨h,_⟩ | ⟨h,_⟩ | ⟨b'',tc'',m,h1,h2⟩
  ·have e:some (none:Option (Nat×Nat))=some (some (b,l.length)):=h.symm.trans m1
   cases e
  ·exact absurd rfl h
  ·have e:=m1.symm.trans m
   cases e
   simpa using h2
 have h39:f.eval (.tmp 39) = .int .i64 ((l.length+1-i:Nat):Int):=by
  have:=IsV.i (z4m f1 (t:=39) (v:=.d (.i .i64 (i64.wrap (i64.wrap ((l.length:Int)+1)-(i:Int))))) sj)
  rw[hw3] at this
  exact this
 obtain⟨arr,ty,cs,g1,g2,g3,g4,g5,g6⟩:=r1.seq (o:=0) rfl m1
 obtain⟨info,hinf⟩:∃ info,Tryz.prog.info? 29=some info:=⟨_,Option.eq_some_of_isSome kj⟩
 have hsz:info.size=14:=by
  have:(Tryz.prog.info? 29).map (·.size)=some 14:=kj
  rw[hinf] at this; simpa using this
 have hby:info.bytes=120:=by
  have:(Tryz.prog.info? 29).map (·.bytes)=some 120:=kj
  rw[hinf] at this; simpa using this
 obtain⟨z,hz⟩:∃ z,info.zero=some z:=by
  have:((Tryz.prog.info? 29).bind (·.zero)).isSome=true:=kj
  rw[hinf] at this
  exact y2z.1 this
 have hzs:z.cells.size=14:=by
  have:((Tryz.prog.info? 29).bind (·.zero)).map (fun z=>z.cells.size)=some 14:=kj
  rw[hinf] at this
  simpa [hz] using this
 have hzone:∀ v∈z.cells.toList,v.oneCell'=true:=by
  have:((Tryz.prog.info? 29).bind (·.zero)).map (fun z=>z.cells.toList.all fun v=>v.oneCell')=some true:=kj
  rw[hinf] at this
  have h:z.cells.toList.all (fun v=>v.oneCell')=true:=by simpa [hz] using this
  exact y1i.1 h
 have hcsi:∀ k,k<i->(cs k).length=14:=fun k hk=>g5 k om
 have hold:(Builtin.firstCells info.size i (.slice (some ⟨b,0,none⟩) i l.length)).run Tryz.prog w1.drew = .ok ((List.range i).flatMap cs).toArray w1.drew:=by
  rw[hsz]
  exact z3c (w:=w1) (w1:=w1.drew) (off:=0) (cap:=l.length) rfl g1 hcsi (fun k hk j hj=>by simpa using g6 k om j hj) i
 have hfit:Builtin.nextslicecap (i+(l.length+1-i)) l.length * info.bytes<=281474976710656:=by
  have h1:=z64 (need:=i+(l.length+1-i)) (old:=l.length) om
  rw[hby]
  omega
 have hap:=Lib.run_append_grow_zeros (P:=Tryz.prog) w1 48 3 (opAt (regOps R9) 8).type 29 info z .i64 .i64 Tryz.underlying48 Tryz.underlying3 hinf hz (some ⟨b,0,none⟩) i l.length ((List.range i).flatMap cs) hold (l.length+1-i) om om om om (by rw[hby]; omega) hfit
 rw[show i+(l.length+1-i)=l.length+1 from om] at hap
 obtain⟨nc,hnc⟩:∃ nc,nc=grownCap w1 (l.length+1) l.length 29:=⟨_,rfl⟩
 have hge:=grownCap_ge w1 (l.length+1) l.length 29
 rw[<- hnc] at hap hge
 obtain⟨row,hrow⟩:∃ row:Array Value,row=((List.range i).flatMap cs).toArray++Builtin.zeroCells z.cells (l.length+1-i)++Builtin.zeroCells z.cells (nc-(l.length+1)):=⟨_,rfl⟩
 rw[<- hrow] at hap
 have hkl:=zd i 14 cs hcsi
 have hrs:row.size=nc * 14:=by
  rw[hrow,y3l,y3l,y26,hkl,y4i,y4i,hzs]
  omega
 have hone:∀ v∈row.toList,v.oneCell'=true:=by
  rw[hrow]
  simp only[y35,y1b]
  rintro v ((hv | hv) | hv)
  ·exact z2v (fun k (hk:k<i)=>g4 k om) v hv
  ·exact z3s hzone _ v hv
  ·exact z3s hzone _ v hv
 have hget:∀ k,k<i->∀ j,j<14->row[k * 14+j]? = (cs k)[j]? := fun k hk j hj=>by
  rw[hrow,<- y16]
  simp only[y35,y1u]
  rw[yk (by rw[hkl]; omega)]
  exact zh? i 14 cs hcsi k j hk hj
 have hcl:∀ j,j<l.length+1->((row.toList.drop (j * 14)).take 14).length=14:=fun j hj=>by
  simp only[y1m,y2a,y1q,hrs]
  omega
 obtain⟨w2,hw⟩:∃ w2,w2=w1.drew.alloc (.cells row 29):=⟨_,rfl⟩
 rw[<- hw] at hap
 have hgrow:Grow w1 w2:=by rw[hw]; exact (Grow.drew w1).trans (Grow.alloc _ _)
 have hhp:w2.heap[w1.heap.size]? = some (.cells row 29 (0,0)):=by rw[hw]; exact z2e w1.drew _
 have hsize:w1.heap.size<w2.heap.size:=zan hhp
 obtain⟨q1,q2,q3⟩:=r1.push (m:=some (w1.heap.size,nc)) (obj:=.seq 14 (l.length+1) (gB e l i)) hgrow (fun b tc e=>by cases e; exact⟨yf _,hsize⟩) (fun hcx=>by
  refine .inr ⟨w1.heap.size,nc,row,29,fun j=>if j<i then cs j else (row.toList.drop (j * 14)).take 14,by simp[cxOf,<- r1.len],hhp,hge,⟨hrs,hone⟩,fun j hj=>?_,fun j hj=>?_,fun j hj q hq=>?_⟩
  ·by_cases hji:j<i
   ·simp only[gB,y9 hji]; exact (g4 j om).mono hcx
   ·simp only[gB,y8 hji,garb]
    have:=zbx (c:=cxOf X (ms1++[some (w1.heap.size,nc)]) ([eS 14 e l,eS 14 e [x]]++[.seq 14 (l.length+1) (gB e l i)]) w2) (l:=(row.toList.drop (j * 14)).take 14) fun v hv=>hone v (y3b (y40 hv))
    rw[hcl j hj] at this
    exact .agg _ _ this
  ·by_cases hji:j<i
   ·simp only[y9 hji]; exact g5 j om
   ·simp only[y8 hji]; exact hcl j hj
  ·by_cases hji:j<i
   ·simp only[y9 hji]; exact hget j hji q hq
   ·simp only[y8 hji]
    rw[y1r hq,y2i,y16])
 have hexec:(execOp f.eval (opAt (regOps R9) 8)).run Tryz.prog w1 = .ok (.value (.slice (some ⟨w1.heap.size,0,none⟩) (l.length+1) nc)) w2:=by
  have hop:(opAt (regOps R9) 8).op = .call ⟨.builtin .append,#[.tmp 34,.tmp 39],#[48,3]⟩:=kj
  generalize opAt (regOps R9) 8=o at hop hap
  obtain⟨dst,op,ty,pos,after,guard⟩:=o
  subst hop
  refine zy (s:=Builtin.append_ #[48,3] ty (#[.tmp 34,.tmp 39].map f.eval)) ?_
  have ha:(#[.tmp 34,.tmp 39]:Array Operand).map f.eval = #[.slice (some ⟨b,0,none⟩) i l.length,.int .i64 ((l.length+1-i:Nat):Int)]:=by
   simp[h34,h39]
  rw[ha]
  exact hap
 refine zhd (o:=opAt (regOps R9) 8) kj kj (OpOk.value hexec ?_)
 rw[show (opAt (regOps R9) 8).dst=some 40 from kj]
 obtain⟨g,n,p⟩:=z4f (dst:=some 40) (ch:=[]) (v:=.ref 2 (l.length+1) 0 (l.length+1)) (u:=.slice (some ⟨w1.heap.size,0,none⟩) (l.length+1) nc) (G:=(frI l.length i (.ref 0 l.length 0 l.length)).up)
  (G1:=(40,[],.ref 2 (l.length+1) 0 (l.length+1)) :: (frI l.length i (.ref 0 l.length 0 l.length)).up) (N:=Tryz.f62.ntmps) kj n1 (fun q hq=>(f1.mono q3) q (by
  simp only[frI,Fr.up,y2o,List.map_nil,yu,y1n,y3c] at hq
  rcases hq with rfl | rfl | rfl | rfl | rfl <;> simp)) (fun _=>z6r r1.len hge) (fun h=>absurd (fun z hz=>by cases hz) h)
 refine z2k (hs:=[]) none zn [9] _ _ ((9,[],.ref 2 (l.length+1) 0 (l.length+1)) :: (40,[],.ref 2 (l.length+1) 0 (l.length+1)) :: (frI l.length i (.ref 0 l.length 0 l.length)).up) [eS 14 e l,eS 14 e [x],.seq 14 (l.length+1) (gB e l i)] [] _ w2 _ kj trivial q1 g n fun r ms2 w3 r2 e2 c2 f2 n2 d2=>?_
 exact hQ r ms2 w3 r2 ((e1.trans q2).trans e2) ((c1.trans q3).trans c2) (fun q hq=>f2 q (by
  rcases yu.1 (show q∈(9,[],AV.ref 2 (l.length+1) 0 (l.length+1)) :: (frI l.length i (.ref 0 l.length 0 l.length)).up from hq) with hq | hq
  ·exact yu.2 (.inl hq)
  ·exact yu.2 (.inr (yu.2 (.inr hq))))) n2 (d2.trans (p.trans d1))
theorem regc {N:Nat} {Q:Post} {fr fr' fr2:Fr} {L L':List Ob} {id:Nat} {c:Code} {C:List Prop} (hq:c = .region id (regOps c) false) (h:regionRun Tryz.prog (regOps c) N [] fr L=some (fr',L',C)) (hc:AllP C)
  (hm:∀ q∈fr2,q∈fr') (k:Q .normal fr2 L'):AW none Tryz.prog N c Q fr L:=by
 have:=zoh (id:=id) (Q:=Q) h hc hm k
 rwa [<- hq] at this
theorem head (_he:∀ x,(e x).wd=14) {l:List α} {x:α} (hi:i<l.length) (Q:Post) (h:AW none Tryz.prog Tryz.f62.ntmps (.seq (.seq R8 (.cond (.tmp 31) (.seq R9 B10) .skip)) C13) Q (frI l.length i (.ref 0 l.length 0 l.length)) [eS 14 e l,eS 14 e [x]]) :
  AW none Tryz.prog Tryz.f62.ntmps (.seq R0 (.seq R1 (.seq R2 (.seq (.seq (cL X3) (.cond (.tmp 16) (cT (cR X3)) .skip)) (.seq R5 (.seq (.seq (cL X6) (.cond (.tmp 22) (cT (cR X6)) .skip)) (.seq (.seq R8 (.cond (.tmp 31) (.seq R9 B10) .skip)) C13))))))) Q
   (argFr [.ref 0 l.length 0 l.length,.d (.i .i64 (i:Int)),.ref 1 1 0 1] 0) [eS 14 e l,eS 14 e [x]]:=by
 have hne:((i:Int)==(l.length:Int))=false:=sk
 refine z47 (regc (L':=[eS 14 e l,eS 14 e [x]]) (id:=0) (C:=[]) (fr':=(6,.full 0 fun _=>.b false) :: argFr [.ref 0 l.length 0 l.length,.d (.i .i64 (i:Int)),.ref 1 1 0 1] 0) (fr2:=argFr [.ref 0 l.length 0 l.length,.d (.i .i64 (i:Int)),.ref 1 1 0 1] 0)
  kj kj trivial (fun q hq=>y17 _ hq) ?_)
 refine z47 (regc (L':=[eS 14 e l,eS 14 e [x]]) (id:=1) (C:=[(0:Int)<=(i:Int),i<=l.length,l.length=l.length]) (fr':=(12,.ref 0 l.length (0+i) (l.length-i)) :: (11,.d (.i .i64 (i:Int))) :: (10,.ref 0 l.length 0 l.length) :: argFr [.ref 0 l.length 0 l.length,.d (.i .i64 (i:Int)),.ref 1 1 0 1] 0)
  (fr2:=argFr [.ref 0 l.length 0 l.length,.d (.i .i64 (i:Int)),.ref 1 1 0 1] 0)
  kj kj ⟨om,om,rfl,trivial⟩ (fun q hq=>y17 _ (y17 _ (y17 _ hq))) ?_)
 refine z47 (regc (L':=[eS 14 e l,eS 14 e [x]]) (id:=2) (C:=[]) (fr':=(7,.d (.i .i64 1)) :: (14,.d (.i .i64 1)) :: (13,.ref 1 1 0 1) :: argFr [.ref 0 l.length 0 l.length,.d (.i .i64 (i:Int)),.ref 1 1 0 1] 0)
  (fr2:=[(7,.d (.i .i64 1)),(2,.ref 1 1 0 1),(1,.d (.i .i64 (i:Int))),(0,.ref 0 l.length 0 l.length)])
  kj kj trivial (fun q hq=>by
   simp only[yu,y1n,y3c] at hq
   simp only[argFr,yu,y1n,y3c]
   rcases hq with rfl | rfl | rfl | rfl <;> simp) ?_)
 refine z47 (z47 (regc (L':=[eS 14 e l,eS 14 e [x]]) (id:=3) (C:=[]) (fr':=(16,.d (.b false)) :: (15,.d (.i .i64 1)) :: [(7,.d (.i .i64 1)),(2,.ref 1 1 0 1),(1,.d (.i .i64 (i:Int))),(0,.ref 0 l.length 0 l.length)])
  (fr2:=[(16,.d (.b false)),(7,.d (.i .i64 1)),(2,.ref 1 1 0 1),(1,.d (.i .i64 (i:Int))),(0,.ref 0 l.length 0 l.length)])
  kj kj trivial (fun q hq=>by
   simp only[yu,y1n,y3c] at hq |-
   rcases hq with rfl | rfl | rfl | rfl | rfl <;> simp) ?_))
 refine z8w (b:=false) rfl (fun h=>by cases h) fun _=>zbn ?_
 refine z47 (regc (L':=[eS 14 e l,eS 14 e [x]]) (id:=5) (C:=[]) (fr':=(8,.d (.i .i64 (l.length:Int))) :: (19,.d (.i .i64 (l.length:Int))) :: (18,.ref 0 l.length 0 l.length) :: [(16,.d (.b false)),(7,.d (.i .i64 1)),(2,.ref 1 1 0 1),(1,.d (.i .i64 (i:Int))),(0,.ref 0 l.length 0 l.length)])
  (fr2:=frI l.length i (.ref 0 l.length 0 l.length))
  kj kj trivial (fun q hq=>by
   simp only[frI,yu,y1n,y3c] at hq |-
   rcases hq with rfl | rfl | rfl | rfl | rfl <;> simp) ?_)
 refine z47 (z47 (regc (L':=[eS 14 e l,eS 14 e [x]]) (id:=6) (C:=[]) (fr':=(22,.d (.b ((i:Int)==(l.length:Int)))) :: (21,.d (.i .i64 (l.length:Int))) :: (20,.d (.i .i64 (i:Int))) :: frI l.length i (.ref 0 l.length 0 l.length))
  (fr2:=(22,.d (.b ((i:Int)==(l.length:Int)))) :: frI l.length i (.ref 0 l.length 0 l.length))
  kj kj trivial (fun q hq=>by
   rcases yu.1 hq with rfl | hq
   ·exact y1h
   ·exact y17 _ (y17 _ (y17 _ hq))) ?_))
 refine z8w (b:=((i:Int)==(l.length:Int))) rfl (fun h=>by rw[hne] at h; cases h) fun _=>zbn ?_
 exact zk3 h fun q hq=>⟨q.2,y17 _ hq,LeV.refl _⟩
theorem zqg (he:∀ x,(e x).wd=14) {l:List α} {x:α} (hi:i<l.length) (hl:(l.length+1) * (4 * 120)<=2 ^ 48) :
  AW none Tryz.prog Tryz.f62.ntmps (.seq (.seq R8 (.cond (.tmp 31) (.seq R9 B10) .skip)) C13)
   (fun e1 fr L=>FQ Tryz.prog Tryz.f62 (.ref 0 (l.length+1) 0 (l.length+1)) [eS 14 e (insL l i x),eS 14 e [x]] e1 fr L \/
    FQ Tryz.prog Tryz.f62 (.ref 2 (l.length+1) 0 (l.length+1)) [eS 14 e l,eS 14 e [x],eS 14 e (insL l i x)] e1 fr L)
   (frI l.length i (.ref 0 l.length 0 l.length)) [eS 14 e l,eS 14 e [x]]:=by
 have hn:l.length<100000000000000:=om
 have hw2:i64.wrap ((l.length:Int)+1)=(l.length:Int)+1:=by rw[z35] <;> omega
 intro zn df X ms w a hr hf hN hd
 refine y4n (y4n (zqe om hr hf hN fun c ms1 w1 b tc r1 e1 c1 f1 n1 d1 m1 hle h0e h31=>?_))
 by_cases hcap:l.length+1<=tc
 ·refine wpIn_cond_false (h31.trans (by rw[hw2]; simp; omega)) (wpIn_skip ?_)
  obtain⟨q1,q3⟩:=r1.room (o:=0) (n':=l.length+1) rfl m1 om hcap
  refine y2j (tailC he hi hn zn df X ms1 w1 c q1 (fun q hq=>?_) n1 (d1.trans hd)) ?_
  ·simp only[frI,Fr.up,y2o,List.map_nil,yu,y1n,y3c] at hq
   have f1':=f1.mono q3
   rcases hq with rfl | rfl | rfl | rfl | rfl
   ·exact f1' _ (by simp[frI,Fr.up])
   ·exact f1' _ (by simp[frI,Fr.up])
   ·exact f1' _ (by simp[frI,Fr.up])
   ·exact f1' _ (by simp[frI,Fr.up])
   ·obtain⟨s1,s2,s3⟩:=f1 (0,[],.ref 0 l.length 0 l.length) (by simp[frI,Fr.up])
    refine⟨s1,fun _=>?_,s3⟩
    have h0e':c.tmps.getD 0 undef = .slice (some ⟨b,0,none⟩) l.length tc:=h0e
    rw[h0e']
    refine .one _ _ rfl (.ref _ _ _ _ _ ⟨by simp[cxOf],⟨_,_,rfl⟩,fun obj s ho hs=>?_,fun sz' f' hL'=>⟨om,.inr (.inr ⟨b,tc,m1,hcap,sj⟩)⟩⟩)
    obtain rfl:=yn ho
    simp[Ob.stamp] at hs; omega
  ·rintro e2 d w2 ⟨ms2,fr2,L2,hq,r2,e3,c3,f3,n3,d3⟩
   exact⟨ms2,fr2,L2,.inl hq,r2,e1.trans e3,(c1.trans q3).trans c3,f3,n3,d3⟩
 ·have htc:tc=l.length:=om
  subst htc
  refine wpIn_cond_true (h31.trans (by rw[hw2]; simp; omega)) (y4n (zqf hi hl r1 f1 n1 m1 fun d ms2 w2 r2 e2 c2 f2 n2 d2=>?_))
  refine y2j (tailB he hi hn zn df X ms2 w2 d r2 f2 n2 ((d2.trans d1).trans hd)) ?_
  rintro e3 f w3 ⟨ms3,fr3,L3,⟨rfl,hq⟩,r3,e3,c3,f3,n3,d3⟩
  exact⟨ms3,fr3,L3,.inr ⟨.inr rfl,hq⟩,r3,(e1.trans e2).trans e3,(c1.trans c2).trans c3,f3,n3,d3⟩
theorem zpr (he:∀ x,(e x).wd=14) {l:List α} {x:α} (hi:i<l.length) (hl:(l.length+1) * (4 * 120)<=2 ^ 48) :
  CallOk Tryz.prog 62 [.ref 0 l.length 0 l.length,.d (.i .i64 (i:Int)),.ref 1 1 0 1] [eS 14 e l,eS 14 e [x]] (.ref 0 (l.length+1) 0 (l.length+1)) [eS 14 e (insL l i x),eS 14 e [x]]:=by
 intro X ms w us hr hu
 have hlen:=z1c (l:=l) (i:=i) (x:=x)
 refine (zmi (L:=[eS 14 e l,eS 14 e [x]]) (v:=.ref 0 (l.length+1) 0 (l.length+1)) (v3:=.ref 2 (l.length+1) 0 (l.length+1)) Tryz.func62 znl (y2x kj) sj rfl (lsOk (n:=2) (L:=[eS 14 e (insL l i x),eS 14 e [x]]) ⟨fun _ _=>rfl,fun _ _=>rfl,trivial⟩)
  sj rfl (lsOk (n:=3) (L:=[eS 14 e l,eS 14 e [x],eS 14 e (insL l i x)]) ⟨fun _ _=>rfl,fun _ _=>rfl,fun _ _=>rfl,trivial⟩) (head (x:=x) he hi _ (zqg he hi hl)) hr hu).mono fun e1 w1 h=>?_
 rcases h with h | ⟨u,ms1,rfl,h1,h2,h3,h4⟩
 ·exact h
 ·rw[<- hlen] at h4 |-
  obtain⟨ms2,k1,k2,k3,k4⟩:=third hr hlen h1 h2 h3 h4
  exact⟨u,ms2,rfl,k1,k2,k3,k4⟩
noncomputable def sE (l:List α) (x:α) (a:(0:Int)<=(l.length:Int)) (b:l.length<=l.length) (c:((l.length:Int)==(l.length:Int))=true)
  (hx:∀ k,k<1->(AV.d (e ([x].getD k dF))).wd=14) (hs:(l.length+1) * (2 * 120)<=2 ^ 48)
  (ho:OLe (.seq 14 (l.length+1) (catF l.length (fun j=>.d (e (l.getD j dF))) (fun j=>.d (e ([x].getD j dF))))) (eS 14 e (insL l l.length x))):SC Unit Unit :=
 .reg 0 [] [] [] <|
 .reg 1 [] [] [.pf a,.pf b,.pf (y2l l.length)] <|
 .reg 2 [] [] [] <|
 .reg 3 [] [] [] <|
 .br false (.pf (p:=((1:Int)==0)=false) dk) <|
 .reg 5 [] [] [] <|
 .reg 6 [] [] [] <|
 .br true (.pf c) <|
 .reg 7 [] [(2,{ obs:=[(0,eS 14 e (insL l l.length x))] })] [.pf (y2l 1),.pf (y2l l.length),.pf (y2l l.length),.pf hx,.pf hs,.pf ho] <|
 .ret [] ()
set_option maxRecDepth 100000 in
theorem zps (he:∀ x,(e x).wd=14) {l:List α} {x:α} (hl:(l.length+1) * (4 * 120)<=2 ^ 48) :
  CallOk Tryz.prog 62 [.ref 0 l.length 0 l.length,.d (.i .i64 (l.length:Int)),.ref 1 1 0 1] [eS 14 e l,eS 14 e [x]] (.ref 0 (l.length+1) 0 (l.length+1)) [eS 14 e (insL l l.length x),eS 14 e [x]] :=
 fOk (ρ:=Unit) (V:=fun _=>.ref 0 (l.length+1) 0 (l.length+1)) (Lr:=fun _=>[eS 14 e (insL l l.length x),eS 14 e [x]]) (r:=())
  (s:=sE (e:=e) l x om (yf _) sj (fun k _=>he _) om (by
   refine z3z z1c.symm fun j hj=>?_
   rw[z4k (yf _)]
   by_cases h1:j<l.length
   ·rw[z25 h1,y9 h1]
   ·have h2:j=l.length:=om
    subst h2
    rw[z2c om,y8 om,y9 rfl,Nat.sub_self]
    rfl)) Tryz.func62 znl kj rfl
theorem ins_ok (he:∀ x,(e x).wd=14) {l:List α} {x:α} (hi:i<=l.length) (hl:(l.length+1) * (4 * 120)<=2 ^ 48) :
  CallOk Tryz.prog 62 [.ref 0 l.length 0 l.length,.d (.i .i64 (i:Int)),.ref 1 1 0 1] [eS 14 e l,eS 14 e [x]] (.ref 0 (insL l i x).length 0 (insL l i x).length) [eS 14 e (insL l i x),eS 14 e [x]]:=by
 rw[z1c]
 rcases yp i l.length with h | h
 ·exact zpr he h hl
 ·obtain rfl:i=l.length:=om
  exact zps he hl
end
end Ins62
end Go.Proofs.YtiohhffifhaboaaGreatDoor
/- The shapes of data. No condition. -/
namespace Go.Proofs.YtiohhffifhaboaaGreatDoor
open Go Go.TA
open Go.IntKind (i64)
abbrev Z0:DV:=DV.sl 0 fun _=>DV.b false
structure TTape where
 l:(List Int)
 at_:Int
 deriving Inhabited
def TTape.e (x:TTape):DV:=.agg [(eL (DV.i .i64) x.l),(DV.i .i64 x.at_)]
abbrev TTape.d (x:TTape):AV:=AV.d (TTape.e x)
abbrev TTape.b (x:TTape):Ob:=bx (TTape.e x)
structure TWa where
 D:Int
 O:Int
 J:Y8
 K:Int
 E:Int
 Q:Int
 I:Int
 H:Int
 L:Int
 S:Int
 N:Int
 X:Int
 V:Int
 U:Int
 deriving Inhabited
def TWa.e (x:TWa):DV:=.agg [(DV.i .i64 x.D),(DV.i .i64 x.O),(DV.str x.J),(DV.i .i64 x.K),(DV.i .i64 x.E),(DV.i .i64 x.Q),(DV.i .i64 x.I),(DV.i .i64 x.H),(DV.i .i64 x.L),(DV.i .i64 x.S),(DV.i .i64 x.N),(DV.i .i64 x.X),(DV.i .u64 x.V),(DV.i .u64 x.U)]
abbrev TWa.d (x:TWa):AV:=AV.d (TWa.e x)
abbrev TWa.b (x:TWa):Ob:=bx (TWa.e x)
structure TRi where
 J:Y8
 K:Int
 R:Int
 W:Int
 T:Int
 deriving Inhabited
def TRi.e (x:TRi):DV:=.agg [(DV.str x.J),(DV.i .i64 x.K),(DV.i .i64 x.R),(DV.i .i64 x.W),(DV.i .i64 x.T)]
abbrev TRi.d (x:TRi):AV:=AV.d (TRi.e x)
abbrev TRi.b (x:TRi):Ob:=bx (TRi.e x)
structure TRe where
 D:Int
 J:Y8
 K:Int
 N:Int
 L:Int
 P:Int
 deriving Inhabited
def TRe.e (x:TRe):DV:=.agg [(DV.i .i64 x.D),(DV.str x.J),(DV.i .i64 x.K),(DV.i .i64 x.N),(DV.i .i64 x.L),(DV.i .i64 x.P)]
abbrev TRe.d (x:TRe):AV:=AV.d (TRe.e x)
abbrev TRe.b (x:TRe):Ob:=bx (TRe.e x)
structure TCo where
 D:Int
 H:Int
 N:Int
 L:Int
 P:Int
 S:Int
 X:Int
 deriving Inhabited
def TCo.e (x:TCo):DV:=.agg [(DV.i .i64 x.D),(DV.i .i64 x.H),(DV.i .i64 x.N),(DV.i .i64 x.L),(DV.i .i64 x.P),(DV.i .i64 x.S),(DV.i .i64 x.X)]
abbrev TCo.d (x:TCo):AV:=AV.d (TCo.e x)
abbrev TCo.b (x:TCo):Ob:=bx (TCo.e x)
structure TVe where
 D:Int
 I:Int
 N:Int
 L:Int
 deriving Inhabited
def TVe.e (x:TVe):DV:=.agg [(DV.i .i64 x.D),(DV.i .i64 x.I),(DV.i .i64 x.N),(DV.i .i64 x.L)]
abbrev TVe.d (x:TVe):AV:=AV.d (TVe.e x)
abbrev TVe.b (x:TVe):Ob:=bx (TVe.e x)
structure TOr where
 D:Int
 E:Int
 Q:Int
 N:Int
 Z:Bool
 deriving Inhabited
def TOr.e (x:TOr):DV:=.agg [(DV.i .i64 x.D),(DV.i .i64 x.E),(DV.i .i64 x.Q),(DV.i .i64 x.N),(DV.b x.Z)]
abbrev TOr.d (x:TOr):AV:=AV.d (TOr.e x)
abbrev TOr.b (x:TOr):Ob:=bx (TOr.e x)
structure TBo where
 A:(List TRe)
 B:(List TCo)
 C:(List TVe)
 G:(List TOr)
 deriving Inhabited
def TBo.e (x:TBo):DV:=.agg [(eL TRe.e x.A),(eL TCo.e x.B),(eL TVe.e x.C),(eL TOr.e x.G)]
abbrev TBo.d (x:TBo):AV:=AV.d (TBo.e x)
abbrev TBo.b (x:TBo):Ob:=bx (TBo.e x)
structure TOf where
 D:Int
 F:(List TRi)
 M:TBo
 deriving Inhabited
def TOf.e (x:TOf):DV:=.agg [(DV.i .i64 x.D),(eL TRi.e x.F),(TBo.e x.M)]
abbrev TOf.d (x:TOf):AV:=AV.d (TOf.e x)
abbrev TOf.b (x:TOf):Ob:=bx (TOf.e x)
structure TOp where
 Y:Int
 J:Y8
 K:Int
 N:Int
 Of:Int
 L:Int
 S:Int
 X:Int
 R:Int
 Aa:Int
 deriving Inhabited
def TOp.e (x:TOp):DV:=.agg [(DV.i .i64 x.Y),(DV.str x.J),(DV.i .i64 x.K),(DV.i .i64 x.N),(DV.i .i64 x.Of),(DV.i .i64 x.L),(DV.i .i64 x.S),(DV.i .i64 x.X),(DV.i .i64 x.R),(DV.i .i64 x.Aa)]
abbrev TOp.d (x:TOp):AV:=AV.d (TOp.e x)
abbrev TOp.b (x:TOp):Ob:=bx (TOp.e x)
structure TMe where
 Ab:Int
 To:Int
 J:Y8
 K:Int
 R:Int
 W:Int
 T:Int
 Ac:Int
 deriving Inhabited
def TMe.e (x:TMe):DV:=.agg [(DV.i .i64 x.Ab),(DV.i .i64 x.To),(DV.str x.J),(DV.i .i64 x.K),(DV.i .i64 x.R),(DV.i .i64 x.W),(DV.i .i64 x.T),(DV.i .i64 x.Ac)]
abbrev TMe.d (x:TMe):AV:=AV.d (TMe.e x)
abbrev TMe.b (x:TMe):Ob:=bx (TMe.e x)
structure THe where
 J:Y8
 Ad:Y8
 deriving Inhabited
def THe.e (x:THe):DV:=.agg [(DV.str x.J),(DV.str x.Ad)]
abbrev THe.d (x:THe):AV:=AV.d (THe.e x)
abbrev THe.b (x:THe):Ob:=bx (THe.e x)
end Go.Proofs.YtiohhffifhaboaaGreatDoor
/- What the functions compute,and that their calls return it. No condition. -/
namespace Go.Proofs.YtiohhffifhaboaaGreatDoor
open Go Go.TA
open Go.IntKind (i64)
noncomputable section
set_option maxRecDepth 100000
set_option maxHeartbeats 2000000
def S_q2z (b:(List Int)):SC TTape TTape :=
 let a:=(if 500<(b.length:Int) then 500 else (b.length:Int))
.guard [(0:Int)<=a,a.toNat<=b.length]<|
 let c:=(b.take a.toNat)
.reg 1 [] [(4,hv (vl c))] [.ev 0,.ev 1,.der (fun (h0:a.toNat<=b.length)=>lvT (DV.i .i64) b h0) 1]<|
.r (⟨c,0⟩:TTape)
def F_q2z (a:(List Int)):=(S_q2z a).den
theorem F_q2z_ok {a:(List Int)}:FO (F_q2z a) 5 [(vl a)] [] (fun _=>(vp 0)) (fun x=>[(TTape.b x)]):=fO (s:=S_q2z a) Tryz.func5
def S_q1 (d:Int) (a:TTape):SC (Int×TTape) (Int×TTape) :=
.ite (decide (a.at_>=(a.l.length:Int))) (
.r (0,a)) (
.guard [(0:Int)<=a.at_,a.at_.toNat<a.l.length,(d:Int)≠0]<|
.reg 3 [] [] [.ev 0,.ev 1,.ev 2]<|
 let b:=((a.l.getD a.at_.toNat dF).tmod d)
 let c:=(⟨a.l,(i64.wrap (a.at_+1))⟩:TTape)
.ite (decide (b<0)) (
.r ((i64.wrap (b+d)),c)) (
.r (b,c)))
def F_q1 (a:Int) (b:TTape):=(S_q1 a b).den
theorem F_q1_ok {a:Int} {c:TTape}:FO (F_q1 a c) 39 [(vp 0),(vi a)] [(TTape.b c)] (fun x=>(vi x.1)) (fun x=>[(TTape.b x.2)]):=fO (s:=S_q1 a c) Tryz.func39
abbrev R_qr:=(List Int)×TTape
def S_qr_b1 (j:Int) (a:TTape×(List Int)×Int):SC R_qr (Step (TTape×(List Int)×Int) R_qr) :=
.ite (decide (a.2.2<(i64.wrap (2 * j)))) (
.call (@F_q1_ok 1000 a.1) fun f g=>
.guard [(a.2.1.length+1) * (2 * 8)<=2 ^ 48]<|
 let b:=([(IntKind.u64.wrap ((IntKind.u64.wrap ((IntKind.u64.wrap f.1) * 2654435761))+(IntKind.u64.wrap ((IntKind.u64.wrap a.2.2) * 7919))))]:List Int)
 let c:=(a.2.1++b)
.reg 5 [] [(2,hc g [0] false),(9,hv (AV.d (eL (DV.i .u64) b))),(10,{ h:=.obj,cast:=some (AV.ref 1 c.length 0 c.length),obs:=[(1,(eS 1 (DV.i .u64) c))] })] [.cl 1 g [0] 2 false,.pf (zb (DV.i .u64) b),.e a.2.1.length,.e a.2.1.length,.pf (p:=∀ k,k<1->(AV.d ((DV.i .u64) (b.getD k dF))).wd=1) (fun _ _=>rfl),.ev 0,.pf (z1b (o:=1) (l:=a.2.1) (x:=b)),.pf (z1a (sz:=1) (e:=(DV.i .u64)) (l:=a.2.1) (x:=b))]<|
.r (.cont (f.2,c,(i64.wrap (a.2.2+1))))) (
.r (.brk (a.1,a.2.1,a.2.2)))
def S_qr (c:Int) (e:TTape):SC R_qr R_qr :=
.reg 2 [] [] []<|
.bor 1 (fun j=>AV.d ((DV.i .u64) (([]:List Int).getD j dF))) [5]<|
.iter [0,1] (fun (a:TTape×(List Int)×Int)=>[(5,(AV.ref 1 a.2.1.length 0 a.2.1.length)),(6,(vi a.2.2))]) (fun a=>[(0,(TTape.b a.1)),(1,(eS 1 (DV.i .u64) a.2.1))]) (e,([]:List Int),0) (S_qr_b1 c) (fun a =>
.guard [a.2.1.length<2 ^ 63]<|
.reg 6 [] [] []<|
.frz 1 (.ev 0) none [4] []<|
.r (a.2.1,a.1)) id
def F_qr (a:Int) (b:TTape):=(S_qr a b).den
theorem F_qr_ok {a:Int} {c:TTape}:FO (F_qr a c) 6 [(vp 0),(vi a)] [(TTape.b c)] (fun x=>(AV.d (eL (DV.i .u64) x.1))) (fun x=>[(TTape.b x.2)]):=fO (s:=S_qr a c) Tryz.func6
abbrev R_q7:=Int×TTape
def S_q7 (c:Int) (d:Int) (e:TTape):SC R_q7 R_q7 :=
.call (@F_q1_ok (i64.wrap ((i64.wrap (d-c))+1)) e) fun a b=>
.k 1 6 b [0] 1 false<|
.r ((i64.wrap (c+a.1)),a.2)
def F_q7 (a:Int) (b:Int) (c:TTape):=(S_q7 a b c).den
theorem F_q7_ok {a:Int} {c:Int} {d:TTape}:FO (F_q7 a c d) 16 [(vp 0),(vi a),(vi c)] [(TTape.b d)] (fun x=>(vi x.1)) (fun x=>[(TTape.b x.2)]):=fO (s:=S_q7 a c d) Tryz.func16
abbrev R_q2j:=Y8×TTape
def S_q2j (c:TTape):SC R_q2j R_q2j :=
.call (@F_q1_ok 3 c) fun a b=>
.guard [(0:Int)<=a.1,a.1.toNat<3]<|
.reg 1 [] [(0,hv (AV.d (eL DV.str ([[49],[49,46,50],[50]]:List Y8)))),(2,hc b [0] false)] [.pf (zb DV.str ([[49],[49,46,50],[50]]:List Y8)),.cl 2 b [0] 1 false,.ev 0,.ev 1]<|
.r ((([[49],[49,46,50],[50]]:List Y8).getD a.1.toNat dF),a.2)
def F_q2j (a:TTape):=(S_q2j a).den
theorem F_q2j_ok {a:TTape}:FO (F_q2j a) 40 [(vp 0)] [(TTape.b a)] (fun x=>(AV.d (DV.str x.1))) (fun x=>[(TTape.b x.2)]):=fO (s:=S_q2j a) Tryz.func40
def S_q2k (a:Int):SC Bool Bool :=
.r (bif (decide (a>=1)) then (decide (a<=1000000)) else false)
def F_q2k (a:Int):=(S_q2k a).den
theorem F_q2k_ok {a:Int}:FO (F_q2k a) 53 [(vi a)] [] vb NL:=fO (s:=S_q2k a) Tryz.func53
def S_ql_b1 (g:Y8) (a:Int×Int×Int):SC Bool (Step (Int×Int×Int) Bool) :=
.ite (decide (a.2.2<(g.length:Int))) (
.guard [(0:Int)<=a.2.2,a.2.2.toNat<g.length]<|
.reg 6 [] [] [.ev 0,.ev 1]<|
 let b:=((g.getD a.2.2.toNat 0).toNat:Int)
 let e:=(i64.wrap (a.2.2+1))
.ite (b==46) (
.ite (a.1==0) (
.r (.ret false)) (
.r (.cont (0,(i64.wrap (a.2.1+1)),e)))) (
 let c:=(decide (b<48))
 let d:=(cO c (decide (b>57)))
 let f:=(a.2.2.toNat<g.length)
.guard [AllP [c=false]->((0:Int)<=a.2.2),AllP [c=false]->f,AllP [(a.1==0)=true,d=false]->((0:Int)<=a.2.2),AllP [(a.1==0)=true,d=false]->f]<|
.reg 11 [] [] [.ev 5,.ev 6,.ev 0,.ev 1,.ev 2,.ev 3]<|
.ite (cO (cO d (bif (a.1==0) then (b==48) else false)) (a.1==2)) (
.r (.ret false)) (
.r (.cont ((i64.wrap (a.1+1)),a.2.1,e))))) (
.r (.brk (a.1,a.2.1,a.2.2)))
def S_ql (b:Y8):SC Bool Bool :=
.iter [0] (fun (a:Int×Int×Int)=>[(3,(vi a.1)),(4,(vi a.2.1)),(5,(vi a.2.2))]) (fun _=>[]) (0,1,0) (S_ql_b1 b) (fun a =>
.r (bif (decide (a.1>0)) then (decide (a.2.1<=4)) else false)) id
def F_ql (a:Y8):=(S_ql a).den
theorem F_ql_ok {a:Y8}:FO (F_ql a) 54 [(AV.d (DV.str a))] [] vb NL:=fO (s:=S_ql a) Tryz.func54
def S_q6_b1 (b:TWa) (c:Nat) (_:Unit):SC Bool (Step Unit Bool) :=
.reg 3 [] [] [.w c,.ev 0]<|
.a 4 1 1 (@F_q2k_ok (([b.D,b.H,b.I,b.E,b.Q,b.S]:List Int).getD c dF)) fun d=>
.ite (!d) (
.r (.ret false)) (
.r (.cont ()))
def S_q6_b2 (c:TWa) (a:Nat) (_:Unit):SC Bool (Step Unit Bool) :=
.reg 9 [] [] [.w a,.ev 0]<|
 let b:=(([c.N,c.X]:List Int).getD a dF)
.ite (cO (decide (b<0)) (decide (b>35990))) (
.r (.ret false)) (
.r (.cont ()))
def S_q6 (a:TWa):SC Bool Bool :=
 let c:=([a.D,a.H,a.I,a.E,a.Q,a.S]:List Int)
.reg 1 [] [(12,hv (vl c))] [.pf (zb (DV.i .i64) c)]<|
.range 6 6 rfl (.why (.pf (p:=6<2 ^ 63) dk)) 21 [1,19,20] (fun (_:Unit)=>[]) (fun _=>[]) () (S_q6_b1 a) (fun _ => 
.reg 7 [] [(4,hv (vl ([a.N,a.X]:List Int)))] [.pf (zb (DV.i .i64) ([a.N,a.X]:List Int))]<|
.range 2 2 rfl (.why (.pf (p:=2<2 ^ 63) dk)) 35 [1,33,34] (fun (_:Unit)=>[]) (fun _=>[]) () (S_q6_b2 a) (fun _ => 
 let b:=(bif (decide (a.O>=1)) then (decide (a.O<=6)) else false)
.calld [b=true] dF (@F_ql_ok a.J) fun e d =>
.reg 13 [] [(11,hc d [] true)] [.clg 0 [b=true] d [] 1 true]<|
.r (bif (bif (bif (bif (bif b then e else false) then (decide (a.K>=0)) else false) then (decide (a.K<=99)) else false) then (decide (a.L>=1)) else false) then (decide (a.L<=1000000000000)) else false)) id) id
def F_q6 (a:TWa):=(S_q6 a).den
theorem F_q6_ok {a:TWa}:FO (F_q6 a) 20 [(TWa.d a)] [] vb NL:=fO (s:=S_q6 a) Tryz.func20
abbrev R_q9:=Y8
def S_q9_b1 (a:TWa) (d:Nat) (e:Y8):SC R_q9 (Step Y8 R_q9) :=
.reg 6 [] [] [.w d,.ev 0]<|
.call (@F_q43_ok (([a.K,a.H,a.I,a.E,a.Q,a.L,a.S,a.N,a.X]:List Int).getD d dF)) fun b f=>
.guard [([32]).length+b.length<2 ^ 63,e.length+(([32])++b).length<2 ^ 63]<|
.reg 7 [] [(2,hc f [] true)] [.cl 2 f [] 1 true,.ev 0,.ev 1]<|
.c (e++(([32])++b))
def S_q9 (b:TWa):SC R_q9 R_q9 :=
.a 1 1 1 (@F_q6_ok b) fun m=>
.ite (!m) (
.r ([])) (
.call (@F_q43_ok b.D) fun g h=>
.call (@F_q43_ok b.O) fun j k=>
 let c:=(([119,97,114,114,97,110,116,32])++g)
 let e:=((c++([32]))++j)
.guard [([119,97,114,114,97,110,116,32]).length+g.length<2 ^ 63,c.length+([32]).length<2 ^ 63,(c++([32])).length+j.length<2 ^ 63,e.length+([32]).length<2 ^ 63,(e++([32])).length+b.J.length<2 ^ 63]<|
.reg 3 [] [(2,hc h [] true),(7,hc k [] true)] [.cl 6 h [] 1 true,.ev 0,.ev 1,.cl 5 k [] 1 true,.ev 2,.ev 3,.ev 4]<|
 let l:=([b.K,b.H,b.I,b.E,b.Q,b.L,b.S,b.N,b.X]:List Int)
.reg 4 [] [(18,hv (vl l))] [.pf (zb (DV.i .i64) l)]<|
.range 9 9 rfl (.why (.pf (p:=9<2 ^ 63) dk)) 42 [40,41] (fun (f:Y8)=>[(3,(AV.d (DV.str f)))]) (fun _=>[]) ((e++([32]))++b.J) (S_q9_b1 b) (fun f => 
.r f) id)
def F_q9 (a:TWa):=(S_q9 a).den
theorem F_q9_ok {a:TWa}:FO (F_q9 a) 22 [(TWa.d a)] [] (fun x=>(AV.d (DV.str x))) NL:=fO (s:=S_q9 a) Tryz.func22
def S_qi_b1 (b:Y8) (a:Int×Int):SC Int (Step (Int×Int) Int) :=
.ite (decide (a.2<(b.length:Int))) (
.guard [(0:Int)<=a.2,a.2.toNat<b.length]<|
.reg 5 [] [] [.ev 0,.ev 1]<|
.r (.cont ((IntKind.u64.wrap ((IntKind.u64.wrap ((BitVec.ofInt IntKind.u64.bits a.1 ^^^ BitVec.ofInt IntKind.u64.bits (IntKind.u64.wrap ((b.getD a.2.toNat 0).toNat:Int))).toNat:Int)) * 1099511628211)),(i64.wrap (a.2+1))))) (
.r (.brk (a.1,a.2)))
def S_qi (b:Y8):SC Int Int :=
.iter [0] (fun (a:Int×Int)=>[(3,(AV.d (DV.i .u64 a.1))),(4,(vi a.2))]) (fun _=>[]) (14695981039346656037,0) (S_qi_b1 b) (fun a =>
.r a.1) id
def F_qi (a:Y8):=(S_qi a).den
theorem F_qi_ok {a:Y8}:FO (F_qi a) 38 [(AV.d (DV.str a))] [] (fun x=>(AV.d (DV.i .u64 x))) NL:=fO (s:=S_qi a) Tryz.func38
def S_qa_b1 (c:Int) (a:(List Int)×Int):SC Int (Step ((List Int)×Int) Int) :=
.ite (decide (a.2>=0)) (
.guard [(0:Int)<=a.2,(a.1.length+1) * (2 * 1)<=2 ^ 48]<|
 let b:=([(IntKind.u8.wrap (c.fdiv (2 ^ (min a.2.toNat IntKind.u64.bits))))]:List Int)
.reg 5 [] [(5,hv (AV.d (eL (DV.i .u8) b))),(6,{ h:=.obj,cast:=some (AV.ref 1 ((a.1++b).length) 0 ((a.1++b).length)),obs:=[(1,(eS 1 (DV.i .u8) (a.1++b)))] })] [.ev 0,.pf (zb (DV.i .u8) b),.e a.1.length,.e a.1.length,.pf (p:=∀ k,k<1->(AV.d ((DV.i .u8) (b.getD k dF))).wd=1) (fun _ _=>rfl),.ev 1,.pf (z1b (o:=1) (l:=a.1) (x:=b)),.pf (z1a (sz:=1) (e:=(DV.i .u8)) (l:=a.1) (x:=b))]<|
.r (.cont ((a.1++b),(i64.wrap (a.2-8))))) (
.r (.brk (a.1,a.2)))
def S_qa (g:Int) (h:TWa):SC Int Int :=
.reg 2 [] [] []<|
.bor 1 (fun j=>AV.d ((DV.i .u8) (([]:List Int).getD j dF))) [5]<|
.iter [0,3] (fun (a:(List Int)×Int)=>[(5,(AV.ref 1 a.1.length 0 a.1.length)),(6,(vi a.2))]) (fun a=>[(1,(eS 1 (DV.i .u8) a.1))]) (([]:List Int),56) (S_qa_b1 g) (fun a =>
.guard [a.1.length<2 ^ 63]<|
.frz 1 (.ev 0) none [5] []<|
.call (@F_q9_ok h) fun b c=>
.call (@F_qi_ok (((List.range a.1.length).map fun j=>UInt8.ofNat ((a.1.getD j dF)).toNat)++b)) fun f e=>
.guard [((List.range a.1.length).map fun j=>UInt8.ofNat ((a.1.getD j dF)).toNat).length+b.length<2 ^ 63]<|
.reg 6 [] [(3,hc c [] true),(5,hc e [] true)] [.pf (p:=∀ j,j<a.1.length->∃ k,(DV.i .u8 (a.1.getD j dF))=DV.i .u8 k) (fun _ _=>⟨_,rfl⟩),.cl 2 c [] 2 true,.ev 0,.cl 1 e [] 2 true]<|
.r f) id
def F_qa (a:Int) (b:TWa):=(S_qa a b).den
theorem F_qa_ok {a:Int} {b:TWa}:FO (F_qa a b) 46 [(AV.d (DV.i .u64 a)),(TWa.d b)] [] (fun x=>(AV.d (DV.i .u64 x))) NL:=fO (s:=S_qa a b) Tryz.func46
def S_q1l (f:(List Int)) (b:TWa) (p:Bool):SC (TWa×Int) (TWa×Int) :=
.a 1 1 2 (@F_q6_ok b) fun l=>
 let d:=(⟨0,0,[],0,0,0,0,0,0,0,0,0,0,0⟩:TWa)
.ite (!l) (
.r (d,1)) (
.cut none [0,2,4,6] (fun (c:Int)=>[(8,(vi c))]) (fun _=>[]) (
 let g:=(i64.wrap (2 * (i64.wrap (b.O-1))))
.ite p (
.r (.next (i64.wrap (g+1)))) (
.r (.next g))) fun c=>
.ite (decide (c>=(f.length:Int))) (
.r (d,6)) (
 let h:=(f.getD c.toNat dF)
.ite (!p) (
.call (@F_qa_ok h b) fun m i=>
.guard [(0:Int)<=c,c.toNat<f.length]<|
.reg 9 [7] [(5,hc i [] true)] [.ev 0,.ev 1,.cl 2 i [] 2 true]<|
.r ((⟨b.D,b.O,b.J,b.K,b.E,b.Q,b.I,b.H,b.L,b.S,b.N,b.X,m,b.U⟩:TWa),0)) (
 let e:=(i64.wrap (c-1))
.call (@F_qa_ok (f.getD e.toNat dF) b) fun n j=>
.guard [(0:Int)<=e,e.toNat<f.length]<|
.reg 11 [] [(6,hc j [] true)] [.ev 0,.ev 1,.cl 2 j [] 2 true]<|
.ite (n != b.V) (
.r (d,18)) (
.call (@F_qa_ok h b) fun o k=>
.guard [(0:Int)<=c,c.toNat<f.length]<|
.reg 13 [7] [(5,hc k [] true)] [.ev 0,.ev 1,.cl 2 k [] 2 true]<|
.r ((⟨b.D,b.O,b.J,b.K,b.E,b.Q,b.I,b.H,b.L,b.S,b.N,b.X,b.V,o⟩:TWa),0)))))
def F_q1l (a:(List Int)) (b:TWa) (c:Bool):=(S_q1l a b c).den
theorem F_q1l_ok {a:(List Int)} {b:TWa} {c:Bool}:FO (F_q1l a b c) 26 [(AV.d (eL (DV.i .u64) a)),(TWa.d b),(vb c)] [] (fun x=>(AV.tup [(TWa.d x.1),(vi x.2)])) NL:=fO (s:=S_q1l a b c) Tryz.func26
abbrev R_qb:=TWa×TTape
def S_qb_b1 (e:(List Int)) (b:TWa×Int):SC R_qb (Step (TWa×Int) R_qb) :=
.ite (decide (b.2<2)) (
.a 5 4 3 (@F_q1l_ok e b.1 (b.2==1)) fun c=>
 let d:=(i64.wrap (b.2+1))
.ite (c.2==0) (
.r (.cont (c.1,d))) (
.r (.cont (b.1,d)))) (
.r (.brk (b.1,b.2)))
def S_qb (z:(List Int)) (A:TTape):SC R_qb R_qb :=
.call (@F_q7_ok 1 60 A) fun k l=>
.call (@F_q7_ok 1 3 k.2) fun m n=>
.call (@F_q2j_ok m.2) fun o p=>
.call (@F_q7_ok 1 5 o.2) fun q s=>
.call (@F_q7_ok 1 2 q.2) fun t u=>
.call (@F_q7_ok 1 4 t.2) fun v w=>
.call (@F_q7_ok 1 3 v.2) fun x y=>
.call (@F_q7_ok 1 500 x.2) fun c d=>
.call (@F_q7_ok 1 4 c.2) fun e f=>
.call (@F_q1_ok 300 e.2) fun g h=>
.call (@F_q1_ok 400 g.2) fun i j=>
.reg 1 [] [(1,hc l [0] false),(3,hc n [0] false),(5,hc p [0] false),(7,hc s [0] false),(9,hc u [0] false),(11,hc w [0] false),(13,hc y [0] false),(15,hc d [0] false),(17,hc f [0] false),(19,hc h [0] false),(22,hc j [0] false)] [.cl 10 l [0] 2 false,.cl 9 n [0] 2 false,.cl 8 p [0] 2 false,.cl 7 s [0] 2 false,.cl 6 u [0] 2 false,.cl 5 w [0] 2 false,.cl 4 y [0] 2 false,.cl 3 d [0] 2 false,.cl 2 f [0] 2 false,.cl 1 h [0] 2 false,.cl 0 j [0] 2 false]<|
.iter [1,4,5] (fun (a:TWa×Int)=>[(6,(vi a.2))]) (fun a=>[(2,(TWa.b a.1))]) ((⟨k.1,m.1,o.1,12,q.1,t.1,v.1,x.1,c.1,e.1,(i64.wrap (4320+g.1)),(i64.wrap (4320+i.1)),0,0⟩:TWa),0) (S_qb_b1 z) (fun a =>
.r (a.1,i.2)) id
def F_qb (a:(List Int)) (b:TTape):=(S_qb a b).den
theorem F_qb_ok {a:(List Int)} {c:TTape}:FO (F_qb a c) 7 [(vp 0),(AV.d (eL (DV.i .u64) a))] [(TTape.b c)] (fun x=>(TWa.d x.1)) (fun x=>[(TTape.b x.2)]):=fO (s:=S_qb a c) Tryz.func7
def S_q1m (a:Int) (b:Int) (c:Int):SC Bool Bool :=
.r (bif (decide (a>=b)) then (decide (a<=c)) else false)
def F_q1m (a:Int) (b:Int) (c:Int):=(S_q1m a b c).den
theorem F_q1m_ok {a:Int} {b:Int} {c:Int}:FO (F_q1m a b c) 50 [(vi a),(vi b),(vi c)] [] vb NL:=fO (s:=S_q1m a b c) Tryz.func50
def S_q2l (c:Int):SC Bool Bool :=
.a 1 1 0 (@F_q1m_ok c 1 1000000) fun b=>
.r b
def F_q2l (a:Int):=(S_q2l a).den
theorem F_q2l_ok {a:Int}:FO (F_q2l a) 49 [(vi a)] [] vb NL:=fO (s:=S_q2l a) Tryz.func49
def S_q2m (c:Int):SC Bool Bool :=
.a 1 1 0 (@F_q1m_ok c 0 35990) fun b=>
.r b
def F_q2m (a:Int):=(S_q2m a).den
theorem F_q2m_ok {a:Int}:FO (F_q2m a) 52 [(vi a)] [] vb NL:=fO (s:=S_q2m a) Tryz.func52
def S_qj_b1 (b:TWa) (c:Nat) (_:Unit):SC Bool (Step Unit Bool) :=
.reg 3 [] [] [.w c,.ev 0]<|
.a 4 1 1 (@F_q2l_ok (([b.D,b.H,b.I,b.E,b.Q,b.S]:List Int).getD c dF)) fun d=>
.ite (!d) (
.r (.ret false)) (
.r (.cont ()))
def S_qj (a:TWa):SC Bool Bool :=
 let g:=([a.D,a.H,a.I,a.E,a.Q,a.S]:List Int)
.reg 1 [] [(12,hv (vl g))] [.pf (zb (DV.i .i64) g)]<|
.range 6 6 rfl (.why (.pf (p:=6<2 ^ 63) dk)) 19 [1,17,18] (fun (_:Unit)=>[]) (fun _=>[]) () (S_qj_b1 a) (fun _ => 
.call (@F_q1m_ok a.O 1 6) fun b h=>
.calld [b=true] dF (@F_q46_ok a.J) fun o j =>
 let c:=(bif b then (decide ((o.length:Int)>0)) else false)
.calld [c=true] dF (@F_q1m_ok a.K 0 99) fun q k =>
 let d:=(bif c then q else false)
.calld [d=true] dF (@F_q1m_ok a.L 1 1000000000000) fun s l =>
 let e:=(bif d then s else false)
.calld [e=true] dF (@F_q2m_ok a.N) fun t m =>
 let f:=(bif e then t else false)
.calld [f=true] dF (@F_q2m_ok a.X) fun u n =>
.reg 7 [] [(2,hc h [] true),(6,hc j [] true),(13,hc k [] true),(18,hc l [] true),(23,hc m [] true),(28,hc n [] true)] [.cl 10 h [] 1 true,.clg 8 [b=true] j [] 1 true,.clg 6 [c=true] k [] 1 true,.clg 4 [d=true] l [] 1 true,.clg 2 [e=true] m [] 1 true,.clg 0 [f=true] n [] 1 true]<|
.r (bif f then u else false)) id
def F_qj (a:TWa):=(S_qj a).den
theorem F_qj_ok {a:TWa}:FO (F_qj a) 19 [(TWa.d a)] [] vb NL:=fO (s:=S_qj a) Tryz.func19
abbrev R_qh:=Y8
def S_qh_b1 (f:TWa) (g:Nat) (a:(List Y8)):SC R_qh (Step ((List Y8)) R_qh) :=
.reg 6 [] [] [.w g,.ev 0]<|
.call (@F_q43_ok (([f.K,f.H,f.I,f.E,f.Q,f.L,f.S,f.N,f.X]:List Int).getD g dF)) fun j i=>
.guard [(a.length+1) * (2 * 16)<=2 ^ 48]<|
 let b:=([j]:List Y8)
.reg 7 [] [(2,hc i [] true),(3,hv (AV.d (eL DV.str b))),(4,{ h:=.obj,cast:=some (AV.ref 1 ((a++b).length) 0 ((a++b).length)),obs:=[(1,(eS 1 DV.str (a++b)))] })] [.cl 1 i [] 2 true,.pf (zb DV.str b),.e a.length,.e a.length,.pf (p:=∀ k,k<1->(AV.d (DV.str (b.getD k dF))).wd=1) (fun _ _=>rfl),.ev 0,.pf (z1b (o:=1) (l:=a) (x:=b)),.pf (z1a (sz:=1) (e:=DV.str) (l:=a) (x:=b))]<|
.c (a++b)
def S_qh (c:TWa):SC R_qh R_qh :=
.a 1 1 1 (@F_qj_ok c) fun k=>
.ite (!k) (
.r ([])) (
.call (@F_q43_ok c.D) fun m f=>
.call (@F_q43_ok c.O) fun n g=>
 let d:=([[119,97,114,114,97,110,116],m,n,c.J]:List Y8)
.reg 3 [8] [(2,hc f [] true),(5,hc g [] true),(8,{ h:=.obj,obs:=[(1,(eS 1 DV.str d))] })] [.cl 1 f [] 1 true,.cl 0 g [] 1 true,.pf (z3i (sz:=1) (e:=DV.str) (l:=d))]<|
 let j:=([c.K,c.H,c.I,c.E,c.Q,c.L,c.S,c.N,c.X]:List Int)
.reg 4 [] [(18,hv (vl j))] [.pf (zb (DV.i .i64) j)]<|
.range 9 9 rfl (.why (.pf (p:=9<2 ^ 63) dk)) 38 [36,37] (fun (b:(List Y8))=>[(3,(AV.ref 1 b.length 0 b.length))]) (fun b=>[(1,(eS 1 DV.str b))]) d (S_qh_b1 c) (fun b => 
.guard [b.length<2 ^ 63]<|
.frz 1 (.ev 0) none [3] []<|
.a 9 1 2 (@F_q48_ok b ([32])) fun o=>
.r o) id)
def F_qh (a:TWa):=(S_qh a).den
theorem F_qh_ok {a:TWa}:FO (F_qh a) 21 [(TWa.d a)] [] (fun x=>(AV.d (DV.str x))) NL:=fO (s:=S_qh a) Tryz.func21
def S_qm_b1 (d:Y8) (a:Nat) (b:Int):SC Int (Step Int Int) :=
.reg 5 [] [] [.w a,.ev 0]<|
.c (IntKind.u64.wrap ((IntKind.u64.wrap ((BitVec.ofInt IntKind.u64.bits b ^^^ BitVec.ofInt IntKind.u64.bits (IntKind.u64.wrap ((d.getD a 0).toNat:Int))).toNat:Int)) * 1099511628211))
def S_qm (b:Y8):SC Int Int :=
.guard [b.length<2 ^ 63]<|
.range (b.length:Int) b.length rfl (.why (.ev 0)) 7 [0,6] (fun (a:Int)=>[(3,(AV.d (DV.i .u64 a)))]) (fun _=>[]) 14695981039346656037 (S_qm_b1 b) (fun a => 
.r a) id
def F_qm (a:Y8):=(S_qm a).den
theorem F_qm_ok {a:Y8}:FO (F_qm a) 37 [(AV.d (DV.str a))] [] (fun x=>(AV.d (DV.i .u64 x))) NL:=fO (s:=S_qm a) Tryz.func37
def S_qw_b1 (h:Int) (a:Nat) (b:(Nat->Int)):SC Int (Step ((Nat->Int)) Int) :=
 let f:=(i64.wrap (56-(i64.wrap (8 * (a:Int)))))
.guard [(0:Int)<=f]<|
 let d:=(IntKind.u8.wrap (h.fdiv (2 ^ (min f.toNat IntKind.u64.bits))))
.reg 5 [] [(8,{ obs:=[(1,(bx (eA 1 8 (DV.i .u8) (fun j=>if j=a then d else b j))))] })] [.ev 0,.w a,.ev 1,.ev 1,.pf (p:=OLe (bx (DV.arr 1 8 fun j=>if j=a then (DV.i .u8 d) else (DV.i .u8) (b j))) (bx (eA 1 8 (DV.i .u8) (fun j=>if j=a then d else b j)))) (z3e (z3f (e:=(DV.i .u8)) (i:=a) (x:=d) (g:=b)))]<|
.c (fun j=>if j=a then d else b j)
def S_qw (m:Int) (n:TWa):SC Int Int :=
.range 8 8 rfl (.why (.pf (p:=8<2 ^ 63) dk)) 7 [0,3,5] (fun (_:(Nat->Int))=>[]) (fun a=>[(1,(bx (eA 1 8 (DV.i .u8) a)))]) (fun j=>0) (S_qw_b1 m) (fun a => 
 let e:=(0,(AV.d (DV.i .u64 m)))
 let c:=(TWa.b n)
.sh (H:=FbH 1 (eA 1 8 (DV.i .u8) a)) (A:=True) (.pf trivial) [e,(3,(vp 0)),(5,(vp 1))] [e,(3,(vp 0)),(5,(AV.imm (eA 1 8 (DV.i .u8) a)))] [c,(bx (eA 1 8 (DV.i .u8) a))] [c,Ob.dead] (fun _=>zcs (P:=[c]) (D:=[]) rfl) (z10 (k:=0) rfl (TrS.keep _) (z10 (k:=1) rfl (TrS.keep _) (z10 (k:=2) rfl TrS.fb z4g)))<|
.call (@F_qh_ok n) fun f g=>
.call (@F_qm_ok (((List.range 8).map fun j=>UInt8.ofNat ((a j)).toNat)++f)) fun l h=>
.guard [((List.range 8).map fun j=>UInt8.ofNat ((a j)).toNat).length+f.length<2 ^ 63]<|
.reg 7 [] [(3,hc g [] true),(5,hc h [] true)] [.pf (p:=8=8) rfl,.pf (p:=8<2 ^ 63) dk,.pf (p:=∀ j,j<8->∃ k,(DV.i .u8 (a j))=DV.i .u8 k) (fun _ _=>⟨_,rfl⟩),.cl 2 g [] 2 true,.ev 0,.cl 1 h [] 2 true]<|
.r l) id
def F_qw (a:Int) (b:TWa):=(S_qw a b).den
theorem F_qw_ok {a:Int} {b:TWa}:FO (F_qw a b) 41 [(AV.d (DV.i .u64 a)),(TWa.d b)] [] (fun x=>(AV.d (DV.i .u64 x))) NL:=fO (s:=S_qw a b) Tryz.func41
def S_q1s (e:(List Int)) (b:TWa) (o:Bool):SC (TWa×Int) (TWa×Int) :=
.a 1 1 2 (@F_qj_ok b) fun k=>
 let f:=(⟨0,0,[],0,0,0,0,0,0,0,0,0,0,0⟩:TWa)
.ite (!k) (
.r (f,1)) (
 let c:=(i64.wrap (2 * (i64.wrap (b.O-1))))
 let g:=(e.getD c.toNat dF)
.ite (bif (!o) then (decide (c<(e.length:Int))) else false) (
.call (@F_qw_ok g b) fun l h=>
.guard [(0:Int)<=c,c.toNat<e.length]<|
.reg 5 [7] [(5,hc h [] true)] [.ev 0,.ev 1,.cl 2 h [] 2 true]<|
.r ((⟨b.D,b.O,b.J,b.K,b.E,b.Q,b.I,b.H,b.L,b.S,b.N,b.X,l,b.U⟩:TWa),0)) (
 let d:=(i64.wrap (c+1))
.ite (decide (d>=(e.length:Int))) (
.r (f,6)) (
.call (@F_qw_ok g b) fun m i=>
.guard [(0:Int)<=c,c.toNat<e.length]<|
.reg 9 [] [(7,hc i [] true)] [.ev 0,.ev 1,.cl 2 i [] 2 true]<|
.ite (b.V != m) (
.r (f,18)) (
.call (@F_qw_ok (e.getD d.toNat dF) b) fun n j=>
.guard [(0:Int)<=d,d.toNat<e.length]<|
.reg 11 [8] [(6,hc j [] true)] [.ev 0,.ev 1,.cl 2 j [] 2 true]<|
.r ((⟨b.D,b.O,b.J,b.K,b.E,b.Q,b.I,b.H,b.L,b.S,b.N,b.X,b.V,n⟩:TWa),0)))))
def F_q1s (a:(List Int)) (b:TWa) (c:Bool):=(S_q1s a b c).den
theorem F_q1s_ok {a:(List Int)} {b:TWa} {c:Bool}:FO (F_q1s a b c) 8 [(AV.d (eL (DV.i .u64) a)),(TWa.d b),(vb c)] [] (fun x=>(AV.tup [(TWa.d x.1),(vi x.2)])) NL:=fO (s:=S_q1s a b c) Tryz.func8
def S_q30 (a:Int):SC Bool Bool :=
.r ((i64.wrap ((BitVec.ofInt i64.bits a &&& BitVec.ofInt i64.bits (i64.wrap (a-1))).toNat:Int))==0)
def F_q30 (a:Int):=(S_q30 a).den
theorem F_q30_ok {a:Int}:FO (F_q30 a) 197 [(vi a)] [] vb NL:=fO (s:=S_q30 a) Tryz.func197
abbrev R_qs:=(List Int)×Y8
def S_qs_b1 (h:Int) (f:Int) (a:(Nat->Int)×Int×Int):SC R_qs (Step ((Nat->Int)×Int×Int) R_qs) :=
.ite (decide (a.2.1>=(IntKind.u64.wrap h))) (
 let d:=(IntKind.u64.wrap ((BitVec.ofInt IntKind.u64.bits a.2.1 &&& BitVec.ofInt IntKind.u64.bits (IntKind.u64.wrap ((IntKind.u64.wrap h)-1))).toNat:Int))
 let b:=(i64.wrap (a.2.2-1))
.guard [(0:Int)<=d,d.toNat<z14.length,(0:Int)<=b,b.toNat<65]<|
 let c:=((z14.getD d.toNat 0).toNat:Int)
.reg 13 [] [(6,{ obs:=[(0,(bx (eA 1 65 (DV.i .u8) (fun j=>if j=b.toNat then c else a.1 j))))] })] [.ev 0,.ev 1,.ev 2,.ev 3,.ev 3,.pf (p:=OLe (bx (DV.arr 1 65 fun j=>if j=b.toNat then (DV.i .u8 c) else (DV.i .u8) (a.1 j))) (bx (eA 1 65 (DV.i .u8) (fun j=>if j=b.toNat then c else a.1 j)))) (z3e (z3f (e:=(DV.i .u8)) (i:=b.toNat) (x:=c) (g:=a.1)))]<|
.guard [(0:Int)<=(IntKind.u64.wrap f)]<|
.reg 14 [] [] [.ev 0]<|
.r (.cont ((fun j=>if j=b.toNat then c else a.1 j),(a.2.1.fdiv (2 ^ (min (IntKind.u64.wrap f).toNat IntKind.u64.bits))),b))) (
.r (.brk (a.1,a.2.1,a.2.2)))
def S_qs_b2 (k:Int) (a:(Nat->Int)×Int×Int):SC R_qs (Step ((Nat->Int)×Int×Int) R_qs) :=
 let d:=(IntKind.u64.wrap k)
.ite (decide (a.2.1>=d)) (
.guard [(d:Int)≠0]<|
.reg 20 [] [] [.ev 0]<|
 let h:=(IntKind.u64.wrap (a.2.1.tdiv d))
 let f:=(IntKind.u64.wrap (a.2.1-(IntKind.u64.wrap (h * d))))
 let b:=(i64.wrap (a.2.2-1))
.guard [(0:Int)<=f,f.toNat<z14.length,(0:Int)<=b,b.toNat<65]<|
 let c:=((z14.getD f.toNat 0).toNat:Int)
.reg 21 [] [(8,{ obs:=[(0,(bx (eA 1 65 (DV.i .u8) (fun j=>if j=b.toNat then c else a.1 j))))] })] [.ev 0,.ev 1,.ev 2,.ev 3,.ev 3,.pf (p:=OLe (bx (DV.arr 1 65 fun j=>if j=b.toNat then (DV.i .u8 c) else (DV.i .u8) (a.1 j))) (bx (eA 1 65 (DV.i .u8) (fun j=>if j=b.toNat then c else a.1 j)))) (z3e (z3f (e:=(DV.i .u8)) (i:=b.toNat) (x:=c) (g:=a.1)))]<|
.r (.cont ((fun j=>if j=b.toNat then c else a.1 j),h,b))) (
.r (.brk (a.1,a.2.1,a.2.2)))
def S_qs (B:(List Int)) (z:Int) (s:Int) (C:Bool) (v:Bool):SC R_qs R_qs :=
.guard [(cO (cO (decide (s<2)) (s==10)) (decide (s>36)))=false]<|
.br false (.ev 0)<|
.guard [C=false]<|
.br false (.ev 0)<|
.a 7 1 1 (@F_q30_ok s) fun w=>
.cut none [0,3,4,10,11,12] (fun (c:(Nat->Int)×Int)=>[(13,(vi c.2))]) (fun c=>[(0,(bx (eA 1 65 (DV.i .u8) c.1)))]) (
.ite w (
.a 8 2 1 (@F_q47_ok (IntKind.u64.wrap s)) fun y=>
.iter [0,3,4,10,11,12,14,15,16] (fun (f:(Nat->Int)×Int×Int)=>[(1,(AV.d (DV.i .u64 f.2.1))),(13,(vi f.2.2))]) (fun f=>[(0,(bx (eA 1 65 (DV.i .u8) f.1)))]) ((fun j=>0),z,65) (S_qs_b1 s y) (fun f =>
 let l:=(i64.wrap (f.2.2-1))
.guard [(0:Int)<=f.2.1,f.2.1.toNat<z14.length,(0:Int)<=l,l.toNat<65]<|
 let n:=((z14.getD f.2.1.toNat 0).toNat:Int)
.reg 16 [] [(4,{ obs:=[(0,(bx (eA 1 65 (DV.i .u8) (fun j=>if j=l.toNat then n else f.1 j))))] })] [.ev 0,.ev 1,.ev 2,.ev 3,.ev 3,.pf (p:=OLe (bx (DV.arr 1 65 fun j=>if j=l.toNat then (DV.i .u8 n) else (DV.i .u8) (f.1 j))) (bx (eA 1 65 (DV.i .u8) (fun j=>if j=l.toNat then n else f.1 j)))) (z3e (z3f (e:=(DV.i .u8)) (i:=l.toNat) (x:=n) (g:=f.1)))]<|
.r (.next ((fun j=>if j=l.toNat then n else f.1 j),l))) .ret) (
.iter [0,3,4,10,11,12,17] (fun (h:(Nat->Int)×Int×Int)=>[(1,(AV.d (DV.i .u64 h.2.1))),(13,(vi h.2.2))]) (fun h=>[(0,(bx (eA 1 65 (DV.i .u8) h.1)))]) ((fun j=>0),z,65) (S_qs_b2 s) (fun h =>
 let m:=(i64.wrap (h.2.2-1))
.guard [(0:Int)<=h.2.1,h.2.1.toNat<z14.length,(0:Int)<=m,m.toNat<65]<|
 let o:=((z14.getD h.2.1.toNat 0).toNat:Int)
.reg 24 [] [(4,{ obs:=[(0,(bx (eA 1 65 (DV.i .u8) (fun j=>if j=m.toNat then o else h.1 j))))] })] [.ev 0,.ev 1,.ev 2,.ev 3,.ev 3,.pf (p:=OLe (bx (DV.arr 1 65 fun j=>if j=m.toNat then (DV.i .u8 o) else (DV.i .u8) (h.1 j))) (bx (eA 1 65 (DV.i .u8) (fun j=>if j=m.toNat then o else h.1 j)))) (z3e (z3f (e:=(DV.i .u8)) (i:=m.toNat) (x:=o) (g:=h.1)))]<|
.r (.next ((fun j=>if j=m.toNat then o else h.1 j),m))) .ret)) fun c=>
.br false (.ev 1)<|
.guard [v=false]<|
.br false (.ev 0)<|
 let t:=(AV.full 0 fun _=>DV.b false)
 let u:=(0,(AV.d (eL (DV.i .u8) B)))
.sh (H:=FbH 0 (eA 1 65 (DV.i .u8) c.1)) (A:=True) (.pf trivial) [u,(10,t),(11,(AV.d (DV.str ([])))),(12,(vp 0)),(13,(vi c.2)),(94,(vb v))] [u,(10,t),(11,(AV.d (DV.str ([])))),(12,(AV.imm (eA 1 65 (DV.i .u8) c.1))),(13,(vi c.2)),(94,(vb v))] [(bx (eA 1 65 (DV.i .u8) c.1))] [Ob.dead] (fun _=>zcs (P:=[]) (D:=[]) rfl) (z10 (k:=0) rfl (TrS.keep _) (z10 (k:=1) rfl (TrS.keep _) (z10 (k:=2) rfl (TrS.keep _) (z10 (k:=3) rfl TrS.fb (z10 (k:=4) rfl (TrS.keep _) (z10 (k:=5) rfl (TrS.keep _) z4g))))))<|
.guard [(0:Int)<=c.2,c.2.toNat<65]<|
 let q:=(65-c.2.toNat)
.reg 30 [] [] [.pf (p:=65=65) rfl,.pf (p:=65<2 ^ 63) dk,.ev 0,.ev 1,.pf (p:=∀ j,j<q->∃ k,(DV.i .u8 (c.1 (c.2.toNat+j)))=DV.i .u8 k) (fun _ _=>⟨_,rfl⟩)]<|
.ret [.pf (p:=LeV (AV.tup [t,(AV.d (DV.str ((List.range q).map fun j=>UInt8.ofNat ((c.1 (c.2.toNat+j))).toNat)))]) (AV.tup [(AV.d (eL (DV.i .u8) ([]))),(AV.d (DV.str ((List.range q).map fun j=>UInt8.ofNat ((c.1 (c.2.toNat+j))).toNat)))])) (LeV.tup (LeVs.cons (lvN (DV.i .u8)) (LeVs.cons (LeV.refl _) LeVs.nil)))] ([],((List.range q).map fun j=>UInt8.ofNat ((c.1 (c.2.toNat+j))).toNat))
def F_qs (a:(List Int)) (b:Int) (c:Int) (d:Bool) (e:Bool):=(S_qs a b c d e).den
theorem F_qs_ok {a:(List Int)} {b:Int} {c:Int} {e:Bool} {f:Bool}:FO (F_qs a b c e f) 165 [(AV.d (eL (DV.i .u8) a)),(AV.d (DV.i .u64 b)),(vi c),(vb e),(vb f)] [] (fun x=>(AV.tup [(AV.d (eL (DV.i .u8) x.1)),(AV.d (DV.str x.2))])) NL:=fO (s:=S_qs a b c e f) Tryz.func165
def S_q3t (d:Int) (c:Int):SC Y8 Y8 :=
.guard [(c==10)=false]<|
.br false (.ev 0)<|
.a 8 2 0 (@F_qs_ok ([]) d c false false) fun b=>
.r b.2
def F_q3t (a:Int) (b:Int):=(S_q3t a b).den
theorem F_q3t_ok {a:Int} {b:Int}:FO (F_q3t a b) 118 [(AV.d (DV.i .u64 a)),(vi b)] [] (fun x=>(AV.d (DV.str x))) NL:=fO (s:=S_q3t a b) Tryz.func118
def S_q31 (c:Int) (d:Int):SC Y8 Y8 :=
.a 1 2 0 (@F_q3t_ok c d) fun b=>
.r b
def F_q31 (a:Int) (b:Int):=(S_q31 a b).den
theorem F_q31_ok {a:Int} {b:Int}:FO (F_q31 a b) 76 [(AV.d (DV.i .u64 a)),(vi b)] [] (fun x=>(AV.d (DV.str x))) NL:=fO (s:=S_q31 a b) Tryz.func76
def S_q2n (e:Int):SC Y8 Y8 :=
.a 1 1 0 (@F_q31_ok e 16) fun b=>
.call (@F_q49_ok ([48]) (i64.wrap (16-(b.length:Int)))) fun c d=>
.guard [c.length+b.length<2 ^ 63]<|
.reg 2 [] [(3,hc d [] true)] [.cl 1 d [] 0 true,.ev 0]<|
.r (c++b)
def F_q2n (a:Int):=(S_q2n a).den
theorem F_q2n_ok {a:Int}:FO (F_q2n a) 45 [(AV.d (DV.i .u64 a))] [] (fun x=>(AV.d (DV.str x))) NL:=fO (s:=S_q2n a) Tryz.func45
def S_q1t (i:TWa):SC Y8 Y8 :=
.a 1 1 1 (@F_qj_ok i) fun j=>
.ite (!j) (
.r ([])) (
.call (@F_qh_ok i) fun b d=>
.call (@F_q2n_ok i.V) fun e f=>
.call (@F_q2n_ok i.U) fun g h=>
 let c:=((b++([32]))++e)
.guard [b.length+([32]).length<2 ^ 63,(b++([32])).length+e.length<2 ^ 63,c.length+([32]).length<2 ^ 63,(c++([32])).length+g.length<2 ^ 63]<|
.reg 3 [] [(1,hc d [] true),(5,hc f [] true),(10,hc h [] true)] [.cl 6 d [] 1 true,.ev 0,.cl 5 f [] 1 true,.ev 1,.ev 2,.cl 4 h [] 1 true,.ev 3]<|
.r ((c++([32]))++g))
def F_q1t (a:TWa):=(S_q1t a).den
theorem F_q1t_ok {a:TWa}:FO (F_q1t a) 10 [(TWa.d a)] [] (fun x=>(AV.d (DV.str x))) NL:=fO (s:=S_q1t a) Tryz.func10
end
end Go.Proofs.YtiohhffifhaboaaGreatDoor
/- What the functions compute,and that their calls return it. No condition. -/
namespace Go.Proofs.YtiohhffifhaboaaGreatDoor
open Go Go.TA
open Go.IntKind (i64)
noncomputable section
set_option maxRecDepth 100000
set_option maxHeartbeats 2000000
def S_q1u (L:Y8):SC (TWa×Int) (TWa×Int) :=
.call (@F_q44_ok L ([32])) fun b C=>
.k 1 1 C [] 1 false<|
.guard [b.length<2 ^ 63]<|
.frz 1 (.ev 0) none [4] []<|
 let j:=(⟨0,0,[],0,0,0,0,0,0,0,0,0,0,0⟩:TWa)
.ite ((b.length:Int) != 15) (
.r (j,4)) (
.guard [3<b.length]<|
.reg 4 [] [] [.pf (p:=(0:Int)<=3) dk,.ev 0]<|
.reg 5 [] [(11,{ h:=.obj })] []<|
.br true (.pf (p:=true=true) rfl)<|
.reg 8 [] [] [.e 13,.pf (p:=(0:Int)<=0) dk,.pf (p:=0<13) dk,.e 13,.pf (p:=(0+0)<13) dk]<|
.br false (.pf (p:=false=false) rfl)<|
.br true (.pf (p:=true=true) rfl)<|
.reg 8 [] [] [.e 13,.pf (p:=(0:Int)<=1) dk,.pf (p:=1<13) dk,.e 13,.pf (p:=(0+1)<13) dk]<|
.br true (.pf (p:=true=true) rfl)<|
.call (@F_q27_ok (b.getD 1 dF)) fun D l=>
.guard [1<b.length]<|
.reg 10 [] [(5,hc l [] true)] [.pf (p:=(0:Int)<=1) dk,.ev 0,.cl 1 l [] 4 true]<|
.br true (.pf (p:=true=true) rfl)<|
.reg 8 [] [] [.e 13,.pf (p:=(0:Int)<=2) dk,.pf (p:=2<13) dk,.e 13,.pf (p:=(0+2)<13) dk]<|
.br true (.pf (p:=true=true) rfl)<|
.call (@F_q27_ok (b.getD 2 dF)) fun E m=>
.guard [2<b.length]<|
.reg 10 [] [(5,hc m [] true)] [.pf (p:=(0:Int)<=2) dk,.ev 0,.cl 1 m [] 4 true]<|
.br true (.pf (p:=true=true) rfl)<|
.reg 8 [] [] [.e 13,.pf (p:=(0:Int)<=3) dk,.pf (p:=3<13) dk,.e 13,.pf (p:=(0+3)<13) dk]<|
.br false (.pf (p:=false=false) rfl)<|
.br true (.pf (p:=true=true) rfl)<|
.reg 8 [] [] [.e 13,.pf (p:=(0:Int)<=4) dk,.pf (p:=4<13) dk,.e 13,.pf (p:=(0+4)<13) dk]<|
.br true (.pf (p:=true=true) rfl)<|
.call (@F_q27_ok (b.getD 4 dF)) fun F n=>
.guard [4<b.length]<|
.reg 10 [] [(5,hc n [] true)] [.pf (p:=(0:Int)<=4) dk,.ev 0,.cl 1 n [] 4 true]<|
.br true (.pf (p:=true=true) rfl)<|
.reg 8 [] [] [.e 13,.pf (p:=(0:Int)<=5) dk,.pf (p:=5<13) dk,.e 13,.pf (p:=(0+5)<13) dk]<|
.br true (.pf (p:=true=true) rfl)<|
.call (@F_q27_ok (b.getD 5 dF)) fun G o=>
.guard [5<b.length]<|
.reg 10 [] [(5,hc o [] true)] [.pf (p:=(0:Int)<=5) dk,.ev 0,.cl 1 o [] 4 true]<|
.br true (.pf (p:=true=true) rfl)<|
.reg 8 [] [] [.e 13,.pf (p:=(0:Int)<=6) dk,.pf (p:=6<13) dk,.e 13,.pf (p:=(0+6)<13) dk]<|
.br true (.pf (p:=true=true) rfl)<|
.call (@F_q27_ok (b.getD 6 dF)) fun H q=>
.guard [6<b.length]<|
.reg 10 [] [(5,hc q [] true)] [.pf (p:=(0:Int)<=6) dk,.ev 0,.cl 1 q [] 4 true]<|
.br true (.pf (p:=true=true) rfl)<|
.reg 8 [] [] [.e 13,.pf (p:=(0:Int)<=7) dk,.pf (p:=7<13) dk,.e 13,.pf (p:=(0+7)<13) dk]<|
.br true (.pf (p:=true=true) rfl)<|
.call (@F_q27_ok (b.getD 7 dF)) fun I s=>
.guard [7<b.length]<|
.reg 10 [] [(5,hc s [] true)] [.pf (p:=(0:Int)<=7) dk,.ev 0,.cl 1 s [] 4 true]<|
.br true (.pf (p:=true=true) rfl)<|
.reg 8 [] [] [.e 13,.pf (p:=(0:Int)<=8) dk,.pf (p:=8<13) dk,.e 13,.pf (p:=(0+8)<13) dk]<|
.br true (.pf (p:=true=true) rfl)<|
.call (@F_q27_ok (b.getD 8 dF)) fun J t=>
.guard [8<b.length]<|
.reg 10 [] [(5,hc t [] true)] [.pf (p:=(0:Int)<=8) dk,.ev 0,.cl 1 t [] 4 true]<|
.br true (.pf (p:=true=true) rfl)<|
.reg 8 [] [] [.e 13,.pf (p:=(0:Int)<=9) dk,.pf (p:=9<13) dk,.e 13,.pf (p:=(0+9)<13) dk]<|
.br true (.pf (p:=true=true) rfl)<|
.call (@F_q27_ok (b.getD 9 dF)) fun K u=>
.guard [9<b.length]<|
.reg 10 [] [(5,hc u [] true)] [.pf (p:=(0:Int)<=9) dk,.ev 0,.cl 1 u [] 4 true]<|
.br true (.pf (p:=true=true) rfl)<|
.reg 8 [] [] [.e 13,.pf (p:=(0:Int)<=10) dk,.pf (p:=10<13) dk,.e 13,.pf (p:=(0+10)<13) dk]<|
.br true (.pf (p:=true=true) rfl)<|
.call (@F_q27_ok (b.getD 10 dF)) fun v c=>
.guard [10<b.length]<|
.reg 10 [] [(5,hc c [] true)] [.pf (p:=(0:Int)<=10) dk,.ev 0,.cl 1 c [] 4 true]<|
.br true (.pf (p:=true=true) rfl)<|
.reg 8 [] [] [.e 13,.pf (p:=(0:Int)<=11) dk,.pf (p:=11<13) dk,.e 13,.pf (p:=(0+11)<13) dk]<|
.br true (.pf (p:=true=true) rfl)<|
.call (@F_q27_ok (b.getD 11 dF)) fun w d=>
.guard [11<b.length]<|
.reg 10 [] [(5,hc d [] true)] [.pf (p:=(0:Int)<=11) dk,.ev 0,.cl 1 d [] 4 true]<|
.br true (.pf (p:=true=true) rfl)<|
.reg 8 [] [] [.e 13,.pf (p:=(0:Int)<=12) dk,.pf (p:=12<13) dk,.e 13,.pf (p:=(0+12)<13) dk]<|
.br true (.pf (p:=true=true) rfl)<|
.call (@F_q27_ok (b.getD 12 dF)) fun x f=>
.guard [12<b.length]<|
.reg 10 [] [(5,hc f [] true)] [.pf (p:=(0:Int)<=12) dk,.ev 0,.cl 1 f [] 4 true]<|
.br false (.pf (p:=false=false) rfl)<|
.call (@F_q45_ok (b.getD 13 dF) 16 64) fun y g=>
.guard [13<b.length]<|
.reg 12 [] [(3,hc g [] true)] [.pf (p:=(0:Int)<=13) dk,.ev 0,.cl 1 g [] 4 true]<|
.call (@F_q45_ok (b.getD 14 dF) 16 64) fun z i=>
.guard [14<b.length]<|
.reg 13 [] [(3,hc i [] true)] [.pf (p:=(0:Int)<=14) dk,.ev 0,.cl 1 i [] 4 true]<|
 let A:=(⟨D.1,E.1,(b.getD 3 dF),F.1,I.1,J.1,H.1,G.1,K.1,v.1,w.1,x.1,y.1,z.1⟩:TWa)
.a 14 1 4 (@F_q1t_ok A) fun B=>
.ite (!(B==L)) (
.r (j,4)) (
.r (A,0)))
def F_q1u (a:Y8):=(S_q1u a).den
theorem F_q1u_ok {a:Y8}:FO (F_q1u a) 9 [(AV.d (DV.str a))] [] (fun x=>(AV.tup [(TWa.d x.1),(vi x.2)])) NL:=fO (s:=S_q1u a) Tryz.func9
def S_q2o (d:(List Int)) (c:TWa):SC Int Int :=
.a 1 2 1 (@F_q1s_ok d c true) fun b=>
.ite (bif (b.2==0) then (b.1.U != c.U) else false) (
.r 18) (
.r b.2)
def F_q2o (a:(List Int)) (b:TWa):=(S_q2o a b).den
theorem F_q2o_ok {a:(List Int)} {b:TWa}:FO (F_q2o a b) 11 [(AV.d (eL (DV.i .u64) a)),(TWa.d b)] [] vi NL:=fO (s:=S_q2o a b) Tryz.func11
def S_q32 (f:(List Int)) (e:TWa):SC Int Int :=
.a 1 1 1 (@F_q6_ok e) fun i=>
.ite (!i) (
.r 1) (
 let c:=(i64.wrap (2 * (i64.wrap (e.O-1))))
 let d:=(i64.wrap (c+1))
.ite (decide (d>=(f.length:Int))) (
.r 6) (
.call (@F_qa_ok (f.getD c.toNat dF) e) fun j g=>
 let b:=(j != e.V)
.calld [b=false] dF (@F_qa_ok (f.getD d.toNat dF) e) fun k h =>
.guard [(0:Int)<=c,c.toNat<f.length,AllP [b=false]->((0:Int)<=d),AllP [b=false]->(d.toNat<f.length)]<|
.reg 6 [] [(5,hc g [] true),(16,hc h [] true)] [.ev 0,.ev 1,.cl 6 g [] 1 true,.ev 2,.ev 3,.clg 4 [b=false] h [] 1 true]<|
.ite (cO b (k != e.U)) (
.r 18) (
.r 0)))
def F_q32 (a:(List Int)) (b:TWa):=(S_q32 a b).den
theorem F_q32_ok {a:(List Int)} {b:TWa}:FO (F_q32 a b) 12 [(AV.d (eL (DV.i .u64) a)),(TWa.d b)] [] vi NL:=fO (s:=S_q32 a b) Tryz.func12
def S_qx (a:Int) (b:Int) (c:Int):SC Bool Bool :=
.r (bif (decide (a>=b)) then (decide (a<=c)) else false)
def F_qx (a:Int) (b:Int) (c:Int):=(S_qx a b c).den
theorem F_qx_ok {a:Int} {b:Int} {c:Int}:FO (F_qx a b c) 174 [(vi a),(vi b),(vi c)] [] vb NL:=fO (s:=S_qx a b c) Tryz.func174
def S_q1v (c:Int):SC Bool Bool :=
.a 1 1 0 (@F_qx_ok c 0 35990) fun b=>
.r b
def F_q1v (a:Int):=(S_q1v a).den
theorem F_q1v_ok {a:Int}:FO (F_q1v a) 175 [(vi a)] [] vb NL:=fO (s:=S_q1v a) Tryz.func175
def S_q3u (a:Int):SC Bool Bool :=
.r (bif (decide (a>=0)) then (decide (a<=36000)) else false)
def F_q3u (a:Int):=(S_q3u a).den
theorem F_q3u_ok {a:Int}:FO (F_q3u a) 199 [(vi a)] [] vb NL:=fO (s:=S_q3u a) Tryz.func199
def S_q1y (c:Int):SC Int Int :=
.a 1 1 0 (@F_q3u_ok c) fun b=>
.ite (!b) (
.r (-1)) (
.reg 3 [] [] [.pf (p:=(360:Int)≠0) dk]<|
.r (i64.wrap (c.tdiv 360)))
def F_q1y (a:Int):=(S_q1y a).den
theorem F_q1y_ok {a:Int}:FO (F_q1y a) 176 [(vi a)] [] vi NL:=fO (s:=S_q1y a) Tryz.func176
def S_q28 (c:Int):SC Bool Bool :=
.a 1 1 0 (@F_qx_ok c 1 1000000000000) fun b=>
.r b
def F_q28 (a:Int):=(S_q28 a).den
theorem F_q28_ok {a:Int}:FO (F_q28 a) 177 [(vi a)] [] vb NL:=fO (s:=S_q28 a) Tryz.func177
def S_q1f_b1 (d:TBo) (e:Int) (c:Nat) (a:Int×Int):SC (Int×Int) (Step (Int×Int) (Int×Int)) :=
.reg 3 [] [] [.w c,.ev 0]<|
 let b:=(d.B.getD c dF)
.ite (b.H==e) (
.r (.cont ((i64.wrap (a.1+b.L)),(i64.wrap (a.2+b.P))))) (
.r (.cont (a.1,a.2)))
def S_q1f (b:TBo) (c:Int):SC (Int×Int) (Int×Int) :=
.range (b.B.length:Int) b.B.length rfl (.slot 9) 11 [1,9,10] (fun (a:Int×Int)=>[(4,(vi a.1)),(5,(vi a.2))]) (fun _=>[]) (0,0) (S_q1f_b1 b c) (fun a => 
.r (a.1,a.2)) id
def F_q1f (a:TBo) (b:Int):=(S_q1f a b).den
theorem F_q1f_ok {a:TBo} {b:Int}:FO (F_q1f a b) 188 [(TBo.d a),(vi b)] [] (fun x=>(AV.tup [(vi x.1),(vi x.2)])) NL:=fO (s:=S_q1f a b) Tryz.func188
def S_q33 (d:TBo) (b:TRe):SC Int Int :=
.a 1 3 2 (@F_q1f_ok d b.D) fun c=>
.r (i64.wrap ((i64.wrap (b.L-b.P))-c.1))
def F_q33 (a:TBo) (b:TRe):=(S_q33 a b).den
theorem F_q33_ok {a:TBo} {b:TRe}:FO (F_q33 a b) 178 [(TBo.d a),(TRe.d b)] [] vi NL:=fO (s:=S_q33 a b) Tryz.func178
def S_q2p (q:TBo) (p:Int):SC Bool Bool :=
.guard [(0:Int)<=p,p.toNat<q.A.length]<|
.reg 1 [] [] [.ev 0,.ev 1]<|
 let a:=(q.A.getD p.toNat dF)
 let b:=(a.D==(i64.wrap (p+1)))
.calld [b=true] dF (@F_q46_ok a.J) fun s i =>
 let c:=(bif b then (decide ((s.length:Int)>0)) else false)
.calld [c=true] dF (@F_qx_ok a.K 0 99) fun t j =>
 let d:=(bif c then t else false)
.calld [d=true] dF (@F_q1v_ok a.N) fun u k =>
 let e:=(bif d then u else false)
.calld [e=true] dF (@F_q1y_ok a.N) fun v l =>
 let f:=(bif e then (v==a.K) else false)
.calld [f=true] dF (@F_q28_ok a.L) fun w m =>
 let g:=(bif f then w else false)
.calld [g=true] dF (@F_qx_ok a.P 0 a.L) fun x n =>
 let h:=(bif g then x else false)
.calld [h=true] dF (@F_q33_ok q a) fun y o =>
.reg 2 [] [(8,hc i [] true),(15,hc j [] true),(20,hc k [] true),(25,hc l [] true),(33,hc m [] true),(40,hc n [] true),(45,hc o [] true)] [.clg 12 [b=true] i [] 2 true,.clg 10 [c=true] j [] 2 true,.clg 8 [d=true] k [] 2 true,.clg 6 [e=true] l [] 2 true,.clg 4 [f=true] m [] 2 true,.clg 2 [g=true] n [] 2 true,.clg 0 [h=true] o [] 2 true]<|
.r (bif h then (decide (y>=0)) else false)
def F_q2p (a:TBo) (b:Int):=(S_q2p a b).den
theorem F_q2p_ok {a:TBo} {b:Int}:FO (F_q2p a b) 139 [(TBo.d a),(vi b)] [] vb NL:=fO (s:=S_q2p a b) Tryz.func139
def S_q1z_b1 (d:TBo) (b:Nat) (_:Unit):SC Bool (Step Unit Bool) :=
.a 4 3 1 (@F_q2p_ok d (b:Int)) fun c=>
.ite (!c) (
.r (.ret false)) (
.r (.cont ()))
def S_q1z (b:TBo) (a:Int):SC Bool Bool :=
.guard [a.toNat<2 ^ 63]<|
.range a a.toNat rfl (.why (.ev 0)) 9 [1,2,3,8] (fun (_:Unit)=>[]) (fun _=>[]) () (S_q1z_b1 b) (fun _ => 
.r (decide (a<=200))) id
def F_q1z (a:TBo) (b:Int):=(S_q1z a b).den
theorem F_q1z_ok {a:TBo} {b:Int}:FO (F_q1z a b) 138 [(TBo.d a),(vi b),(AV.fn 139 [])] [] vb NL:=fO (s:=S_q1z a b) Tryz.func138
def S_q1n_b1 (e:TBo) (f:Int) (a:Nat) (b:Int):SC Int (Step Int Int) :=
.reg 4 [] [] [.w a,.ev 0]<|
 let d:=(e.C.getD a dF)
.ite (d.I==f) (
.r (.cont (i64.wrap (b+d.L)))) (
.c b)
def S_q1n (b:TBo) (c:Int):SC Int Int :=
.range (b.C.length:Int) b.C.length rfl (.slot 9) 11 [1,9,10] (fun (a:Int)=>[(5,(vi a))]) (fun _=>[]) 0 (S_q1n_b1 b c) (fun a => 
.r a) id
def F_q1n (a:TBo) (b:Int):=(S_q1n a b).den
theorem F_q1n_ok {a:TBo} {b:Int}:FO (F_q1n a b) 200 [(TBo.d a),(vi b)] [] vi NL:=fO (s:=S_q1n a b) Tryz.func200
def S_q34 (d:TBo) (b:TCo):SC Int Int :=
.a 1 8 2 (@F_q1n_ok d b.D) fun c=>
.r (i64.wrap ((i64.wrap (b.L-b.P))-c))
def F_q34 (a:TBo) (b:TCo):=(S_q34 a b).den
theorem F_q34_ok {a:TBo} {b:TCo}:FO (F_q34 a b) 179 [(TBo.d a),(TCo.d b)] [] vi NL:=fO (s:=S_q34 a b) Tryz.func179
def S_q2q (j:TBo) (u:Int):SC Bool Bool :=
.guard [(0:Int)<=u,u.toNat<j.B.length]<|
.reg 1 [] [] [.ev 0,.ev 1]<|
 let a:=(j.B.getD u.toNat dF)
 let b:=(a.D != (i64.wrap (u+1)))
.calld [b=false] dF (@F_qx_ok a.H 1 (j.A.length:Int)) fun v k =>
.reg 2 [] [(11,hc k [] true)] [.clg 0 [b=false] k [] 2 true]<|
.ite (cO b (!v)) (
.r false) (
 let c:=(i64.wrap (a.H-1))
.guard [(0:Int)<=c,c.toNat<j.A.length]<|
.reg 4 [] [] [.ev 0,.ev 1]<|
.call (@F_q1v_ok a.N) fun w l=>
 let m:=(j.A.getD c.toNat dF)
 let d:=(bif w then (decide (a.N>=m.N)) else false)
.calld [d=true] dF (@F_q1y_ok a.N) fun x n =>
 let e:=(bif d then (x==m.K) else false)
.calld [e=true] dF (@F_q28_ok a.L) fun y o =>
 let f:=(bif e then y else false)
.calld [f=true] dF (@F_qx_ok a.P 0 a.L) fun z p =>
 let g:=(bif f then z else false)
.calld [g=true] dF (@F_qx_ok a.S 1 1000000) fun C q =>
 let h:=(bif g then C else false)
.calld [h=true] dF (@F_q1v_ok a.X) fun E s =>
 let i:=(bif h then E else false)
.calld [i=true] dF (@F_q34_ok j a) fun F t =>
.reg 5 [] [(2,hc l [] true),(13,hc n [] true),(21,hc o [] true),(28,hc p [] true),(33,hc q [] true),(38,hc s [] true),(43,hc t [] true)] [.cl 12 l [] 3 true,.clg 10 [d=true] n [] 3 true,.clg 8 [e=true] o [] 3 true,.clg 6 [f=true] p [] 3 true,.clg 4 [g=true] q [] 3 true,.clg 2 [h=true] s [] 3 true,.clg 0 [i=true] t [] 3 true]<|
.r (bif i then (decide (F>=0)) else false))
def F_q2q (a:TBo) (b:Int):=(S_q2q a b).den
theorem F_q2q_ok {a:TBo} {b:Int}:FO (F_q2q a b) 140 [(TBo.d a),(vi b)] [] vb NL:=fO (s:=S_q2q a b) Tryz.func140
def S_q20_b1 (d:TBo) (b:Nat) (_:Unit):SC Bool (Step Unit Bool) :=
.a 4 3 1 (@F_q2q_ok d (b:Int)) fun c=>
.ite (!c) (
.r (.ret false)) (
.r (.cont ()))
def S_q20 (b:TBo) (a:Int):SC Bool Bool :=
.guard [a.toNat<2 ^ 63]<|
.range a a.toNat rfl (.why (.ev 0)) 9 [1,2,3,8] (fun (_:Unit)=>[]) (fun _=>[]) () (S_q20_b1 b) (fun _ => 
.r (decide (a<=200))) id
def F_q20 (a:TBo) (b:Int):=(S_q20 a b).den
theorem F_q20_ok {a:TBo} {b:Int}:FO (F_q20 a b) 138 [(TBo.d a),(vi b),(AV.fn 140 [])] [] vb NL:=fO (s:=S_q20 a b) Tryz.func138
def S_q21 (b:TBo) (c:TCo):SC Int Int :=
 let a:=(i64.wrap (c.H-1))
.guard [(0:Int)<=a,a.toNat<b.A.length]<|
.reg 1 [] [] [.ev 0,.ev 1]<|
.r ((b.A.getD a.toNat dF).K)
def F_q21 (a:TBo) (b:TCo):=(S_q21 a b).den
theorem F_q21_ok {a:TBo} {b:TCo}:FO (F_q21 a b) 180 [(TBo.d a),(TCo.d b)] [] vi NL:=fO (s:=S_q21 a b) Tryz.func180
def S_q2r (f:TBo) (m:Int):SC Bool Bool :=
.guard [(0:Int)<=m,m.toNat<f.C.length]<|
.reg 1 [] [] [.ev 0,.ev 1]<|
 let a:=(f.C.getD m.toNat dF)
 let c:=(a.D != (i64.wrap (m+1)))
.calld [c=false] dF (@F_qx_ok a.I 1 (f.B.length:Int)) fun n g =>
.reg 2 [] [(11,hc g [] true)] [.clg 0 [c=false] g [] 2 true]<|
.ite (cO c (!n)) (
.r false) (
 let d:=(i64.wrap (a.I-1))
.guard [(0:Int)<=d,d.toNat<f.B.length]<|
.reg 4 [] [] [.ev 0,.ev 1]<|
.call (@F_q1v_ok a.N) fun o h=>
 let i:=(f.B.getD d.toNat dF)
 let b:=(bif o then (decide (a.N>=i.N)) else false)
.calld [b=true] dF (@F_q1y_ok a.N) fun p j =>
.calld [b=true] dF (@F_q21_ok f i) fun q k =>
 let e:=(bif b then (decide (p<=(i64.wrap (q+1)))) else false)
.calld [e=true] dF (@F_q28_ok a.L) fun s l =>
.reg 5 [] [(2,hc h [] true),(13,hc j [] true),(16,hc k [] true),(23,hc l [] true)] [.cl 6 h [] 3 true,.clg 4 [b=true] j [] 3 true,.clg 2 [b=true] k [] 3 true,.clg 0 [e=true] l [] 3 true]<|
.r (bif e then s else false))
def F_q2r (a:TBo) (b:Int):=(S_q2r a b).den
theorem F_q2r_ok {a:TBo} {b:Int}:FO (F_q2r a b) 141 [(TBo.d a),(vi b)] [] vb NL:=fO (s:=S_q2r a b) Tryz.func141
def S_q22_b1 (d:TBo) (b:Nat) (_:Unit):SC Bool (Step Unit Bool) :=
.a 4 3 1 (@F_q2r_ok d (b:Int)) fun c=>
.ite (!c) (
.r (.ret false)) (
.r (.cont ()))
def S_q22 (b:TBo) (a:Int):SC Bool Bool :=
.guard [a.toNat<2 ^ 63]<|
.range a a.toNat rfl (.why (.ev 0)) 9 [1,2,3,8] (fun (_:Unit)=>[]) (fun _=>[]) () (S_q22_b1 b) (fun _ => 
.r (decide (a<=200))) id
def F_q22 (a:TBo) (b:Int):=(S_q22 a b).den
theorem F_q22_ok {a:TBo} {b:Int}:FO (F_q22 a b) 138 [(TBo.d a),(vi b),(AV.fn 141 [])] [] vb NL:=fO (s:=S_q22 a b) Tryz.func138
def S_q35 (a:(List TOr)):SC (List TOr) (List TOr) :=
.reg 0 [] [] []<|
.nils 0 (
.guard [a.length * (2 * 40)<=2 ^ 48]<|
.reg 1 [] [] []<|
.lev 0 (AV.d (eL TOr.e a)) (.pf (lvQ true a.length fun j=>(TOr.e (a.getD j dF))))<|
.br true (.pf (p:=true=true) rfl)<|
.reg 2 [] [] []<|
.bor 5 (fun j=>AV.d (TOr.e (a.getD j dF))) [2]<|
.cst (A:=a.length=0) (.ev 1) [(2,AV.ref 0 0 0 0)] [(2,(AV.ref 0 a.length 0 a.length))] [(Ob.seq 5 0 fun j=>AV.d (TOr.e (a.getD j dF)))] [(eS 5 TOr.e a)] (fun h=>⟨by rw[h],by unfold eS; rw[h]⟩)<|
.r a) (
.reg 1 [] [] []<|
.lev 0 (AV.d (eL TOr.e a)) (.pf (lvQ false a.length fun j=>(TOr.e (a.getD j dF))))<|
.br false (.pf (p:=false=false) rfl)<|
.guard [a.length * (2 * 40)<=2 ^ 48]<|
.reg 3 [] [(2,{ h:=.obj })] [.pf (p:=∀ k,k<a.length->(TOr.d (a.getD k dF)).wd=5) (fun _ _=>rfl),.ev 0]<|
.r a)
def F_q35 (a:(List TOr)):=(S_q35 a).den
theorem F_q35_ok {a:(List TOr)}:FO (F_q35 a) 202 [(AV.d (eL TOr.e a))] [] (fun x=>(AV.ref 0 x.length 0 x.length)) (fun x=>[(eS 5 TOr.e x)]):=fO (s:=S_q35 a) Tryz.func202
def S_q29 (a:TOr) (b:Int):SC Bool Bool :=
.r (a.E != b)
def F_q29 (a:TOr) (b:Int):=(S_q29 a b).den
theorem F_q29_ok {b:TOr} {a:Int}:FO (F_q29 b a) 203 [(TOr.d b),(vp 0)] [(Ob.box (vi a))] vb (fun _=>[(Ob.box (vi a))]):=fO (s:=S_q29 b a) Tryz.func203
def S_q12_b1 (c:(List TOr)) (f:Int) (a:Nat) (_:Unit):SC Int (Step Unit Int) :=
.call (@F_q29_ok (c.getD (0+a) dF) f) fun d b=>
.guard [(0+a)<c.length]<|
.reg 4 [] [(5,hc b [1] true)] [.e c.length,.w a,.ev 2,.e c.length,.ev 0,.cl 1 b [1] 2 true]<|
.ite d (
.r (.ret (a:Int))) (
.r (.cont ()))
def S_q12 (a:(List TOr)) (b:Int):SC Int Int :=
.guard [a.length<2 ^ 63]<|
.range (a.length:Int) a.length rfl (.why (.ev 0)) 8 [0,1,7] (fun (_:Unit)=>[]) (fun _=>[]) () (S_q12_b1 a b) (fun _ => 
.r (-1)) id
def F_q12 (a:(List TOr)) (b:Int):=(S_q12 a b).den
theorem F_q12_ok {a:(List TOr)} {b:Int}:FO (F_q12 a b) 204 [(AV.ref 0 a.length 0 a.length),(AV.fn 203 [(vp 1)])] [(eS 5 TOr.e a),(Ob.box (vi b))] vi (fun _=>[(eS 5 TOr.e a),(Ob.box (vi b))]):=fO (s:=S_q12 a b) Tryz.func204
abbrev R_q13:=(List TOr)
def S_q13_b1 (n:Int) (a:(List TOr)×Int×Int):SC R_q13 (Step ((List TOr)×Int×Int) R_q13) :=
.ite (decide (a.2.2<(a.1.length:Int))) (
.guard [(0:Int)<=a.2.2,a.2.2.toNat<a.1.length,(0+a.2.2.toNat)<a.1.length]<|
.reg 7 [] [] [.e a.1.length,.ev 0,.ev 1,.e a.1.length,.ev 2]<|
 let d:=(a.1.getD (0+a.2.2.toNat) dF)
.call (@F_q29_ok d n) fun j m=>
.k 8 2 m [1] 3 true<|
 let g:=(i64.wrap (a.2.2+1))
.ite (!j) (
 let f:=(0+a.2.1.toNat)
.guard [(0:Int)<=a.2.1,a.2.1.toNat<a.1.length,f<a.1.length]<|
 let c:=(a.1.set f d)
.reg 9 [] [(4,{ obs:=[(0,(eS 5 TOr.e c))] })] [.e a.1.length,.ev 0,.ev 1,.e a.1.length,.ev 2,.pf (z1f (sz:=5) (e:=TOr.e) (l:=a.1) (i:=f) (x:=d) (fun _=>rfl))]<|
 let h:=[(eS 5 TOr.e c),(Ob.box (vi n)),(TOr.b d)]
.cst (A:=True) (.pf trivial) [(0,(AV.ref 0 a.1.length 0 a.1.length)),(1,(AV.fn 203 [(vp 1)])),(5,(vi a.2.1)),(6,(vi a.2.2))] [(0,(AV.ref 0 c.length 0 c.length)),(1,(AV.fn 203 [(vp 1)])),(5,(vi a.2.1)),(6,(vi a.2.2))] h h (fun _=>⟨Zb,by rfl⟩)<|
.r (.cont (c,(i64.wrap (a.2.1+1)),g))) (
.r (.cont (a.1,a.2.1,g)))) (
.r (.brk (a.1,a.2.1,a.2.2)))
def S_q13 (o:(List TOr)) (p:Int):SC R_q13 R_q13 :=
.call (@F_q12_ok o p) fun g q=>
.k 1 2 q [0,1] 2 true<|
.ite (g==(-1)) (
.guard [o.length<2 ^ 63]<|
.reg 3 [] [] []<|
.frz 0 (.ev 0) none [4] []<|
.r o) (
.iter [1] (fun (a:(List TOr)×Int×Int)=>[(0,(AV.ref 0 a.1.length 0 a.1.length)),(5,(vi a.2.1)),(6,(vi a.2.2))]) (fun a=>[(0,(eS 5 TOr.e a.1))]) (o,g,(i64.wrap (g+1))) (S_q13_b1 p) (fun a =>
.guard [(0:Int)<=a.2.1,a.2.1.toNat<=a.1.length]<|
 let b:=(a.1.length-a.2.1.toNat)
 let c:=(⟨0,0,0,0,false⟩:TOr)
 let f:=(0+a.2.1.toNat)
 let i:=(eS 5 TOr.e (clearL a.1 f b c))
.reg 11 [] [(3,{ obs:=[(0,i)] })] [.ev 0,.ev 1,.e a.1.length,.e a.1.length,.pf (zkj (sz:=5) (e:=TOr.e) (l:=a.1) (off:=f) (n:=b) (z:=c))]<|
 let j:=((clearL a.1 f b c).length)
.cst (A:=True) (.pf trivial) [(0,(AV.ref 0 a.1.length 0 a.1.length)),(5,(vi a.2.1))] [(0,(AV.ref 0 j 0 j)),(5,(vi a.2.1))] [i,(Ob.box (vi p))] [i,(Ob.box (vi p))] (fun _=>⟨by simp +zetaDelta only[z3t],by rfl⟩)<|
.guard [a.2.1.toNat<=(clearL a.1 f b c).length]<|
.reg 12 [] [] [.ev 1,.ev 0,.e j]<|
.guard [(clearL a.1 f b c).length<2 ^ 63]<|
.frz 0 (.ev 0) (some (.der (fun (h:a.2.1.toNat<=(clearL a.1 f b c).length)=>(y22 (Nat.sub_le _ _) h:(a.2.1.toNat-0)<=(clearL a.1 f b c).length)) 1)) [4] []<|
 let m:=((clearL a.1 f b c).take a.2.1.toNat)
.lev 4 (AV.d (eL TOr.e m)) (.der (fun (h:a.2.1.toNat<=(clearL a.1 f b c).length)=>lvT TOr.e (clearL a.1 f b c) h) 1)<|
.r m) id)
def F_q13 (a:(List TOr)) (b:Int):=(S_q13 a b).den
theorem F_q13_ok {a:(List TOr)} {b:Int}:FO (F_q13 a b) 201 [(AV.ref 0 a.length 0 a.length),(AV.fn 203 [(vp 1)])] [(eS 5 TOr.e a),(Ob.box (vi b))] (fun x=>(AV.d (eL TOr.e x))) (fun _=>[Ob.dead,(Ob.box (vi b))]):=fO (s:=S_q13 a b) Tryz.func201
def S_q36 (e:TBo) (f:Int):SC (List TOr) (List TOr) :=
.call (@F_q35_ok e.G) fun c a=>
.call (@F_q13_ok c f) fun d b=>
.reg 1 [] [(2,hc a [] false),(4,hc b [2,1] false)] [.cl 1 a [] 2 false,.cl 0 b [2,1] 3 false]<|
.r d
def F_q36 (a:TBo) (b:Int):=(S_q36 a b).den
theorem F_q36_ok {a:TBo} {b:Int}:FO (F_q36 a b) 181 [(TBo.d a),(vi b)] [] (fun x=>(AV.d (eL TOr.e x))) NL:=fO (s:=S_q36 a b) Tryz.func181
def S_q3v (a:TOr) (b:TOr):SC Bool Bool :=
.r (cO (!a.Z) (decide (a.N>b.N)))
def F_q3v (a:TOr) (b:TOr):=(S_q3v a b).den
theorem F_q3v_ok {c:TOr} {a:TOr}:FO (F_q3v c a) 182 [(TOr.d c),(vp 0)] [(TOr.b a)] vb (fun _=>[(TOr.b a)]):=fO (s:=S_q3v c a) Tryz.func182
def S_q1o_b1 (d:(List TOr)) (e:TOr) (a:Nat) (_:Unit):SC Int (Step Unit Int) :=
.call (@F_q3v_ok (d.getD a dF) e) fun c b=>
.reg 4 [] [(5,hc b [0] true)] [.w a,.ev 1,.cl 0 b [0] 1 true]<|
.ite c (
.r (.ret (a:Int))) (
.r (.cont ()))
def S_q1o (a:(List TOr)) (b:TOr):SC Int Int :=
.range (a.length:Int) a.length rfl (.slot 0) 8 [0,1,7] (fun (_:Unit)=>[]) (fun _=>[]) () (S_q1o_b1 a b) (fun _ => 
.r (-1)) id
def F_q1o (a:(List TOr)) (b:TOr):=(S_q1o a b).den
theorem F_q1o_ok {c:(List TOr)} {a:TOr}:FO (F_q1o c a) 204 [(AV.d (eL TOr.e c)),(AV.fn 182 [(vp 0)])] [(TOr.b a)] vi (fun _=>[(TOr.b a)]):=fO (s:=S_q1o c a) Tryz.func204
end
end Go.Proofs.YtiohhffifhaboaaGreatDoor
