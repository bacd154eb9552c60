/- A part of the proof: what the functions compute, and that their calls return it. No condition. -/
import Derived.Test.YtpbnkbjhlhlaiaaGreatDoorT9
import Derived.Lib.AppendZerosOnto
import Derived.Test.YtpbnkbjhlhlaiaaGreatDoorProg
import Derived.Test.YtpbnkbjhlhlaiaaGreatDoorT4
import Derived.Test.YtpbnkbjhlhlaiaaGreatDoorG2
import Derived.Test.YtpbnkbjhlhlaiaaGreatDoorG3
import Derived.Test.YtpbnkbjhlhlaiaaGreatDoorP1
import Derived.Test.YtpbnkbjhlhlaiaaGreatDoorP2
/- slices.Insert of one element. No condition. -/
namespace Go.Proofs.YtpbnkbjhlhlaiaaGreatDoor
namespace Ins169
open Go Go.TA
open Go.IntKind (i64)
def cL:Code->Code
 | .seq x _=>x
 | _=>.skip
def cR:Code->Code
 | .seq _ y=>y
 | _=>.skip
def cT:Code->Code
 | .cond _ x _=>x
 | _=>.skip
def cE:Code->Code
 | .cond _ _ x=>x
 | _=>.skip
noncomputable def regOps:Code->Array Oper
 | .region _ ops _=>ops
 | _=>#[]
noncomputable def opAt (ops : Array Oper) (i : Nat) : Oper := (ops[i]?).getD { dst := none, op := .move (.tmp 0), type := 0, pos := "", after := #[], guard := none }
noncomputable def ci:Code:=Tryz.f169.body.getD .skip
noncomputable def R0:Code:=cL ci
noncomputable def R1:Code:=cL (cR ci)
noncomputable def R2:Code:=cL (cR (cR ci))
noncomputable def X3:Code:=cL (cR (cR (cR ci)))
noncomputable def R5:Code:=cL (cR (cR (cR (cR ci))))
noncomputable def X6:Code:=cL (cR (cR (cR (cR (cR ci)))))
noncomputable def T8:Code:=cR (cR (cR (cR (cR (cR ci)))))
noncomputable def R8:Code:=cL (cL T8)
noncomputable def B9:Code:=cT (cR (cL T8))
noncomputable def R9:Code:=cL B9
noncomputable def B10:Code:=cR B9
noncomputable def C13:Code:=cR T8
theorem zpw:Tryz.f169.body=some (.seq R0 (.seq R1 (.seq R2 (.seq (.seq (cL X3) (.cond (.tmp 16) (cT (cR X3)) .skip)) (.seq R5 (.seq (.seq (cL X6) (.cond (.tmp 22) (cT (cR X6)) .skip)) (.seq (.seq R8 (.cond (.tmp 31) (.seq R9 B10) .skip)) C13))))))):=kj
theorem zsk:R8 = .region 8 (regOps R8) false:=kj
theorem zsl:R9 = .region 9 (regOps R9) false:=kj
variable {i zn:Nat} {a:Act} {Q:Exit->Act->World->Prop} {X:Nat->Prop} {ms:Blocks} {w:World}
section
variable {α:Type} [Inhabited α] {e:α->DV}
def gB (e:α->DV) (l:List α) (i:Nat):Nat->AV:=fun j=>if j<i then .d (e (l.getD j dF)) else garb 5
noncomputable def sB (l:List α) (x:α) (i:Nat) (n1:(0:Int)<=i) (h1:i<=l.length+1) (w0:0<=i64.wrap ((i:Int)+1)) (w1:(i64.wrap ((i:Int)+1)).toNat<=l.length+1) (h2:i<=l.length)
  (hx:∀ k,k<1->(AV.d (e ([x].getD (0+k) dF))).wd=5) (hl:∀ k,k<l.length-i->(AV.d (e (l.getD (0+i+k) dF))).wd=5)
  (ho:OLe (.seq 5 (l.length+1) fun j=>if 0+(i64.wrap ((i:Int)+1)).toNat<=j/\j<0+(i64.wrap ((i:Int)+1)).toNat+min (l.length-i) (l.length+1-(i64.wrap ((i:Int)+1)).toNat) then .d (e (l.getD (0+i+(j-(0+(i64.wrap ((i:Int)+1)).toNat))) dF))
   else if 0+i<=j/\j<0+i+min 1 (l.length+1-i) then .d (e ([x].getD (0+(j-(0+i))) dF)) else gB e l i j) (eS 5 e (insL l i x))):SC Unit Unit :=
 .reg 10 [] [] [.pf n1,.pf h1,.pf (y2p (l.length+1)),.pf (y2p 1),.pf (y2p (l.length+1)),.pf hx] <|
 .reg 11 [8] [(8,{ obs:=[(2,eS 5 e (insL l i x))] })] [.pf w0,.pf w1,.pf (y2p (l.length+1)),.pf n1,.pf h2,.pf (y2p l.length),.pf (y2p l.length),.pf (y2p (l.length+1)),.pf hl,.pf ho] <|
 .ret [] ()
def frI (n i:Nat) (s:AV):Fr:=[(7,.d (.i .i64 1)),(8,.d (.i .i64 (n:Int))),(2,.ref 1 1 0 1),(1,.d (.i .i64 (i:Int))),(0,s)]
theorem tailB (he:∀ x,(e x).wd=5) {l:List α} {x:α} (hi:i<l.length) (hl:l.length<100000000000000) :
  AW none Tryz.prog Tryz.f169.ntmps B10 (fun e1 fr L=>e1 = .ret/\FR Tryz.prog Tryz.f169 (.ref 2 (l.length+1) 0 (l.length+1)) [eS 5 e l,eS 5 e [x],eS 5 e (insL l i x)] fr L)
   ((9,.ref 2 (l.length+1) 0 (l.length+1)) :: frI l.length i (.ref 0 l.length 0 l.length)) [eS 5 e l,eS 5 e [x],.seq 5 (l.length+1) (gB e l i)]:=by
 have hw:i64.wrap ((i:Int)+1)=(i:Int)+1:=by rw[wrap_i64] <;> omega
 exact pTailR (ρ:=Unit) (V:=fun _=>.ref 2 (l.length+1) 0 (l.length+1)) (Lr:=fun _=>[eS 5 e l,eS 5 e [x],eS 5 e (insL l i x)]) (r:=())
  (s:=sB (e:=e) l x i om om (by rw[hw]; omega) (by rw[hw]; omega) om (fun k _=>he _) (fun k _=>he _) (by
   rw[hw]
   refine z4p z1c.symm fun j hj=>?_
   rw[z5m om,show ((i:Int)+1).toNat=i+1 from om]
   by_cases h1:j<i
   ·rw[y6 om,y6 om,y7 h1,gB,y7 h1]
   ·by_cases h2:j=i
    ·subst h2
     rw[y6 om,y7 om,y6 h1,y7 rfl,show 0+(j-(0+j))=0 from om]
     rfl
    ·rw[y7 om,y6 h1,y6 h2]
     congr 3; omega)) kj rfl
def gC (e:α->DV) (l:List α):Nat->AV:=fun j=>if j<l.length then .d (e (l.getD j dF)) else garb 5
noncomputable def sC (l:List α) (x:α) (i:Nat) (a0:(0:Int)<=i64.wrap ((l.length:Int)+1)) (a1:(i64.wrap ((l.length:Int)+1)).toNat<=l.length+1) (a2:(i64.wrap ((l.length:Int)+1)).toNat=l.length+1)
  (w0:(0:Int)<=i64.wrap ((i:Int)+1)) (w1:(i64.wrap ((i:Int)+1)).toNat<=l.length+1) (n1:(0:Int)<=i) (h1:i<=l.length+1)
  (hx:ExtOk Tryz.prog 201 [.ref 1 1 0 1,.ref 0 (l.length+1) (0+(i64.wrap ((i:Int)+1)).toNat) (l.length+1-(i64.wrap ((i:Int)+1)).toNat)] [.seq 5 (l.length+1) (gC e l),eS 5 e [x]] (.d (.b false)))
  (hg:∀ k,k<l.length+1-i->(gC e l (0+i+k)).wd=5) (hy:∀ k,k<1->(AV.d (e ([x].getD (0+k) dF))).wd=5)
  (ho:OLe (.seq 5 (l.length+1) fun j=>if 0+i<=j/\j<0+i+min 1 (l.length+1-i) then .d (e ([x].getD (0+(j-(0+i))) dF))
   else if 0+(i64.wrap ((i:Int)+1)).toNat<=j/\j<0+(i64.wrap ((i:Int)+1)).toNat+min (l.length+1-i) (l.length+1-(i64.wrap ((i:Int)+1)).toNat) then gC e l (0+i+(j-(0+(i64.wrap ((i:Int)+1)).toNat)))
   else gC e l j) (eS 5 e (insL l i x))):SC Unit Unit :=
 .reg 13 [] [] [.pf a0,.pf a1,.pf (y2p (l.length+1))] <|
 .cst (A:=(i64.wrap ((l.length:Int)+1)).toNat=l.length+1) (.pf a2) [(0,.ref 0 (l.length+1) (0+0) ((i64.wrap ((l.length:Int)+1)).toNat-0)),(1,.d (.i .i64 (i:Int))),(2,.ref 1 1 0 1),(7,.d (.i .i64 1))]
  [(0,.ref 0 (l.length+1) 0 (l.length+1)),(1,.d (.i .i64 (i:Int))),(2,.ref 1 1 0 1),(7,.d (.i .i64 1))]
  [.seq 5 (l.length+1) (gC e l),eS 5 e [x]] [.seq 5 (l.length+1) (gC e l),eS 5 e [x]] (fun h=>⟨by rw[h]; rfl,rfl⟩) <|
 .reg 14 [] [(6,{ h:=.callr (.d (.b false)) })] [.pf w0,.pf w1,.pf (y2p (l.length+1)),.pf hx] <|
 .br true (.pf (p:=(!false)=true) rfl) <|
 .reg 15 [8] [] [.pf w0,.pf w1,.pf (y2p (l.length+1)),.pf n1,.pf h1,.pf (y2p (l.length+1)),.pf (y2p (l.length+1)),.pf (y2p (l.length+1)),.pf hg] <|
 .reg 16 [] [(4,{ obs:=[(0,eS 5 e (insL l i x))] })] [.pf n1,.pf h1,.pf (y2p (l.length+1)),.pf (y2p 1),.pf (y2p (l.length+1)),.pf hy,.pf ho] <|
 .reg 17 [] [] [] <|
 .ret [] ()
theorem tailC (he:∀ x,(e x).wd=5) {l:List α} {x:α} (hi:i<l.length) (hl:l.length<100000000000000) :
  AW none Tryz.prog Tryz.f169.ntmps C13 (FQ Tryz.prog Tryz.f169 (.ref 0 (l.length+1) 0 (l.length+1)) [eS 5 e (insL l i x),eS 5 e [x]])
   (frI l.length i (.ref 0 (l.length+1) 0 l.length)) [.seq 5 (l.length+1) (gC e l),eS 5 e [x]]:=by
 have hw:i64.wrap ((i:Int)+1)=(i:Int)+1:=by rw[wrap_i64] <;> omega
 have hw2:i64.wrap ((l.length:Int)+1)=(l.length:Int)+1:=by rw[wrap_i64] <;> omega
 have hwd:∀ k,(gC e l k).wd=5:=fun k=>by
  unfold gC
  split
  ·exact he _
  ·rfl
 exact pTailG (ρ:=Unit) (V:=fun _=>.ref 0 (l.length+1) 0 (l.length+1)) (Lr:=fun _=>[eS 5 e (insL l i x),eS 5 e [x]]) (r:=())
  (s:=sC (e:=e) l x i (by rw[hw2]; omega) (by rw[hw2]; omega) (by rw[hw2]; omega) (by rw[hw]; omega) (by rw[hw]; omega) om om
   (zie (fn:=Tryz.f201) (tR:=4) (te:=105) (sz:=5) (z1:=5) (z2:=5) Tryz.func201 kj kj kj kj Tryz.underlying33 Tryz.sizeOf105 dk rfl rfl dk rfl (by rw[hw]; omega) (by rw[hw]; omega) dk)
   (fun k _=>hwd _) (fun k _=>he _) (by
   rw[hw]
   refine z4p z1c.symm fun j hj=>?_
   rw[z5m om,show ((i:Int)+1).toNat=i+1 from om]
   by_cases h2:j=i
   ·subst h2
    rw[y7 om,y6 om,y7 rfl,show 0+(j-(0+j))=0 from om]
    rfl
   ·rw[y6 om,y6 h2]
    by_cases h1:j<i
    ·rw[y6 om,y7 h1,gC,y7 om]
    ·rw[y7 om,y6 h1,gC,y7 om]
     congr 3; omega)) kj rfl
theorem z5o {c:Cx} {G:GFr} {t:Nat} {v:AV} (hf:FrIs c G a.tmps) (h:(t,[],v)∈G):AV.IsV c v (a.tmps.getD t undef):=(hf _ h).2.1 (fun z hz=>by cases hz)
theorem zsm {l:List α} {x:α} (h0:0<l.length) (hr:Rel X ms [eS 5 e l,eS 5 e [x]] w) (hf:FrIs (cxOf X ms [eS 5 e l,eS 5 e [x]] w) (frI l.length i (.ref 0 l.length 0 l.length)).up a.tmps) (hN:a.tmps.size=Tryz.f169.ntmps) (hQ:∀ a' ms' w' b tc,Rel X ms' [eS 5 e l,eS 5 e [x]] w'->Ext ms w ms' w'->(cxOf X ms [eS 5 e l,eS 5 e [x]] w).le (cxOf X ms' [eS 5 e l,eS 5 e [x]] w')->FrIs (cxOf X ms' [eS 5 e l,eS 5 e [x]] w') (frI l.length i (.ref 0 l.length 0 l.length)).up a'.tmps ->
   a'.tmps.size=Tryz.f169.ntmps->a'.defers=a.defers->ms'[0]? = some (some (b,tc))->l.length<=tc->a'.eval (.tmp 0) = .slice (some ⟨b,0,none⟩) l.length tc->a'.eval (.tmp 31) = .bool (decide (i64.wrap ((l.length:Int)+1)>(tc:Int)))->Q .normal a' w') :
  R8.wpIn (fenceOf none) zn Tryz.prog Q a w:=by
 rw[zsk]
 refine y33 ?_
 rw[show List.range (regOps R8).size=[0,1,2,3]++[4,5] from kj]
 refine z7g (hs:=[]) (C:=[]) (L1:=[eS 5 e l,eS 5 e [x]]) (G1:=[(29,[],.ref 0 l.length 0 l.length),(28,[],.d (.i .i64 (i64.wrap ((l.length:Int)+1)))),(27,[],.d (.i .i64 1)),(26,[],.d (.i .i64 (l.length:Int))),
  (7,[],.d (.i .i64 1)),(8,[],.d (.i .i64 (l.length:Int))),(2,[],.ref 1 1 0 1),(1,[],.d (.i .i64 (i:Int))),(0,[],.ref 0 l.length 0 l.length)]) kj trivial hr hf hN fun a1 ms1 w1 r1 e1 c1 f1 n1 d1=>?_
 have k1:=IsV.is1 rfl sj sj (z5o f1 (t:=29) (v:=.ref 0 l.length 0 l.length) sj)
 have k0:=IsV.is1 rfl sj sj (z5o f1 (t:=0) (v:=.ref 0 l.length 0 l.length) sj)
 have at0:∀ {t:Nat} {v:Value},a1.tmps.getD t undef=v->AV.Is (cxOf X ms1 [eS 5 e l,eS 5 e [x]] w1) (.ref 0 l.length 0 l.length) [v]->∃ b tc,ms1[0]? = some (some (b,tc))/\l.length<=tc/\v = .slice (some ⟨b,0,none⟩) l.length tc:=fun {t v} _ h=>by
  cases h with
  | ref _ _ _ _ _ h =>
  obtain⟨_,⟨_,_,rfl⟩,_,h⟩:=h
  obtain⟨_,h⟩:=h 5 _ rfl
  rcases h with ⟨_,_,h⟩ | ⟨h,_⟩ | ⟨b,tc,m,h1,h2⟩
  ·simp only[y35] at h; omega
  ·exact absurd rfl h
  ·exact⟨b,tc,m,h1,by simpa using h2⟩
 obtain⟨b,tc,m1,hle,h29⟩:=at0 rfl k1
 obtain⟨b',tc',m1',_,h0'⟩:=at0 rfl k0
 have e1':=m1'.symm.trans m1
 cases e1'
 refine z5n (o:=opAt (regOps R8) 4) kj kj (OpOk.value (zqn (x:=.tmp 29) (t:=33) kj Tryz.underlying33 h29) ?_)
 rw[show (opAt (regOps R8) 4).dst=some 30 from kj]
 obtain⟨p1,p2,p3⟩:=z4o (dst:=some 30) (ch:=[]) (v:=.d (.i .i64 (tc:Int))) (u:=.int .i64 tc) (G:=[(29,[],.ref 0 l.length 0 l.length),(28,[],.d (.i .i64 (i64.wrap ((l.length:Int)+1)))),(27,[],.d (.i .i64 1)),(26,[],.d (.i .i64 (l.length:Int))),
  (7,[],.d (.i .i64 1)),(8,[],.d (.i .i64 (l.length:Int))),(2,[],.ref 1 1 0 1),(1,[],.d (.i .i64 (i:Int))),(0,[],.ref 0 l.length 0 l.length)]) (G1:=(30,[],.d (.i .i64 (tc:Int))) :: [(29,[],.ref 0 l.length 0 l.length),(28,[],.d (.i .i64 (i64.wrap ((l.length:Int)+1)))),(27,[],.d (.i .i64 1)),(26,[],.d (.i .i64 (l.length:Int))),
  (7,[],.d (.i .i64 1)),(8,[],.d (.i .i64 (l.length:Int))),(2,[],.ref 1 1 0 1),(1,[],.d (.i .i64 (i:Int))),(0,[],.ref 0 l.length 0 l.length)]) (N:=Tryz.f169.ntmps) kj n1 f1 (fun _=>.one _ _ rfl (.d _ _ (.i _ _))) (fun h=>absurd (fun z hz=>by cases hz) h)
 refine z27 (hs:=[]) none zn [5] _ _ ([(31,[],.d (.b (decide (i64.wrap ((l.length:Int)+1)>(tc:Int)))))]++(30,[],.d (.i .i64 (tc:Int))) :: [(29,[],.ref 0 l.length 0 l.length),(28,[],.d (.i .i64 (i64.wrap ((l.length:Int)+1)))),(27,[],.d (.i .i64 1)),(26,[],.d (.i .i64 (l.length:Int))),
  (7,[],.d (.i .i64 1)),(8,[],.d (.i .i64 (l.length:Int))),(2,[],.ref 1 1 0 1),(1,[],.d (.i .i64 (i:Int))),(0,[],.ref 0 l.length 0 l.length)]) [eS 5 e l,eS 5 e [x]] [] ms1 w1 _ kj trivial r1 p1 p2 fun a2 ms2 w2 r2 e2 c2 f2 n2 d2=>?_
 have m2:ms2[0]? = some (some (b,tc)):=by
  obtain⟨_,h1,_,_,h2⟩:=c2.ob 0 (eS 5 e l) (by simp[cxOf]) rfl (by simp[eS,Ob.stamp])
  obtain rfl:_=eS 5 e l:=yw h1.symm
  exact (h2 rfl).trans m1
 have k0':=IsV.is1 rfl sj sj (z5o f2 (t:=0) (v:=.ref 0 l.length 0 l.length) sj)
 have h0'':a2.tmps.getD 0 undef = .slice (some ⟨b,0,none⟩) l.length tc:=by
  generalize a2.tmps.getD 0 undef=v at k0'
  cases k0' with
  | ref _ _ _ _ _ h =>
  obtain⟨_,⟨_,_,rfl⟩,_,h⟩:=h
  obtain⟨_,h⟩:=h 5 _ rfl
  rcases h with ⟨_,_,h⟩ | ⟨h,_⟩ | ⟨b'',tc'',m,h1,h2⟩
  ·simp only[y35] at h; omega
  ·exact absurd rfl h
  ·have e:=m2.symm.trans m
   cases e
   simpa using h2
 exact hQ a2 ms2 w2 b tc r2 (e1.trans e2) (c1.trans c2) (fun q hq=>f2 q (by
  simp only[frI,Fr.up,y32,List.map_nil,yh,y14,y1u] at hq
  rcases hq with rfl | rfl | rfl | rfl | rfl <;> simp)) n2 (d2.trans (p3.trans d1)) m2 hle h0'' (IsV.b (z5o f2 (t:=31) (v:=.d (.b (decide (i64.wrap ((l.length:Int)+1)>(tc:Int))))) sj))
theorem zsn {l:List α} {x:α} (hi:i<l.length) (hl:(l.length+1) * (4 * 48)<=2 ^ 48) {b:Nat} (hr:Rel X ms [eS 5 e l,eS 5 e [x]] w) (hf:FrIs (cxOf X ms [eS 5 e l,eS 5 e [x]] w) (frI l.length i (.ref 0 l.length 0 l.length)).up a.tmps) (hN:a.tmps.size=Tryz.f169.ntmps) (hm:ms[0]? = some (some (b,l.length))) (hQ:∀ a' ms' w',Rel X ms' [eS 5 e l,eS 5 e [x],.seq 5 (l.length+1) (gB e l i)] w'->Ext ms w ms' w'->(cxOf X ms [eS 5 e l,eS 5 e [x]] w).le (cxOf X ms' [eS 5 e l,eS 5 e [x],.seq 5 (l.length+1) (gB e l i)] w') ->
   FrIs (cxOf X ms' [eS 5 e l,eS 5 e [x],.seq 5 (l.length+1) (gB e l i)] w') (Fr.up ((9,.ref 2 (l.length+1) 0 (l.length+1)) :: frI l.length i (.ref 0 l.length 0 l.length))) a'.tmps ->
   a'.tmps.size=Tryz.f169.ntmps->a'.defers=a.defers->Q .normal a' w') :
  R9.wpIn (fenceOf none) zn Tryz.prog Q a w:=by
 have hn:l.length<100000000000000:=om
 have hw2:i64.wrap ((l.length:Int)+1)=(l.length:Int)+1:=by rw[wrap_i64] <;> omega
 have hw3:i64.wrap (i64.wrap ((l.length:Int)+1)-(i:Int))=((l.length+1-i:Nat):Int):=by rw[hw2,wrap_i64] <;> omega
 rw[zsl]
 refine y33 ?_
 rw[show List.range (regOps R9).size=[0,1,2,3,4,5,6,7]++[8,9] from kj]
 refine z7g (hs:=[]) (C:=[(0:Int)<=(i:Int),i<=l.length,l.length=l.length]) (L1:=[eS 5 e l,eS 5 e [x]]) (G1:=[(39,[],.d (.i .i64 (i64.wrap (i64.wrap ((l.length:Int)+1)-(i:Int))))),(38,[],.d (.i .i64 (i:Int))),(37,[],.d (.i .i64 (i64.wrap ((l.length:Int)+1)))),
  (36,[],.d (.i .i64 1)),(35,[],.d (.i .i64 (l.length:Int))),(34,[],.ref 0 l.length (0+0) (i-0)),(33,[],.d (.i .i64 (i:Int))),(32,[],.ref 0 l.length 0 l.length),
  (7,[],.d (.i .i64 1)),(8,[],.d (.i .i64 (l.length:Int))),(2,[],.ref 1 1 0 1),(1,[],.d (.i .i64 (i:Int))),(0,[],.ref 0 l.length 0 l.length)]) kj ⟨om,om,rfl,trivial⟩ hr hf hN fun a1 ms1 w1 r1 e1 c1 f1 n1 d1=>?_
 have m1:ms1[0]? = some (some (b,l.length)):=by
  obtain⟨_,h1,_,_,h2⟩:=c1.ob 0 (eS 5 e l) (by simp[cxOf]) rfl (by simp[eS,Ob.stamp])
  obtain rfl:_=eS 5 e l:=yw h1.symm
  exact (h2 rfl).trans hm
 have k34:=IsV.is1 rfl sj sj (z5o f1 (t:=34) (v:=.ref 0 l.length (0+0) (i-0)) sj)
 have h34:a1.eval (.tmp 34) = .slice (some ⟨b,0,none⟩) i l.length:=by
  show a1.tmps.getD 34 undef=_
  generalize a1.tmps.getD 34 undef=v at k34
  cases k34 with
  | ref _ _ _ _ _ h =>
  obtain⟨_,⟨_,_,rfl⟩,_,h⟩:=h
  obtain⟨_,h⟩:=h 5 _ rfl
  rcases h with ⟨h,_⟩ | ⟨h,_⟩ | ⟨b'',tc'',m,h1,h2⟩
  ·have e:some (none:Option (Nat×Nat))=some (some (b,l.length)):=h.symm.trans m1
   cases e
  ·exact absurd rfl h
  ·have e:=m1.symm.trans m
   cases e
   simpa using h2
 have h39:a1.eval (.tmp 39) = .int .i64 ((l.length+1-i:Nat):Int):=by
  have:=IsV.i (z5o f1 (t:=39) (v:=.d (.i .i64 (i64.wrap (i64.wrap ((l.length:Int)+1)-(i:Int))))) sj)
  rw[hw3] at this
  exact this
 obtain⟨arr,ty,cs,g1,g2,g3,g4,g5,g6⟩:=r1.seq (o:=0) rfl m1
 obtain⟨info,hinf⟩:∃ info,Tryz.prog.info? 105=some info:=⟨_,Option.eq_some_of_isSome kj⟩
 have hsz:info.size=5:=by
  have:(Tryz.prog.info? 105).map (·.size)=some 5:=kj
  rw[hinf] at this; simpa using this
 have hby:info.bytes=48:=by
  have:(Tryz.prog.info? 105).map (·.bytes)=some 48:=kj
  rw[hinf] at this; simpa using this
 obtain⟨z,hz⟩:∃ z,info.zero=some z:=by
  have:((Tryz.prog.info? 105).bind (·.zero)).isSome=true:=kj
  rw[hinf] at this
  exact y2z.1 this
 have hzs:z.cells.size=5:=by
  have:((Tryz.prog.info? 105).bind (·.zero)).map (fun z=>z.cells.size)=some 5:=kj
  rw[hinf] at this
  simpa [hz] using this
 have hzone:∀ v∈z.cells.toList,v.oneCell'=true:=by
  have:((Tryz.prog.info? 105).bind (·.zero)).map (fun z=>z.cells.toList.all fun v=>v.oneCell')=some true:=kj
  rw[hinf] at this
  have h:z.cells.toList.all (fun v=>v.oneCell')=true:=by simpa [hz] using this
  exact y1o.1 h
 have hcsi:∀ k,k<i->(cs k).length=5:=fun k hk=>g5 k om
 have hold:(Builtin.firstCells info.size i (.slice (some ⟨b,0,none⟩) i l.length)).run Tryz.prog w1.drew = .ok ((List.range i).flatMap cs).toArray w1.drew:=by
  rw[hsz]
  exact z3p (w:=w1) (w1:=w1.drew) (off:=0) (cap:=l.length) rfl g1 hcsi (fun k hk j hj=>by simpa using g6 k om j hj) i
 have hfit:Builtin.nextslicecap (i+(l.length+1-i)) l.length * info.bytes<=281474976710656:=by
  have h1:=z7b (need:=i+(l.length+1-i)) (old:=l.length) om
  rw[hby]
  omega
 have hap:=Lib.run_append_grow_zeros (P:=Tryz.prog) w1 33 3 (opAt (regOps R9) 8).type 105 info z .i64 .i64 Tryz.underlying33 Tryz.underlying3 hinf hz (some ⟨b,0,none⟩) i l.length ((List.range i).flatMap cs) hold (l.length+1-i) om om om om (by rw[hby]; omega) hfit
 rw[show i+(l.length+1-i)=l.length+1 from om] at hap
 obtain⟨nc,hnc⟩:∃ nc,nc=grownCap w1 (l.length+1) l.length 105:=⟨_,rfl⟩
 have hge:=grownCap_ge w1 (l.length+1) l.length 105
 rw[<- hnc] at hap hge
 obtain⟨row,hrow⟩:∃ row:Array Value,row=((List.range i).flatMap cs).toArray++Builtin.zeroCells z.cells (l.length+1-i)++Builtin.zeroCells z.cells (nc-(l.length+1)):=⟨_,rfl⟩
 rw[<- hrow] at hap
 have hkl:=za i 5 cs hcsi
 have hrs:row.size=nc * 5:=by
  rw[hrow,y3j,y3j,y2d,hkl,y4j,y4j,hzs]
  omega
 have hone:∀ v∈row.toList,v.oneCell'=true:=by
  rw[hrow]
  simp only[y37,y1i]
  rintro v ((hv | hv) | hv)
  ·exact z2s (fun k (hk:k<i)=>g4 k om) v hv
  ·exact z4d hzone _ v hv
  ·exact z4d hzone _ v hv
 have hget:∀ k,k<i->∀ j,j<5->row[k * 5+j]? = (cs k)[j]? := fun k hk j hj=>by
  rw[hrow,<- y1c]
  simp only[y37,y1v]
  rw[ym (by rw[hkl]; omega)]
  exact zf? i 5 cs hcsi k j hk hj
 have hcl:∀ j,j<l.length+1->((row.toList.drop (j * 5)).take 5).length=5:=fun j hj=>by
  simp only[y16,y1h,y1s,hrs]
  omega
 obtain⟨w2,hw⟩:∃ w2,w2=w1.drew.alloc (.cells row 105):=⟨_,rfl⟩
 rw[<- hw] at hap
 have hgrow:Grow w1 w2:=by rw[hw]; exact (Grow.drew w1).trans (Grow.alloc _ _)
 have hhp:w2.heap[w1.heap.size]? = some (.cells row 105 (0,0)):=by rw[hw]; exact z1r w1.drew _
 have hsize:w1.heap.size<w2.heap.size:=z6d hhp
 obtain⟨q1,q2,q3⟩:=r1.push (m:=some (w1.heap.size,nc)) (obj:=.seq 5 (l.length+1) (gB e l i)) hgrow (fun b tc e=>by cases e; exact⟨yd _,hsize⟩) (fun hcx=>by
  refine .inr ⟨w1.heap.size,nc,row,105,fun j=>if j<i then cs j else (row.toList.drop (j * 5)).take 5,by simp[cxOf,<- r1.len],hhp,hge,⟨hrs,hone⟩,fun j hj=>?_,fun j hj=>?_,fun j hj q hq=>?_⟩
  ·by_cases hji:j<i
   ·simp only[gB,y7 hji]; exact (g4 j om).mono hcx
   ·simp only[gB,y6 hji,garb]
    have:=zdy (c:=cxOf X (ms1++[some (w1.heap.size,nc)]) ([eS 5 e l,eS 5 e [x]]++[.seq 5 (l.length+1) (gB e l i)]) w2) (l:=(row.toList.drop (j * 5)).take 5) fun v hv=>hone v (y1y (y2q hv))
    rw[hcl j hj] at this
    exact .agg _ _ this
  ·by_cases hji:j<i
   ·simp only[y7 hji]; exact g5 j om
   ·simp only[y6 hji]; exact hcl j hj
  ·by_cases hji:j<i
   ·simp only[y7 hji]; exact hget j hji q hq
   ·simp only[y6 hji]
    rw[y1n hq,y1p,y1c])
 have hexec:(execOp a1.eval (opAt (regOps R9) 8)).run Tryz.prog w1 = .ok (.value (.slice (some ⟨w1.heap.size,0,none⟩) (l.length+1) nc)) w2:=by
  have hop:(opAt (regOps R9) 8).op = .call ⟨.builtin .append,#[.tmp 34,.tmp 39],#[33,3]⟩:=kj
  generalize opAt (regOps R9) 8=o at hop hap
  obtain⟨dst,op,ty,pos,after,guard⟩:=o
  subst hop
  refine zt (s:=Builtin.append_ #[33,3] ty (#[.tmp 34,.tmp 39].map a1.eval)) ?_
  have ha:(#[.tmp 34,.tmp 39]:Array Operand).map a1.eval = #[.slice (some ⟨b,0,none⟩) i l.length,.int .i64 ((l.length+1-i:Nat):Int)]:=by
   simp[h34,h39]
  rw[ha]
  exact hap
 refine z5n (o:=opAt (regOps R9) 8) kj kj (OpOk.value hexec ?_)
 rw[show (opAt (regOps R9) 8).dst=some 40 from kj]
 obtain⟨p1,p2,p3⟩:=z4o (dst:=some 40) (ch:=[]) (v:=.ref 2 (l.length+1) 0 (l.length+1)) (u:=.slice (some ⟨w1.heap.size,0,none⟩) (l.length+1) nc) (G:=(frI l.length i (.ref 0 l.length 0 l.length)).up)
  (G1:=(40,[],.ref 2 (l.length+1) 0 (l.length+1)) :: (frI l.length i (.ref 0 l.length 0 l.length)).up) (N:=Tryz.f169.ntmps) kj n1 (fun q hq=>(f1.mono q3) q (by
  simp only[frI,Fr.up,y32,List.map_nil,yh,y14,y1u] at hq
  rcases hq with rfl | rfl | rfl | rfl | rfl <;> simp)) (fun _=>z6r r1.len hge) (fun h=>absurd (fun z hz=>by cases hz) h)
 refine z27 (hs:=[]) none zn [9] _ _ ((9,[],.ref 2 (l.length+1) 0 (l.length+1)) :: (40,[],.ref 2 (l.length+1) 0 (l.length+1)) :: (frI l.length i (.ref 0 l.length 0 l.length)).up) [eS 5 e l,eS 5 e [x],.seq 5 (l.length+1) (gB e l i)] [] _ w2 _ kj trivial q1 p1 p2 fun a2 ms2 w3 r2 e2 c2 f2 n2 d2=>?_
 exact hQ a2 ms2 w3 r2 ((e1.trans q2).trans e2) ((c1.trans q3).trans c2) (fun q hq=>f2 q (by
  rcases yh.1 (show q∈(9,[],AV.ref 2 (l.length+1) 0 (l.length+1)) :: (frI l.length i (.ref 0 l.length 0 l.length)).up from hq) with hq | hq
  ·exact yh.2 (.inl hq)
  ·exact yh.2 (.inr (yh.2 (.inr hq))))) n2 (d2.trans (p3.trans d1))
theorem regc {N:Nat} {Q:Post} {fr fr' fr2:Fr} {L L':List Ob} {id:Nat} {c:Code} {C:List Prop} (hq:c = .region id (regOps c) false) (h:regionRun Tryz.prog (regOps c) N [] fr L=some (fr',L',C)) (hc:AllP C)
  (hm:∀ q∈fr2,q∈fr') (k:Q .normal fr2 L'):AW none Tryz.prog N c Q fr L:=by
 have:=zqo (id:=id) (Q:=Q) h hc hm k
 rwa [<- hq] at this
theorem head (_he:∀ x,(e x).wd=5) {l:List α} {x:α} (hi:i<l.length) (Q:Post) (h:AW none Tryz.prog Tryz.f169.ntmps (.seq (.seq R8 (.cond (.tmp 31) (.seq R9 B10) .skip)) C13) Q (frI l.length i (.ref 0 l.length 0 l.length)) [eS 5 e l,eS 5 e [x]]) :
  AW none Tryz.prog Tryz.f169.ntmps (.seq R0 (.seq R1 (.seq R2 (.seq (.seq (cL X3) (.cond (.tmp 16) (cT (cR X3)) .skip)) (.seq R5 (.seq (.seq (cL X6) (.cond (.tmp 22) (cT (cR X6)) .skip)) (.seq (.seq R8 (.cond (.tmp 31) (.seq R9 B10) .skip)) C13))))))) Q
   (argFr [.ref 0 l.length 0 l.length,.d (.i .i64 (i:Int)),.ref 1 1 0 1] 0) [eS 5 e l,eS 5 e [x]]:=by
 have hne:((i:Int)==(l.length:Int))=false:=sk
 refine z45 (regc (L':=[eS 5 e l,eS 5 e [x]]) (id:=0) (C:=[]) (fr':=(6,.full 0 fun _=>.b false) :: argFr [.ref 0 l.length 0 l.length,.d (.i .i64 (i:Int)),.ref 1 1 0 1] 0) (fr2:=argFr [.ref 0 l.length 0 l.length,.d (.i .i64 (i:Int)),.ref 1 1 0 1] 0)
  kj kj trivial (fun q hq=>yo _ hq) ?_)
 refine z45 (regc (L':=[eS 5 e l,eS 5 e [x]]) (id:=1) (C:=[(0:Int)<=(i:Int),i<=l.length,l.length=l.length]) (fr':=(12,.ref 0 l.length (0+i) (l.length-i)) :: (11,.d (.i .i64 (i:Int))) :: (10,.ref 0 l.length 0 l.length) :: argFr [.ref 0 l.length 0 l.length,.d (.i .i64 (i:Int)),.ref 1 1 0 1] 0)
  (fr2:=argFr [.ref 0 l.length 0 l.length,.d (.i .i64 (i:Int)),.ref 1 1 0 1] 0)
  kj kj ⟨om,om,rfl,trivial⟩ (fun q hq=>yo _ (yo _ (yo _ hq))) ?_)
 refine z45 (regc (L':=[eS 5 e l,eS 5 e [x]]) (id:=2) (C:=[]) (fr':=(7,.d (.i .i64 1)) :: (14,.d (.i .i64 1)) :: (13,.ref 1 1 0 1) :: argFr [.ref 0 l.length 0 l.length,.d (.i .i64 (i:Int)),.ref 1 1 0 1] 0)
  (fr2:=[(7,.d (.i .i64 1)),(2,.ref 1 1 0 1),(1,.d (.i .i64 (i:Int))),(0,.ref 0 l.length 0 l.length)])
  kj kj trivial (fun q hq=>by
   simp only[yh,y14,y1u] at hq
   simp only[argFr,yh,y14,y1u]
   rcases hq with rfl | rfl | rfl | rfl <;> simp) ?_)
 refine z45 (z45 (regc (L':=[eS 5 e l,eS 5 e [x]]) (id:=3) (C:=[]) (fr':=(16,.d (.b false)) :: (15,.d (.i .i64 1)) :: [(7,.d (.i .i64 1)),(2,.ref 1 1 0 1),(1,.d (.i .i64 (i:Int))),(0,.ref 0 l.length 0 l.length)])
  (fr2:=[(16,.d (.b false)),(7,.d (.i .i64 1)),(2,.ref 1 1 0 1),(1,.d (.i .i64 (i:Int))),(0,.ref 0 l.length 0 l.length)])
  kj kj trivial (fun q hq=>by
   simp only[yh,y14,y1u] at hq |-
   rcases hq with rfl | rfl | rfl | rfl | rfl <;> simp) ?_))
 refine zam (b:=false) rfl (fun h=>by cases h) fun _=>zdp ?_
 refine z45 (regc (L':=[eS 5 e l,eS 5 e [x]]) (id:=5) (C:=[]) (fr':=(8,.d (.i .i64 (l.length:Int))) :: (19,.d (.i .i64 (l.length:Int))) :: (18,.ref 0 l.length 0 l.length) :: [(16,.d (.b false)),(7,.d (.i .i64 1)),(2,.ref 1 1 0 1),(1,.d (.i .i64 (i:Int))),(0,.ref 0 l.length 0 l.length)])
  (fr2:=frI l.length i (.ref 0 l.length 0 l.length))
  kj kj trivial (fun q hq=>by
   simp only[frI,yh,y14,y1u] at hq |-
   rcases hq with rfl | rfl | rfl | rfl | rfl <;> simp) ?_)
 refine z45 (z45 (regc (L':=[eS 5 e l,eS 5 e [x]]) (id:=6) (C:=[]) (fr':=(22,.d (.b ((i:Int)==(l.length:Int)))) :: (21,.d (.i .i64 (l.length:Int))) :: (20,.d (.i .i64 (i:Int))) :: frI l.length i (.ref 0 l.length 0 l.length))
  (fr2:=(22,.d (.b ((i:Int)==(l.length:Int)))) :: frI l.length i (.ref 0 l.length 0 l.length))
  kj kj trivial (fun q hq=>by
   rcases yh.1 hq with rfl | hq
   ·exact y13
   ·exact yo _ (yo _ (yo _ hq))) ?_))
 refine zam (b:=((i:Int)==(l.length:Int))) rfl (fun h=>by rw[hne] at h; cases h) fun _=>zdp ?_
 exact zm3 h fun q hq=>⟨q.2,yo _ hq,LeV.refl _⟩
theorem zso (he:∀ x,(e x).wd=5) {l:List α} {x:α} (hi:i<l.length) (hl:(l.length+1) * (4 * 48)<=2 ^ 48) :
  AW none Tryz.prog Tryz.f169.ntmps (.seq (.seq R8 (.cond (.tmp 31) (.seq R9 B10) .skip)) C13)
   (fun e1 fr L=>FQ Tryz.prog Tryz.f169 (.ref 0 (l.length+1) 0 (l.length+1)) [eS 5 e (insL l i x),eS 5 e [x]] e1 fr L \/
    FQ Tryz.prog Tryz.f169 (.ref 2 (l.length+1) 0 (l.length+1)) [eS 5 e l,eS 5 e [x],eS 5 e (insL l i x)] e1 fr L)
   (frI l.length i (.ref 0 l.length 0 l.length)) [eS 5 e l,eS 5 e [x]]:=by
 have hn:l.length<100000000000000:=om
 have hw2:i64.wrap ((l.length:Int)+1)=(l.length:Int)+1:=by rw[wrap_i64] <;> omega
 intro zn df X ms w a hr hf hN hd
 refine y2s (y2s (zsm om hr hf hN fun a1 ms1 w1 b tc r1 e1 c1 f1 n1 d1 m1 hle h0e h31=>?_))
 by_cases hcap:l.length+1<=tc
 ·refine y4x (h31.trans (by rw[hw2]; simp; omega)) (wpIn_skip ?_)
  obtain⟨q1,q3⟩:=r1.room (o:=0) (n':=l.length+1) rfl m1 om hcap
  refine y2e (tailC he hi hn zn df X ms1 w1 a1 q1 (fun q hq=>?_) n1 (d1.trans hd)) ?_
  ·simp only[frI,Fr.up,y32,List.map_nil,yh,y14,y1u] at hq
   have f1':=f1.mono q3
   rcases hq with rfl | rfl | rfl | rfl | rfl
   ·exact f1' _ (by simp[frI,Fr.up])
   ·exact f1' _ (by simp[frI,Fr.up])
   ·exact f1' _ (by simp[frI,Fr.up])
   ·exact f1' _ (by simp[frI,Fr.up])
   ·obtain⟨s1,s2,s3⟩:=f1 (0,[],.ref 0 l.length 0 l.length) (by simp[frI,Fr.up])
    refine⟨s1,fun _=>?_,s3⟩
    have h0e':a1.tmps.getD 0 undef = .slice (some ⟨b,0,none⟩) l.length tc:=h0e
    rw[h0e']
    refine .one _ _ rfl (.ref _ _ _ _ _ ⟨by simp[cxOf],⟨_,_,rfl⟩,fun obj s ho hs=>?_,fun sz' f' hL'=>⟨om,.inr (.inr ⟨b,tc,m1,hcap,sj⟩)⟩⟩)
    obtain rfl:=yw ho
    simp[Ob.stamp] at hs; omega
  ·rintro e2 a2 w2 ⟨ms2,fr2,L2,hq,r2,e3,c3,f3,n3,d3⟩
   exact⟨ms2,fr2,L2,.inl hq,r2,e1.trans e3,(c1.trans q3).trans c3,f3,n3,d3⟩
 ·have htc:tc=l.length:=om
  subst htc
  refine y55 (h31.trans (by rw[hw2]; simp; omega)) (y2s (zsn hi hl r1 f1 n1 m1 fun a2 ms2 w2 r2 e2 c2 f2 n2 d2=>?_))
  refine y2e (tailB he hi hn zn df X ms2 w2 a2 r2 f2 n2 ((d2.trans d1).trans hd)) ?_
  rintro e3 a3 w3 ⟨ms3,fr3,L3,⟨rfl,hq⟩,r3,e3,c3,f3,n3,d3⟩
  exact⟨ms3,fr3,L3,.inr ⟨.inr rfl,hq⟩,r3,(e1.trans e2).trans e3,(c1.trans c2).trans c3,f3,n3,d3⟩
theorem zs5 (he:∀ x,(e x).wd=5) {l:List α} {x:α} (hi:i<l.length) (hl:(l.length+1) * (4 * 48)<=2 ^ 48) :
  CallOk Tryz.prog 169 [.ref 0 l.length 0 l.length,.d (.i .i64 (i:Int)),.ref 1 1 0 1] [eS 5 e l,eS 5 e [x]] (.ref 0 (l.length+1) 0 (l.length+1)) [eS 5 e (insL l i x),eS 5 e [x]]:=by
 intro X ms w us hr hu
 have hlen:=z1c (l:=l) (i:=i) (x:=x)
 refine (zoo (L:=[eS 5 e l,eS 5 e [x]]) (v:=.ref 0 (l.length+1) 0 (l.length+1)) (v3:=.ref 2 (l.length+1) 0 (l.length+1)) Tryz.func169 zpw (y2w kj) sj rfl (lsOk (n:=2) (L:=[eS 5 e (insL l i x),eS 5 e [x]]) ⟨fun _ _=>rfl,fun _ _=>rfl,trivial⟩)
  sj rfl (lsOk (n:=3) (L:=[eS 5 e l,eS 5 e [x],eS 5 e (insL l i x)]) ⟨fun _ _=>rfl,fun _ _=>rfl,fun _ _=>rfl,trivial⟩) (head (x:=x) he hi _ (zso he hi hl)) hr hu).mono fun e1 w1 h=>?_
 rcases h with h | ⟨u,ms1,rfl,h1,h2,h3,h4⟩
 ·exact h
 ·rw[<- hlen] at h4 |-
  obtain⟨ms2,k1,k2,k3,k4⟩:=third hr hlen h1 h2 h3 h4
  exact⟨u,ms2,rfl,k1,k2,k3,k4⟩
noncomputable def sE (l:List α) (x:α) (a1:(0:Int)<=(l.length:Int)) (a2:l.length<=l.length) (a3:((l.length:Int)==(l.length:Int))=true)
  (hx:∀ k,k<1->(AV.d (e ([x].getD k dF))).wd=5) (hs:(l.length+1) * (2 * 48)<=2 ^ 48)
  (ho:OLe (.seq 5 (l.length+1) (catF l.length (fun j=>.d (e (l.getD j dF))) (fun j=>.d (e ([x].getD j dF))))) (eS 5 e (insL l l.length x))):SC Unit Unit :=
 .reg 0 [] [] [] <|
 .reg 1 [] [] [.pf a1,.pf a2,.pf (y2p l.length)] <|
 .reg 2 [] [] [] <|
 .reg 3 [] [] [] <|
 .br false (.pf (p:=((1:Int)==0)=false) dk) <|
 .reg 5 [] [] [] <|
 .reg 6 [] [] [] <|
 .br true (.pf a3) <|
 .reg 7 [] [(2,{ obs:=[(0,eS 5 e (insL l l.length x))] })] [.pf (y2p 1),.pf (y2p l.length),.pf (y2p l.length),.pf hx,.pf hs,.pf ho] <|
 .ret [] ()
set_option maxRecDepth 100000 in
theorem zs6 (he:∀ x,(e x).wd=5) {l:List α} {x:α} (hl:(l.length+1) * (4 * 48)<=2 ^ 48) :
  CallOk Tryz.prog 169 [.ref 0 l.length 0 l.length,.d (.i .i64 (l.length:Int)),.ref 1 1 0 1] [eS 5 e l,eS 5 e [x]] (.ref 0 (l.length+1) 0 (l.length+1)) [eS 5 e (insL l l.length x),eS 5 e [x]] :=
 fOk (ρ:=Unit) (V:=fun _=>.ref 0 (l.length+1) 0 (l.length+1)) (Lr:=fun _=>[eS 5 e (insL l l.length x),eS 5 e [x]]) (r:=())
  (s:=sE (e:=e) l x om (yd _) sj (fun k _=>he _) om (by
   refine z4p z1c.symm fun j hj=>?_
   rw[z5m (yd _)]
   by_cases h1:j<l.length
   ·rw[z22 h1,y7 h1]
   ·have h2:j=l.length:=om
    subst h2
    rw[z2c om,y6 om,y7 rfl,Nat.sub_self]
    rfl)) Tryz.func169 zpw kj rfl
theorem ins_ok (he:∀ x,(e x).wd=5) {l:List α} {x:α} (hi:i<=l.length) (hl:(l.length+1) * (4 * 48)<=2 ^ 48) :
  CallOk Tryz.prog 169 [.ref 0 l.length 0 l.length,.d (.i .i64 (i:Int)),.ref 1 1 0 1] [eS 5 e l,eS 5 e [x]] (.ref 0 (insL l i x).length 0 (insL l i x).length) [eS 5 e (insL l i x),eS 5 e [x]]:=by
 rw[z1c]
 rcases yz i l.length with h | h
 ·exact zs5 he h hl
 ·obtain rfl:i=l.length:=om
  exact zs6 he hl
end
end Ins169
end Go.Proofs.YtpbnkbjhlhlaiaaGreatDoor
/- The shapes of data. No condition. -/
namespace Go.Proofs.YtpbnkbjhlhlaiaaGreatDoor
open Go Go.TA
open Go.IntKind (i64)
abbrev Z0:DV:=DV.sl 0 fun _=>DV.b false
structure TOp where
 M:Int
 E:Y8
 H:Int
 O:Int
 Y:Int
 I:Int
 T:Int
 W:Int
 N:Int
 Q:Int
 deriving Inhabited
def TOp.e (x:TOp):DV:=.agg [(DV.i .i64 x.M),(DV.str x.E),(DV.i .i64 x.H),(DV.i .i64 x.O),(DV.i .i64 x.Y),(DV.i .i64 x.I),(DV.i .i64 x.T),(DV.i .i64 x.W),(DV.i .i64 x.N),(DV.i .i64 x.Q)]
abbrev TOp.d (x:TOp):AV:=AV.d (TOp.e x)
abbrev TOp.b (x:TOp):Ob:=bx (TOp.e x)
structure TJo where
 U:Int
 D:(List TOp)
 R:Int
 deriving Inhabited
def TJo.e (x:TJo):DV:=.agg [(DV.i .i64 x.U),(eL TOp.e x.D),(DV.i .i64 x.R)]
abbrev TJo.d (x:TJo):AV:=AV.d (TJo.e x)
abbrev TJo.b (x:TJo):Ob:=bx (TJo.e x)
structure TRe where
 F:Int
 E:Y8
 H:Int
 O:Int
 I:Int
 S:Int
 deriving Inhabited
def TRe.e (x:TRe):DV:=.agg [(DV.i .i64 x.F),(DV.str x.E),(DV.i .i64 x.H),(DV.i .i64 x.O),(DV.i .i64 x.I),(DV.i .i64 x.S)]
abbrev TRe.d (x:TRe):AV:=AV.d (TRe.e x)
abbrev TRe.b (x:TRe):Ob:=bx (TRe.e x)
structure TCo where
 F:Int
 L:Int
 O:Int
 I:Int
 S:Int
 T:Int
 W:Int
 deriving Inhabited
def TCo.e (x:TCo):DV:=.agg [(DV.i .i64 x.F),(DV.i .i64 x.L),(DV.i .i64 x.O),(DV.i .i64 x.I),(DV.i .i64 x.S),(DV.i .i64 x.T),(DV.i .i64 x.W)]
abbrev TCo.d (x:TCo):AV:=AV.d (TCo.e x)
abbrev TCo.b (x:TCo):Ob:=bx (TCo.e x)
structure TVe where
 F:Int
 P:Int
 O:Int
 I:Int
 deriving Inhabited
def TVe.e (x:TVe):DV:=.agg [(DV.i .i64 x.F),(DV.i .i64 x.P),(DV.i .i64 x.O),(DV.i .i64 x.I)]
abbrev TVe.d (x:TVe):AV:=AV.d (TVe.e x)
abbrev TVe.b (x:TVe):Ob:=bx (TVe.e x)
structure TOr where
 F:Int
 K:Int
 Z:Int
 O:Int
 Ab:Bool
 deriving Inhabited
def TOr.e (x:TOr):DV:=.agg [(DV.i .i64 x.F),(DV.i .i64 x.K),(DV.i .i64 x.Z),(DV.i .i64 x.O),(DV.b x.Ab)]
abbrev TOr.d (x:TOr):AV:=AV.d (TOr.e x)
abbrev TOr.b (x:TOr):Ob:=bx (TOr.e x)
structure TBo where
 A:(List TRe)
 B:(List TCo)
 C:(List TVe)
 J:(List TOr)
 deriving Inhabited
def TBo.e (x:TBo):DV:=.agg [(eL TRe.e x.A),(eL TCo.e x.B),(eL TVe.e x.C),(eL TOr.e x.J)]
abbrev TBo.d (x:TBo):AV:=AV.d (TBo.e x)
abbrev TBo.b (x:TBo):Ob:=bx (TBo.e x)
structure TRi where
 E:Y8
 H:Int
 N:Int
 Aa:Int
 X:Int
 deriving Inhabited
def TRi.e (x:TRi):DV:=.agg [(DV.str x.E),(DV.i .i64 x.H),(DV.i .i64 x.N),(DV.i .i64 x.Aa),(DV.i .i64 x.X)]
abbrev TRi.d (x:TRi):AV:=AV.d (TRi.e x)
abbrev TRi.b (x:TRi):Ob:=bx (TRi.e x)
structure TOf where
 F:Int
 G:(List TRi)
 V:TBo
 deriving Inhabited
def TOf.e (x:TOf):DV:=.agg [(DV.i .i64 x.F),(eL TRi.e x.G),(TBo.e x.V)]
abbrev TOf.d (x:TOf):AV:=AV.d (TOf.e x)
abbrev TOf.b (x:TOf):Ob:=bx (TOf.e x)
structure TMe where
 Ac:Int
 To:Int
 E:Y8
 H:Int
 N:Int
 Aa:Int
 X:Int
 Ad:Int
 deriving Inhabited
def TMe.e (x:TMe):DV:=.agg [(DV.i .i64 x.Ac),(DV.i .i64 x.To),(DV.str x.E),(DV.i .i64 x.H),(DV.i .i64 x.N),(DV.i .i64 x.Aa),(DV.i .i64 x.X),(DV.i .i64 x.Ad)]
abbrev TMe.d (x:TMe):AV:=AV.d (TMe.e x)
abbrev TMe.b (x:TMe):Ob:=bx (TMe.e x)
structure TTape where
 l:(List Int)
 at_:Int
 deriving Inhabited
def TTape.e (x:TTape):DV:=.agg [(eL (DV.i .i64) x.l),(DV.i .i64 x.at_)]
abbrev TTape.d (x:TTape):AV:=AV.d (TTape.e x)
abbrev TTape.b (x:TTape):Ob:=bx (TTape.e x)
end Go.Proofs.YtpbnkbjhlhlaiaaGreatDoor
/- What the functions compute,and that their calls return it. No condition. -/
namespace Go.Proofs.YtpbnkbjhlhlaiaaGreatDoor
open Go Go.TA
open Go.IntKind (i64)
noncomputable section
set_option maxRecDepth 100000
def S_qx_b1 (a0:Y8) (s8:Int):SC Int (Step (Int) Int) :=
.ite (decide (s8<=6)) (
.call (@F_q2i_ok s8) fun r9 c9=>
.guard [([111,102,102,105,99,101,32]).length+r9.length<2 ^ 63]<|
.reg 4 [] [(2,hc c9 [] true)] [.cl 1 c9 [] 0 true,.ev 0]<|
.ite (a0==(([111,102,102,105,99,101,32])++r9)) (
.r (.ret s8)) (
.r (.cont (i64.wrap (s8+1))))) (
.r (.brk s8))
def S_qx (a0:Y8):SC Int Int :=
.iter [0] (fun (s8:Int)=>[(3,(vi s8))]) (fun _=>[]) 1 (S_qx_b1 a0) (fun _ =>
.r 0) id
def F_qx (a0:Y8):=(S_qx a0).den
theorem F_qx_ok {a0:Y8}:FO (F_qx a0) 65 [(AV.d (DV.str a0))] [] vi NL:=fO (s:=S_qx a0) Tryz.func65
def S_q2o (a0:Int):SC Y8 Y8 :=
.ite (a0==1) (
.r ([114,101,115,101,114,118,101,32,67,79,68,69,32,89,69,65,82,32,68,65,89,32,65,77,79,85,78,84])) (
.ite (a0==2) (
.r ([99,111,109,109,105,116,32,79,70,32,68,65,89,32,65,77,79,85,78,84,32,80,65,89,69,69,32,68,85,69])) (
.ite (a0==3) (
.r ([118,101,114,105,102,121,32,79,70,32,68,65,89,32,65,77,79,85,78,84])) (
.ite (a0==4) (
.r ([111,114,100,101,114,32,79,70,32,68,65,89])) (
.ite (a0==5) (
.r ([114,101,108,101,97,115,101,32,79,70,32,65,77,79,85,78,84])) (
.ite (a0==6) (
.r ([100,114,111,112,32,79,70,32,65,77,79,85,78,84])) (
.ite (a0==7) (
.r ([114,101,116,117,114,110,32,67,79,68,69,32,89,69,65,82,32,65,77,79,85,78,84])) (
.ite (a0==8) (
.r ([104,101,97,114,32,67,79,68,69,32,89,69,65,82,32,71,82,65,78,84,69,68,32,65,83,75,69,68,66,65,67,75])) (
.ite (a0==9) (
.r ([114,101,116,117,114,110,101,100,32,79,70])) (
.r ([]))))))))))
def F_q2o (a0:Int):=(S_q2o a0).den
theorem F_q2o_ok {a0:Int}:FO (F_q2o a0) 54 [(vi a0)] [] (fun x=>(AV.d (DV.str x))) NL:=fO (s:=S_q2o a0) Tryz.func54
def S_q2w (a1:Y8) (_:TOp):SC Unit Unit :=
.guard [(a1==([89,69,65,82]))=true]<|
.br true (.ev 0)<|
.r ()
def F_q2w (a1:Y8) (p0:TOp):=(S_q2w a1 p0).den
theorem F_q2w_ok {a1:Y8} {p0:TOp}:FO (F_q2w a1 p0) 56 [(vp 0),(AV.d (DV.str a1))] [(TOp.b p0)] (fun _=>(AV.ptr 0 1 [.f 2 2])) (fun _=>[(TOp.b p0)]):=fO (s:=S_q2w a1 p0) Tryz.func56
def S_q2x (a1:Y8) (_:TOp):SC Unit Unit :=
.guard [(a1==([89,69,65,82]))=false]<|
.br false (.ev 0)<|
.guard [(a1==([68,65,89]))=true]<|
.br true (.ev 0)<|
.r ()
def F_q2x (a1:Y8) (p0:TOp):=(S_q2x a1 p0).den
theorem F_q2x_ok {a1:Y8} {p0:TOp}:FO (F_q2x a1 p0) 56 [(vp 0),(AV.d (DV.str a1))] [(TOp.b p0)] (fun _=>(AV.ptr 0 1 [.f 3 3])) (fun _=>[(TOp.b p0)]):=fO (s:=S_q2x a1 p0) Tryz.func56
def S_q2y (a1:Y8) (_:TOp):SC Unit Unit :=
.guard [(a1==([89,69,65,82]))=false]<|
.br false (.ev 0)<|
.guard [(a1==([68,65,89]))=false]<|
.br false (.ev 0)<|
.guard [(a1==([65,77,79,85,78,84]))=true]<|
.br true (.ev 0)<|
.r ()
def F_q2y (a1:Y8) (p0:TOp):=(S_q2y a1 p0).den
theorem F_q2y_ok {a1:Y8} {p0:TOp}:FO (F_q2y a1 p0) 56 [(vp 0),(AV.d (DV.str a1))] [(TOp.b p0)] (fun _=>(AV.ptr 0 1 [.f 5 5])) (fun _=>[(TOp.b p0)]):=fO (s:=S_q2y a1 p0) Tryz.func56
def S_q2z (a1:Y8) (_:TOp):SC Unit Unit :=
.guard [(a1==([89,69,65,82]))=false]<|
.br false (.ev 0)<|
.guard [(a1==([68,65,89]))=false]<|
.br false (.ev 0)<|
.guard [(a1==([65,77,79,85,78,84]))=false]<|
.br false (.ev 0)<|
.guard [(a1==([79,70]))=true]<|
.br true (.ev 0)<|
.r ()
def F_q2z (a1:Y8) (p0:TOp):=(S_q2z a1 p0).den
theorem F_q2z_ok {a1:Y8} {p0:TOp}:FO (F_q2z a1 p0) 56 [(vp 0),(AV.d (DV.str a1))] [(TOp.b p0)] (fun _=>(AV.ptr 0 1 [.f 4 4])) (fun _=>[(TOp.b p0)]):=fO (s:=S_q2z a1 p0) Tryz.func56
def S_q30 (a1:Y8) (_:TOp):SC Unit Unit :=
.guard [(a1==([89,69,65,82]))=false]<|
.br false (.ev 0)<|
.guard [(a1==([68,65,89]))=false]<|
.br false (.ev 0)<|
.guard [(a1==([65,77,79,85,78,84]))=false]<|
.br false (.ev 0)<|
.guard [(a1==([79,70]))=false]<|
.br false (.ev 0)<|
.guard [(a1==([80,65,89,69,69]))=true]<|
.br true (.ev 0)<|
.r ()
def F_q30 (a1:Y8) (p0:TOp):=(S_q30 a1 p0).den
theorem F_q30_ok {a1:Y8} {p0:TOp}:FO (F_q30 a1 p0) 56 [(vp 0),(AV.d (DV.str a1))] [(TOp.b p0)] (fun _=>(AV.ptr 0 1 [.f 6 6])) (fun _=>[(TOp.b p0)]):=fO (s:=S_q30 a1 p0) Tryz.func56
def S_q31 (a1:Y8) (_:TOp):SC Unit Unit :=
.guard [(a1==([89,69,65,82]))=false]<|
.br false (.ev 0)<|
.guard [(a1==([68,65,89]))=false]<|
.br false (.ev 0)<|
.guard [(a1==([65,77,79,85,78,84]))=false]<|
.br false (.ev 0)<|
.guard [(a1==([79,70]))=false]<|
.br false (.ev 0)<|
.guard [(a1==([80,65,89,69,69]))=false]<|
.br false (.ev 0)<|
.guard [(a1==([68,85,69]))=true]<|
.br true (.ev 0)<|
.r ()
def F_q31 (a1:Y8) (p0:TOp):=(S_q31 a1 p0).den
theorem F_q31_ok {a1:Y8} {p0:TOp}:FO (F_q31 a1 p0) 56 [(vp 0),(AV.d (DV.str a1))] [(TOp.b p0)] (fun _=>(AV.ptr 0 1 [.f 7 7])) (fun _=>[(TOp.b p0)]):=fO (s:=S_q31 a1 p0) Tryz.func56
def S_q32 (a1:Y8) (_:TOp):SC Unit Unit :=
.guard [(a1==([89,69,65,82]))=false]<|
.br false (.ev 0)<|
.guard [(a1==([68,65,89]))=false]<|
.br false (.ev 0)<|
.guard [(a1==([65,77,79,85,78,84]))=false]<|
.br false (.ev 0)<|
.guard [(a1==([79,70]))=false]<|
.br false (.ev 0)<|
.guard [(a1==([80,65,89,69,69]))=false]<|
.br false (.ev 0)<|
.guard [(a1==([68,85,69]))=false]<|
.br false (.ev 0)<|
.guard [(a1==([71,82,65,78,84,69,68]))=true]<|
.br true (.ev 0)<|
.r ()
def F_q32 (a1:Y8) (p0:TOp):=(S_q32 a1 p0).den
theorem F_q32_ok {a1:Y8} {p0:TOp}:FO (F_q32 a1 p0) 56 [(vp 0),(AV.d (DV.str a1))] [(TOp.b p0)] (fun _=>(AV.ptr 0 1 [.f 8 8])) (fun _=>[(TOp.b p0)]):=fO (s:=S_q32 a1 p0) Tryz.func56
def S_q33 (a1:Y8) (_:TOp):SC Unit Unit :=
.guard [(a1==([89,69,65,82]))=false]<|
.br false (.ev 0)<|
.guard [(a1==([68,65,89]))=false]<|
.br false (.ev 0)<|
.guard [(a1==([65,77,79,85,78,84]))=false]<|
.br false (.ev 0)<|
.guard [(a1==([79,70]))=false]<|
.br false (.ev 0)<|
.guard [(a1==([80,65,89,69,69]))=false]<|
.br false (.ev 0)<|
.guard [(a1==([68,85,69]))=false]<|
.br false (.ev 0)<|
.guard [(a1==([71,82,65,78,84,69,68]))=false]<|
.br false (.ev 0)<|
.guard [(a1==([65,83,75,69,68,66,65,67,75]))=true]<|
.br true (.ev 0)<|
.r ()
def F_q33 (a1:Y8) (p0:TOp):=(S_q33 a1 p0).den
theorem F_q33_ok {a1:Y8} {p0:TOp}:FO (F_q33 a1 p0) 56 [(vp 0),(AV.d (DV.str a1))] [(TOp.b p0)] (fun _=>(AV.ptr 0 1 [.f 9 9])) (fun _=>[(TOp.b p0)]):=fO (s:=S_q33 a1 p0) Tryz.func56
def S_q15 (a0:Y8):SC Int Int :=
.ite (a0==([89,69,65,82])) (
.r 99) (
.r 1000000000000000)
def F_q15 (a0:Y8):=(S_q15 a0).den
theorem F_q15_ok {a0:Y8}:FO (F_q15 a0) 57 [(AV.d (DV.str a0))] [] vi NL:=fO (s:=S_q15 a0) Tryz.func57
abbrev R_q5:=Y8
def S_q5_b1 (a0:TOp) (rv1:(List Y8)) (iv2:Nat) (sv3:(List Y8)×TOp):SC R_q5 (Step ((List Y8)×TOp) R_q5) :=
.guard [((0+1)+iv2)<sv3.1.length]<|
.reg 8 [] [] [.e sv3.1.length,.w iv2,.ev 1,.e sv3.1.length,.ev 0]<|
 let e3_:=(i64.wrap ((iv2:Int)+1))
 let e0_:=(0+(e3_).toNat)
 let e24_:=(rv1.length-1)
 let e4_:=(19,(vi ((e24_:Nat):Int)))
 let e14_:=(20,(vi (iv2:Int)))
 let e1_:=[(1,(vp 0)),(3,(AV.ref 1 sv3.1.length 0 sv3.1.length)),(4,(vp 2)),(18,(AV.ref 1 sv3.1.length (0+1) e24_)),e4_,e14_]
 let e2_:=(sv3.1.getD ((0+1)+iv2) dF)
 let e15_:=(DV.i .i64 sv3.2.M)
 let e16_:=(DV.i .i64 sv3.2.H)
 let e17_:=(DV.i .i64 sv3.2.O)
 let e18_:=(DV.i .i64 sv3.2.Y)
 let e19_:=(DV.i .i64 sv3.2.I)
 let e20_:=(DV.i .i64 sv3.2.T)
 let e21_:=(DV.i .i64 sv3.2.W)
 let e22_:=(DV.i .i64 sv3.2.N)
 let e23_:=(DV.i .i64 sv3.2.Q)
 let e25_:=(TOp.b a0)
.ite (e2_==([67,79,68,69])) (
.a 10 2 3 (@F_q4z_ok a0.E) fun rv4=>
.ite ((rv4.length:Int)==0) (
.r (.ret ([]))) (
.guard [(0:Int)<=e3_,(e3_).toNat<sv3.1.length,e0_<sv3.1.length]<|
 let e27_:=(sv3.1.set e0_ a0.E)
.reg 12 [] [(6,{ obs:=[(1,(eS 1 DV.str e27_))] })] [.e sv3.1.length,.ev 0,.ev 1,.e sv3.1.length,.ev 2,.pf (zu (sz:=1) (e:=DV.str) (l:=sv3.1) (i:=e0_) (x:=a0.E) (fun _=>rfl))]<|
 let e5_:=[e25_,(eS 1 DV.str e27_),(bx (DV.agg [e15_,(DV.str ([])),e16_,e17_,e18_,e19_,e20_,e21_,e22_,e23_]))]
.cst (A:=True) (.pf trivial) e1_ [(1,(vp 0)),(3,(AV.ref 1 (e27_.length) 0 (e27_.length))),(4,(vp 2)),(18,(AV.ref 1 (e27_.length) (0+1) e24_)),e4_,e14_] e5_ e5_ (fun _=>⟨by simp +zetaDelta only[yl],by rfl⟩)<|
.r (.cont (e27_,(⟨sv3.2.M,[],sv3.2.H,sv3.2.O,sv3.2.Y,sv3.2.I,sv3.2.T,sv3.2.W,sv3.2.N,sv3.2.Q⟩:TOp))))) (
 let e26_:=(DV.str sv3.2.E)
 let e36_:=(DV.i .i64 0)
.split (e2_==([89,69,65,82])) (
.call (@F_q2w_ok e2_ a0) fun rv5 cv5=>
.k 13 1 cv5 [0] 3 true<|
 let e37_:=(decide (a0.H<0))
.calld [e37_=false] dF (@F_q15_ok e2_) fun rv6 cv6 =>
.reg 14 [] [(5,hc cv6 [] true)] [.clg 0 [e37_=false] cv6 [] 3 true]<|
.ite (cO e37_ (decide (a0.H>rv6))) (
.r (.ret ([]))) (
.call (@F_q2w_ok e2_ sv3.2) fun rv7 cv7=>
.call (@F_q2i_ok a0.H) fun rv8 cv8=>
.guard [(0:Int)<=e3_,(e3_).toNat<sv3.1.length,e0_<sv3.1.length]<|
 let e35_:=(sv3.1.set e0_ rv8)
.reg 16 [] [(4,hc cv7 [2] true),(6,hc cv8 [] true),(8,{ obs:=[(1,(eS 1 DV.str e35_))] })] [.cl 4 cv7 [2] 3 true,.cl 3 cv8 [] 3 true,.e sv3.1.length,.ev 0,.ev 1,.e sv3.1.length,.ev 2,.pf (zu (sz:=1) (e:=DV.str) (l:=sv3.1) (i:=e0_) (x:=rv8) (fun _=>rfl))]<|
 let e13_:=[e25_,(eS 1 DV.str e35_),(bx (DV.agg [e15_,e26_,e36_,e17_,e18_,e19_,e20_,e21_,e22_,e23_]))]
.cst (A:=True) (.pf trivial) e1_ [(1,(vp 0)),(3,(AV.ref 1 (e35_.length) 0 (e35_.length))),(4,(vp 2)),(18,(AV.ref 1 (e35_.length) (0+1) e24_)),e4_,e14_] e13_ e13_ (fun _=>⟨by simp +zetaDelta only[yl],by rfl⟩)<|
.r (.cont (e35_,(⟨sv3.2.M,sv3.2.E,0,sv3.2.O,sv3.2.Y,sv3.2.I,sv3.2.T,sv3.2.W,sv3.2.N,sv3.2.Q⟩:TOp))))) (
.split (e2_==([68,65,89])) (
.call (@F_q2x_ok e2_ a0) fun rv9 cv9=>
.k 13 1 cv9 [0] 3 true<|
 let e38_:=(decide (a0.O<0))
.calld [e38_=false] dF (@F_q15_ok e2_) fun rv10 cv10 =>
.reg 14 [] [(5,hc cv10 [] true)] [.clg 0 [e38_=false] cv10 [] 3 true]<|
.ite (cO e38_ (decide (a0.O>rv10))) (
.r (.ret ([]))) (
.call (@F_q2x_ok e2_ sv3.2) fun rv11 cv11=>
.call (@F_q2i_ok a0.O) fun rv12 cv12=>
.guard [(0:Int)<=e3_,(e3_).toNat<sv3.1.length,e0_<sv3.1.length]<|
 let e28_:=(sv3.1.set e0_ rv12)
.reg 16 [] [(4,hc cv11 [2] true),(6,hc cv12 [] true),(8,{ obs:=[(1,(eS 1 DV.str e28_))] })] [.cl 4 cv11 [2] 3 true,.cl 3 cv12 [] 3 true,.e sv3.1.length,.ev 0,.ev 1,.e sv3.1.length,.ev 2,.pf (zu (sz:=1) (e:=DV.str) (l:=sv3.1) (i:=e0_) (x:=rv12) (fun _=>rfl))]<|
 let e6_:=[e25_,(eS 1 DV.str e28_),(bx (DV.agg [e15_,e26_,e16_,e36_,e18_,e19_,e20_,e21_,e22_,e23_]))]
.cst (A:=True) (.pf trivial) e1_ [(1,(vp 0)),(3,(AV.ref 1 (e28_.length) 0 (e28_.length))),(4,(vp 2)),(18,(AV.ref 1 (e28_.length) (0+1) e24_)),e4_,e14_] e6_ e6_ (fun _=>⟨by simp +zetaDelta only[yl],by rfl⟩)<|
.r (.cont (e28_,(⟨sv3.2.M,sv3.2.E,sv3.2.H,0,sv3.2.Y,sv3.2.I,sv3.2.T,sv3.2.W,sv3.2.N,sv3.2.Q⟩:TOp))))) (
.split (e2_==([65,77,79,85,78,84])) (
.call (@F_q2y_ok e2_ a0) fun rv13 cv13=>
.k 13 1 cv13 [0] 3 true<|
 let e39_:=(decide (a0.I<0))
.calld [e39_=false] dF (@F_q15_ok e2_) fun rv14 cv14 =>
.reg 14 [] [(5,hc cv14 [] true)] [.clg 0 [e39_=false] cv14 [] 3 true]<|
.ite (cO e39_ (decide (a0.I>rv14))) (
.r (.ret ([]))) (
.call (@F_q2y_ok e2_ sv3.2) fun rv15 cv15=>
.call (@F_q2i_ok a0.I) fun rv16 cv16=>
.guard [(0:Int)<=e3_,(e3_).toNat<sv3.1.length,e0_<sv3.1.length]<|
 let e29_:=(sv3.1.set e0_ rv16)
.reg 16 [] [(4,hc cv15 [2] true),(6,hc cv16 [] true),(8,{ obs:=[(1,(eS 1 DV.str e29_))] })] [.cl 4 cv15 [2] 3 true,.cl 3 cv16 [] 3 true,.e sv3.1.length,.ev 0,.ev 1,.e sv3.1.length,.ev 2,.pf (zu (sz:=1) (e:=DV.str) (l:=sv3.1) (i:=e0_) (x:=rv16) (fun _=>rfl))]<|
 let e7_:=[e25_,(eS 1 DV.str e29_),(bx (DV.agg [e15_,e26_,e16_,e17_,e18_,e36_,e20_,e21_,e22_,e23_]))]
.cst (A:=True) (.pf trivial) e1_ [(1,(vp 0)),(3,(AV.ref 1 (e29_.length) 0 (e29_.length))),(4,(vp 2)),(18,(AV.ref 1 (e29_.length) (0+1) e24_)),e4_,e14_] e7_ e7_ (fun _=>⟨by simp +zetaDelta only[yl],by rfl⟩)<|
.r (.cont (e29_,(⟨sv3.2.M,sv3.2.E,sv3.2.H,sv3.2.O,sv3.2.Y,0,sv3.2.T,sv3.2.W,sv3.2.N,sv3.2.Q⟩:TOp))))) (
.split (e2_==([79,70])) (
.call (@F_q2z_ok e2_ a0) fun rv17 cv17=>
.k 13 1 cv17 [0] 3 true<|
 let e40_:=(decide (a0.Y<0))
.calld [e40_=false] dF (@F_q15_ok e2_) fun rv18 cv18 =>
.reg 14 [] [(5,hc cv18 [] true)] [.clg 0 [e40_=false] cv18 [] 3 true]<|
.ite (cO e40_ (decide (a0.Y>rv18))) (
.r (.ret ([]))) (
.call (@F_q2z_ok e2_ sv3.2) fun rv19 cv19=>
.call (@F_q2i_ok a0.Y) fun rv20 cv20=>
.guard [(0:Int)<=e3_,(e3_).toNat<sv3.1.length,e0_<sv3.1.length]<|
 let e30_:=(sv3.1.set e0_ rv20)
.reg 16 [] [(4,hc cv19 [2] true),(6,hc cv20 [] true),(8,{ obs:=[(1,(eS 1 DV.str e30_))] })] [.cl 4 cv19 [2] 3 true,.cl 3 cv20 [] 3 true,.e sv3.1.length,.ev 0,.ev 1,.e sv3.1.length,.ev 2,.pf (zu (sz:=1) (e:=DV.str) (l:=sv3.1) (i:=e0_) (x:=rv20) (fun _=>rfl))]<|
 let e8_:=[e25_,(eS 1 DV.str e30_),(bx (DV.agg [e15_,e26_,e16_,e17_,e36_,e19_,e20_,e21_,e22_,e23_]))]
.cst (A:=True) (.pf trivial) e1_ [(1,(vp 0)),(3,(AV.ref 1 (e30_.length) 0 (e30_.length))),(4,(vp 2)),(18,(AV.ref 1 (e30_.length) (0+1) e24_)),e4_,e14_] e8_ e8_ (fun _=>⟨by simp +zetaDelta only[yl],by rfl⟩)<|
.r (.cont (e30_,(⟨sv3.2.M,sv3.2.E,sv3.2.H,sv3.2.O,0,sv3.2.I,sv3.2.T,sv3.2.W,sv3.2.N,sv3.2.Q⟩:TOp))))) (
.split (e2_==([80,65,89,69,69])) (
.call (@F_q30_ok e2_ a0) fun rv21 cv21=>
.k 13 1 cv21 [0] 3 true<|
 let e41_:=(decide (a0.T<0))
.calld [e41_=false] dF (@F_q15_ok e2_) fun rv22 cv22 =>
.reg 14 [] [(5,hc cv22 [] true)] [.clg 0 [e41_=false] cv22 [] 3 true]<|
.ite (cO e41_ (decide (a0.T>rv22))) (
.r (.ret ([]))) (
.call (@F_q30_ok e2_ sv3.2) fun rv23 cv23=>
.call (@F_q2i_ok a0.T) fun rv24 cv24=>
.guard [(0:Int)<=e3_,(e3_).toNat<sv3.1.length,e0_<sv3.1.length]<|
 let e31_:=(sv3.1.set e0_ rv24)
.reg 16 [] [(4,hc cv23 [2] true),(6,hc cv24 [] true),(8,{ obs:=[(1,(eS 1 DV.str e31_))] })] [.cl 4 cv23 [2] 3 true,.cl 3 cv24 [] 3 true,.e sv3.1.length,.ev 0,.ev 1,.e sv3.1.length,.ev 2,.pf (zu (sz:=1) (e:=DV.str) (l:=sv3.1) (i:=e0_) (x:=rv24) (fun _=>rfl))]<|
 let e9_:=[e25_,(eS 1 DV.str e31_),(bx (DV.agg [e15_,e26_,e16_,e17_,e18_,e19_,e36_,e21_,e22_,e23_]))]
.cst (A:=True) (.pf trivial) e1_ [(1,(vp 0)),(3,(AV.ref 1 (e31_.length) 0 (e31_.length))),(4,(vp 2)),(18,(AV.ref 1 (e31_.length) (0+1) e24_)),e4_,e14_] e9_ e9_ (fun _=>⟨by simp +zetaDelta only[yl],by rfl⟩)<|
.r (.cont (e31_,(⟨sv3.2.M,sv3.2.E,sv3.2.H,sv3.2.O,sv3.2.Y,sv3.2.I,0,sv3.2.W,sv3.2.N,sv3.2.Q⟩:TOp))))) (
.split (e2_==([68,85,69])) (
.call (@F_q31_ok e2_ a0) fun rv25 cv25=>
.k 13 1 cv25 [0] 3 true<|
 let e42_:=(decide (a0.W<0))
.calld [e42_=false] dF (@F_q15_ok e2_) fun rv26 cv26 =>
.reg 14 [] [(5,hc cv26 [] true)] [.clg 0 [e42_=false] cv26 [] 3 true]<|
.ite (cO e42_ (decide (a0.W>rv26))) (
.r (.ret ([]))) (
.call (@F_q31_ok e2_ sv3.2) fun rv27 cv27=>
.call (@F_q2i_ok a0.W) fun rv28 cv28=>
.guard [(0:Int)<=e3_,(e3_).toNat<sv3.1.length,e0_<sv3.1.length]<|
 let e32_:=(sv3.1.set e0_ rv28)
.reg 16 [] [(4,hc cv27 [2] true),(6,hc cv28 [] true),(8,{ obs:=[(1,(eS 1 DV.str e32_))] })] [.cl 4 cv27 [2] 3 true,.cl 3 cv28 [] 3 true,.e sv3.1.length,.ev 0,.ev 1,.e sv3.1.length,.ev 2,.pf (zu (sz:=1) (e:=DV.str) (l:=sv3.1) (i:=e0_) (x:=rv28) (fun _=>rfl))]<|
 let e10_:=[e25_,(eS 1 DV.str e32_),(bx (DV.agg [e15_,e26_,e16_,e17_,e18_,e19_,e20_,e36_,e22_,e23_]))]
.cst (A:=True) (.pf trivial) e1_ [(1,(vp 0)),(3,(AV.ref 1 (e32_.length) 0 (e32_.length))),(4,(vp 2)),(18,(AV.ref 1 (e32_.length) (0+1) e24_)),e4_,e14_] e10_ e10_ (fun _=>⟨by simp +zetaDelta only[yl],by rfl⟩)<|
.r (.cont (e32_,(⟨sv3.2.M,sv3.2.E,sv3.2.H,sv3.2.O,sv3.2.Y,sv3.2.I,sv3.2.T,0,sv3.2.N,sv3.2.Q⟩:TOp))))) (
.split (e2_==([71,82,65,78,84,69,68])) (
.call (@F_q32_ok e2_ a0) fun rv29 cv29=>
.k 13 1 cv29 [0] 3 true<|
 let e43_:=(decide (a0.N<0))
.calld [e43_=false] dF (@F_q15_ok e2_) fun rv30 cv30 =>
.reg 14 [] [(5,hc cv30 [] true)] [.clg 0 [e43_=false] cv30 [] 3 true]<|
.ite (cO e43_ (decide (a0.N>rv30))) (
.r (.ret ([]))) (
.call (@F_q32_ok e2_ sv3.2) fun rv31 cv31=>
.call (@F_q2i_ok a0.N) fun rv32 cv32=>
.guard [(0:Int)<=e3_,(e3_).toNat<sv3.1.length,e0_<sv3.1.length]<|
 let e33_:=(sv3.1.set e0_ rv32)
.reg 16 [] [(4,hc cv31 [2] true),(6,hc cv32 [] true),(8,{ obs:=[(1,(eS 1 DV.str e33_))] })] [.cl 4 cv31 [2] 3 true,.cl 3 cv32 [] 3 true,.e sv3.1.length,.ev 0,.ev 1,.e sv3.1.length,.ev 2,.pf (zu (sz:=1) (e:=DV.str) (l:=sv3.1) (i:=e0_) (x:=rv32) (fun _=>rfl))]<|
 let e11_:=[e25_,(eS 1 DV.str e33_),(bx (DV.agg [e15_,e26_,e16_,e17_,e18_,e19_,e20_,e21_,e36_,e23_]))]
.cst (A:=True) (.pf trivial) e1_ [(1,(vp 0)),(3,(AV.ref 1 (e33_.length) 0 (e33_.length))),(4,(vp 2)),(18,(AV.ref 1 (e33_.length) (0+1) e24_)),e4_,e14_] e11_ e11_ (fun _=>⟨by simp +zetaDelta only[yl],by rfl⟩)<|
.r (.cont (e33_,(⟨sv3.2.M,sv3.2.E,sv3.2.H,sv3.2.O,sv3.2.Y,sv3.2.I,sv3.2.T,sv3.2.W,0,sv3.2.Q⟩:TOp))))) (
.call (@F_q33_ok e2_ a0) fun rv33 cv33=>
.k 13 1 cv33 [0] 3 true<|
 let e44_:=(decide (a0.Q<0))
.calld [e44_=false] dF (@F_q15_ok e2_) fun rv34 cv34 =>
.reg 14 [] [(5,hc cv34 [] true)] [.clg 0 [e44_=false] cv34 [] 3 true]<|
.ite (cO e44_ (decide (a0.Q>rv34))) (
.r (.ret ([]))) (
.call (@F_q33_ok e2_ sv3.2) fun rv35 cv35=>
.call (@F_q2i_ok a0.Q) fun rv36 cv36=>
.guard [(0:Int)<=e3_,(e3_).toNat<sv3.1.length,e0_<sv3.1.length]<|
 let e34_:=(sv3.1.set e0_ rv36)
.reg 16 [] [(4,hc cv35 [2] true),(6,hc cv36 [] true),(8,{ obs:=[(1,(eS 1 DV.str e34_))] })] [.cl 4 cv35 [2] 3 true,.cl 3 cv36 [] 3 true,.e sv3.1.length,.ev 0,.ev 1,.e sv3.1.length,.ev 2,.pf (zu (sz:=1) (e:=DV.str) (l:=sv3.1) (i:=e0_) (x:=rv36) (fun _=>rfl))]<|
 let e12_:=[e25_,(eS 1 DV.str e34_),(bx (DV.agg [e15_,e26_,e16_,e17_,e18_,e19_,e20_,e21_,e22_,e36_]))]
.cst (A:=True) (.pf trivial) e1_ [(1,(vp 0)),(3,(AV.ref 1 (e34_.length) 0 (e34_.length))),(4,(vp 2)),(18,(AV.ref 1 (e34_.length) (0+1) e24_)),e4_,e14_] e12_ e12_ (fun _=>⟨by simp +zetaDelta only[yl],by rfl⟩)<|
.r (.cont (e34_,(⟨sv3.2.M,sv3.2.E,sv3.2.H,sv3.2.O,sv3.2.Y,sv3.2.I,sv3.2.T,sv3.2.W,sv3.2.N,0⟩:TOp))))))))))))
def S_q5 (a0:TOp):SC R_q5 R_q5 :=
.call (@F_q2o_ok a0.M) fun rv37 cv37=>
.call (@F_q52_ok rv37) fun rv1 cv1=>
.reg 1 [] [(2,hc cv37 [] true),(3,hc cv1 [] false)] [.cl 1 cv37 [] 1 true,.cl 0 cv1 [] 1 false]<|
.ite ((rv1.length:Int)==0) (
.r ([])) (
.guard [1<=rv1.length]<|
.reg 6 [] [] [.pf (p:=(0:Int)<=1) dk,.ev 0,.e rv1.length]<|
.guard [(rv1.length-1)<2 ^ 63]<|
.range (((rv1.length-1):Nat):Int) (rv1.length-1) rfl (.why (.ev 0)) 20 [1,4,19] (fun (sv3:(List Y8)×TOp)=>[(3,(AV.ref 1 sv3.1.length 0 sv3.1.length)),(18,(AV.ref 1 sv3.1.length (0+1) (rv1.length-1)))]) (fun sv3=>[(1,(eS 1 DV.str sv3.1)),(2,(TOp.b sv3.2))]) (rv1,(⟨0,a0.E,a0.H,a0.O,a0.Y,a0.I,a0.T,a0.W,a0.N,a0.Q⟩:TOp)) (S_q5_b1 a0 rv1) (fun sv3 => 
.ite (!((sv3.2.M==0)&&((sv3.2.E==([]))&&((sv3.2.H==0)&&((sv3.2.O==0)&&((sv3.2.Y==0)&&((sv3.2.I==0)&&((sv3.2.T==0)&&((sv3.2.W==0)&&((sv3.2.N==0)&&((sv3.2.Q==0)&&true))))))))))) (
.r ([])) (
.guard [sv3.1.length<2 ^ 63]<|
.frz 1 (.ev 0) none [3] []<|
.a 20 1 3 (@F_q53_ok sv3.1 ([32])) fun rv38=>
.r rv38)) id)
def F_q5 (a0:TOp):=(S_q5 a0).den
theorem F_q5_ok {a0:TOp}:FO (F_q5 a0) 17 [(TOp.d a0)] [] (fun x=>(AV.d (DV.str x))) NL:=fO (s:=S_q5 a0) Tryz.func17
abbrev R_q3:=TOp×Int
def S_q3_b1 (rv1:(List Y8)) (rv2:(List Y8)) (iv3:Nat) (sv4:TOp):SC R_q3 (Step (TOp) (R_q3 ⊕ (TOp))) :=
.reg 10 [] [] [.w iv3,.ev 0]<|
 let e0_:=((rv2.drop 1).getD iv3 dF)
 let e1_:=(i64.wrap ((iv3:Int)+1))
 let e2_:=(rv1.getD ((e1_).toNat) dF)
.ite (e0_==([67,79,68,69])) (
.guard [(0:Int)<=e1_,(e1_).toNat<rv1.length]<|
.reg 12 [] [] [.ev 0,.ev 1]<|
.r (.cont (⟨sv4.M,e2_,sv4.H,sv4.O,sv4.Y,sv4.I,sv4.T,sv4.W,sv4.N,sv4.Q⟩:TOp))) (
.call (@F_q51_ok e2_) fun rv5 cv5=>
.guard [(0:Int)<=e1_,(e1_).toNat<rv1.length]<|
.reg 13 [] [(5,hc cv5 [] true)] [.ev 0,.ev 1,.cl 2 cv5 [] 4 true]<|
.ite rv5.2 (
.r (.ret (.inr sv4))) (
.split (e0_==([89,69,65,82])) (
.call (@F_q2w_ok e0_ sv4) fun _rv6 cv6=>
.k 15 1 cv6 [3] 4 true<|
.r (.cont (⟨sv4.M,sv4.E,rv5.1,sv4.O,sv4.Y,sv4.I,sv4.T,sv4.W,sv4.N,sv4.Q⟩:TOp))) (
.split (e0_==([68,65,89])) (
.call (@F_q2x_ok e0_ sv4) fun _rv7 cv7=>
.k 15 1 cv7 [3] 4 true<|
.r (.cont (⟨sv4.M,sv4.E,sv4.H,rv5.1,sv4.Y,sv4.I,sv4.T,sv4.W,sv4.N,sv4.Q⟩:TOp))) (
.split (e0_==([65,77,79,85,78,84])) (
.call (@F_q2y_ok e0_ sv4) fun _rv8 cv8=>
.k 15 1 cv8 [3] 4 true<|
.r (.cont (⟨sv4.M,sv4.E,sv4.H,sv4.O,sv4.Y,rv5.1,sv4.T,sv4.W,sv4.N,sv4.Q⟩:TOp))) (
.split (e0_==([79,70])) (
.call (@F_q2z_ok e0_ sv4) fun _rv9 cv9=>
.k 15 1 cv9 [3] 4 true<|
.r (.cont (⟨sv4.M,sv4.E,sv4.H,sv4.O,rv5.1,sv4.I,sv4.T,sv4.W,sv4.N,sv4.Q⟩:TOp))) (
.split (e0_==([80,65,89,69,69])) (
.call (@F_q30_ok e0_ sv4) fun _rv10 cv10=>
.k 15 1 cv10 [3] 4 true<|
.r (.cont (⟨sv4.M,sv4.E,sv4.H,sv4.O,sv4.Y,sv4.I,rv5.1,sv4.W,sv4.N,sv4.Q⟩:TOp))) (
.split (e0_==([68,85,69])) (
.call (@F_q31_ok e0_ sv4) fun _rv11 cv11=>
.k 15 1 cv11 [3] 4 true<|
.r (.cont (⟨sv4.M,sv4.E,sv4.H,sv4.O,sv4.Y,sv4.I,sv4.T,rv5.1,sv4.N,sv4.Q⟩:TOp))) (
.split (e0_==([71,82,65,78,84,69,68])) (
.call (@F_q32_ok e0_ sv4) fun _rv12 cv12=>
.k 15 1 cv12 [3] 4 true<|
.r (.cont (⟨sv4.M,sv4.E,sv4.H,sv4.O,sv4.Y,sv4.I,sv4.T,sv4.W,rv5.1,sv4.Q⟩:TOp))) (
.call (@F_q33_ok e0_ sv4) fun _rv13 cv13=>
.k 15 1 cv13 [3] 4 true<|
.r (.cont (⟨sv4.M,sv4.E,sv4.H,sv4.O,sv4.Y,sv4.I,sv4.T,sv4.W,sv4.N,rv5.1⟩:TOp)))))))))))
def S_q3_b2 (a0:Y8) (rv1:(List Y8)) (sv14:Int):SC R_q3 (Step (Int) R_q3) :=
.ite (decide (sv14<=9)) (
.call (@F_q2o_ok sv14) fun rv15 cv15=>
.call (@F_q52_ok rv15) fun rv2 cv2=>
.reg 5 [] [(1,hc cv15 [] true),(2,hc cv2 [] false)] [.cl 1 cv15 [] 2 true,.cl 0 cv2 [] 2 false]<|
.guard [rv2.length<2 ^ 63]<|
.frz 2 (.ev 0) none [6] []<|
.guard [0<rv2.length,0<rv1.length]<|
.reg 6 [] [] [.pf (p:=(0:Int)<=0) dk,.ev 0,.pf (p:=(0:Int)<=0) dk,.ev 1]<|
 let e0_:=(i64.wrap (sv14+1))
.ite (cO (!((rv2.getD 0 dF)==(rv1.getD 0 dF))) ((rv2.length:Int) != (rv1.length:Int))) (
.c e0_) (
.guard [1<=rv2.length]<|
.reg 8 [] [(1,hv (AV.d (eL DV.str (rv2.drop 1))))] [.pf (p:=(0:Int)<=1) dk,.ev 0,.pf (lvD DV.str rv2 1)]<|
.rangeX 1 ((rv2.drop 1).length:Int) ((rv2.drop 1).length) rfl (.slot 38) 40 [0,2,4,5,7,38,39] (fun (_:TOp)=>[]) (fun (sv4:TOp)=>[(3,(TOp.b sv4))]) (⟨sv14,[],0,0,0,0,0,0,0,0⟩:TOp) (S_q3_b1 rv1 rv2) (fun (sv4:TOp) =>
.a 17 1 4 (@F_q5_ok sv4) fun rv16=>
.ite (rv16==a0) (
.r (.ret (sv4,0))) (
.c e0_)) (fun _=>
.c e0_) .ret)) (
.r (.brk sv14))
def S_q3 (a0:Y8):SC R_q3 R_q3 :=
.call (@F_q50_ok a0 ([32])) fun rv1 cv1=>
.k 1 1 cv1 [] 1 false<|
.guard [rv1.length<2 ^ 63]<|
.frz 1 (.ev 0) none [4] []<|
.iter [0,2,4] (fun (sv14:Int)=>[(5,(vi sv14))]) (fun _=>[]) 1 (S_q3_b2 a0 rv1) (fun _ =>
.r ((⟨0,[],0,0,0,0,0,0,0,0⟩:TOp),4)) id
def F_q3 (a0:Y8):=(S_q3 a0).den
theorem F_q3_ok {a0:Y8}:FO (F_q3 a0) 20 [(AV.d (DV.str a0))] [] (fun x=>(AV.tup [(TOp.d x.1),(vi x.2)])) NL:=fO (s:=S_q3 a0) Tryz.func20
def S_q28 (a0:TOp):SC Bool Bool :=
.a 1 1 1 (@F_q5_ok a0) fun rv1=>
.r (!(rv1==([])))
def F_q28 (a0:TOp):=(S_q28 a0).den
theorem F_q28_ok {a0:TOp}:FO (F_q28 a0) 15 [(TOp.d a0)] [] vb NL:=fO (s:=S_q28 a0) Tryz.func15
def S_q4n (a0:TRi) (p0:Y8) (p1:Int):SC Bool Bool :=
.r (bif (a0.E==p0) then (a0.H==p1) else false)
def F_q4n (a0:TRi) (p0:Y8) (p1:Int):=(S_q4n a0 p0 p1).den
theorem F_q4n_ok {a0:TRi} {p0:Y8} {p1:Int}:FO (F_q4n a0 p0 p1) 196 [(TRi.d a0),(vp 0),(vp 1)] [(bx (DV.str p0)),(Ob.box (vi p1))] vb (fun _=>[(bx (DV.str p0)),(Ob.box (vi p1))]):=fO (s:=S_q4n a0 p0 p1) Tryz.func196
def S_q29_b1 (a0:(List TRi)) (p0:Y8) (p1:Int) (iv1:Nat) (_:Unit):SC Int (Step (Unit) Int) :=
.call (@F_q4n_ok (a0.getD iv1 dF) p0 p1) fun rv2 cv2=>
.reg 4 [] [(5,hc cv2 [0,1] true)] [.w iv1,.ev 1,.cl 0 cv2 [0,1] 2 true]<|
.ite rv2 (
.r (.ret (iv1:Int))) (
.r (.cont ()))
def S_q29 (a0:(List TRi)) (p0:Y8) (p1:Int):SC Int Int :=
.range (a0.length:Int) a0.length rfl (.slot 0) 8 [0,1,7] (fun (_:Unit)=>[]) (fun _=>[]) () (S_q29_b1 a0 p0 p1) (fun _ => 
.r (-1)) id
def F_q29 (a0:(List TRi)) (p0:Y8) (p1:Int):=(S_q29 a0 p0 p1).den
theorem F_q29_ok {a0:(List TRi)} {p0:Y8} {p1:Int}:FO (F_q29 a0 p0 p1) 195 [(AV.d (eL TRi.e a0)),(AV.fn 196 [(vp 0),(vp 1)])] [(bx (DV.str p0)),(Ob.box (vi p1))] vi (fun _=>[(bx (DV.str p0)),(Ob.box (vi p1))]):=fO (s:=S_q29 a0 p0 p1) Tryz.func195
def S_q34 (a0:TOf) (a1:Y8) (a2:Int):SC Int Int :=
.call (@F_q29_ok a0.G a1 a2) fun rv1 cv1=>
.k 1 3 cv1 [1,2] 3 true<|
.r rv1
def F_q34 (a0:TOf) (a1:Y8) (a2:Int):=(S_q34 a0 a1 a2).den
theorem F_q34_ok {a0:TOf} {a1:Y8} {a2:Int}:FO (F_q34 a0 a1 a2) 163 [(TOf.d a0),(AV.d (DV.str a1)),(vi a2)] [] vi NL:=fO (s:=S_q34 a0 a1 a2) Tryz.func163
def S_q35 (a0:TOf) (a1:Y8) (a2:Int):SC Bool Bool :=
.a 1 3 1 (@F_q34_ok a0 a1 a2) fun rv1=>
.r (decide (rv1>=0))
def F_q35 (a0:TOf) (a1:Y8) (a2:Int):=(S_q35 a0 a1 a2).den
theorem F_q35_ok {a0:TOf} {a1:Y8} {a2:Int}:FO (F_q35 a0 a1 a2) 129 [(TOf.d a0),(AV.d (DV.str a1)),(vi a2)] [] vb NL:=fO (s:=S_q35 a0 a1 a2) Tryz.func129
def S_q2p (a0:TOf) (a1:Y8) (a2:Int):SC TRi TRi :=
.a 1 3 2 (@F_q34_ok a0 a1 a2) fun rv1=>
.ite (decide (rv1>=0)) (
.guard [(0:Int)<=rv1,(rv1).toNat<a0.G.length]<|
.reg 3 [] [] [.ev 0,.ev 1]<|
.r (a0.G.getD ((rv1).toNat) dF)) (
.r (⟨a1,a2,0,0,0⟩:TRi))
def F_q2p (a0:TOf) (a1:Y8) (a2:Int):=(S_q2p a0 a1 a2).den
theorem F_q2p_ok {a0:TOf} {a1:Y8} {a2:Int}:FO (F_q2p a0 a1 a2) 131 [(TOf.d a0),(AV.d (DV.str a1)),(vi a2)] [] (fun x=>(TRi.d x)) NL:=fO (s:=S_q2p a0 a1 a2) Tryz.func131
def S_q2a (a0:Int) (a1:Int) (a2:Int):SC Bool Bool :=
.r (bif (decide (a0>=a1)) then (decide (a0<=a2)) else false)
def F_q2a (a0:Int) (a1:Int) (a2:Int):=(S_q2a a0 a1 a2).den
theorem F_q2a_ok {a0:Int} {a1:Int} {a2:Int}:FO (F_q2a a0 a1 a2) 170 [(vi a0),(vi a1),(vi a2)] [] vb NL:=fO (s:=S_q2a a0 a1 a2) Tryz.func170
def S_q4o (a0:Y8) (a1:Int):SC Bool Bool :=
.call (@F_q4z_ok a0) fun rv1 cv1=>
 let e0_:=(decide ((rv1.length:Int)>0))
.calld [e0_=true] dF (@F_q2a_ok a1 0 99) fun rv2 cv2 =>
.reg 1 [] [(1,hc cv1 [] true),(6,hc cv2 [] true)] [.cl 2 cv1 [] 0 true,.clg 0 [e0_=true] cv2 [] 0 true]<|
.r (bif e0_ then rv2 else false)
def F_q4o (a0:Y8) (a1:Int):=(S_q4o a0 a1).den
theorem F_q4o_ok {a0:Y8} {a1:Int}:FO (F_q4o a0 a1) 197 [(AV.d (DV.str a0)),(vi a1)] [] vb NL:=fO (s:=S_q4o a0 a1) Tryz.func197
def S_q2b (a0:Int):SC Bool Bool :=
.a 1 1 0 (@F_q2a_ok a0 0 1000000000000000) fun rv1=>
.r rv1
def F_q2b (a0:Int):=(S_q2b a0).den
theorem F_q2b_ok {a0:Int}:FO (F_q2b a0) 165 [(vi a0)] [] vb NL:=fO (s:=S_q2b a0) Tryz.func165
def S_q36 (a0:TRi):SC Bool Bool :=
.call (@F_q4o_ok a0.E a0.H) fun rv1 cv1=>
.calld [rv1=true] dF (@F_q2b_ok a0.N) fun rv2 cv2 =>
 let e1_:=(bif rv1 then rv2 else false)
.calld [e1_=true] dF (@F_q2b_ok a0.Aa) fun rv3 cv3 =>
 let e0_:=(bif e1_ then rv3 else false)
.calld [e0_=true] dF (@F_q2a_ok a0.X 0 a0.N) fun rv4 cv4 =>
.reg 1 [] [(4,hc cv1 [] true),(8,hc cv2 [] true),(13,hc cv3 [] true),(20,hc cv4 [] true)] [.cl 6 cv1 [] 1 true,.clg 4 [rv1=true] cv2 [] 1 true,.clg 2 [e1_=true] cv3 [] 1 true,.clg 0 [e0_=true] cv4 [] 1 true]<|
.r (bif e0_ then rv4 else false)
def F_q36 (a0:TRi):=(S_q36 a0).den
theorem F_q36_ok {a0:TRi}:FO (F_q36 a0) 164 [(TRi.d a0)] [] vb NL:=fO (s:=S_q36 a0) Tryz.func164
def S_q3m (a0:TRi) (a1:TMe):SC (TRi×Int) (TRi×Int) :=
.a 1 1 3 (@F_q36_ok a0) fun rv1=>
.ite (cO (cO (cO (!rv1) (a1.Ac != 0)) (!(a1.E==a0.E))) (a1.H != a0.H)) (
.r ((⟨[],0,0,0,0⟩:TRi),1)) (
.call (@F_q2b_ok a1.N) fun rv2 cv2=>
.calld [(!rv2)=false] dF (@F_q2b_ok a1.Aa) fun rv3 cv3 =>
.reg 3 [] [(2,hc cv2 [] true),(7,hc cv3 [] true)] [.cl 2 cv2 [] 3 true,.clg 0 [(!rv2)=false] cv3 [] 3 true]<|
.ite (cO (!rv2) (!rv3)) (
.r ((⟨[],0,0,0,0⟩:TRi),2)) (
.reg 5 [11,13] [] []<|
.r ((⟨a0.E,a0.H,(if a1.N>a0.N then a1.N else a0.N),(if a1.Aa>a0.Aa then a1.Aa else a0.Aa),a0.X⟩:TRi),0)))
def F_q3m (a0:TRi) (a1:TMe):=(S_q3m a0 a1).den
theorem F_q3m_ok {a0:TRi} {a1:TMe}:FO (F_q3m a0 a1) 130 [(TRi.d a0),(TMe.d a1)] [] (fun x=>(AV.tup [(TRi.d x.1),(vi x.2)])) NL:=fO (s:=S_q3m a0 a1) Tryz.func130
end
end Go.Proofs.YtpbnkbjhlhlaiaaGreatDoor
/- What the functions compute,and that their calls return it. No condition. -/
namespace Go.Proofs.YtpbnkbjhlhlaiaaGreatDoor
open Go Go.TA
open Go.IntKind (i64)
noncomputable section
set_option maxRecDepth 100000
def S_q3n (a0:(List TRi)):SC (List TRi) (List TRi) :=
.reg 0 [] [] []<|
.nils 0 (
.guard [a0.length * (2 * 48)<=2 ^ 48]<|
.reg 1 [] [] []<|
.lev 0 (AV.d (eL TRi.e a0)) (.pf (lvQ true a0.length fun j=>(TRi.e (a0.getD j dF))))<|
.br true (.pf (p:=true=true) rfl)<|
.reg 2 [] [] []<|
.bor 5 (fun j=>AV.d (TRi.e (a0.getD j dF))) [2]<|
.cst (A:=a0.length=0) (.ev 1) [(2,AV.ref 0 0 0 0)] [(2,(AV.ref 0 a0.length 0 a0.length))] [(Ob.seq 5 0 fun j=>AV.d (TRi.e (a0.getD j dF)))] [(eS 5 TRi.e a0)] (fun h=>⟨by rw[h],by unfold eS; rw[h]⟩)<|
.r a0) (
.reg 1 [] [] []<|
.lev 0 (AV.d (eL TRi.e a0)) (.pf (lvQ false a0.length fun j=>(TRi.e (a0.getD j dF))))<|
.br false (.pf (p:=false=false) rfl)<|
.guard [a0.length * (2 * 48)<=2 ^ 48]<|
.reg 3 [] [(2,{ h:=.obj })] [.pf (p:=∀ k,k<a0.length->(TRi.d (a0.getD k dF)).wd=5) (fun _ _=>rfl),.ev 0]<|
.r a0)
def F_q3n (a0:(List TRi)):=(S_q3n a0).den
theorem F_q3n_ok {a0:(List TRi)}:FO (F_q3n a0) 166 [(AV.d (eL TRi.e a0))] [] (fun x=>(AV.ref 0 x.length 0 x.length)) (fun x=>[(eS 5 TRi.e x)]):=fO (s:=S_q3n a0) Tryz.func166
def S_q3o (a0:Y8):SC Bool Bool :=
.r (!(a0==a0))
def F_q3o (a0:Y8):=(S_q3o a0).den
theorem F_q3o_ok {a0:Y8}:FO (F_q3o a0) 227 [(AV.d (DV.str a0))] [] vb NL:=fO (s:=S_q3o a0) Tryz.func227
def S_q4p (a0:Y8) (a1:Y8):SC Int Int :=
.a 1 1 0 (@F_q3o_ok a0) fun rv1=>
.a 2 1 0 (@F_q3o_ok a1) fun rv2=>
.ite rv1 (
.ite rv2 (
.r 0) (
.r (-1))) (
.ite rv2 (
.r 1) (
.ite (Op.bytesLess a0 a1) (
.r (-1)) (
.ite (!(Op.bytesLess a0 a1||a0==a1)) (
.r 1) (
.r 0))))
def F_q4p (a0:Y8) (a1:Y8):=(S_q4p a0 a1).den
theorem F_q4p_ok {a0:Y8} {a1:Y8}:FO (F_q4p a0 a1) 220 [(AV.d (DV.str a0)),(AV.d (DV.str a1))] [] vi NL:=fO (s:=S_q4p a0 a1) Tryz.func220
def S_q3p (a0:Int):SC Bool Bool :=
.r (a0 != a0)
def F_q3p (a0:Int):=(S_q3p a0).den
theorem F_q3p_ok {a0:Int}:FO (F_q3p a0) 222 [(vi a0)] [] vb NL:=fO (s:=S_q3p a0) Tryz.func222
def S_q37 (a0:Int) (a1:Int):SC Int Int :=
.a 1 1 0 (@F_q3p_ok a0) fun rv1=>
.a 2 1 0 (@F_q3p_ok a1) fun rv2=>
.ite rv1 (
.ite rv2 (
.r 0) (
.r (-1))) (
.ite rv2 (
.r 1) (
.ite (decide (a0<a1)) (
.r (-1)) (
.ite (decide (a0>a1)) (
.r 1) (
.r 0))))
def F_q37 (a0:Int) (a1:Int):=(S_q37 a0 a1).den
theorem F_q37_ok {a0:Int} {a1:Int}:FO (F_q37 a0 a1) 200 [(vi a0),(vi a1)] [] vi NL:=fO (s:=S_q37 a0 a1) Tryz.func200
def S_q1n_b1 (a0:(List Int)) (a1:(List Int)) (iv1:Nat) (_:Unit):SC Int (Step (Unit) Int) :=
.reg 3 [] [] [.w iv1,.ev 0]<|
.ite (decide ((iv1:Int)>=(a1.length:Int))) (
.r (.ret 1)) (
.guard [iv1<a1.length]<|
.reg 6 [] [] [.w iv1,.ev 0]<|
.a 7 2 0 (@F_q37_ok (a0.getD iv1 dF) (a1.getD iv1 dF)) fun rv2=>
.ite (rv2 != 0) (
.r (.ret rv2)) (
.r (.cont ())))
def S_q1n (a0:(List Int)) (a1:(List Int)):SC Int Int :=
.range (a0.length:Int) a0.length rfl (.slot 0) 11 [0,1,9,10] (fun (_:Unit)=>[]) (fun _=>[]) () (S_q1n_b1 a0 a1) (fun _ => 
.ite (decide ((a0.length:Int)<(a1.length:Int))) (
.r (-1)) (
.r 0)) id
def F_q1n (a0:(List Int)) (a1:(List Int)):=(S_q1n a0 a1).den
theorem F_q1n_ok {a0:(List Int)} {a1:(List Int)}:FO (F_q1n a0 a1) 221 [(vl a0),(vl a1)] [] vi NL:=fO (s:=S_q1n a0 a1) Tryz.func221
def S_q3q (a0:Y8) (a1:Y8):SC Int Int :=
.call (@F_q4z_ok a0) fun rv1 cv1=>
.call (@F_q4z_ok a1) fun rv2 cv2=>
.reg 1 [] [(1,hc cv1 [] true),(3,hc cv2 [] true)] [.cl 1 cv1 [] 0 true,.cl 0 cv2 [] 0 true]<|
.ite (bif ((rv1.length:Int)==0) then ((rv2.length:Int)==0) else false) (
.a 3 2 0 (@F_q4p_ok a0 a1) fun rv3=>
.r rv3) (
.a 4 2 0 (@F_q1n_ok rv1 rv2) fun rv4=>
.r rv4)
def F_q3q (a0:Y8) (a1:Y8):=(S_q3q a0 a1).den
theorem F_q3q_ok {a0:Y8} {a1:Y8}:FO (F_q3q a0 a1) 199 [(AV.d (DV.str a0)),(AV.d (DV.str a1))] [] vi NL:=fO (s:=S_q3q a0 a1) Tryz.func199
def S_q2c_b1 (a0:(List Int)) (iv1:Nat) (_:Unit):SC Int (Step (Unit) Int) :=
.reg 4 [] [] [.w iv1,.ev 0]<|
.ite ((a0.getD iv1 dF) != 0) (
.r (.ret (a0.getD iv1 dF))) (
.r (.cont ()))
def S_q2c (a0:(List Int)):SC Int Int :=
.range (a0.length:Int) a0.length rfl (.slot 6) 8 [3,6,7] (fun (_:Unit)=>[]) (fun _=>[]) () (S_q2c_b1 a0) (fun _ => 
.r 0) id
def F_q2c (a0:(List Int)):=(S_q2c a0).den
theorem F_q2c_ok {a0:(List Int)}:FO (F_q2c a0) 198 [(vl a0)] [] vi NL:=fO (s:=S_q2c a0) Tryz.func198
def S_q2q (a0:TRi) (a1:TRi):SC Int Int :=
.call (@F_q3q_ok a0.E a1.E) fun rv1 cv1=>
.call (@F_q37_ok a0.H a1.H) fun rv2 cv2=>
 let e0_:=([rv1,rv2]:List Int)
.call (@F_q2c_ok e0_) fun rv3 cv3=>
.reg 1 [] [(4,hc cv1 [] true),(9,hc cv2 [] true),(10,hv (vl e0_)),(11,hc cv3 [] true)] [.cl 2 cv1 [] 2 true,.cl 1 cv2 [] 2 true,.pf (zi (DV.i .i64) e0_),.cl 0 cv3 [] 2 true]<|
.r rv3
def F_q2q (a0:TRi) (a1:TRi):=(S_q2q a0 a1).den
theorem F_q2q_ok {a0:TRi} {a1:TRi}:FO (F_q2q a0 a1) 168 [(TRi.d a0),(TRi.d a1)] [] vi NL:=fO (s:=S_q2q a0 a1) Tryz.func168
abbrev R_q1o:=Int×Bool
def S_q1o_b1 (a1:TRi) (p0:(List TRi)) (sv1:Int×Int):SC R_q1o (Step (Int×Int) R_q1o) :=
.ite (decide (sv1.1<sv1.2)) (
.reg 4 [] [] [.pf (p:=(0:Int)<=1) dk]<|
 let e0_:=(i64.wrap ((IntKind.u64.wrap (i64.wrap (sv1.1+sv1.2))).fdiv (2 ^ (min (1:Int).toNat IntKind.u64.bits))))
.call (@F_q2q_ok (p0.getD (0+(e0_).toNat) dF) a1) fun rv2 cv2=>
.guard [(0:Int)<=e0_,(e0_).toNat<p0.length,(0+(e0_).toNat)<p0.length]<|
.reg 5 [] [(6,hc cv2 [] true)] [.e p0.length,.ev 0,.ev 1,.e p0.length,.ev 2,.cl 3 cv2 [] 2 true]<|
.ite (decide (rv2<0)) (
.r (.cont ((i64.wrap (e0_+1)),sv1.2))) (
.r (.cont (sv1.1,e0_)))) (
.r (.brk (sv1.1,sv1.2)))
def S_q1o (a1:TRi) (p0:(List TRi)):SC R_q1o R_q1o :=
.iter [0,2,4,8] (fun (sv1:Int×Int)=>[(9,(vi sv1.1)),(10,(vi sv1.2))]) (fun _=>[]) (0,(p0.length:Int)) (S_q1o_b1 a1 p0) (fun sv1 =>
 let e0_:=(decide (sv1.1<(p0.length:Int)))
.calld [e0_=true] dF (@F_q2q_ok (p0.getD (0+(sv1.1).toNat) dF) a1) fun rv3 cv3 =>
.guard [AllP [e0_=true]->((0:Int)<=sv1.1),AllP [e0_=true]->((sv1.1).toNat<p0.length),AllP [e0_=true]->((0+(sv1.1).toNat)<p0.length)]<|
.reg 8 [] [(11,hc cv3 [] true)] [.pf (p:=AllP [e0_=true]->(p0.length=p0.length)) (fun _=>rfl),.ev 0,.ev 1,.pf (p:=AllP [e0_=true]->(p0.length=p0.length)) (fun _=>rfl),.ev 2,.clg 3 [e0_=true] cv3 [] 2 true]<|
.r (sv1.1,(bif e0_ then (rv3==0) else false))) id
def F_q1o (a1:TRi) (p0:(List TRi)):=(S_q1o a1 p0).den
theorem F_q1o_ok {a1:TRi} {p0:(List TRi)}:FO (F_q1o a1 p0) 167 [(AV.ref 0 p0.length 0 p0.length),(TRi.d a1),(AV.fn 168 [])] [(eS 5 TRi.e p0)] (fun x=>(AV.tup [(vi x.1),(vb x.2)])) (fun _=>[(eS 5 TRi.e p0)]):=fO (s:=S_q1o a1 p0) Tryz.func167
def V_q4x (x:(List TRi)):AV:=.ref 0 x.length 0 x.length
def L_q4x (p1:List TRi) (x:(List TRi)):List Ob:=[eS 5 TRi.e x,eS 5 TRi.e p1]
def F_q4x (a1:Int) (p0 p1:List TRi):Option (List TRi):=match p1 with
 | [y]=>guardP (0<=a1/\a1.toNat<=p0.length/\(p0.length+1) * (4 * 48)<=2 ^ 48) (some (insL p0 a1.toNat y))
 | _=>none
theorem F_q4x_ok {a1:Int} {p0 p1:List TRi} (r:(List TRi)) (h:F_q4x a1 p0 p1=some r):CallOk Tryz.prog 169 [(AV.ref 0 p0.length 0 p0.length),(AV.d (.i .i64 a1)),(AV.ref 1 p1.length 0 p1.length)] [(eS 5 TRi.e p0),(eS 5 TRi.e p1)] (V_q4x r) (L_q4x p1 r):=by
 unfold F_q4x at h
 split at h
 ·rename_i y
  obtain⟨⟨h1,h2,h3⟩,h⟩:=z1b h
  obtain rfl:=yw h
  obtain⟨i,rfl⟩:∃ i:Nat,a1=(i:Int):=⟨a1.toNat,(y46 h1).symm⟩
  exact Ins169.ins_ok (fun _=>rfl) h2 h3
 ·cases h
theorem zx:OLe (bx (DV.agg [(DV.i .i64 0),Z0,(DV.agg [Z0,Z0,Z0,Z0])])) (TOf.b (⟨0,[],(⟨[],[],[],[]⟩:TBo)⟩:TOf)):=zao (DLe.agg (DLeL.cons (DLe.refl _) (DLeL.cons DLe.sl0 (DLeL.cons (DLe.agg (DLeL.cons DLe.sl0 (DLeL.cons DLe.sl0 (DLeL.cons DLe.sl0 (DLeL.cons DLe.sl0 DLeL.nil))))) DLeL.nil))))
def S_q38 (a0:TOf) (a1:TRi):SC TOf TOf :=
 let e1_:=(TOf.b (⟨0,[],(⟨[],[],[],[]⟩:TBo)⟩:TOf))
.reg 0 [] [(2,{ obs:=[(2,e1_)] })] [.pf zx]<|
.call (@F_q3n_ok a0.G) fun rv1 cv1=>
.k 1 2 cv1 [] 3 false<|
.call (@F_q1o_ok a1 rv1) fun rv2 cv2=>
.k 2 3 cv2 [3] 4 true<|
.cut none [2,4] (fun (_:Int×TBo×(List TRi))=>[]) (fun sv3=>[(0,(Ob.box (AV.agg [(vi sv3.1),(AV.ref 3 sv3.2.2.length 0 sv3.2.2.length),(TBo.d sv3.2.1)]))),(3,(eS 5 TRi.e sv3.2.2))]) (
.ite rv2.2 (
 let e2_:=(0+(rv2.1).toNat)
.guard [(0:Int)<=rv2.1,(rv2.1).toNat<rv1.length,e2_<rv1.length]<|
 let e0_:=(rv1.set e2_ a1)
 let e3_:=(eS 5 TRi.e e0_)
.reg 4 [] [(5,{ obs:=[(3,e3_)] })] [.e rv1.length,.ev 0,.ev 1,.e rv1.length,.ev 2,.pf (zu (sz:=5) (e:=TRi.e) (l:=rv1) (i:=e2_) (x:=a1) (fun _=>rfl))]<|
 let e5_:=[(2,(vp 0)),(4,(vp 2))]
.cst (A:=True) (.pf trivial) e5_ e5_ [(Ob.box (AV.agg [(vi a0.F),(AV.ref 3 rv1.length 0 rv1.length),(TBo.d a0.V)])),(TRi.b a1),e1_,e3_] [(Ob.box (AV.agg [(vi a0.F),(AV.ref 3 (e0_.length) 0 (e0_.length)),(TBo.d a0.V)])),(TRi.b a1),e1_,e3_] (fun _=>⟨by simp +zetaDelta only,by simp +zetaDelta only[yl]⟩)<|
.r (.next (a0.F,a0.V,e0_))) (
 let e4_:=([a1]:List TRi)
.call (@F_q4x_ok rv2.1 rv1 e4_) fun rv4 cv4=>
.reg 5 [] [(4,{ h:=.obj,obs:=[(4,(eS 5 TRi.e e4_))] }),(5,hc cv4 [3,4] false)] [.pf (z3v (sz:=5) (e:=TRi.e) (l:=e4_)),.cl 0 cv4 [3,4] 5 false]<|
.r (.next (a0.F,a0.V,rv4)))) fun sv3=>
.guard [sv3.2.2.length<2 ^ 63]<|
.reg 6 [] [] []<|
.frz 3 (.ev 0) none [] [0,2]<|
.r (⟨sv3.1,sv3.2.2,sv3.2.1⟩:TOf)
def F_q38 (a0:TOf) (a1:TRi):=(S_q38 a0 a1).den
theorem F_q38_ok {a0:TOf} {a1:TRi}:FO (F_q38 a0 a1) 132 [(TOf.d a0),(TRi.d a1)] [] (fun x=>(TOf.d x)) NL:=fO (s:=S_q38 a0 a1) Tryz.func132
theorem cz2:LeV (AV.d (DV.agg [(DV.i .i64 0),Z0,(DV.agg [Z0,Z0,Z0,Z0])])) (TOf.d (⟨0,[],(⟨[],[],[],[]⟩:TBo)⟩:TOf)):=z3s rfl (DLe.agg (DLeL.cons (DLe.refl _) (DLeL.cons DLe.sl0 (DLeL.cons (DLe.agg (DLeL.cons DLe.sl0 (DLeL.cons DLe.sl0 (DLeL.cons DLe.sl0 (DLeL.cons DLe.sl0 DLeL.nil))))) DLeL.nil))))
def S_q3r (a0:TOf) (a1:TOp):SC (TOf×Int) (TOf×Int) :=
 let e0_:=(⟨0,[],(⟨[],[],[],[]⟩:TBo)⟩:TOf)
.reg 0 [] [(2,{ obs:=[(2,(TOf.b e0_))] })] [.pf zx]<|
.a 1 2 3 (@F_q4z_ok a1.E) fun rv1=>
 let e1_:=(0,hv (TOf.d e0_))
.ite ((rv1.length:Int)==0) (
.reg 2 [] [e1_] [.pf cz2]<|
.r (e0_,5)) (
.ite (cO (decide (a1.H<0)) (decide (a1.H>99))) (
.reg 4 [] [e1_] [.pf cz2]<|
.r (e0_,2)) (
.a 5 5 3 (@F_q35_ok a0 a1.E a1.H) fun rv2=>
.ite (bif (!rv2) then ((a0.G.length:Int)==60) else false) (
.reg 6 [] [e1_] [.pf cz2]<|
.r (e0_,3)) (
.call (@F_q2p_ok a0 a1.E a1.H) fun rv3 cv3=>
.call (@F_q3m_ok rv3 (⟨0,0,a1.E,a1.H,a1.N,a1.Q,0,0⟩:TMe)) fun rv4 cv4=>
.reg 7 [19,20] [(5,hc cv3 [] true),(15,hc cv4 [] true)] [.cl 1 cv3 [] 3 true,.cl 1 cv3 [] 4 true,.cl 0 cv4 [] 3 true,.cl 0 cv4 [] 4 true]<|
.ite (rv4.2 != 0) (
.reg 9 [] [e1_] [.pf cz2]<|
.r (e0_,rv4.2)) (
.a 10 2 4 (@F_q38_ok a0 rv4.1) fun rv5=>
.r (rv5,0)))))
def F_q3r (a0:TOf) (a1:TOp):=(S_q3r a0 a1).den
theorem F_q3r_ok {a0:TOf} {a1:TOp}:FO (F_q3r a0 a1) 99 [(TOf.d a0),(TOp.d a1)] [] (fun x=>(AV.tup [(TOf.d x.1),(vi x.2)])) NL:=fO (s:=S_q3r a0 a1) Tryz.func99
def S_q1p_b1 (a0:TBo) (a1:Int) (iv1:Nat) (sv2:Int×Int):SC (Int×Int) (Step (Int×Int) (Int×Int)) :=
.reg 3 [] [] [.w iv1,.ev 0]<|
 let e0_:=(a0.B.getD iv1 dF)
.ite ((e0_.L)==a1) (
.r (.cont ((i64.wrap (sv2.1+(e0_.I))),(i64.wrap (sv2.2+(e0_.S)))))) (
.r (.cont (sv2.1,sv2.2)))
def S_q1p (a0:TBo) (a1:Int):SC (Int×Int) (Int×Int) :=
.range (a0.B.length:Int) a0.B.length rfl (.slot 9) 11 [1,9,10] (fun (sv2:Int×Int)=>[(4,(vi sv2.1)),(5,(vi sv2.2))]) (fun _=>[]) (0,0) (S_q1p_b1 a0 a1) (fun sv2 => 
.r (sv2.1,sv2.2)) id
def F_q1p (a0:TBo) (a1:Int):=(S_q1p a0 a1).den
theorem F_q1p_ok {a0:TBo} {a1:Int}:FO (F_q1p a0 a1) 171 [(TBo.d a0),(vi a1)] [] (fun x=>(AV.tup [(vi x.1),(vi x.2)])) NL:=fO (s:=S_q1p a0 a1) Tryz.func171
def S_q1q_b1 (a0:TBo) (a1:Y8) (a2:Int) (iv1:Nat) (sv2:Int):SC Int (Step (Int) Int) :=
.reg 4 [] [] [.w iv1,.ev 0]<|
 let e0_:=(a0.A.getD iv1 dF)
.ite (bif ((e0_.E)==a1) then ((e0_.H)==a2) else false) (
.a 6 3 2 (@F_q1p_ok a0 (e0_.F)) fun rv3=>
.r (.cont (i64.wrap (sv2+(i64.wrap ((i64.wrap ((e0_.I)-(e0_.S)))-rv3.2)))))) (
.c sv2)
def S_q1q (a0:TBo) (a1:Y8) (a2:Int):SC Int Int :=
.range (a0.A.length:Int) a0.A.length rfl (.slot 13) 15 [1,2,3,13,14] (fun (sv2:Int)=>[(7,(vi sv2))]) (fun _=>[]) 0 (S_q1q_b1 a0 a1 a2) (fun sv2 => 
.r sv2) id
def F_q1q (a0:TBo) (a1:Y8) (a2:Int):=(S_q1q a0 a1 a2).den
theorem F_q1q_ok {a0:TBo} {a1:Y8} {a2:Int}:FO (F_q1q a0 a1 a2) 134 [(TBo.d a0),(AV.d (DV.str a1)),(vi a2)] [] vi NL:=fO (s:=S_q1q a0 a1 a2) Tryz.func134
def S_q3s (a0:TRi) (a1:Int) (a2:Int):SC (TRi×Int) (TRi×Int) :=
.call (@F_q36_ok a0) fun rv1 cv1=>
 let e1_:=(i64.wrap (a0.N-a0.X))
.calld [(!rv1)=false] dF (@F_q2a_ok a1 0 e1_) fun rv2 cv2 =>
.reg 1 [] [(1,hc cv1 [] true),(10,hc cv2 [] true)] [.cl 2 cv1 [] 2 true,.clg 0 [(!rv1)=false] cv2 [] 2 true]<|
 let e0_:=(⟨[],0,0,0,0⟩:TRi)
.ite (cO (!rv1) (!rv2)) (
.r (e0_,1)) (
.a 3 1 2 (@F_q2a_ok a2 1 1000000000000000) fun rv3=>
.ite (!rv3) (
.r (e0_,2)) (
.ite (decide (a2>(i64.wrap (e1_-a1)))) (
.r (e0_,15)) (
.r ((⟨a0.E,a0.H,a0.N,a0.Aa,(i64.wrap (a0.X+a2))⟩:TRi),0))))
def F_q3s (a0:TRi) (a1:Int) (a2:Int):=(S_q3s a0 a1 a2).den
theorem F_q3s_ok {a0:TRi} {a1:Int} {a2:Int}:FO (F_q3s a0 a1 a2) 133 [(TRi.d a0),(vi a1),(vi a2)] [] (fun x=>(AV.tup [(TRi.d x.1),(vi x.2)])) NL:=fO (s:=S_q3s a0 a1 a2) Tryz.func133
def S_q3t (a0:TOf) (a1:TOp):SC (TOf×Int) (TOf×Int) :=
 let e0_:=(⟨0,[],(⟨[],[],[],[]⟩:TBo)⟩:TOf)
.reg 0 [] [(2,{ obs:=[(2,(TOf.b e0_))] })] [.pf zx]<|
.a 1 5 3 (@F_q35_ok a0 a1.E a1.H) fun rv1=>
 let e1_:=(0,hv (TOf.d e0_))
.ite (!rv1) (
.reg 2 [] [e1_] [.pf cz2]<|
.r (e0_,6)) (
.call (@F_q2p_ok a0 a1.E a1.H) fun rv2 cv2=>
.call (@F_q1q_ok a0.V a1.E a1.H) fun rv3 cv3=>
.call (@F_q3s_ok rv2 rv3 a1.I) fun rv4 cv4=>
.reg 3 [19,20] [(5,hc cv2 [] true),(12,hc cv3 [] true),(15,hc cv4 [] true)] [.cl 2 cv2 [] 3 true,.cl 2 cv2 [] 4 true,.cl 1 cv3 [] 3 true,.cl 1 cv3 [] 4 true,.cl 0 cv4 [] 3 true,.cl 0 cv4 [] 4 true]<|
.ite (rv4.2 != 0) (
.reg 5 [] [e1_] [.pf cz2]<|
.r (e0_,rv4.2)) (
.a 6 2 4 (@F_q38_ok a0 rv4.1) fun rv5=>
.r (rv5,0)))
def F_q3t (a0:TOf) (a1:TOp):=(S_q3t a0 a1).den
theorem F_q3t_ok {a0:TOf} {a1:TOp}:FO (F_q3t a0 a1) 100 [(TOf.d a0),(TOp.d a1)] [] (fun x=>(AV.tup [(TOf.d x.1),(vi x.2)])) NL:=fO (s:=S_q3t a0 a1) Tryz.func100
def S_qf (a0:Int) (a1:Int) (a2:Int):SC Bool Bool :=
.r (bif (decide (a0>=a1)) then (decide (a0<=a2)) else false)
def F_qf (a0:Int) (a1:Int) (a2:Int):=(S_qf a0 a1 a2).den
theorem F_qf_ok {a0:Int} {a1:Int} {a2:Int}:FO (F_qf a0 a1 a2) 173 [(vi a0),(vi a1),(vi a2)] [] vb NL:=fO (s:=S_qf a0 a1 a2) Tryz.func173
def S_qy (a0:Int):SC Bool Bool :=
.a 1 1 0 (@F_qf_ok a0 0 35990) fun rv1=>
.r rv1
def F_qy (a0:Int):=(S_qy a0).den
theorem F_qy_ok {a0:Int}:FO (F_qy a0) 174 [(vi a0)] [] vb NL:=fO (s:=S_qy a0) Tryz.func174
def S_q4q (a0:Int):SC Bool Bool :=
.r (bif (decide (a0>=0)) then (decide (a0<=36000)) else false)
def F_q4q (a0:Int):=(S_q4q a0).den
theorem F_q4q_ok {a0:Int}:FO (F_q4q a0) 208 [(vi a0)] [] vb NL:=fO (s:=S_q4q a0) Tryz.func208
def S_q16 (a0:Int):SC Int Int :=
.a 1 1 0 (@F_q4q_ok a0) fun rv1=>
.ite (!rv1) (
.r (-1)) (
.reg 3 [] [] [.pf (p:=(360:Int)≠0) dk]<|
.r (i64.wrap (a0.tdiv 360)))
def F_q16 (a0:Int):=(S_q16 a0).den
theorem F_q16_ok {a0:Int}:FO (F_q16 a0) 176 [(vi a0)] [] vi NL:=fO (s:=S_q16 a0) Tryz.func176
def S_q17 (a0:Int):SC Bool Bool :=
.a 1 1 0 (@F_qf_ok a0 1 1000000000000) fun rv1=>
.r rv1
def F_q17 (a0:Int):=(S_q17 a0).den
theorem F_q17_ok {a0:Int}:FO (F_q17 a0) 175 [(vi a0)] [] vb NL:=fO (s:=S_q17 a0) Tryz.func175
def S_q2r (a0:TBo) (a1:TRe):SC Int Int :=
.a 1 3 2 (@F_q1p_ok a0 a1.F) fun rv1=>
.r (i64.wrap ((i64.wrap (a1.I-a1.S))-rv1.1))
def F_q2r (a0:TBo) (a1:TRe):=(S_q2r a0 a1).den
theorem F_q2r_ok {a0:TBo} {a1:TRe}:FO (F_q2r a0 a1) 178 [(TBo.d a0),(TRe.d a1)] [] vi NL:=fO (s:=S_q2r a0 a1) Tryz.func178
def S_q39 (a0:TBo) (a1:Int):SC Bool Bool :=
.guard [(0:Int)<=a1,(a1).toNat<a0.A.length]<|
.reg 1 [] [] [.ev 0,.ev 1]<|
 let e2_:=(a0.A.getD ((a1).toNat) dF)
 let e5_:=((e2_.F)==(i64.wrap (a1+1)))
.calld [e5_=true] dF (@F_q4z_ok (e2_.E)) fun rv1 cv1 =>
 let e3_:=(bif e5_ then (decide ((rv1.length:Int)>0)) else false)
.calld [e3_=true] dF (@F_qf_ok (e2_.H) 0 99) fun rv2 cv2 =>
 let e0_:=(bif e3_ then rv2 else false)
.calld [e0_=true] dF (@F_qy_ok (e2_.O)) fun rv3 cv3 =>
 let e6_:=(bif e0_ then rv3 else false)
.calld [e6_=true] dF (@F_q16_ok (e2_.O)) fun rv4 cv4 =>
 let e1_:=(bif e6_ then (rv4==(e2_.H)) else false)
.calld [e1_=true] dF (@F_q17_ok (e2_.I)) fun rv5 cv5 =>
 let e7_:=(bif e1_ then rv5 else false)
.calld [e7_=true] dF (@F_qf_ok (e2_.S) 0 (e2_.I)) fun rv6 cv6 =>
 let e4_:=(bif e7_ then rv6 else false)
.calld [e4_=true] dF (@F_q2r_ok a0 e2_) fun rv7 cv7 =>
.reg 2 [] [(8,hc cv1 [] true),(15,hc cv2 [] true),(20,hc cv3 [] true),(25,hc cv4 [] true),(33,hc cv5 [] true),(40,hc cv6 [] true),(45,hc cv7 [] true)] [.clg 12 [e5_=true] cv1 [] 2 true,.clg 10 [e3_=true] cv2 [] 2 true,.clg 8 [e0_=true] cv3 [] 2 true,.clg 6 [e6_=true] cv4 [] 2 true,.clg 4 [e1_=true] cv5 [] 2 true,.clg 2 [e7_=true] cv6 [] 2 true,.clg 0 [e4_=true] cv7 [] 2 true]<|
.r (bif e4_ then (decide (rv7>=0)) else false)
def F_q39 (a0:TBo) (a1:Int):=(S_q39 a0 a1).den
theorem F_q39_ok {a0:TBo} {a1:Int}:FO (F_q39 a0 a1) 204 [(TBo.d a0),(vi a1)] [] vb NL:=fO (s:=S_q39 a0 a1) Tryz.func204
def S_q2j_b1 (a0:TBo) (iv1:Nat) (_:Unit):SC Bool (Step (Unit) Bool) :=
.a 4 3 1 (@F_q39_ok a0 (iv1:Int)) fun rv2=>
.ite (!rv2) (
.r (.ret false)) (
.r (.cont ()))
def S_q2j (a0:TBo) (a1:Int):SC Bool Bool :=
.guard [(a1).toNat<2 ^ 63]<|
.range a1 ((a1).toNat) rfl (.why (.ev 0)) 9 [1,2,3,8] (fun (_:Unit)=>[]) (fun _=>[]) () (S_q2j_b1 a0) (fun _ => 
.r (decide (a1<=200))) id
def F_q2j (a0:TBo) (a1:Int):=(S_q2j a0 a1).den
theorem F_q2j_ok {a0:TBo} {a1:Int}:FO (F_q2j a0 a1) 203 [(TBo.d a0),(vi a1),(AV.fn 204 [])] [] vb NL:=fO (s:=S_q2j a0 a1) Tryz.func203
def S_q21_b1 (a0:TBo) (a1:Int) (iv1:Nat) (sv2:Int):SC Int (Step (Int) Int) :=
.reg 4 [] [] [.w iv1,.ev 0]<|
 let e0_:=(a0.C.getD iv1 dF)
.ite ((e0_.P)==a1) (
.r (.cont (i64.wrap (sv2+(e0_.I))))) (
.c sv2)
def S_q21 (a0:TBo) (a1:Int):SC Int Int :=
.range (a0.C.length:Int) a0.C.length rfl (.slot 9) 11 [1,9,10] (fun (sv2:Int)=>[(5,(vi sv2))]) (fun _=>[]) 0 (S_q21_b1 a0 a1) (fun sv2 => 
.r sv2) id
def F_q21 (a0:TBo) (a1:Int):=(S_q21 a0 a1).den
theorem F_q21_ok {a0:TBo} {a1:Int}:FO (F_q21 a0 a1) 213 [(TBo.d a0),(vi a1)] [] vi NL:=fO (s:=S_q21 a0 a1) Tryz.func213
def S_q2s (a0:TBo) (a1:TCo):SC Int Int :=
.a 1 8 2 (@F_q21_ok a0 a1.F) fun rv1=>
.r (i64.wrap ((i64.wrap (a1.I-a1.S))-rv1))
def F_q2s (a0:TBo) (a1:TCo):=(S_q2s a0 a1).den
theorem F_q2s_ok {a0:TBo} {a1:TCo}:FO (F_q2s a0 a1) 180 [(TBo.d a0),(TCo.d a1)] [] vi NL:=fO (s:=S_q2s a0 a1) Tryz.func180
def S_q3a (a0:TBo) (a1:Int):SC Bool Bool :=
.guard [(0:Int)<=a1,(a1).toNat<a0.B.length]<|
.reg 1 [] [] [.ev 0,.ev 1]<|
 let e1_:=(a0.B.getD ((a1).toNat) dF)
 let e6_:=((e1_.F) != (i64.wrap (a1+1)))
.calld [e6_=false] dF (@F_qf_ok (e1_.L) 1 (a0.A.length:Int)) fun rv1 cv1 =>
.reg 2 [] [(11,hc cv1 [] true)] [.clg 0 [e6_=false] cv1 [] 2 true]<|
.ite (cO e6_ (!rv1)) (
.r false) (
 let e5_:=(i64.wrap ((e1_.L)-1))
.guard [(0:Int)<=e5_,(e5_).toNat<a0.A.length]<|
.reg 4 [] [] [.ev 0,.ev 1]<|
.call (@F_qy_ok (e1_.O)) fun rv2 cv2=>
 let e9_:=(a0.A.getD ((e5_).toNat) dF)
 let e3_:=(bif rv2 then (decide ((e1_.O)>=(e9_.O))) else false)
.calld [e3_=true] dF (@F_q16_ok (e1_.O)) fun rv3 cv3 =>
 let e0_:=(bif e3_ then (rv3==(e9_.H)) else false)
.calld [e0_=true] dF (@F_q17_ok (e1_.I)) fun rv4 cv4 =>
 let e7_:=(bif e0_ then rv4 else false)
.calld [e7_=true] dF (@F_qf_ok (e1_.S) 0 (e1_.I)) fun rv5 cv5 =>
 let e4_:=(bif e7_ then rv5 else false)
.calld [e4_=true] dF (@F_qf_ok (e1_.T) 1 1000000) fun rv6 cv6 =>
 let e2_:=(bif e4_ then rv6 else false)
.calld [e2_=true] dF (@F_qy_ok (e1_.W)) fun rv7 cv7 =>
 let e8_:=(bif e2_ then rv7 else false)
.calld [e8_=true] dF (@F_q2s_ok a0 e1_) fun rv8 cv8 =>
.reg 5 [] [(2,hc cv2 [] true),(13,hc cv3 [] true),(21,hc cv4 [] true),(28,hc cv5 [] true),(33,hc cv6 [] true),(38,hc cv7 [] true),(43,hc cv8 [] true)] [.cl 12 cv2 [] 3 true,.clg 10 [e3_=true] cv3 [] 3 true,.clg 8 [e0_=true] cv4 [] 3 true,.clg 6 [e7_=true] cv5 [] 3 true,.clg 4 [e4_=true] cv6 [] 3 true,.clg 2 [e2_=true] cv7 [] 3 true,.clg 0 [e8_=true] cv8 [] 3 true]<|
.r (bif e8_ then (decide (rv8>=0)) else false))
def F_q3a (a0:TBo) (a1:Int):=(S_q3a a0 a1).den
theorem F_q3a_ok {a0:TBo} {a1:Int}:FO (F_q3a a0 a1) 205 [(TBo.d a0),(vi a1)] [] vb NL:=fO (s:=S_q3a a0 a1) Tryz.func205
def S_q2k_b1 (a0:TBo) (iv1:Nat) (_:Unit):SC Bool (Step (Unit) Bool) :=
.a 4 3 1 (@F_q3a_ok a0 (iv1:Int)) fun rv2=>
.ite (!rv2) (
.r (.ret false)) (
.r (.cont ()))
def S_q2k (a0:TBo) (a1:Int):SC Bool Bool :=
.guard [(a1).toNat<2 ^ 63]<|
.range a1 ((a1).toNat) rfl (.why (.ev 0)) 9 [1,2,3,8] (fun (_:Unit)=>[]) (fun _=>[]) () (S_q2k_b1 a0) (fun _ => 
.r (decide (a1<=200))) id
def F_q2k (a0:TBo) (a1:Int):=(S_q2k a0 a1).den
theorem F_q2k_ok {a0:TBo} {a1:Int}:FO (F_q2k a0 a1) 203 [(TBo.d a0),(vi a1),(AV.fn 205 [])] [] vb NL:=fO (s:=S_q2k a0 a1) Tryz.func203
def S_q18 (a0:TBo) (a1:TCo):SC Int Int :=
 let e0_:=(i64.wrap (a1.L-1))
.guard [(0:Int)<=e0_,(e0_).toNat<a0.A.length]<|
.reg 1 [] [] [.ev 0,.ev 1]<|
.r ((a0.A.getD ((e0_).toNat) dF).H)
def F_q18 (a0:TBo) (a1:TCo):=(S_q18 a0 a1).den
theorem F_q18_ok {a0:TBo} {a1:TCo}:FO (F_q18 a0 a1) 179 [(TBo.d a0),(TCo.d a1)] [] vi NL:=fO (s:=S_q18 a0 a1) Tryz.func179
end
end Go.Proofs.YtpbnkbjhlhlaiaaGreatDoor
