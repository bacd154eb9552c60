/- A part of the proof: what the functions compute, and that their calls return it. No condition. -/
import Derived.Test.YtlhikmklpelceaaGreatDoorT8
import Derived.Lib.AppendZerosOnto
import Derived.Test.YtlhikmklpelceaaGreatDoorProg
import Derived.Test.YtlhikmklpelceaaGreatDoorT4
import Derived.Test.YtlhikmklpelceaaGreatDoorG2
import Derived.Test.YtlhikmklpelceaaGreatDoorG3
import Derived.Test.YtlhikmklpelceaaGreatDoorP1
/- slices.Insert of one element, into rows of two kinds. No condition. -/
namespace Go.Proofs.YtlhikmklpelceaaGreatDoor
namespace InsG
open Go Go.TA
open Go.IntKind (i64)
def cL:Code->Code
 | .seq x _=>x
 | _=>.skip
def cR:Code->Code
 | .seq _ y=>y
 | _=>.skip
def cT:Code->Code
 | .cond _ x _=>x
 | _=>.skip
noncomputable def regOps:Code->Array Oper
 | .region _ ops _=>ops
 | _=>#[]
noncomputable def opAt (ops : Array Oper) (i : Nat) : Oper := (ops[i]?).getD { dst := none, op := .move (.tmp 0), type := 0, pos := "", after := #[], guard := none }
noncomputable def ci (ff:Func):Code:=ff.body.getD .skip
section
variable (ff:Func)
noncomputable def R0:Code:=cL (ci ff)
noncomputable def R1:Code:=cL (cR (ci ff))
noncomputable def R2:Code:=cL (cR (cR (ci ff)))
noncomputable def X3:Code:=cL (cR (cR (cR (ci ff))))
noncomputable def R5:Code:=cL (cR (cR (cR (cR (ci ff)))))
noncomputable def X6:Code:=cL (cR (cR (cR (cR (cR (ci ff))))))
noncomputable def T8:Code:=cR (cR (cR (cR (cR (cR (ci ff))))))
noncomputable def R8:Code:=cL (cL (T8 ff))
noncomputable def B9:Code:=cT (cR (cL (T8 ff)))
noncomputable def R9:Code:=cL (B9 ff)
noncomputable def B10:Code:=cR (B9 ff)
noncomputable def C13:Code:=cR (T8 ff)
end
inductive PP:Func->Func->Nat->Nat->Nat->Nat->Nat->Nat->Prop
 | a:PP Tryz.f104 Tryz.f154 104 154 25 45 7 128
 | b:PP Tryz.f269 Tryz.f292 269 292 46 86 5 48
section
variable {ff fo:Func} {nf no tS tE sz bt:Nat}
theorem PP.fF (hp:PP ff fo nf no tS tE sz bt):Tryz.prog.funcs[nf]? = some ff:=by
 cases hp
 ·exact Tryz.func104
 ·exact Tryz.func269
theorem PP.fO (hp:PP ff fo nf no tS tE sz bt):Tryz.prog.funcs[no]? = some fo:=by
 cases hp
 ·exact Tryz.func154
 ·exact Tryz.func292
theorem PP.uS (hp:PP ff fo nf no tS tE sz bt):Tryz.prog.underlying tS=some (.slice tE):=by
 cases hp
 ·exact Tryz.underlying25
 ·exact Tryz.underlying46
theorem PP.zE (hp:PP ff fo nf no tS tE sz bt):∀ w,(Go.sizeOf tE).run Tryz.prog w = .ok sz w:=by
 cases hp
 ·exact Tryz.sizeOf45
 ·exact Tryz.sizeOf86
theorem zqy (hp:PP ff fo nf no tS tE sz bt):ff.body=some (.seq (R0 ff) (.seq (R1 ff) (.seq (R2 ff) (.seq (.seq (cL (X3 ff)) (.cond (.tmp 16) (cT (cR (X3 ff))) .skip)) (.seq (R5 ff) (.seq (.seq (cL (X6 ff)) (.cond (.tmp 22) (cT (cR (X6 ff))) .skip)) (.seq (.seq (R8 ff) (.cond (.tmp 31) (.seq (R9 ff) (B10 ff)) .skip)) (C13 ff)))))))):=by cases hp <;> kernel_rfl
theorem zun (hp:PP ff fo nf no tS tE sz bt):(R8 ff) = .region 8 (regOps (R8 ff)) false:=by cases hp <;> kernel_rfl
theorem zuo (hp:PP ff fo nf no tS tE sz bt):(R9 ff) = .region 9 (regOps (R9 ff)) false:=by cases hp <;> kernel_rfl
end
variable {i zn:Nat} {a:Act} {Q:Exit->Act->World->Prop} {X:Nat->Prop} {ms:Blocks} {w:World}
section
variable {α:Type} [Inhabited α] {e:α->DV} {ff fo:Func} {nf no tS tE sz bt:Nat}
def gB (sz:Nat) (e:α->DV) (l:List α) (i:Nat):Nat->AV:=fun j=>if j<i then .d (e (l.getD j dF)) else garb sz
noncomputable def sB (sz:Nat) (l:List α) (x:α) (i:Nat) (n1:(0:Int)<=i) (h1:i<=l.length+1) (w0:0<=i64.wrap ((i:Int)+1)) (w1:(i64.wrap ((i:Int)+1)).toNat<=l.length+1) (h2:i<=l.length)
  (hx:∀ k,k<1->(AV.d (e ([x].getD (0+k) dF))).wd=sz) (hl:∀ k,k<l.length-i->(AV.d (e (l.getD (0+i+k) dF))).wd=sz)
  (ho:OLe (.seq sz (l.length+1) fun j=>if 0+(i64.wrap ((i:Int)+1)).toNat<=j/\j<0+(i64.wrap ((i:Int)+1)).toNat+min (l.length-i) (l.length+1-(i64.wrap ((i:Int)+1)).toNat) then .d (e (l.getD (0+i+(j-(0+(i64.wrap ((i:Int)+1)).toNat))) dF))
   else if 0+i<=j/\j<0+i+min 1 (l.length+1-i) then .d (e ([x].getD (0+(j-(0+i))) dF)) else gB sz e l i j) (eS sz e (insL l i x))):SC Unit Unit :=
 .reg 10 [] [] [.pf n1,.pf h1,.pf (y2c (l.length+1)),.pf (y2c 1),.pf (y2c (l.length+1)),.pf hx] <|
 .reg 11 [8] [(8,{ obs:=[(2,eS sz e (insL l i x))] })] [.pf w0,.pf w1,.pf (y2c (l.length+1)),.pf n1,.pf h2,.pf (y2c l.length),.pf (y2c l.length),.pf (y2c (l.length+1)),.pf hl,.pf ho] <|
 .ret [] ()
def frI (n i:Nat) (s:AV):Fr:=[(7,.d (.i .i64 1)),(8,.d (.i .i64 (n:Int))),(2,.ref 1 1 0 1),(1,.d (.i .i64 (i:Int))),(0,s)]
theorem tailB (hp:PP ff fo nf no tS tE sz bt) (he:∀ x,(e x).wd=sz) {l:List α} {x:α} (hi:i<l.length) (hl:l.length<100000000000000) :
  AW none Tryz.prog ff.ntmps (B10 ff) (fun e1 fr L=>e1 = .ret/\FR Tryz.prog ff (.ref 2 (l.length+1) 0 (l.length+1)) [eS sz e l,eS sz e [x],eS sz e (insL l i x)] fr L)
   ((9,.ref 2 (l.length+1) 0 (l.length+1)) :: frI l.length i (.ref 0 l.length 0 l.length)) [eS sz e l,eS sz e [x],.seq sz (l.length+1) (gB sz e l i)]:=by
 have hw:i64.wrap ((i:Int)+1)=(i:Int)+1:=by rw[z3p] <;> omega
 exact pTailR (ρ:=Unit) (V:=fun _=>.ref 2 (l.length+1) 0 (l.length+1)) (Lr:=fun _=>[eS sz e l,eS sz e [x],eS sz e (insL l i x)]) (r:=())
  (s:=sB (e:=e) sz l x i om om (by rw[hw]; omega) (by rw[hw]; omega) om (fun k _=>he _) (fun k _=>he _) (by
   rw[hw]
   refine z3i zr.symm fun j hj=>?_
   rw[z1o om,show ((i:Int)+1).toNat=i+1 from om]
   by_cases h1:j<i
   ·rw[y5 om,y5 om,y6 h1,gB,y6 h1]
   ·by_cases h2:j=i
    ·subst h2
     rw[y5 om,y6 om,y5 h1,y6 rfl,show 0+(j-(0+j))=0 from om]
     rfl
    ·rw[y6 om,y5 h1,y5 h2]
     congr 3; omega)) (by cases hp <;> kernel_rfl) rfl
def gC (sz:Nat) (e:α->DV) (l:List α):Nat->AV:=fun j=>if j<l.length then .d (e (l.getD j dF)) else garb sz
noncomputable def sC (sz no:Nat) (l:List α) (x:α) (i:Nat) (a0:(0:Int)<=i64.wrap ((l.length:Int)+1)) (a1:(i64.wrap ((l.length:Int)+1)).toNat<=l.length+1) (a2:(i64.wrap ((l.length:Int)+1)).toNat=l.length+1)
  (w0:(0:Int)<=i64.wrap ((i:Int)+1)) (w1:(i64.wrap ((i:Int)+1)).toNat<=l.length+1) (n1:(0:Int)<=i) (h1:i<=l.length+1)
  (hx:ExtOk Tryz.prog no [.ref 1 1 0 1,.ref 0 (l.length+1) (0+(i64.wrap ((i:Int)+1)).toNat) (l.length+1-(i64.wrap ((i:Int)+1)).toNat)] [.seq sz (l.length+1) (gC sz e l),eS sz e [x]] (.d (.b false)))
  (hg:∀ k,k<l.length+1-i->(gC sz e l (0+i+k)).wd=sz) (hy:∀ k,k<1->(AV.d (e ([x].getD (0+k) dF))).wd=sz)
  (ho:OLe (.seq sz (l.length+1) fun j=>if 0+i<=j/\j<0+i+min 1 (l.length+1-i) then .d (e ([x].getD (0+(j-(0+i))) dF))
   else if 0+(i64.wrap ((i:Int)+1)).toNat<=j/\j<0+(i64.wrap ((i:Int)+1)).toNat+min (l.length+1-i) (l.length+1-(i64.wrap ((i:Int)+1)).toNat) then gC sz e l (0+i+(j-(0+(i64.wrap ((i:Int)+1)).toNat)))
   else gC sz e l j) (eS sz e (insL l i x))):SC Unit Unit :=
 .reg 13 [] [] [.pf a0,.pf a1,.pf (y2c (l.length+1))] <|
 .cst (A:=(i64.wrap ((l.length:Int)+1)).toNat=l.length+1) (.pf a2) [(0,.ref 0 (l.length+1) (0+0) ((i64.wrap ((l.length:Int)+1)).toNat-0)),(1,.d (.i .i64 (i:Int))),(2,.ref 1 1 0 1),(7,.d (.i .i64 1))]
  [(0,.ref 0 (l.length+1) 0 (l.length+1)),(1,.d (.i .i64 (i:Int))),(2,.ref 1 1 0 1),(7,.d (.i .i64 1))]
  [.seq sz (l.length+1) (gC sz e l),eS sz e [x]] [.seq sz (l.length+1) (gC sz e l),eS sz e [x]] (fun h=>⟨by rw[h]; rfl,rfl⟩) <|
 .reg 14 [] [(6,{ h:=.callr (.d (.b false)) })] [.pf w0,.pf w1,.pf (y2c (l.length+1)),.pf hx] <|
 .br true (.pf (p:=(!false)=true) rfl) <|
 .reg 15 [8] [] [.pf w0,.pf w1,.pf (y2c (l.length+1)),.pf n1,.pf h1,.pf (y2c (l.length+1)),.pf (y2c (l.length+1)),.pf (y2c (l.length+1)),.pf hg] <|
 .reg 16 [] [(4,{ obs:=[(0,eS sz e (insL l i x))] })] [.pf n1,.pf h1,.pf (y2c (l.length+1)),.pf (y2c 1),.pf (y2c (l.length+1)),.pf hy,.pf ho] <|
 .reg 17 [] [] [] <|
 .ret [] ()
theorem tailC (hp:PP ff fo nf no tS tE sz bt) (he:∀ x,(e x).wd=sz) {l:List α} {x:α} (hi:i<l.length) (hl:l.length<100000000000000) :
  AW none Tryz.prog ff.ntmps (C13 ff) (FQ Tryz.prog ff (.ref 0 (l.length+1) 0 (l.length+1)) [eS sz e (insL l i x),eS sz e [x]])
   (frI l.length i (.ref 0 (l.length+1) 0 l.length)) [.seq sz (l.length+1) (gC sz e l),eS sz e [x]]:=by
 have hw:i64.wrap ((i:Int)+1)=(i:Int)+1:=by rw[z3p] <;> omega
 have hw2:i64.wrap ((l.length:Int)+1)=(l.length:Int)+1:=by rw[z3p] <;> omega
 have hwd:∀ k,(gC sz e l k).wd=sz:=fun k=>by
  unfold gC
  split
  ·exact he _
  ·cases hp <;> rfl
 exact pTailG (ρ:=Unit) (V:=fun _=>.ref 0 (l.length+1) 0 (l.length+1)) (Lr:=fun _=>[eS sz e (insL l i x),eS sz e [x]]) (r:=())
  (s:=sC (e:=e) sz no l x i (by rw[hw2]; omega) (by rw[hw2]; omega) (by rw[hw2]; omega) (by rw[hw]; omega) (by rw[hw]; omega) om om
   (zit (fn:=fo) (tR:=4) (te:=tE) (sz:=sz) (z1:=sz) (z2:=sz) hp.fO (by cases hp <;> kernel_rfl) (by cases hp <;> kernel_rfl) (by cases hp <;> kernel_rfl) (by cases hp <;> kernel_rfl) hp.uS hp.zE (by cases hp <;> decide) rfl rfl dk rfl (by rw[hw]; omega) (by rw[hw]; omega) (by cases hp <;> decide))
   (fun k _=>hwd _) (fun k _=>he _) (by
   rw[hw]
   refine z3i zr.symm fun j hj=>?_
   rw[z1o om,show ((i:Int)+1).toNat=i+1 from om]
   by_cases h2:j=i
   ·subst h2
    rw[y6 om,y5 om,y6 rfl,show 0+(j-(0+j))=0 from om]
    rfl
   ·rw[y5 om,y5 h2]
    by_cases h1:j<i
    ·rw[y5 om,y6 h1,gC,y6 om]
    ·rw[y6 om,y5 h1,gC,y6 om]
     congr 3; omega)) (by cases hp <;> kernel_rfl) rfl
theorem z5z {c:Cx} {G:GFr} {t:Nat} {v:AV} (hf:FrIs c G a.tmps) (h:(t,[],v)∈G):AV.IsV c v (a.tmps.getD t undef):=(hf _ h).2.1 (fun z hz=>by cases hz)
theorem zup (hp:PP ff fo nf no tS tE sz bt) {l:List α} {x:α} (h0:0<l.length) (hr:Rel X ms [eS sz e l,eS sz e [x]] w) (hf:FrIs (cxOf X ms [eS sz e l,eS sz e [x]] w) (frI l.length i (.ref 0 l.length 0 l.length)).up a.tmps) (hN:a.tmps.size=ff.ntmps) (hQ:∀ a' ms' w' b tc,Rel X ms' [eS sz e l,eS sz e [x]] w'->Ext ms w ms' w'->(cxOf X ms [eS sz e l,eS sz e [x]] w).le (cxOf X ms' [eS sz e l,eS sz e [x]] w')->FrIs (cxOf X ms' [eS sz e l,eS sz e [x]] w') (frI l.length i (.ref 0 l.length 0 l.length)).up a'.tmps ->
   a'.tmps.size=ff.ntmps->a'.defers=a.defers->ms'[0]? = some (some (b,tc))->l.length<=tc->a'.eval (.tmp 0) = .slice (some ⟨b,0,none⟩) l.length tc->a'.eval (.tmp 31) = .bool (decide (i64.wrap ((l.length:Int)+1)>(tc:Int)))->Q .normal a' w') :
  (R8 ff).wpIn (fenceOf none) zn Tryz.prog Q a w:=by
 rw[zun hp]
 refine y5l ?_
 rw[show List.range (regOps (R8 ff)).size=[0,1,2,3]++[4,5] by cases hp <;> kernel_rfl]
 refine zfm (hs:=[]) (C:=[]) (L1:=[eS sz e l,eS sz e [x]]) (G1:=[(29,[],.ref 0 l.length 0 l.length),(28,[],.d (.i .i64 (i64.wrap ((l.length:Int)+1)))),(27,[],.d (.i .i64 1)),(26,[],.d (.i .i64 (l.length:Int))),
  (7,[],.d (.i .i64 1)),(8,[],.d (.i .i64 (l.length:Int))),(2,[],.ref 1 1 0 1),(1,[],.d (.i .i64 (i:Int))),(0,[],.ref 0 l.length 0 l.length)]) (by cases hp <;> kernel_rfl) trivial hr hf hN fun a1 ms1 w1 r1 e1 c1 f1 n1 d1=>?_
 have k1:=IsV.is1 rfl sj sj (z5z f1 (t:=29) (v:=.ref 0 l.length 0 l.length) sj)
 have k0:=IsV.is1 rfl sj sj (z5z f1 (t:=0) (v:=.ref 0 l.length 0 l.length) sj)
 have at0:∀ {t:Nat} {v:Value},a1.tmps.getD t undef=v->AV.Is (cxOf X ms1 [eS sz e l,eS sz e [x]] w1) (.ref 0 l.length 0 l.length) [v]->∃ b tc,ms1[0]? = some (some (b,tc))/\l.length<=tc/\v = .slice (some ⟨b,0,none⟩) l.length tc:=fun {t v} _ h=>by
  cases h with
  | ref _ _ _ _ _ h =>
  obtain⟨_,⟨_,_,rfl⟩,_,h⟩:=h
  obtain⟨_,h⟩:=h sz _ rfl
  rcases h with ⟨_,_,h⟩ | ⟨h,_⟩ | ⟨b,tc,m,h1,h2⟩
  ·simp only[y39] at h; omega
  ·exact absurd rfl h
  ·exact⟨b,tc,m,h1,by simpa using h2⟩
 obtain⟨b,tc,m1,hle,h29⟩:=at0 rfl k1
 obtain⟨b',tc',m1',_,h0'⟩:=at0 rfl k0
 have e1':=m1'.symm.trans m1
 cases e1'
 refine zjw (o:=opAt (regOps (R8 ff)) 4) (by cases hp <;> kernel_rfl) (by cases hp <;> kernel_rfl) (OpOk.value (zrt (x:=.tmp 29) (t:=tS) (by cases hp <;> kernel_rfl) hp.uS h29) ?_)
 rw[show (opAt (regOps (R8 ff)) 4).dst=some 30 by cases hp <;> kernel_rfl]
 obtain⟨p1,p2,p3⟩:=z5w (dst:=some 30) (ch:=[]) (v:=.d (.i .i64 (tc:Int))) (u:=.int .i64 tc) (G:=[(29,[],.ref 0 l.length 0 l.length),(28,[],.d (.i .i64 (i64.wrap ((l.length:Int)+1)))),(27,[],.d (.i .i64 1)),(26,[],.d (.i .i64 (l.length:Int))),
  (7,[],.d (.i .i64 1)),(8,[],.d (.i .i64 (l.length:Int))),(2,[],.ref 1 1 0 1),(1,[],.d (.i .i64 (i:Int))),(0,[],.ref 0 l.length 0 l.length)]) (G1:=(30,[],.d (.i .i64 (tc:Int))) :: [(29,[],.ref 0 l.length 0 l.length),(28,[],.d (.i .i64 (i64.wrap ((l.length:Int)+1)))),(27,[],.d (.i .i64 1)),(26,[],.d (.i .i64 (l.length:Int))),
  (7,[],.d (.i .i64 1)),(8,[],.d (.i .i64 (l.length:Int))),(2,[],.ref 1 1 0 1),(1,[],.d (.i .i64 (i:Int))),(0,[],.ref 0 l.length 0 l.length)]) (N:=ff.ntmps) (by cases hp <;> kernel_rfl) n1 f1 (fun _=>.one _ _ rfl (.d _ _ (.i _ _))) (fun h=>absurd (fun z hz=>by cases hz) h)
 refine z2r (hs:=[]) none zn [5] _ _ ([(31,[],.d (.b (decide (i64.wrap ((l.length:Int)+1)>(tc:Int)))))]++(30,[],.d (.i .i64 (tc:Int))) :: [(29,[],.ref 0 l.length 0 l.length),(28,[],.d (.i .i64 (i64.wrap ((l.length:Int)+1)))),(27,[],.d (.i .i64 1)),(26,[],.d (.i .i64 (l.length:Int))),
  (7,[],.d (.i .i64 1)),(8,[],.d (.i .i64 (l.length:Int))),(2,[],.ref 1 1 0 1),(1,[],.d (.i .i64 (i:Int))),(0,[],.ref 0 l.length 0 l.length)]) [eS sz e l,eS sz e [x]] [] ms1 w1 _ (by cases hp <;> kernel_rfl) trivial r1 p1 p2 fun a2 ms2 w2 r2 e2 c2 f2 n2 d2=>?_
 have m2:ms2[0]? = some (some (b,tc)):=by
  obtain⟨_,h1,_,_,h2⟩:=c2.ob 0 (eS sz e l) (by simp[cxOf]) rfl (by simp[eS,Ob.stamp])
  obtain rfl:_=eS sz e l:=yz h1.symm
  exact (h2 rfl).trans m1
 have k0':=IsV.is1 rfl sj sj (z5z f2 (t:=0) (v:=.ref 0 l.length 0 l.length) sj)
 have h0'':a2.tmps.getD 0 undef = .slice (some ⟨b,0,none⟩) l.length tc:=by
  generalize a2.tmps.getD 0 undef=v at k0'
  cases k0' with
  | ref _ _ _ _ _ h =>
  obtain⟨_,⟨_,_,rfl⟩,_,h⟩:=h
  obtain⟨_,h⟩:=h sz _ rfl
  rcases h with ⟨_,_,h⟩ | ⟨h,_⟩ | ⟨b'',tc'',m,h1,h2⟩
  ·simp only[y39] at h; omega
  ·exact absurd rfl h
  ·have e:=m2.symm.trans m
   cases e
   simpa using h2
 exact hQ a2 ms2 w2 b tc r2 (e1.trans e2) (c1.trans c2) (fun q hq=>f2 q (by
  simp only[frI,Fr.up,y3i,List.map_nil,y15,y2s,y4i] at hq
  rcases hq with rfl | rfl | rfl | rfl | rfl <;> simp)) n2 (d2.trans (p3.trans d1)) m2 hle h0'' (IsV.b (z5z f2 (t:=31) (v:=.d (.b (decide (i64.wrap ((l.length:Int)+1)>(tc:Int))))) sj))
theorem zuq (hp:PP ff fo nf no tS tE sz bt) {l:List α} {x:α} (hi:i<l.length) (hl:(l.length+1) * (4 * bt)<=2 ^ 48) {b:Nat} (hr:Rel X ms [eS sz e l,eS sz e [x]] w) (hf:FrIs (cxOf X ms [eS sz e l,eS sz e [x]] w) (frI l.length i (.ref 0 l.length 0 l.length)).up a.tmps) (hN:a.tmps.size=ff.ntmps) (hm:ms[0]? = some (some (b,l.length))) (hQ:∀ a' ms' w',Rel X ms' [eS sz e l,eS sz e [x],.seq sz (l.length+1) (gB sz e l i)] w'->Ext ms w ms' w'->(cxOf X ms [eS sz e l,eS sz e [x]] w).le (cxOf X ms' [eS sz e l,eS sz e [x],.seq sz (l.length+1) (gB sz e l i)] w') ->
   FrIs (cxOf X ms' [eS sz e l,eS sz e [x],.seq sz (l.length+1) (gB sz e l i)] w') (Fr.up ((9,.ref 2 (l.length+1) 0 (l.length+1)) :: frI l.length i (.ref 0 l.length 0 l.length))) a'.tmps ->
   a'.tmps.size=ff.ntmps->a'.defers=a.defers->Q .normal a' w') :
  (R9 ff).wpIn (fenceOf none) zn Tryz.prog Q a w:=by
 have hn:l.length<100000000000000:=by cases hp <;> omega
 have hw2:i64.wrap ((l.length:Int)+1)=(l.length:Int)+1:=by rw[z3p] <;> omega
 have hw3:i64.wrap (i64.wrap ((l.length:Int)+1)-(i:Int))=((l.length+1-i:Nat):Int):=by rw[hw2,z3p] <;> omega
 rw[zuo hp]
 refine y5l ?_
 rw[show List.range (regOps (R9 ff)).size=[0,1,2,3,4,5,6,7]++[8,9] by cases hp <;> kernel_rfl]
 refine zfm (hs:=[]) (C:=[(0:Int)<=(i:Int),i<=l.length,l.length=l.length]) (L1:=[eS sz e l,eS sz e [x]]) (G1:=[(39,[],.d (.i .i64 (i64.wrap (i64.wrap ((l.length:Int)+1)-(i:Int))))),(38,[],.d (.i .i64 (i:Int))),(37,[],.d (.i .i64 (i64.wrap ((l.length:Int)+1)))),
  (36,[],.d (.i .i64 1)),(35,[],.d (.i .i64 (l.length:Int))),(34,[],.ref 0 l.length (0+0) (i-0)),(33,[],.d (.i .i64 (i:Int))),(32,[],.ref 0 l.length 0 l.length),
  (7,[],.d (.i .i64 1)),(8,[],.d (.i .i64 (l.length:Int))),(2,[],.ref 1 1 0 1),(1,[],.d (.i .i64 (i:Int))),(0,[],.ref 0 l.length 0 l.length)]) (by cases hp <;> kernel_rfl) ⟨om,om,rfl,trivial⟩ hr hf hN fun a1 ms1 w1 r1 e1 c1 f1 n1 d1=>?_
 have m1:ms1[0]? = some (some (b,l.length)):=by
  obtain⟨_,h1,_,_,h2⟩:=c1.ob 0 (eS sz e l) (by simp[cxOf]) rfl (by simp[eS,Ob.stamp])
  obtain rfl:_=eS sz e l:=yz h1.symm
  exact (h2 rfl).trans hm
 have k34:=IsV.is1 rfl sj sj (z5z f1 (t:=34) (v:=.ref 0 l.length (0+0) (i-0)) sj)
 have h34:a1.eval (.tmp 34) = .slice (some ⟨b,0,none⟩) i l.length:=by
  show a1.tmps.getD 34 undef=_
  generalize a1.tmps.getD 34 undef=v at k34
  cases k34 with
  | ref _ _ _ _ _ h =>
  obtain⟨_,⟨_,_,rfl⟩,_,h⟩:=h
  obtain⟨_,h⟩:=h sz _ rfl
  rcases h with ⟨h,_⟩ | ⟨h,_⟩ | ⟨b'',tc'',m,h1,h2⟩
  ·have e:some (none:Option (Nat×Nat))=some (some (b,l.length)):=h.symm.trans m1
   cases e
  ·exact absurd rfl h
  ·have e:=m1.symm.trans m
   cases e
   simpa using h2
 have h39:a1.eval (.tmp 39) = .int .i64 ((l.length+1-i:Nat):Int):=by
  have:=IsV.i (z5z f1 (t:=39) (v:=.d (.i .i64 (i64.wrap (i64.wrap ((l.length:Int)+1)-(i:Int))))) sj)
  rw[hw3] at this
  exact this
 obtain⟨arr,ty,cs,g1,g2,g3,g4,g5,g6⟩:=r1.seq (o:=0) rfl m1
 obtain⟨info,hinf⟩:∃ info,Tryz.prog.info? tE=some info:=⟨_,Option.eq_some_of_isSome (by cases hp <;> kernel_rfl)⟩
 have hsz:info.size=sz:=by
  have:(Tryz.prog.info? tE).map (·.size)=some sz:=by cases hp <;> kernel_rfl
  rw[hinf] at this; simpa using this
 have hby:info.bytes=bt:=by
  have:(Tryz.prog.info? tE).map (·.bytes)=some bt:=by cases hp <;> kernel_rfl
  rw[hinf] at this; simpa using this
 obtain⟨z,hz⟩:∃ z,info.zero=some z:=by
  have:((Tryz.prog.info? tE).bind (·.zero)).isSome=true:=by cases hp <;> kernel_rfl
  rw[hinf] at this
  exact y30.1 this
 have hzs:z.cells.size=sz:=by
  have:((Tryz.prog.info? tE).bind (·.zero)).map (fun z=>z.cells.size)=some sz:=by cases hp <;> kernel_rfl
  rw[hinf] at this
  simpa [hz] using this
 have hzone:∀ v∈z.cells.toList,v.oneCell'=true:=by
  have:((Tryz.prog.info? tE).bind (·.zero)).map (fun z=>z.cells.toList.all fun v=>v.oneCell')=some true:=by cases hp <;> kernel_rfl
  rw[hinf] at this
  have h:z.cells.toList.all (fun v=>v.oneCell')=true:=by simpa [hz] using this
  exact y1n.1 h
 have hcsi:∀ k,k<i->(cs k).length=sz:=fun k hk=>g5 k om
 have hold:(Builtin.firstCells info.size i (.slice (some ⟨b,0,none⟩) i l.length)).run Tryz.prog w1.drew = .ok ((List.range i).flatMap cs).toArray w1.drew:=by
  rw[hsz]
  exact z4b (w:=w1) (w1:=w1.drew) (off:=0) (cap:=l.length) rfl g1 hcsi (fun k hk j hj=>by simpa using g6 k om j hj) i
 have hfit:Builtin.nextslicecap (i+(l.length+1-i)) l.length * info.bytes<=281474976710656:=by
  have h1:=z7t (need:=i+(l.length+1-i)) (old:=l.length) om
  rw[hby]
  cases hp <;> omega
 have hap:=Lib.run_append_grow_zeros (P:=Tryz.prog) w1 tS 3 (opAt (regOps (R9 ff)) 8).type tE info z .i64 .i64 hp.uS Tryz.underlying3 hinf hz (some ⟨b,0,none⟩) i l.length ((List.range i).flatMap cs) hold (l.length+1-i) (by cases hp <;> omega) (by cases hp <;> omega) (by cases hp <;> omega) (by cases hp <;> omega) (by rw[hby]; cases hp <;> omega) hfit
 rw[show i+(l.length+1-i)=l.length+1 from om] at hap
 obtain⟨nc,hnc⟩:∃ nc,nc=grownCap w1 (l.length+1) l.length tE:=⟨_,rfl⟩
 have hge:=grownCap_ge w1 (l.length+1) l.length tE
 rw[<- hnc] at hap hge
 obtain⟨row,hrow⟩:∃ row:Array Value,row=((List.range i).flatMap cs).toArray++Builtin.zeroCells z.cells (l.length+1-i)++Builtin.zeroCells z.cells (nc-(l.length+1)):=⟨_,rfl⟩
 rw[<- hrow] at hap
 have hkl:=zh i sz cs hcsi
 have hrs:row.size=nc * sz:=by
  rw[hrow,y3r,y3r,y2a,hkl,y4u,y4u,hzs]
  cases hp <;> omega
 have hone:∀ v∈row.toList,v.oneCell'=true:=by
  rw[hrow]
  simp only[y3b,y1o]
  rintro v ((hv | hv) | hv)
  ·exact z3d (fun k (hk:k<i)=>g4 k om) v hv
  ·exact z4p hzone _ v hv
  ·exact z4p hzone _ v hv
 have hget:∀ k,k<i->∀ j,j<sz->row[k * sz+j]? = (cs k)[j]? := fun k hk j hj=>by
  rw[hrow,<- y1f]
  simp only[y3b,y2u]
  rw[ym (by rw[hkl]; cases hp <;> omega)]
  exact zj? i sz cs hcsi k j hk hj
 have hcl:∀ j,j<l.length+1->((row.toList.drop (j * sz)).take sz).length=sz:=fun j hj=>by
  simp only[y1g,y3d,y1u,hrs]
  cases hp <;> omega
 obtain⟨w2,hw⟩:∃ w2,w2=w1.drew.alloc (.cells row tE):=⟨_,rfl⟩
 rw[<- hw] at hap
 have hgrow:Grow w1 w2:=by rw[hw]; exact (Grow.drew w1).trans (Grow.alloc _ _)
 have hhp:w2.heap[w1.heap.size]? = some (.cells row tE (0,0)):=by rw[hw]; exact z2k w1.drew _
 have hsize:w1.heap.size<w2.heap.size:=zd8 hhp
 obtain⟨q1,q2,q3⟩:=r1.push (m:=some (w1.heap.size,nc)) (obj:=.seq sz (l.length+1) (gB sz e l i)) hgrow (fun b tc e=>by cases e; exact⟨yf _,hsize⟩) (fun hcx=>by
  refine .inr ⟨w1.heap.size,nc,row,tE,fun j=>if j<i then cs j else (row.toList.drop (j * sz)).take sz,by simp[cxOf,<- r1.len],hhp,hge,⟨hrs,hone⟩,fun j hj=>?_,fun j hj=>?_,fun j hj q hq=>?_⟩
  ·by_cases hji:j<i
   ·simp only[gB,y6 hji]; exact (g4 j om).mono hcx
   ·simp only[gB,y5 hji,garb]
    have:=zei (c:=cxOf X (ms1++[some (w1.heap.size,nc)]) ([eS sz e l,eS sz e [x]]++[.seq sz (l.length+1) (gB sz e l i)]) w2) (l:=(row.toList.drop (j * sz)).take sz) fun v hv=>hone v (y3u (y3g hv))
    rw[hcl j hj] at this
    exact .agg _ _ this
  ·by_cases hji:j<i
   ·simp only[y6 hji]; exact g5 j om
   ·simp only[y5 hji]; exact hcl j hj
  ·by_cases hji:j<i
   ·simp only[y6 hji]; exact hget j hji q hq
   ·simp only[y5 hji]
    rw[y1v hq,y2f,y1f])
 have hexec:(execOp a1.eval (opAt (regOps (R9 ff)) 8)).run Tryz.prog w1 = .ok (.value (.slice (some ⟨w1.heap.size,0,none⟩) (l.length+1) nc)) w2:=by
  have hop:(opAt (regOps (R9 ff)) 8).op = .call ⟨.builtin .append,#[.tmp 34,.tmp 39],#[tS,3]⟩:=by cases hp <;> kernel_rfl
  generalize opAt (regOps (R9 ff)) 8=o at hop hap
  obtain⟨dst,op,ty,pos,after,guard⟩:=o
  subst hop
  refine z14 (s:=Builtin.append_ #[tS,3] ty (#[.tmp 34,.tmp 39].map a1.eval)) ?_
  have ha:(#[.tmp 34,.tmp 39]:Array Operand).map a1.eval = #[.slice (some ⟨b,0,none⟩) i l.length,.int .i64 ((l.length+1-i:Nat):Int)]:=by
   simp[h34,h39]
  rw[ha]
  exact hap
 refine zjw (o:=opAt (regOps (R9 ff)) 8) (by cases hp <;> kernel_rfl) (by cases hp <;> kernel_rfl) (OpOk.value hexec ?_)
 rw[show (opAt (regOps (R9 ff)) 8).dst=some 40 by cases hp <;> kernel_rfl]
 obtain⟨p1,p2,p3⟩:=z5w (dst:=some 40) (ch:=[]) (v:=.ref 2 (l.length+1) 0 (l.length+1)) (u:=.slice (some ⟨w1.heap.size,0,none⟩) (l.length+1) nc) (G:=(frI l.length i (.ref 0 l.length 0 l.length)).up)
  (G1:=(40,[],.ref 2 (l.length+1) 0 (l.length+1)) :: (frI l.length i (.ref 0 l.length 0 l.length)).up) (N:=ff.ntmps) (by cases hp <;> kernel_rfl) n1 (fun q hq=>(f1.mono q3) q (by
  simp only[frI,Fr.up,y3i,List.map_nil,y15,y2s,y4i] at hq
  rcases hq with rfl | rfl | rfl | rfl | rfl <;> simp)) (fun _=>z8n r1.len hge) (fun h=>absurd (fun z hz=>by cases hz) h)
 refine z2r (hs:=[]) none zn [9] _ _ ((9,[],.ref 2 (l.length+1) 0 (l.length+1)) :: (40,[],.ref 2 (l.length+1) 0 (l.length+1)) :: (frI l.length i (.ref 0 l.length 0 l.length)).up) [eS sz e l,eS sz e [x],.seq sz (l.length+1) (gB sz e l i)] [] _ w2 _ (by cases hp <;> kernel_rfl) trivial q1 p1 p2 fun a2 ms2 w3 r2 e2 c2 f2 n2 d2=>?_
 exact hQ a2 ms2 w3 r2 ((e1.trans q2).trans e2) ((c1.trans q3).trans c2) (fun q hq=>f2 q (by
  rcases y15.1 (show q∈(9,[],AV.ref 2 (l.length+1) 0 (l.length+1)) :: (frI l.length i (.ref 0 l.length 0 l.length)).up from hq) with hq | hq
  ·exact y15.2 (.inl hq)
  ·exact y15.2 (.inr (y15.2 (.inr hq))))) n2 (d2.trans (p3.trans d1))
theorem regc {N:Nat} {Q:Post} {fr fr' fr2:Fr} {L L':List Ob} {id:Nat} {c:Code} {C:List Prop} (hq:c = .region id (regOps c) false) (h:regionRun Tryz.prog (regOps c) N [] fr L=some (fr',L',C)) (hc:AllP C)
  (hm:∀ q∈fr2,q∈fr') (k:Q .normal fr2 L'):AW none Tryz.prog N c Q fr L:=by
 have:=zru (id:=id) (Q:=Q) h hc hm k
 rwa [<- hq] at this
theorem head (hp:PP ff fo nf no tS tE sz bt) (_he:∀ x,(e x).wd=sz) {l:List α} {x:α} (hi:i<l.length) (Q:Post) (h:AW none Tryz.prog ff.ntmps (.seq (.seq (R8 ff) (.cond (.tmp 31) (.seq (R9 ff) (B10 ff)) .skip)) (C13 ff)) Q (frI l.length i (.ref 0 l.length 0 l.length)) [eS sz e l,eS sz e [x]]) :
  AW none Tryz.prog ff.ntmps (.seq (R0 ff) (.seq (R1 ff) (.seq (R2 ff) (.seq (.seq (cL (X3 ff)) (.cond (.tmp 16) (cT (cR (X3 ff))) .skip)) (.seq (R5 ff) (.seq (.seq (cL (X6 ff)) (.cond (.tmp 22) (cT (cR (X6 ff))) .skip)) (.seq (.seq (R8 ff) (.cond (.tmp 31) (.seq (R9 ff) (B10 ff)) .skip)) (C13 ff)))))))) Q
   (argFr [.ref 0 l.length 0 l.length,.d (.i .i64 (i:Int)),.ref 1 1 0 1] 0) [eS sz e l,eS sz e [x]]:=by
 have hne:((i:Int)==(l.length:Int))=false:=sk
 refine z5g (regc (L':=[eS sz e l,eS sz e [x]]) (id:=0) (C:=[]) (fr':=(6,.full 0 fun _=>.b false) :: argFr [.ref 0 l.length 0 l.length,.d (.i .i64 (i:Int)),.ref 1 1 0 1] 0) (fr2:=argFr [.ref 0 l.length 0 l.length,.d (.i .i64 (i:Int)),.ref 1 1 0 1] 0)
  (by cases hp <;> kernel_rfl) (by cases hp <;> kernel_rfl) trivial (fun q hq=>y1c _ hq) ?_)
 refine z5g (regc (L':=[eS sz e l,eS sz e [x]]) (id:=1) (C:=[(0:Int)<=(i:Int),i<=l.length,l.length=l.length]) (fr':=(12,.ref 0 l.length (0+i) (l.length-i)) :: (11,.d (.i .i64 (i:Int))) :: (10,.ref 0 l.length 0 l.length) :: argFr [.ref 0 l.length 0 l.length,.d (.i .i64 (i:Int)),.ref 1 1 0 1] 0)
  (fr2:=argFr [.ref 0 l.length 0 l.length,.d (.i .i64 (i:Int)),.ref 1 1 0 1] 0)
  (by cases hp <;> kernel_rfl) (by cases hp <;> kernel_rfl) ⟨om,om,rfl,trivial⟩ (fun q hq=>y1c _ (y1c _ (y1c _ hq))) ?_)
 refine z5g (regc (L':=[eS sz e l,eS sz e [x]]) (id:=2) (C:=[]) (fr':=(7,.d (.i .i64 1)) :: (14,.d (.i .i64 1)) :: (13,.ref 1 1 0 1) :: argFr [.ref 0 l.length 0 l.length,.d (.i .i64 (i:Int)),.ref 1 1 0 1] 0)
  (fr2:=[(7,.d (.i .i64 1)),(2,.ref 1 1 0 1),(1,.d (.i .i64 (i:Int))),(0,.ref 0 l.length 0 l.length)])
  (by cases hp <;> kernel_rfl) (by cases hp <;> kernel_rfl) trivial (fun q hq=>by
   simp only[y15,y2s,y4i] at hq
   simp only[argFr,y15,y2s,y4i]
   rcases hq with rfl | rfl | rfl | rfl <;> simp) ?_)
 refine z5g (z5g (regc (L':=[eS sz e l,eS sz e [x]]) (id:=3) (C:=[]) (fr':=(16,.d (.b false)) :: (15,.d (.i .i64 1)) :: [(7,.d (.i .i64 1)),(2,.ref 1 1 0 1),(1,.d (.i .i64 (i:Int))),(0,.ref 0 l.length 0 l.length)])
  (fr2:=[(16,.d (.b false)),(7,.d (.i .i64 1)),(2,.ref 1 1 0 1),(1,.d (.i .i64 (i:Int))),(0,.ref 0 l.length 0 l.length)])
  (by cases hp <;> kernel_rfl) (by cases hp <;> kernel_rfl) trivial (fun q hq=>by
   simp only[y15,y2s,y4i] at hq |-
   rcases hq with rfl | rfl | rfl | rfl | rfl <;> simp) ?_))
 refine zbi (b:=false) rfl (fun h=>by cases h) fun _=>zea ?_
 refine z5g (regc (L':=[eS sz e l,eS sz e [x]]) (id:=5) (C:=[]) (fr':=(8,.d (.i .i64 (l.length:Int))) :: (19,.d (.i .i64 (l.length:Int))) :: (18,.ref 0 l.length 0 l.length) :: [(16,.d (.b false)),(7,.d (.i .i64 1)),(2,.ref 1 1 0 1),(1,.d (.i .i64 (i:Int))),(0,.ref 0 l.length 0 l.length)])
  (fr2:=frI l.length i (.ref 0 l.length 0 l.length))
  (by cases hp <;> kernel_rfl) (by cases hp <;> kernel_rfl) trivial (fun q hq=>by
   simp only[frI,y15,y2s,y4i] at hq |-
   rcases hq with rfl | rfl | rfl | rfl | rfl <;> simp) ?_)
 refine z5g (z5g (regc (L':=[eS sz e l,eS sz e [x]]) (id:=6) (C:=[]) (fr':=(22,.d (.b ((i:Int)==(l.length:Int)))) :: (21,.d (.i .i64 (l.length:Int))) :: (20,.d (.i .i64 (i:Int))) :: frI l.length i (.ref 0 l.length 0 l.length))
  (fr2:=(22,.d (.b ((i:Int)==(l.length:Int)))) :: frI l.length i (.ref 0 l.length 0 l.length))
  (by cases hp <;> kernel_rfl) (by cases hp <;> kernel_rfl) trivial (fun q hq=>by
   rcases y15.1 hq with rfl | hq
   ·exact y1t
   ·exact y1c _ (y1c _ (y1c _ hq))) ?_))
 refine zbi (b:=((i:Int)==(l.length:Int))) rfl (fun h=>by rw[hne] at h; cases h) fun _=>zea ?_
 exact zmm h fun q hq=>⟨q.2,y1c _ hq,LeV.refl _⟩
theorem zur (hp:PP ff fo nf no tS tE sz bt) (he:∀ x,(e x).wd=sz) {l:List α} {x:α} (hi:i<l.length) (hl:(l.length+1) * (4 * bt)<=2 ^ 48) :
  AW none Tryz.prog ff.ntmps (.seq (.seq (R8 ff) (.cond (.tmp 31) (.seq (R9 ff) (B10 ff)) .skip)) (C13 ff))
   (fun e1 fr L=>FQ Tryz.prog ff (.ref 0 (l.length+1) 0 (l.length+1)) [eS sz e (insL l i x),eS sz e [x]] e1 fr L \/
    FQ Tryz.prog ff (.ref 2 (l.length+1) 0 (l.length+1)) [eS sz e l,eS sz e [x],eS sz e (insL l i x)] e1 fr L)
   (frI l.length i (.ref 0 l.length 0 l.length)) [eS sz e l,eS sz e [x]]:=by
 have hn:l.length<100000000000000:=by cases hp <;> omega
 have hw2:i64.wrap ((l.length:Int)+1)=(l.length:Int)+1:=by rw[z3p] <;> omega
 intro zn df X ms w a hr hf hN hd
 refine y50 (y50 (zup hp om hr hf hN fun a1 ms1 w1 b tc r1 e1 c1 f1 n1 d1 m1 hle h0e h31=>?_))
 by_cases hcap:l.length+1<=tc
 ·refine wpIn_cond_false (h31.trans (by rw[hw2]; simp; omega)) (wpIn_skip ?_)
  obtain⟨q1,q3⟩:=r1.room (o:=0) (n':=l.length+1) rfl m1 om hcap
  refine y2p (tailC hp he hi hn zn df X ms1 w1 a1 q1 (fun q hq=>?_) n1 (d1.trans hd)) ?_
  ·simp only[frI,Fr.up,y3i,List.map_nil,y15,y2s,y4i] at hq
   have f1':=f1.mono q3
   rcases hq with rfl | rfl | rfl | rfl | rfl
   ·exact f1' _ (by simp[frI,Fr.up])
   ·exact f1' _ (by simp[frI,Fr.up])
   ·exact f1' _ (by simp[frI,Fr.up])
   ·exact f1' _ (by simp[frI,Fr.up])
   ·obtain⟨s1,s2,s3⟩:=f1 (0,[],.ref 0 l.length 0 l.length) (by simp[frI,Fr.up])
    refine⟨s1,fun _=>?_,s3⟩
    have h0e':a1.tmps.getD 0 undef = .slice (some ⟨b,0,none⟩) l.length tc:=h0e
    rw[h0e']
    refine .one _ _ rfl (.ref _ _ _ _ _ ⟨by simp[cxOf],⟨_,_,rfl⟩,fun obj s ho hs=>?_,fun sz' f' hL'=>⟨om,.inr (.inr ⟨b,tc,m1,hcap,sj⟩)⟩⟩)
    obtain rfl:=yz ho
    simp[Ob.stamp] at hs; omega
  ·rintro e2 a2 w2 ⟨ms2,fr2,L2,hq,r2,e3,c3,f3,n3,d3⟩
   exact⟨ms2,fr2,L2,.inl hq,r2,e1.trans e3,(c1.trans q3).trans c3,f3,n3,d3⟩
 ·have htc:tc=l.length:=om
  subst htc
  refine wpIn_cond_true (h31.trans (by rw[hw2]; simp; omega)) (y50 (zuq hp hi hl r1 f1 n1 m1 fun a2 ms2 w2 r2 e2 c2 f2 n2 d2=>?_))
  refine y2p (tailB hp he hi hn zn df X ms2 w2 a2 r2 f2 n2 ((d2.trans d1).trans hd)) ?_
  rintro e3 a3 w3 ⟨ms3,fr3,L3,⟨rfl,hq⟩,r3,e3,c3,f3,n3,d3⟩
  exact⟨ms3,fr3,L3,.inr ⟨.inr rfl,hq⟩,r3,(e1.trans e2).trans e3,(c1.trans c2).trans c3,f3,n3,d3⟩
theorem ztn (hp:PP ff fo nf no tS tE sz bt) (he:∀ x,(e x).wd=sz) {l:List α} {x:α} (hi:i<l.length) (hl:(l.length+1) * (4 * bt)<=2 ^ 48) :
  CallOk Tryz.prog nf [.ref 0 l.length 0 l.length,.d (.i .i64 (i:Int)),.ref 1 1 0 1] [eS sz e l,eS sz e [x]] (.ref 0 (l.length+1) 0 (l.length+1)) [eS sz e (insL l i x),eS sz e [x]]:=by
 intro X ms w us hr hu
 have hlen:=zr (l:=l) (i:=i) (x:=x)
 refine (zpo (L:=[eS sz e l,eS sz e [x]]) (v:=.ref 0 (l.length+1) 0 (l.length+1)) (v3:=.ref 2 (l.length+1) 0 (l.length+1)) hp.fF (zqy hp) (y2y (by cases hp <;> kernel_rfl)) sj rfl (lsOk (n:=2) (L:=[eS sz e (insL l i x),eS sz e [x]]) ⟨fun _ _=>rfl,fun _ _=>rfl,trivial⟩)
  sj rfl (lsOk (n:=3) (L:=[eS sz e l,eS sz e [x],eS sz e (insL l i x)]) ⟨fun _ _=>rfl,fun _ _=>rfl,fun _ _=>rfl,trivial⟩) (head hp (x:=x) he hi _ (zur hp he hi hl)) hr hu).mono fun e1 w1 h=>?_
 rcases h with h | ⟨u,ms1,rfl,h1,h2,h3,h4⟩
 ·exact h
 ·rw[<- hlen] at h4 |-
  obtain⟨ms2,k1,k2,k3,k4⟩:=third hr hlen h1 h2 h3 h4
  exact⟨u,ms2,rfl,k1,k2,k3,k4⟩
noncomputable def sE (sz bt:Nat) (l:List α) (x:α) (a1:(0:Int)<=(l.length:Int)) (a2:l.length<=l.length) (a3:((l.length:Int)==(l.length:Int))=true)
  (hx:∀ k,k<1->(AV.d (e ([x].getD k dF))).wd=sz) (hs:(l.length+1) * (2 * bt)<=2 ^ 48)
  (ho:OLe (.seq sz (l.length+1) (catF l.length (fun j=>.d (e (l.getD j dF))) (fun j=>.d (e ([x].getD j dF))))) (eS sz e (insL l l.length x))):SC Unit Unit :=
 .reg 0 [] [] [] <|
 .reg 1 [] [] [.pf a1,.pf a2,.pf (y2c l.length)] <|
 .reg 2 [] [] [] <|
 .reg 3 [] [] [] <|
 .br false (.pf (p:=((1:Int)==0)=false) dk) <|
 .reg 5 [] [] [] <|
 .reg 6 [] [] [] <|
 .br true (.pf a3) <|
 .reg 7 [] [(2,{ obs:=[(0,eS sz e (insL l l.length x))] })] [.pf (y2c 1),.pf (y2c l.length),.pf (y2c l.length),.pf hx,.pf hs,.pf ho] <|
 .ret [] ()
set_option maxRecDepth 100000 in
theorem zto (hp:PP ff fo nf no tS tE sz bt) (he:∀ x,(e x).wd=sz) {l:List α} {x:α} (hl:(l.length+1) * (4 * bt)<=2 ^ 48) :
  CallOk Tryz.prog nf [.ref 0 l.length 0 l.length,.d (.i .i64 (l.length:Int)),.ref 1 1 0 1] [eS sz e l,eS sz e [x]] (.ref 0 (l.length+1) 0 (l.length+1)) [eS sz e (insL l l.length x),eS sz e [x]] :=
 fOk (ρ:=Unit) (V:=fun _=>.ref 0 (l.length+1) 0 (l.length+1)) (Lr:=fun _=>[eS sz e (insL l l.length x),eS sz e [x]]) (r:=())
  (s:=sE (e:=e) sz bt l x om (yf _) sj (fun k _=>he _) (by cases hp <;> omega) (by
   refine z3i zr.symm fun j hj=>?_
   rw[z1o (yf _)]
   by_cases h1:j<l.length
   ·rw[z1u h1,y6 h1]
   ·have h2:j=l.length:=om
    subst h2
    rw[z1x om,y5 om,y6 rfl,y4s]
    rfl)) hp.fF (zqy hp) (by cases hp <;> kernel_rfl) rfl
theorem ins_ok (hp:PP ff fo nf no tS tE sz bt) (he:∀ x,(e x).wd=sz) {l:List α} {x:α} (hi:i<=l.length) (hl:(l.length+1) * (4 * bt)<=2 ^ 48) :
  CallOk Tryz.prog nf [.ref 0 l.length 0 l.length,.d (.i .i64 (i:Int)),.ref 1 1 0 1] [eS sz e l,eS sz e [x]] (.ref 0 (insL l i x).length 0 (insL l i x).length) [eS sz e (insL l i x),eS sz e [x]]:=by
 rw[zr]
 rcases y10 i l.length with h | h
 ·exact ztn hp he h hl
 ·obtain rfl:i=l.length:=om
  exact zto hp he hl
end
end InsG
end Go.Proofs.YtlhikmklpelceaaGreatDoor
/- The shapes of data. No condition. -/
namespace Go.Proofs.YtlhikmklpelceaaGreatDoor
open Go Go.TA
open Go.IntKind (i64)
abbrev Z0:DV:=DV.sl 0 fun _=>DV.b false
structure TTape where
 l:(List Int)
 at_:Int
 deriving Inhabited
def TTape.e (x:TTape):DV:=.agg [(eL (DV.i .i64) x.l),(DV.i .i64 x.at_)]
abbrev TTape.d (x:TTape):AV:=AV.d (TTape.e x)
abbrev TTape.b (x:TTape):Ob:=bx (TTape.e x)
structure TPo where
 D:Y8
 E:Int
 W:Int
 A:(List Int)
 L:(List Int)
 K:(List Int)
 P:(List Int)
 deriving Inhabited
def TPo.e (x:TPo):DV:=.agg [(DV.str x.D),(DV.i .i64 x.E),(DV.i .i64 x.W),(eL (DV.i .i64) x.A),(eL (DV.i .i64) x.L),(eL (DV.i .i64) x.K),(eL (DV.i .i64) x.P)]
abbrev TPo.d (x:TPo):AV:=AV.d (TPo.e x)
abbrev TPo.b (x:TPo):Ob:=bx (TPo.e x)
structure TTr where
 N:Int
 B:(List TPo)
 deriving Inhabited
def TTr.e (x:TTr):DV:=.agg [(DV.i .i64 x.N),(eL TPo.e x.B)]
abbrev TTr.d (x:TTr):AV:=AV.d (TTr.e x)
abbrev TTr.b (x:TTr):Ob:=bx (TTr.e x)
structure TOp where
 Q:Int
 D:Y8
 E:Int
 Z:Int
 Of:Int
 S:Int
 Ah:Int
 Aj:Int
 A:Int
 Af:Int
 deriving Inhabited
def TOp.e (x:TOp):DV:=.agg [(DV.i .i64 x.Q),(DV.str x.D),(DV.i .i64 x.E),(DV.i .i64 x.Z),(DV.i .i64 x.Of),(DV.i .i64 x.S),(DV.i .i64 x.Ah),(DV.i .i64 x.Aj),(DV.i .i64 x.A),(DV.i .i64 x.Af)]
abbrev TOp.d (x:TOp):AV:=AV.d (TOp.e x)
abbrev TOp.b (x:TOp):Ob:=bx (TOp.e x)
structure TJo where
 Y:Int
 Ab:(List TOp)
 Ag:Int
 deriving Inhabited
def TJo.e (x:TJo):DV:=.agg [(DV.i .i64 x.Y),(eL TOp.e x.Ab),(DV.i .i64 x.Ag)]
abbrev TJo.d (x:TJo):AV:=AV.d (TJo.e x)
abbrev TJo.b (x:TJo):Ob:=bx (TJo.e x)
structure TMe where
 Aa:Int
 To:Int
 D:Y8
 E:Int
 A:Int
 K:Int
 M:Int
 P:Int
 deriving Inhabited
def TMe.e (x:TMe):DV:=.agg [(DV.i .i64 x.Aa),(DV.i .i64 x.To),(DV.str x.D),(DV.i .i64 x.E),(DV.i .i64 x.A),(DV.i .i64 x.K),(DV.i .i64 x.M),(DV.i .i64 x.P)]
abbrev TMe.d (x:TMe):AV:=AV.d (TMe.e x)
abbrev TMe.b (x:TMe):Ob:=bx (TMe.e x)
structure TWo where
 F:TTr
 H:(List TJo)
 V:(List TMe)
 deriving Inhabited
def TWo.e (x:TWo):DV:=.agg [(TTr.e x.F),(eL TJo.e x.H),(eL TMe.e x.V)]
abbrev TWo.d (x:TWo):AV:=AV.d (TWo.e x)
abbrev TWo.b (x:TWo):Ob:=bx (TWo.e x)
structure TSt where
 Q:Int
 Y:Int
 Op:TOp
 D:Y8
 E:Int
 S:Int
 Ai:Int
 deriving Inhabited
def TSt.e (x:TSt):DV:=.agg [(DV.i .i64 x.Q),(DV.i .i64 x.Y),(TOp.e x.Op),(DV.str x.D),(DV.i .i64 x.E),(DV.i .i64 x.S),(DV.i .i64 x.Ai)]
abbrev TSt.d (x:TSt):AV:=AV.d (TSt.e x)
abbrev TSt.b (x:TSt):Ob:=bx (TSt.e x)
structure TRe where
 O:Int
 D:Y8
 E:Int
 Z:Int
 S:Int
 Ad:Int
 deriving Inhabited
def TRe.e (x:TRe):DV:=.agg [(DV.i .i64 x.O),(DV.str x.D),(DV.i .i64 x.E),(DV.i .i64 x.Z),(DV.i .i64 x.S),(DV.i .i64 x.Ad)]
abbrev TRe.d (x:TRe):AV:=AV.d (TRe.e x)
abbrev TRe.b (x:TRe):Ob:=bx (TRe.e x)
structure TCo where
 O:Int
 X:Int
 Z:Int
 S:Int
 Ad:Int
 Ah:Int
 Aj:Int
 deriving Inhabited
def TCo.e (x:TCo):DV:=.agg [(DV.i .i64 x.O),(DV.i .i64 x.X),(DV.i .i64 x.Z),(DV.i .i64 x.S),(DV.i .i64 x.Ad),(DV.i .i64 x.Ah),(DV.i .i64 x.Aj)]
abbrev TCo.d (x:TCo):AV:=AV.d (TCo.e x)
abbrev TCo.b (x:TCo):Ob:=bx (TCo.e x)
structure TVe where
 O:Int
 Ac:Int
 Z:Int
 S:Int
 deriving Inhabited
def TVe.e (x:TVe):DV:=.agg [(DV.i .i64 x.O),(DV.i .i64 x.Ac),(DV.i .i64 x.Z),(DV.i .i64 x.S)]
abbrev TVe.d (x:TVe):AV:=AV.d (TVe.e x)
abbrev TVe.b (x:TVe):Ob:=bx (TVe.e x)
structure TOr where
 O:Int
 U:Int
 Ak:Int
 Z:Int
 Al:Bool
 deriving Inhabited
def TOr.e (x:TOr):DV:=.agg [(DV.i .i64 x.O),(DV.i .i64 x.U),(DV.i .i64 x.Ak),(DV.i .i64 x.Z),(DV.b x.Al)]
abbrev TOr.d (x:TOr):AV:=AV.d (TOr.e x)
abbrev TOr.b (x:TOr):Ob:=bx (TOr.e x)
structure TBo where
 C:(List TRe)
 G:(List TCo)
 I:(List TVe)
 T:(List TOr)
 deriving Inhabited
def TBo.e (x:TBo):DV:=.agg [(eL TRe.e x.C),(eL TCo.e x.G),(eL TVe.e x.I),(eL TOr.e x.T)]
abbrev TBo.d (x:TBo):AV:=AV.d (TBo.e x)
abbrev TBo.b (x:TBo):Ob:=bx (TBo.e x)
structure TRi where
 D:Y8
 E:Int
 A:Int
 K:Int
 M:Int
 deriving Inhabited
def TRi.e (x:TRi):DV:=.agg [(DV.str x.D),(DV.i .i64 x.E),(DV.i .i64 x.A),(DV.i .i64 x.K),(DV.i .i64 x.M)]
abbrev TRi.d (x:TRi):AV:=AV.d (TRi.e x)
abbrev TRi.b (x:TRi):Ob:=bx (TRi.e x)
structure TOf where
 O:Int
 J:(List TRi)
 Ae:TBo
 deriving Inhabited
def TOf.e (x:TOf):DV:=.agg [(DV.i .i64 x.O),(eL TRi.e x.J),(TBo.e x.Ae)]
abbrev TOf.d (x:TOf):AV:=AV.d (TOf.e x)
abbrev TOf.b (x:TOf):Ob:=bx (TOf.e x)
structure TCa where
 w:TWo
 deriving Inhabited
def TCa.e (x:TCa):DV:=.agg [(TWo.e x.w)]
abbrev TCa.d (x:TCa):AV:=AV.d (TCa.e x)
abbrev TCa.b (x:TCa):Ob:=bx (TCa.e x)
structure TLi where
 D:Y8
 E:Int
 S:Int
 deriving Inhabited
def TLi.e (x:TLi):DV:=.agg [(DV.str x.D),(DV.i .i64 x.E),(DV.i .i64 x.S)]
abbrev TLi.d (x:TLi):AV:=AV.d (TLi.e x)
abbrev TLi.b (x:TLi):Ob:=bx (TLi.e x)
end Go.Proofs.YtlhikmklpelceaaGreatDoor
/- What the functions compute,and that their calls return it. No condition. -/
namespace Go.Proofs.YtlhikmklpelceaaGreatDoor
open Go Go.TA
open Go.IntKind (i64)
noncomputable section
set_option maxRecDepth 100000
def S_q2y (a0:(List Int)):SC TTape TTape :=
 let e0_:=(if 500<(a0.length:Int) then 500 else (a0.length:Int))
.guard [(0:Int)<=e0_,(e0_).toNat<=a0.length]<|
 let e1_:=(a0.take ((e0_).toNat))
.reg 1 [] [(4,hv (vl e1_))] [.ev 0,.ev 1,.der (fun (h0:(e0_).toNat<=a0.length)=>lvT (DV.i .i64) a0 h0) 1]<|
.r (⟨e1_,0⟩:TTape)
def F_q2y (a0:(List Int)):=(S_q2y a0).den
theorem F_q2y_ok {a0:(List Int)}:FO (F_q2y a0) 4 [(vl a0)] [] (fun _=>(vp 0)) (fun x=>[(TTape.b x)]):=fO (s:=S_q2y a0) Tryz.func4
def S_q4 (a1:Int) (p0:TTape):SC (Int×TTape) (Int×TTape) :=
.ite (decide (p0.at_>=(p0.l.length:Int))) (
.r (0,p0)) (
.guard [(0:Int)<=p0.at_,(p0.at_).toNat<p0.l.length,(a1:Int)≠0]<|
.reg 3 [] [] [.ev 0,.ev 1,.ev 2]<|
 let e0_:=((p0.l.getD ((p0.at_).toNat) dF).tmod a1)
 let e1_:=(⟨p0.l,(i64.wrap (p0.at_+1))⟩:TTape)
.ite (decide (e0_<0)) (
.r ((i64.wrap (e0_+a1)),e1_)) (
.r (e0_,e1_)))
def F_q4 (a1:Int) (p0:TTape):=(S_q4 a1 p0).den
theorem F_q4_ok {a1:Int} {p0:TTape}:FO (F_q4 a1 p0) 8 [(vp 0),(vi a1)] [(TTape.b p0)] (fun x=>(vi x.1)) (fun x=>[(TTape.b x.2)]):=fO (s:=S_q4 a1 p0) Tryz.func8
def S_qr (a1:Int) (a2:Int) (p0:TTape):SC (Int×TTape) (Int×TTape) :=
.call (@F_q4_ok (i64.wrap ((i64.wrap (a2-a1))+1)) p0) fun r3 c3=>
.reg 1 [] [(6,hc c3 [0] false)] [.cl 0 c3 [0] 1 false]<|
.r ((i64.wrap (a1+r3.1)),r3.2)
def F_qr (a1:Int) (a2:Int) (p0:TTape):=(S_qr a1 a2 p0).den
theorem F_qr_ok {a1:Int} {a2:Int} {p0:TTape}:FO (F_qr a1 a2 p0) 6 [(vp 0),(vi a1),(vi a2)] [(TTape.b p0)] (fun x=>(vi x.1)) (fun x=>[(TTape.b x.2)]):=fO (s:=S_qr a1 a2 p0) Tryz.func6
theorem cz1:OLe (bx (DV.agg [(DV.agg [(DV.i .i64 0),Z0]),Z0,Z0])) (TWo.b (⟨(⟨0,[]⟩:TTr),[],[]⟩:TWo)):=z50 (DLe.agg (DLeL.cons (DLe.agg (DLeL.cons (DLe.refl _) (DLeL.cons DLe.sl0 DLeL.nil))) (DLeL.cons DLe.sl0 (DLeL.cons DLe.sl0 DLeL.nil))))
theorem cz2:LeV (AV.d (DV.agg [(DV.agg [(DV.i .i64 0),Z0]),Z0,Z0])) (TWo.d (⟨(⟨0,[]⟩:TTr),[],[]⟩:TWo)):=z2p rfl (DLe.agg (DLeL.cons (DLe.agg (DLeL.cons (DLe.refl _) (DLeL.cons DLe.sl0 DLeL.nil))) (DLeL.cons DLe.sl0 (DLeL.cons DLe.sl0 DLeL.nil))))
def S_q1a_b1 (a0:Int) (s8:TTr×(List TMe)×(List TJo)×Int):SC (TWo×Int) (Step (TTr×(List TMe)×(List TJo)×Int) (TWo×Int)) :=
.ite (decide (s8.2.2.2<=a0)) (
.guard [(s8.2.2.1.length+1) * (2 * 40)<=2 ^ 48]<|
 let e1_:=(⟨s8.2.2.2,[],0⟩:TJo)
 let e0_:=([e1_]:List TJo)
 let e2_:=(s8.2.2.1++e0_)
.reg 7 [] [(3,hv (TJo.d e1_)),(4,hv (AV.d (eL TJo.e e0_))),(5,{ cast:=some (AV.ref 2 (e2_.length) 0 (e2_.length)),obs:=[(2,(eS 3 TJo.e e2_))] })] [.pf (p:=LeV (AV.d (DV.agg [(DV.i .i64 s8.2.2.2),Z0,(DV.i .i64 0)])) (TJo.d e1_)) (z2p rfl (DLe.agg (DLeL.cons (DLe.refl _) (DLeL.cons DLe.sl0 (DLeL.cons (DLe.refl _) DLeL.nil))))),.pf (ze TJo.e e0_),.e s8.2.2.1.length,.e s8.2.2.1.length,.pf (p:=∀ k,k<1->(TJo.d (e0_.getD k dF)).wd=3) (fun _ _=>rfl),.ev 0,.pf (z11 (o:=2) (l:=s8.2.2.1) (x:=e0_)),.pf (z13 (sz:=3) (e:=TJo.e) (l:=s8.2.2.1) (x:=e0_))]<|
.r (.cont (s8.1,s8.2.1,e2_,(i64.wrap (s8.2.2.2+1))))) (
.r (.brk (s8.1,s8.2.1,s8.2.2.1,s8.2.2.2)))
def S_q1a (a0:Int):SC (TWo×Int) (TWo×Int) :=
 let e0_:=(⟨(⟨0,[]⟩:TTr),[],[]⟩:TWo)
 let e4_:=(TWo.b e0_)
.reg 0 [] [(0,{ obs:=[(0,e4_)] })] [.pf cz1]<|
.ite (cO (decide (a0<1)) (decide (a0>6))) (
.reg 2 [] [(0,hv (TWo.d e0_))] [.pf cz2]<|
.r (e0_,2)) (
 let e1_:=(TTr.d (⟨a0,[]⟩:TTr))
.reg 3 [] [(1,hv e1_),(2,{ h:=.obj }),(3,{ h:=.obj })] [.pf (p:=LeV (AV.d (DV.agg [(DV.i .i64 a0),Z0])) e1_) (z2p rfl (DLe.agg (DLeL.cons (DLe.refl _) (DLeL.cons DLe.sl0 DLeL.nil))))]<|
 let e2_:=[(0,(vi a0)),(2,(vp 0)),(4,(vp 1))]
 let e3_:=(AV.full 0 fun _=>DV.b false)
.sh (A:=True) (.pf trivial) e2_ e2_ [e4_,(Ob.box (AV.agg [e1_,e3_,e3_]))] [e4_,(Ob.box (AV.agg [e1_,(AV.ref 2 0 0 0),(AV.d (eL TMe.e ([]:List TMe)))])),(eS 3 TJo.e ([]:List TJo))] (fun _=>(z2f (sz:=3) (f:=fun j=>AV.d (TJo.e (([]:List TJo).getD j dF))) (.keep _ _ _ _ (y16 rfl) (.box _ _ _ _ _ (y16 rfl) (TrV.agg (TrL.cons (TrV.keep _) (TrL.cons TrV.born (TrL.cons TrV.full TrL.nil)))) (.nil _))))) (z1d (k:=0) rfl (TrS.keep _) (z1d (k:=1) rfl (TrS.keep _) (z1d (k:=2) rfl (TrS.keep _) z32)))<|
.iter [0,2,4] (fun (s8:TTr×(List TMe)×(List TJo)×Int)=>[(5,(vi s8.2.2.2))]) (fun s8=>[(1,(Ob.box (AV.agg [(TTr.d s8.1),(AV.ref 2 s8.2.2.1.length 0 s8.2.2.1.length),(AV.d (eL TMe.e s8.2.1))]))),(2,(eS 3 TJo.e s8.2.2.1))]) ((⟨a0,[]⟩:TTr),([]:List TMe),([]:List TJo),1) (S_q1a_b1 a0) (fun s8 =>
.guard [s8.2.2.1.length<2 ^ 63]<|
.reg 8 [] [] []<|
.frz 2 (.ev 0) none [] [0,1]<|
.r ((⟨s8.1,s8.2.2.1,s8.2.1⟩:TWo),0)) id)
def F_q1a (a0:Int):=(S_q1a a0).den
theorem F_q1a_ok {a0:Int}:FO (F_q1a a0) 16 [(vi a0)] [] (fun x=>(AV.tup [(TWo.d x.1),(vi x.2)])) NL:=fO (s:=S_q1a a0) Tryz.func16
def S_qu (a1:(List Int)) (p0:TTape):SC (Int×TTape) (Int×TTape) :=
.call (@F_q4_ok (a1.length:Int) p0) fun rv1 cv1=>
.guard [(0:Int)<=rv1.1,(rv1.1).toNat<a1.length]<|
.reg 1 [] [(4,hc cv1 [0] false)] [.cl 2 cv1 [0] 1 false,.ev 0,.ev 1]<|
.r ((a1.getD ((rv1.1).toNat) dF),rv1.2)
def F_qu (a1:(List Int)) (p0:TTape):=(S_qu a1 p0).den
theorem F_qu_ok {a1:(List Int)} {p0:TTape}:FO (F_qu a1 p0) 37 [(vp 0),(vl a1)] [(TTape.b p0)] (fun x=>(vi x.1)) (fun x=>[(TTape.b x.2)]):=fO (s:=S_qu a1 p0) Tryz.func37
def S_qk_b1 (a0:Y8) (sv1:Int×Int×Int):SC Bool (Step (Int×Int×Int) Bool) :=
.ite (decide (sv1.2.2<(a0.length:Int))) (
.guard [(0:Int)<=sv1.2.2,(sv1.2.2).toNat<a0.length]<|
.reg 6 [] [] [.ev 0,.ev 1]<|
 let e0_:=((a0.getD ((sv1.2.2).toNat) 0).toNat:Int)
 let e2_:=(i64.wrap (sv1.2.2+1))
.ite (e0_==46) (
.ite (sv1.1==0) (
.r (.ret false)) (
.r (.cont (0,(i64.wrap (sv1.2.1+1)),e2_)))) (
 let e3_:=(decide (e0_<48))
 let e1_:=(cO e3_ (decide (e0_>57)))
 let e4_:=((sv1.2.2).toNat<a0.length)
.guard [AllP [e3_=false]->((0:Int)<=sv1.2.2),AllP [e3_=false]->e4_,AllP [(sv1.1==0)=true,e1_=false]->((0:Int)<=sv1.2.2),AllP [(sv1.1==0)=true,e1_=false]->e4_]<|
.reg 11 [] [] [.ev 5,.ev 6,.ev 0,.ev 1,.ev 2,.ev 3]<|
.ite (cO (cO e1_ (bif (sv1.1==0) then (e0_==48) else false)) (sv1.1==2)) (
.r (.ret false)) (
.r (.cont ((i64.wrap (sv1.1+1)),sv1.2.1,e2_))))) (
.r (.brk (sv1.1,sv1.2.1,sv1.2.2)))
def S_qk (a0:Y8):SC Bool Bool :=
.iter [0] (fun (sv1:Int×Int×Int)=>[(3,(vi sv1.1)),(4,(vi sv1.2.1)),(5,(vi sv1.2.2))]) (fun _=>[]) (0,1,0) (S_qk_b1 a0) (fun sv1 =>
.r (bif (decide (sv1.1>0)) then (decide (sv1.2.1<=4)) else false)) id
def F_qk (a0:Y8):=(S_qk a0).den
theorem F_qk_ok {a0:Y8}:FO (F_qk a0) 74 [(AV.d (DV.str a0))] [] vb NL:=fO (s:=S_qk a0) Tryz.func74
def S_qe (a0:Int):SC Bool Bool :=
.r (bif (decide (a0>=0)) then (decide (a0<=1000000000000000)) else false)
def F_qe (a0:Int):=(S_qe a0).den
theorem F_qe_ok {a0:Int}:FO (F_qe a0) 122 [(vi a0)] [] vb NL:=fO (s:=S_qe a0) Tryz.func122
def S_q1b_b1 (a0:TPo) (iv1:Nat) (sv2:Int):SC Bool (Step (Int) Bool) :=
 let e5_:=(a0.A.getD iv1 dF)
.call (@F_qe_ok e5_) fun rv3 cv3=>
 let e6_:=(a0.L.getD iv1 dF)
.calld [(!rv3)=false] dF (@F_qe_ok e6_) fun rv4 cv4 =>
 let e2_:=(cO (!rv3) (!rv4))
 let e7_:=(a0.K.getD iv1 dF)
.calld [e2_=false] dF (@F_qe_ok e7_) fun rv5 cv5 =>
 let e0_:=(cO e2_ (!rv5))
.calld [e0_=false] dF (@F_qe_ok (a0.P.getD iv1 dF)) fun rv6 cv6 =>
 let e3_:=(cO e0_ (!rv6))
 let e1_:=(cO e3_ (decide (e6_>e5_)))
.guard [AllP [(!rv3)=false]->(iv1<a0.L.length),AllP [e2_=false]->(iv1<a0.K.length),AllP [e0_=false]->(iv1<a0.P.length),AllP [e3_=false]->(iv1<a0.L.length),AllP [e1_=false]->(iv1<a0.K.length)]<|
 let e4_:=((0:Int)<=(iv1:Int))
.reg 9 [] [(5,hc cv3 [] true),(13,hc cv4 [] true),(22,hc cv5 [] true),(31,hc cv6 [] true)] [.w iv1,.ev 12,.cl 11 cv3 [] 1 true,.pf (p:=AllP [(!rv3)=false]->e4_) (fun _=>(y1w _)),.ev 0,.clg 9 [(!rv3)=false] cv4 [] 1 true,.pf (p:=AllP [e2_=false]->e4_) (fun _=>(y1w _)),.ev 1,.clg 7 [e2_=false] cv5 [] 1 true,.pf (p:=AllP [e0_=false]->e4_) (fun _=>(y1w _)),.ev 2,.clg 5 [e0_=false] cv6 [] 1 true,.pf (p:=AllP [e3_=false]->e4_) (fun _=>(y1w _)),.ev 3,.pf (p:=AllP [e3_=false]->e4_) (fun _=>(y1w _)),.der (fun (h:iv1<a0.A.length) (_:AllP [e3_=false])=>h) 12,.pf (p:=AllP [e1_=false]->e4_) (fun _=>(y1w _)),.ev 4,.pf (p:=AllP [e1_=false]->e4_) (fun _=>(y1w _)),.der (fun (h:iv1<a0.A.length) (_:AllP [e1_=false])=>h) 12]<|
.ite (cO e1_ (decide (e7_>e5_))) (
.r (.ret false)) (
.reg 11 [] [] [.w iv1,.ev 13]<|
.r (.cont (i64.wrap (sv2+e5_))))
def S_q1b (a0:TPo) (a1:Int):SC Bool Bool :=
.a 1 2 1 (@F_qk_ok a0.D) fun rv7=>
.ite (cO (cO (cO (cO (!rv7) (decide (a0.E<0))) (decide (a0.E>99))) (decide (a0.W<(-1000000000000000)))) (decide (a0.W>1000000000000000))) (
.r false) (
.ite (cO (cO (cO ((a0.A.length:Int) != a1) ((a0.L.length:Int) != a1)) ((a0.K.length:Int) != a1)) ((a0.P.length:Int) != a1)) (
.r false) (
.guard [a0.A.length<2 ^ 63]<|
.range (a0.A.length:Int) a0.A.length rfl (.why (.ev 0)) 60 [2,59] (fun (sv2:Int)=>[(5,(vi sv2))]) (fun _=>[]) 0 (S_q1b_b1 a0) (fun sv2 => 
.r (decide (sv2<=1000000000000000))) id))
def F_q1b (a0:TPo) (a1:Int):=(S_q1b a0 a1).den
theorem F_q1b_ok {a0:TPo} {a1:Int}:FO (F_q1b a0 a1) 86 [(TPo.d a0),(vi a1)] [] vb NL:=fO (s:=S_q1b a0 a1) Tryz.func86
theorem cz3:LeV (AV.full 0 fun _=>DV.b false) (vl ([])):=lvN (DV.i .i64)
abbrev R_qs:=(List Int)
def S_qs_b1 (a0:Y8) (sv1:(List Int)×Int×Int×Int):SC R_qs (Step ((List Int)×Int×Int×Int) R_qs) :=
.ite (decide (sv1.2.2.2<=(a0.length:Int))) (
 let e4_:=(sv1.2.2.2==(a0.length:Int))
 let e6_:=((sv1.2.2.2).toNat<a0.length)
.guard [AllP [e4_=false]->((0:Int)<=sv1.2.2.2),AllP [e4_=false]->e6_]<|
.reg 8 [] [] [.ev 0,.ev 1]<|
 let e0_:=((a0.getD ((sv1.2.2.2).toNat) 0).toNat:Int)
 let e5_:=(i64.wrap (sv1.2.2.2+1))
.ite (cO e4_ (e0_==46)) (
 let e2_:=(cO (sv1.2.2.1==0) (decide (sv1.2.2.1>2)))
 let e3_:=(i64.wrap (sv1.2.2.2-sv1.2.2.1))
.guard [AllP [e2_=false]->((0:Int)<=e3_),AllP [e2_=false]->((e3_).toNat<a0.length)]<|
.reg 9 [] [] [.ev 0,.ev 1]<|
.ite (cO e2_ (((a0.getD ((e3_).toNat) 0).toNat:Int)==48)) (
.ret [.pf cz3] (.ret ([]))) (
.guard [(sv1.1.length+1) * (2 * 8)<=2 ^ 48]<|
 let e1_:=([sv1.2.1]:List Int)
.reg 11 [] [(2,hv (vl e1_)),(3,{ h:=.obj,cast:=some (AV.ref 0 ((sv1.1++e1_).length) 0 ((sv1.1++e1_).length)),obs:=[(0,(eS 1 (DV.i .i64) (sv1.1++e1_)))] })] [.pf (ze (DV.i .i64) e1_),.e sv1.1.length,.e sv1.1.length,.pf (p:=∀ k,k<1->(AV.d ((DV.i .i64) (e1_.getD k dF))).wd=1) (fun _ _=>rfl),.ev 0,.pf (z11 (o:=0) (l:=sv1.1) (x:=e1_)),.pf (z13 (sz:=1) (e:=(DV.i .i64)) (l:=sv1.1) (x:=e1_))]<|
.r (.cont ((sv1.1++e1_),0,0,e5_)))) (
 let e7_:=(decide (e0_<48))
.guard [(0:Int)<=sv1.2.2.2,(sv1.2.2.2).toNat<a0.length,AllP [e7_=false]->((0:Int)<=sv1.2.2.2),AllP [e7_=false]->e6_]<|
.reg 13 [] [] [.ev 0,.ev 1,.ev 2,.ev 3]<|
.ite (cO e7_ (decide (e0_>57))) (
.ret [.pf cz3] (.ret ([]))) (
.reg 15 [] [] [.ev 1,.ev 2]<|
.r (.cont (sv1.1,(i64.wrap ((i64.wrap (10 * sv1.2.1))+(i64.wrap (IntKind.u8.wrap (e0_-48))))),(i64.wrap (sv1.2.2.1+1)),e5_))))) (
.r (.brk (sv1.1,sv1.2.1,sv1.2.2.1,sv1.2.2.2)))
def S_qs (a0:Y8):SC R_qs R_qs :=
.ite (decide ((a0.length:Int)>12)) (
.ret [.pf cz3] ([])) (
.reg 5 [] [] []<|
.bor 1 (fun j=>AV.d ((DV.i .i64) (([]:List Int).getD j dF))) [3]<|
.iter [0] (fun (sv1:(List Int)×Int×Int×Int)=>[(3,(AV.ref 0 sv1.1.length 0 sv1.1.length)),(4,(vi sv1.2.1)),(5,(vi sv1.2.2.1)),(6,(vi sv1.2.2.2))]) (fun sv1=>[(0,(eS 1 (DV.i .i64) sv1.1))]) (([]:List Int),0,0,0) (S_qs_b1 a0) (fun sv1 =>
.ite (decide ((sv1.1.length:Int)>4)) (
.ret [.pf cz3] ([])) (
.guard [sv1.1.length<2 ^ 63]<|
.reg 18 [] [] []<|
.frz 0 (.ev 0) none [2] []<|
.r sv1.1)) id)
def F_qs (a0:Y8):=(S_qs a0).den
theorem F_qs_ok {a0:Y8}:FO (F_qs a0) 121 [(AV.d (DV.str a0))] [] vl NL:=fO (s:=S_qs a0) Tryz.func121
def S_qv_b1 (rv1:R_qs) (rv2:R_qs) (sv3:Int):SC Int (Step (Int) Int) :=
.ite (bif (decide (sv3<(rv1.length:Int))) then (decide (sv3<(rv2.length:Int))) else false) (
.guard [(0:Int)<=sv3,(sv3).toNat<rv1.length,(sv3).toNat<rv2.length]<|
.reg 15 [] [] [.ev 0,.ev 1,.ev 0,.ev 2]<|
 let e0_:=(rv1.getD ((sv3).toNat) dF)
 let e1_:=(rv2.getD ((sv3).toNat) dF)
.ite (decide (e0_<e1_)) (
.r (.ret (-1))) (
.reg 17 [] [] [.ev 1,.ev 2,.ev 1,.ev 3]<|
.ite (decide (e0_>e1_)) (
.r (.ret 1)) (
.r (.cont (i64.wrap (sv3+1)))))) (
.r (.brk sv3))
def S_qv (a0:Y8) (a1:Y8):SC Int Int :=
.call (@F_qs_ok a0) fun rv1 cv1=>
.call (@F_qs_ok a1) fun rv2 cv2=>
.reg 1 [] [(1,hc cv1 [] true),(3,hc cv2 [] true)] [.cl 1 cv1 [] 0 true,.cl 0 cv2 [] 0 true]<|
 let e0_:=(rv1.length:Int)
 let e1_:=(rv2.length:Int)
.ite (cO (e0_==0) (e1_==0)) (
.ite (decide (e0_>0)) (
.r 1) (
.ite (decide (e1_>0)) (
.r (-1)) (
.ite (Op.bytesLess a0 a1) (
.r (-1)) (
.ite (!(Op.bytesLess a0 a1||a0==a1)) (
.r 1) (
.r 0))))) (
.iter [5,6] (fun (sv3:Int)=>[(7,(vi sv3))]) (fun _=>[]) 0 (S_qv_b1 rv1 rv2) (fun _ =>
.ite (decide (e0_<e1_)) (
.r (-1)) (
.ite (decide (e0_>e1_)) (
.r 1) (
.r 0))) id)
def F_qv (a0:Y8) (a1:Y8):=(S_qv a0 a1).den
theorem F_qv_ok {a0:Y8} {a1:Y8}:FO (F_qv a0 a1) 76 [(AV.d (DV.str a0)),(AV.d (DV.str a1))] [] vi NL:=fO (s:=S_qv a0 a1) Tryz.func76
theorem cz4:OLe (bx (DV.agg [(DV.str ([])),(DV.i .i64 0),(DV.i .i64 0),Z0,Z0,Z0,Z0])) (TPo.b (⟨[],0,0,[],[],[],[]⟩:TPo)):=z50 (DLe.agg (DLeL.cons (DLe.refl _) (DLeL.cons (DLe.refl _) (DLeL.cons (DLe.refl _) (DLeL.cons DLe.sl0 (DLeL.cons DLe.sl0 (DLeL.cons DLe.sl0 (DLeL.cons DLe.sl0 DLeL.nil))))))))
def S_qw_b1 (a0:TTr) (iv1:Nat) (_:Unit):SC Bool (Step (Unit) Bool) :=
.reg 5 [] [(3,{ obs:=[(1,(TPo.b (⟨[],0,0,[],[],[],[]⟩:TPo)))] })] [.w iv1,.ev 0,.pf cz4]<|
 let e1_:=(a0.B.getD iv1 dF)
.a 6 3 2 (@F_q1b_ok e1_ a0.N) fun rv2=>
.ite (!rv2) (
.r (.ret false)) (
.ite (decide ((iv1:Int)>0)) (
 let e0_:=(i64.wrap ((iv1:Int)-1))
 let e2_:=(a0.B.getD ((e0_).toNat) dF)
.call (@F_qv_ok (e2_.D) (e1_.D)) fun rv3 cv3=>
.guard [(0:Int)<=e0_,(e0_).toNat<a0.B.length]<|
.reg 9 [] [(9,hc cv3 [] true)] [.ev 0,.ev 1,.cl 2 cv3 [] 2 true]<|
 let e3_:=(decide (rv3>0))
.guard [AllP [(rv3==0)=true,e3_=false]->((0:Int)<=e0_),AllP [(rv3==0)=true,e3_=false]->((e0_).toNat<a0.B.length)]<|
.reg 10 [] [] [.ev 0,.ev 1]<|
.ite (cO e3_ (bif (rv3==0) then (decide ((e2_.E)>=(e1_.E))) else false)) (
.r (.ret false)) (
.r (.cont ()))) (
.r (.cont ())))
def S_qw (a0:TTr):SC Bool Bool :=
.ite (cO (cO (decide (a0.N<1)) (decide (a0.N>6))) (decide ((a0.B.length:Int)>60))) (
.r false) (
.range (a0.B.length:Int) a0.B.length rfl (.slot 21) 23 [1,21,22] (fun (_:Unit)=>[]) (fun _=>[]) () (S_qw_b1 a0) (fun _ => 
.r true) id)
def F_qw (a0:TTr):=(S_qw a0).den
theorem F_qw_ok {a0:TTr}:FO (F_qw a0) 46 [(TTr.d a0)] [] vb NL:=fO (s:=S_qw a0) Tryz.func46
theorem cz5:OLe (bx (DV.agg [(DV.i .i64 0),Z0,(DV.agg [Z0,Z0,Z0,Z0])])) (TOf.b (⟨0,[],(⟨[],[],[],[]⟩:TBo)⟩:TOf)):=z50 (DLe.agg (DLeL.cons (DLe.refl _) (DLeL.cons DLe.sl0 (DLeL.cons (DLe.agg (DLeL.cons DLe.sl0 (DLeL.cons DLe.sl0 (DLeL.cons DLe.sl0 (DLeL.cons DLe.sl0 DLeL.nil))))) DLeL.nil))))
theorem cz6:LeV (AV.d (DV.agg [(DV.i .i64 0),Z0,(DV.agg [Z0,Z0,Z0,Z0])])) (TOf.d (⟨0,[],(⟨[],[],[],[]⟩:TBo)⟩:TOf)):=z2p rfl (DLe.agg (DLeL.cons (DLe.refl _) (DLeL.cons DLe.sl0 (DLeL.cons (DLe.agg (DLeL.cons DLe.sl0 (DLeL.cons DLe.sl0 (DLeL.cons DLe.sl0 (DLeL.cons DLe.sl0 DLeL.nil))))) DLeL.nil))))
def S_q3j (a0:Int):SC (TOf×Int) (TOf×Int) :=
 let e0_:=(⟨[],[],[],[]⟩:TBo)
 let e2_:=(⟨0,[],e0_⟩:TOf)
.reg 0 [] [(0,{ obs:=[(0,(TOf.b e2_))] })] [.pf cz5]<|
.ite (cO (decide (a0<1)) (decide (a0>6))) (
.reg 2 [] [(0,hv (TOf.d e2_))] [.pf cz6]<|
.r (e2_,2)) (
 let e1_:=(⟨a0,[],e0_⟩:TOf)
.reg 3 [] [(1,hv (TOf.d e1_))] [.pf (p:=LeV (AV.d (DV.agg [(DV.i .i64 a0),Z0,(DV.agg [Z0,Z0,Z0,Z0])])) (TOf.d e1_)) (z2p rfl (DLe.agg (DLeL.cons (DLe.refl _) (DLeL.cons DLe.sl0 (DLeL.cons (DLe.agg (DLeL.cons DLe.sl0 (DLeL.cons DLe.sl0 (DLeL.cons DLe.sl0 (DLeL.cons DLe.sl0 DLeL.nil))))) DLeL.nil)))))]<|
.r (e1_,0))
def F_q3j (a0:Int):=(S_q3j a0).den
theorem F_q3j_ok {a0:Int}:FO (F_q3j a0) 72 [(vi a0)] [] (fun x=>(AV.tup [(TOf.d x.1),(vi x.2)])) NL:=fO (s:=S_q3j a0) Tryz.func72
abbrev R_q11:=(List Int)×Bool
def S_q11 (a0:TOp):SC R_q11 R_q11 :=
.ite (a0.Q==1) (
 let e5_:=([a0.Z,a0.S]:List Int)
.reg 3 [] [(4,hv (vl e5_))] [.pf (ze (DV.i .i64) e5_)]<|
.r (e5_,true)) (
.ite (a0.Q==2) (
 let e0_:=([a0.Of,a0.Z,a0.S,a0.Ah,a0.Aj]:List Int)
.reg 5 [] [(10,hv (vl e0_))] [.pf (ze (DV.i .i64) e0_)]<|
.r (e0_,false)) (
.ite (a0.Q==3) (
 let e1_:=([a0.Of,a0.Z,a0.S]:List Int)
.reg 7 [] [(6,hv (vl e1_))] [.pf (ze (DV.i .i64) e1_)]<|
.r (e1_,false)) (
.ite (a0.Q==4) (
 let e2_:=([a0.Of,a0.Z]:List Int)
.reg 9 [] [(4,hv (vl e2_))] [.pf (ze (DV.i .i64) e2_)]<|
.r (e2_,false)) (
.cut none [1,5] (fun (sv1:Bool)=>[(42,(vb sv1))]) (fun _=>[]) (
.ite (a0.Q==5) (
.r (.next (a0.Q==5))) (
.r (.next (a0.Q==6)))) fun sv1=>
.ite sv1 (
 let e3_:=([a0.Of,a0.S]:List Int)
.reg 12 [] [(4,hv (vl e3_))] [.pf (ze (DV.i .i64) e3_)]<|
.r (e3_,false)) (
.ite (a0.Q==7) (
 let e7_:=([a0.S]:List Int)
.reg 14 [] [(2,hv (vl e7_))] [.pf (ze (DV.i .i64) e7_)]<|
.r (e7_,true)) (
.ite (a0.Q==8) (
 let e4_:=([a0.A,a0.Af]:List Int)
.reg 16 [] [(4,hv (vl e4_))] [.pf (ze (DV.i .i64) e4_)]<|
.r (e4_,true)) (
 let e6_:=([a0.Of]:List Int)
.reg 17 [] [(2,hv (vl e6_))] [.pf (ze (DV.i .i64) e6_)]<|
.r (e6_,false))))))))
def F_q11 (a0:TOp):=(S_q11 a0).den
theorem F_q11_ok {a0:TOp}:FO (F_q11 a0) 126 [(TOp.d a0)] [] (fun x=>(AV.tup [(vl x.1),(vb x.2)])) NL:=fO (s:=S_q11 a0) Tryz.func126
def S_q3 (a0:Int) (a1:Y8) (a2:Int) (a3:(List Int)):SC TOp TOp :=
.cut (some 0) [8,9] (fun (_:TOp)=>[]) (fun sv1=>[(1,(TOp.b sv1))]) (
 let e0_:=(a3.getD 0 dF)
 let e1_:=(a3.getD 1 dF)
.ite (a0==1) (
.guard [0<a3.length,1<a3.length]<|
.reg 5 [7,9] [] [.pf (p:=(0:Int)<=0) dk,.ev 0,.pf (p:=(0:Int)<=1) dk,.ev 1,.pf (p:=(0:Int)<=1) dk,.ev 1]<|
.r (.next (⟨a0,a1,a2,e0_,0,e1_,0,0,0,0⟩:TOp))) (
.ite (a0==2) (
.guard [0<a3.length,1<a3.length,2<a3.length,3<a3.length,4<a3.length]<|
.reg 7 [16,18,20,22,24] [] [.pf (p:=(0:Int)<=0) dk,.ev 0,.pf (p:=(0:Int)<=1) dk,.ev 1,.pf (p:=(0:Int)<=1) dk,.ev 1,.pf (p:=(0:Int)<=2) dk,.ev 2,.pf (p:=(0:Int)<=2) dk,.ev 2,.pf (p:=(0:Int)<=2) dk,.ev 2,.pf (p:=(0:Int)<=3) dk,.ev 3,.pf (p:=(0:Int)<=3) dk,.ev 3,.pf (p:=(0:Int)<=3) dk,.ev 3,.pf (p:=(0:Int)<=3) dk,.ev 3,.pf (p:=(0:Int)<=4) dk,.ev 4,.pf (p:=(0:Int)<=4) dk,.ev 4,.pf (p:=(0:Int)<=4) dk,.ev 4,.pf (p:=(0:Int)<=4) dk,.ev 4,.pf (p:=(0:Int)<=4) dk,.ev 4]<|
.r (.next (⟨a0,a1,a2,e1_,e0_,(a3.getD 2 dF),(a3.getD 3 dF),(a3.getD 4 dF),0,0⟩:TOp))) (
.ite (a0==3) (
.guard [0<a3.length,1<a3.length,2<a3.length]<|
.reg 9 [10,12,14] [] [.pf (p:=(0:Int)<=0) dk,.ev 0,.pf (p:=(0:Int)<=1) dk,.ev 1,.pf (p:=(0:Int)<=1) dk,.ev 1,.pf (p:=(0:Int)<=2) dk,.ev 2,.pf (p:=(0:Int)<=2) dk,.ev 2,.pf (p:=(0:Int)<=2) dk,.ev 2]<|
.r (.next (⟨a0,a1,a2,e1_,e0_,(a3.getD 2 dF),0,0,0,0⟩:TOp))) (
.ite (a0==4) (
.guard [0<a3.length,1<a3.length]<|
.reg 11 [7,9] [] [.pf (p:=(0:Int)<=0) dk,.ev 0,.pf (p:=(0:Int)<=1) dk,.ev 1,.pf (p:=(0:Int)<=1) dk,.ev 1]<|
.r (.next (⟨a0,a1,a2,e1_,e0_,0,0,0,0,0⟩:TOp))) (
.cut none [3,8,9,14] (fun (sv2:Bool)=>[(75,(vb sv2))]) (fun _=>[]) (
.ite (a0==5) (
.r (.next (a0==5))) (
.r (.next (a0==6)))) fun sv2=>
.ite sv2 (
.guard [0<a3.length,1<a3.length]<|
.reg 14 [7,9] [] [.pf (p:=(0:Int)<=0) dk,.ev 0,.pf (p:=(0:Int)<=1) dk,.ev 1,.pf (p:=(0:Int)<=1) dk,.ev 1]<|
.r (.next (⟨a0,a1,a2,0,e0_,e1_,0,0,0,0⟩:TOp))) (
.ite (a0==7) (
.guard [0<a3.length]<|
.reg 16 [] [] [.pf (p:=(0:Int)<=0) dk,.ev 0]<|
.r (.next (⟨a0,a1,a2,0,0,e0_,0,0,0,0⟩:TOp))) (
.ite (a0==8) (
.guard [0<a3.length,1<a3.length]<|
.reg 18 [7,9] [] [.pf (p:=(0:Int)<=0) dk,.ev 0,.pf (p:=(0:Int)<=1) dk,.ev 1,.pf (p:=(0:Int)<=1) dk,.ev 1]<|
.r (.next (⟨a0,a1,a2,0,0,0,0,0,e0_,e1_⟩:TOp))) (
.guard [0<a3.length]<|
.reg 3 [] [] [.pf (p:=(0:Int)<=0) dk,.ev 0]<|
.r (.next (⟨a0,a1,a2,0,e0_,0,0,0,0,0⟩:TOp)))))))))) fun sv1=>
.r sv1
def F_q3 (a0:Int) (a1:Y8) (a2:Int) (a3:(List Int)):=(S_q3 a0 a1 a2 a3).den
theorem F_q3_ok {a0:Int} {a1:Y8} {a2:Int} {a3:(List Int)}:FO (F_q3 a0 a1 a2 a3) 127 [(vi a0),(AV.d (DV.str a1)),(vi a2),(vl a3)] [] (fun x=>(TOp.d x)) NL:=fO (s:=S_q3 a0 a1 a2 a3) Tryz.func127
def S_q7_b1 (rv1:R_q11) (iv2:Nat) (_:Unit):SC Bool (Step (Unit) Bool) :=
.reg 8 [] [] [.w iv2,.ev 0]<|
 let e0_:=(rv1.1.getD iv2 dF)
.ite (cO (decide (e0_<0)) (decide (e0_>1000000000000000))) (
.r (.ret false)) (
.r (.cont ()))
def S_q7 (a0:TOp):SC Bool Bool :=
.ite (cO (decide (a0.Q<1)) (decide (a0.Q>9))) (
.r false) (
.a 3 1 1 (@F_q11_ok a0) fun rv1=>
.calld [rv1.2=true] dF (@F_qk_ok a0.D) fun rv3 cv3 =>
.reg 4 [] [(4,hc cv3 [] true)] [.clg 0 [rv1.2=true] cv3 [] 1 true]<|
.ite (cO (bif rv1.2 then (cO (cO (!rv3) (decide (a0.E<0))) (decide (a0.E>99))) else false) (bif (!rv1.2) then (cO (!(a0.D==([]))) (a0.E != 0)) else false)) (
.r false) (
.range (rv1.1.length:Int) rv1.1.length rfl (.slot 3) 53 [1,3,51,52] (fun (_:Unit)=>[]) (fun _=>[]) () (S_q7_b1 rv1) (fun _ => 
.a 12 7 1 (@F_q3_ok a0.Q a0.D a0.E rv1.1) fun rv4=>
.r ((rv4.Q==a0.Q)&&((rv4.D==a0.D)&&((rv4.E==a0.E)&&((rv4.Z==a0.Z)&&((rv4.Of==a0.Of)&&((rv4.S==a0.S)&&((rv4.Ah==a0.Ah)&&((rv4.Aj==a0.Aj)&&((rv4.A==a0.A)&&((rv4.Af==a0.Af)&&true))))))))))) id))
def F_q7 (a0:TOp):=(S_q7 a0).den
theorem F_q7_ok {a0:TOp}:FO (F_q7 a0) 87 [(TOp.d a0)] [] vb NL:=fO (s:=S_q7 a0) Tryz.func87
def S_qy (a0:Int):SC Bool Bool :=
.r (bif (decide (a0>=0)) then (decide (a0<=35990)) else false)
def F_qy (a0:Int):=(S_qy a0).den
theorem F_qy_ok {a0:Int}:FO (F_qy a0) 163 [(vi a0)] [] vb NL:=fO (s:=S_qy a0) Tryz.func163
def S_q6m (a0:Int):SC Bool Bool :=
.r (bif (decide (a0>=0)) then (decide (a0<=36000)) else false)
def F_q6m (a0:Int):=(S_q6m a0).den
theorem F_q6m_ok {a0:Int}:FO (F_q6m a0) 199 [(vi a0)] [] vb NL:=fO (s:=S_q6m a0) Tryz.func199
def S_q1c (a0:Int):SC Int Int :=
.a 1 1 0 (@F_q6m_ok a0) fun rv1=>
.ite (!rv1) (
.r (-1)) (
.reg 3 [] [] [.pf (p:=(360:Int)≠0) dk]<|
.r (i64.wrap (a0.tdiv 360)))
def F_q1c (a0:Int):=(S_q1c a0).den
theorem F_q1c_ok {a0:Int}:FO (F_q1c a0) 165 [(vi a0)] [] vi NL:=fO (s:=S_q1c a0) Tryz.func165
def S_q1d (a0:Int):SC Bool Bool :=
.r (bif (decide (a0>=1)) then (decide (a0<=1000000000000)) else false)
def F_q1d (a0:Int):=(S_q1d a0).den
theorem F_q1d_ok {a0:Int}:FO (F_q1d a0) 164 [(vi a0)] [] vb NL:=fO (s:=S_q1d a0) Tryz.func164
def S_q1e_b1 (a0:TBo) (iv1:Nat) (_:Unit):SC Bool (Step (Unit) Bool) :=
.reg 3 [] [] [.w iv1,.ev 0]<|
 let e1_:=(a0.C.getD iv1 dF)
 let e3_:=((e1_.O) != (i64.wrap ((iv1:Int)+1)))
.calld [e3_=false] dF (@F_qk_ok (e1_.D)) fun rv2 cv2 =>
 let e0_:=(cO (cO (cO e3_ (!rv2)) (decide ((e1_.E)<0))) (decide ((e1_.E)>99)))
.calld [e0_=false] dF (@F_qy_ok (e1_.Z)) fun rv3 cv3 =>
 let e4_:=(cO e0_ (!rv3))
.calld [e4_=false] dF (@F_q1c_ok (e1_.Z)) fun rv4 cv4 =>
 let e2_:=(cO e4_ (rv4 != (e1_.E)))
.calld [e2_=false] dF (@F_q1d_ok (e1_.S)) fun rv5 cv5 =>
.reg 4 [] [(8,hc cv2 [] true),(24,hc cv3 [] true),(30,hc cv4 [] true),(38,hc cv5 [] true)] [.clg 6 [e3_=false] cv2 [] 2 true,.clg 4 [e0_=false] cv3 [] 2 true,.clg 2 [e4_=false] cv4 [] 2 true,.clg 0 [e2_=false] cv5 [] 2 true]<|
.ite (cO (cO (cO e2_ (!rv5)) (decide ((e1_.Ad)<0))) (decide ((e1_.Ad)>(e1_.S)))) (
.r (.ret false)) (
.r (.cont ()))
def S_q1e (a0:TBo):SC Bool Bool :=
.range (a0.C.length:Int) a0.C.length rfl (.slot 6) 8 [6,7] (fun (_:Unit)=>[]) (fun _=>[]) () (S_q1e_b1 a0) (fun _ => 
.r true) id
def F_q1e (a0:TBo):=(S_q1e a0).den
theorem F_q1e_ok {a0:TBo}:FO (F_q1e a0) 137 [(TBo.d a0)] [] vb NL:=fO (s:=S_q1e a0) Tryz.func137
def S_qo_b1 (a0:TBo) (a1:Int) (iv1:Nat) (sv2:Int):SC Int (Step (Int) Int) :=
.reg 8 [] [] [.w iv1,.ev 0]<|
 let e0_:=(a0.G.getD iv1 dF)
.ite ((e0_.X)==a1) (
.r (.cont (i64.wrap (sv2-(e0_.S))))) (
.c sv2)
def S_qo_b2 (a0:TBo) (a1:Int) (iv3:Nat) (_:Unit):SC Int (Step (Unit) Int) :=
.reg 3 [] [] [.w iv3,.ev 0]<|
 let e0_:=(a0.C.getD iv3 dF)
.ite ((e0_.O)==a1) (
.range (a0.G.length:Int) a0.G.length rfl (.slot 27) 29 [1,27,28] (fun (sv2:Int)=>[(7,(vi sv2))]) (fun _=>[]) (i64.wrap ((e0_.S)-(e0_.Ad))) (S_qo_b1 a0 a1) (fun sv2 => 
.r (.ret sv2)) .ret) (
.r (.cont ()))
def S_qo (a0:TBo) (a1:Int):SC Int Int :=
.range (a0.C.length:Int) a0.C.length rfl (.slot 11) 13 [1,2,11,12] (fun (_:Unit)=>[]) (fun _=>[]) () (S_qo_b2 a0 a1) (fun _ => 
.r 0) id
def F_qo (a0:TBo) (a1:Int):=(S_qo a0 a1).den
theorem F_qo_ok {a0:TBo} {a1:Int}:FO (F_qo a0 a1) 167 [(TBo.d a0),(vi a1)] [] vi NL:=fO (s:=S_qo a0 a1) Tryz.func167
def S_q8_b1 (a0:TBo) (iv1:Nat) (_:Unit):SC Bool (Step (Unit) Bool) :=
.reg 3 [] [] [.w iv1,.ev 0]<|
 let e2_:=(a0.G.getD iv1 dF)
 let e0_:=(cO (cO ((e2_.O) != (i64.wrap ((iv1:Int)+1))) (decide ((e2_.X)<1))) (decide ((e2_.X)>(a0.C.length:Int))))
.calld [e0_=false] dF (@F_qy_ok (e2_.Z)) fun rv2 cv2 =>
 let e4_:=(cO e0_ (!rv2))
.calld [e4_=false] dF (@F_q1d_ok (e2_.S)) fun rv3 cv3 =>
 let e1_:=(cO (cO (cO (cO (cO e4_ (!rv3)) (decide ((e2_.Ad)<0))) (decide ((e2_.Ad)>(e2_.S)))) (decide ((e2_.Ah)<1))) (decide ((e2_.Ah)>1000000)))
.calld [e1_=false] dF (@F_qy_ok (e2_.Aj)) fun rv4 cv4 =>
.reg 4 [] [(21,hc cv2 [] true),(27,hc cv3 [] true),(55,hc cv4 [] true)] [.clg 4 [e0_=false] cv2 [] 2 true,.clg 2 [e4_=false] cv3 [] 2 true,.clg 0 [e1_=false] cv4 [] 2 true]<|
.ite (cO e1_ (!rv4)) (
.r (.ret false)) (
 let e5_:=(i64.wrap ((e2_.X)-1))
.guard [(0:Int)<=e5_,(e5_).toNat<a0.C.length]<|
.reg 6 [] [] [.ev 0,.ev 1]<|
 let e3_:=(a0.C.getD ((e5_).toNat) dF)
 let e6_:=(decide ((e2_.Z)<(e3_.Z)))
.calld [e6_=false] dF (@F_q1c_ok (e2_.Z)) fun rv5 cv5 =>
.reg 7 [] [(8,hc cv5 [] true)] [.clg 0 [e6_=false] cv5 [] 3 true]<|
.ite (cO e6_ (rv5 != (e3_.E))) (
.r (.ret false)) (
.r (.cont ())))
def S_q8_b2 (a0:TBo) (iv6:Nat) (_:Unit):SC Bool (Step (Unit) Bool) :=
.reg 12 [] [] [.w iv6,.ev 0]<|
.a 13 3 2 (@F_qo_ok a0 ((a0.C.getD iv6 dF).O)) fun rv7=>
.ite (decide (rv7<0)) (
.r (.ret false)) (
.r (.cont ()))
def S_q8 (a0:TBo):SC Bool Bool :=
.range (a0.G.length:Int) a0.G.length rfl (.slot 9) 11 [1,9,10] (fun (_:Unit)=>[]) (fun _=>[]) () (S_q8_b1 a0) (fun _ => 
.range (a0.C.length:Int) a0.C.length rfl (.slot 96) 98 [1,96,97] (fun (_:Unit)=>[]) (fun _=>[]) () (S_q8_b2 a0) (fun _ => 
.r true) id) id
def F_q8 (a0:TBo):=(S_q8 a0).den
theorem F_q8_ok {a0:TBo}:FO (F_q8 a0) 138 [(TBo.d a0)] [] vb NL:=fO (s:=S_q8 a0) Tryz.func138
def S_q1y (a0:TBo) (a1:Int):SC Int Int :=
 let e1_:=(i64.wrap (a1-1))
 let e0_:=(i64.wrap (((a0.G.getD ((e1_).toNat) dF).X)-1))
.guard [(0:Int)<=e1_,(e1_).toNat<a0.G.length,(0:Int)<=e0_,(e0_).toNat<a0.C.length]<|
.reg 1 [] [] [.ev 0,.ev 1,.ev 2,.ev 3]<|
.r ((a0.C.getD ((e0_).toNat) dF).E)
def F_q1y (a0:TBo) (a1:Int):=(S_q1y a0 a1).den
theorem F_q1y_ok {a0:TBo} {a1:Int}:FO (F_q1y a0 a1) 168 [(TBo.d a0),(vi a1)] [] vi NL:=fO (s:=S_q1y a0 a1) Tryz.func168
def S_q1f_b1 (a0:TBo) (a1:TCo) (iv1:Nat) (sv2:Int):SC Int (Step (Int) Int) :=
.reg 4 [] [] [.w iv1,.ev 0]<|
 let e0_:=(a0.I.getD iv1 dF)
.ite ((e0_.Ac)==a1.O) (
.r (.cont (i64.wrap (sv2-(e0_.S))))) (
.c sv2)
def S_q1f (a0:TBo) (a1:TCo):SC Int Int :=
.range (a0.I.length:Int) a0.I.length rfl (.slot 14) 16 [3,14,15] (fun (sv2:Int)=>[(5,(vi sv2))]) (fun _=>[]) (i64.wrap (a1.S-a1.Ad)) (S_q1f_b1 a0 a1) (fun sv2 => 
.r sv2) id
def F_q1f (a0:TBo) (a1:TCo):=(S_q1f a0 a1).den
theorem F_q1f_ok {a0:TBo} {a1:TCo}:FO (F_q1f a0 a1) 169 [(TBo.d a0),(TCo.d a1)] [] vi NL:=fO (s:=S_q1f a0 a1) Tryz.func169
end
end Go.Proofs.YtlhikmklpelceaaGreatDoor
/- What the functions compute,and that their calls return it. No condition. -/
namespace Go.Proofs.YtlhikmklpelceaaGreatDoor
open Go Go.TA
open Go.IntKind (i64)
noncomputable section
set_option maxRecDepth 100000
def S_q0_b1 (a0:TBo) (iv1:Nat) (_:Unit):SC Bool (Step (Unit) Bool) :=
.reg 3 [] [] [.w iv1,.ev 0]<|
 let e2_:=(a0.I.getD iv1 dF)
 let e0_:=(cO (cO ((e2_.O) != (i64.wrap ((iv1:Int)+1))) (decide ((e2_.Ac)<1))) (decide ((e2_.Ac)>(a0.G.length:Int))))
.calld [e0_=false] dF (@F_qy_ok (e2_.Z)) fun rv2 cv2 =>
 let e4_:=(cO e0_ (!rv2))
.calld [e4_=false] dF (@F_q1d_ok (e2_.S)) fun rv3 cv3 =>
 let e3_:=(cO e4_ (!rv3))
 let e5_:=(i64.wrap ((e2_.Ac)-1))
 let e1_:=(cO e3_ (decide ((e2_.Z)<((a0.G.getD ((e5_).toNat) dF).Z))))
.calld [e1_=false] dF (@F_q1c_ok (e2_.Z)) fun rv4 cv4 =>
.calld [e1_=false] dF (@F_q1y_ok a0 (e2_.Ac)) fun rv5 cv5 =>
.guard [AllP [e3_=false]->((0:Int)<=e5_),AllP [e3_=false]->((e5_).toNat<a0.G.length)]<|
.reg 4 [] [(21,hc cv2 [] true),(27,hc cv3 [] true),(46,hc cv4 [] true),(50,hc cv5 [] true)] [.clg 8 [e0_=false] cv2 [] 2 true,.clg 6 [e4_=false] cv3 [] 2 true,.ev 0,.ev 1,.clg 4 [e1_=false] cv4 [] 2 true,.clg 2 [e1_=false] cv5 [] 2 true]<|
.ite (cO e1_ (decide (rv4>(i64.wrap (rv5+1))))) (
.r (.ret false)) (
.r (.cont ()))
def S_q0_b2 (a0:TBo) (iv6:Nat) (_:Unit):SC Bool (Step (Unit) Bool) :=
.reg 9 [] [] [.w iv6,.ev 0]<|
.a 10 2 2 (@F_q1f_ok a0 (a0.G.getD iv6 dF)) fun rv7=>
.ite (decide (rv7<0)) (
.r (.ret false)) (
.r (.cont ()))
def S_q0_b3 (a0:TBo) (iv8:Nat) (iv9:Nat) (sv10:Int):SC Bool (Step (Int) Bool) :=
.reg 24 [] [] [.w iv9,.ev 0]<|
 let e0_:=((a0.T.take iv8).getD iv9 dF)
 let e1_:=(a0.T.getD iv8 dF)
.ite ((e0_.U) != (e1_.U)) (
.c sv10) (
.ite (cO (!(e0_.Al)) (decide ((e0_.Z)>(e1_.Z)))) (
.r (.ret false)) (
.r (.cont (i64.wrap (sv10+1)))))
def S_q0_b4 (a0:TBo) (iv8:Nat) (_:Unit):SC Bool (Step (Unit) Bool) :=
.reg 15 [] [] [.w iv8,.ev 0]<|
 let e2_:=(a0.T.getD iv8 dF)
 let e1_:=(cO (cO ((e2_.O) != (i64.wrap ((iv8:Int)+1))) (decide ((e2_.U)<1))) (decide ((e2_.U)>(a0.I.length:Int))))
.calld [e1_=false] dF (@F_qy_ok (e2_.Z)) fun rv11 cv11 =>
.reg 16 [] [(21,hc cv11 [] true)] [.clg 0 [e1_=false] cv11 [] 2 true]<|
.ite (cO e1_ (!rv11)) (
.r (.ret false)) (
 let e3_:=(i64.wrap ((e2_.U)-1))
.guard [(0:Int)<=e3_,(e3_).toNat<a0.I.length]<|
.reg 18 [] [] [.ev 0,.ev 1]<|
 let e4_:=(a0.I.getD ((e3_).toNat) dF)
 let e0_:=(decide ((e2_.Z)<(e4_.Z)))
.calld [e0_=false] dF (@F_q1c_ok (e2_.Z)) fun rv12 cv12 =>
.calld [e0_=false] dF (@F_q1y_ok a0 (e4_.Ac)) fun rv13 cv13 =>
.reg 19 [] [(8,hc cv12 [] true),(12,hc cv13 [] true)] [.clg 2 [e0_=false] cv12 [] 3 true,.clg 0 [e0_=false] cv13 [] 3 true]<|
.ite (cO e0_ (decide (rv12>(i64.wrap (rv13+1))))) (
.r (.ret false)) (
.guard [iv8<=a0.T.length]<|
.reg 22 [] [(3,hv (AV.d (eL TOr.e (a0.T.take iv8))))] [.w iv8,.ev 0,.der (fun (h0:iv8<=a0.T.length)=>lvT TOr.e a0.T h0) 0]<|
.range ((a0.T.take iv8).length:Int) ((a0.T.take iv8).length) rfl (.slot 146) 148 [1,8,89,90,91,146,147] (fun (sv10:Int)=>[(10,(vi sv10))]) (fun _=>[]) 1 (S_q0_b3 a0 iv8) (fun sv10 => 
.ite ((e2_.Ak) != sv10) (
.r (.ret false)) (
.r (.cont ()))) .ret))
def S_q0 (a0:TBo):SC Bool Bool :=
.range (a0.I.length:Int) a0.I.length rfl (.slot 14) 16 [1,14,15] (fun (_:Unit)=>[]) (fun _=>[]) () (S_q0_b1 a0) (fun _ => 
.range (a0.G.length:Int) a0.G.length rfl (.slot 77) 79 [1,77,78] (fun (_:Unit)=>[]) (fun _=>[]) () (S_q0_b2 a0) (fun _ => 
.range (a0.T.length:Int) a0.T.length rfl (.slot 89) 91 [1,89,90] (fun (_:Unit)=>[]) (fun _=>[]) () (S_q0_b4 a0) (fun _ => 
.r true) id) id) id
def F_q0 (a0:TBo):=(S_q0 a0).den
theorem F_q0_ok {a0:TBo}:FO (F_q0 a0) 139 [(TBo.d a0)] [] vb NL:=fO (s:=S_q0 a0) Tryz.func139
def S_q1g (a0:TBo):SC Bool Bool :=
.ite (cO (cO (cO (decide ((a0.C.length:Int)>200)) (decide ((a0.G.length:Int)>200))) (decide ((a0.I.length:Int)>200))) (decide ((a0.T.length:Int)>200))) (
.r false) (
.call (@F_q1e_ok a0) fun rv1 cv1=>
.calld [rv1=true] dF (@F_q8_ok a0) fun rv2 cv2 =>
 let e0_:=(bif rv1 then rv2 else false)
.calld [e0_=true] dF (@F_q0_ok a0) fun rv3 cv3 =>
.reg 3 [] [(1,hc cv1 [] true),(4,hc cv2 [] true),(8,hc cv3 [] true)] [.cl 4 cv1 [] 1 true,.clg 2 [rv1=true] cv2 [] 1 true,.clg 0 [e0_=true] cv3 [] 1 true]<|
.r (bif e0_ then rv3 else false))
def F_q1g (a0:TBo):=(S_q1g a0).den
theorem F_q1g_ok {a0:TBo}:FO (F_q1g a0) 89 [(TBo.d a0)] [] vb NL:=fO (s:=S_q1g a0) Tryz.func89
def S_q2z (a0:TRi):SC Bool Bool :=
.call (@F_qk_ok a0.D) fun rv1 cv1=>
 let e0_:=(bif (bif rv1 then (decide (a0.E>=0)) else false) then (decide (a0.E<=99)) else false)
.calld [e0_=true] dF (@F_qe_ok a0.A) fun rv2 cv2 =>
 let e1_:=(bif e0_ then rv2 else false)
.calld [e1_=true] dF (@F_qe_ok a0.K) fun rv3 cv3 =>
.reg 1 [] [(2,hc cv1 [] true),(16,hc cv2 [] true),(21,hc cv3 [] true)] [.cl 4 cv1 [] 1 true,.clg 2 [e0_=true] cv2 [] 1 true,.clg 0 [e1_=true] cv3 [] 1 true]<|
.r (bif (bif (bif e1_ then rv3 else false) then (decide (a0.M>=0)) else false) then (decide (a0.M<=a0.A)) else false)
def F_q2z (a0:TRi):=(S_q2z a0).den
theorem F_q2z_ok {a0:TRi}:FO (F_q2z a0) 90 [(TRi.d a0)] [] vb NL:=fO (s:=S_q2z a0) Tryz.func90
def S_qz_b1 (a0:TOf) (a1:Y8) (a2:Int) (iv1:Nat) (_:Unit):SC Int (Step (Unit) Int) :=
.reg 3 [] [] [.w iv1,.ev 0]<|
 let e0_:=(a0.J.getD iv1 dF)
.ite (bif ((e0_.D)==a1) then ((e0_.E)==a2) else false) (
.r (.ret (iv1:Int))) (
.r (.cont ()))
def S_qz (a0:TOf) (a1:Y8) (a2:Int):SC Int Int :=
.range (a0.J.length:Int) a0.J.length rfl (.slot 10) 12 [1,2,10,11] (fun (_:Unit)=>[]) (fun _=>[]) () (S_qz_b1 a0 a1 a2) (fun _ => 
.r (-1)) id
def F_qz (a0:TOf) (a1:Y8) (a2:Int):=(S_qz a0 a1 a2).den
theorem F_qz_ok {a0:TOf} {a1:Y8} {a2:Int}:FO (F_qz a0 a1 a2) 71 [(TOf.d a0),(AV.d (DV.str a1)),(vi a2)] [] vi NL:=fO (s:=S_qz a0 a1 a2) Tryz.func71
def S_q1z (a0:TOf) (a1:Y8) (a2:Int):SC TRi TRi :=
.a 1 3 2 (@F_qz_ok a0 a1 a2) fun rv1=>
.ite (decide (rv1>=0)) (
.guard [(0:Int)<=rv1,(rv1).toNat<a0.J.length]<|
.reg 3 [] [] [.ev 0,.ev 1]<|
.r (a0.J.getD ((rv1).toNat) dF)) (
.r (⟨a1,a2,0,0,0⟩:TRi))
def F_q1z (a0:TOf) (a1:Y8) (a2:Int):=(S_q1z a0 a1 a2).den
theorem F_q1z_ok {a0:TOf} {a1:Y8} {a2:Int}:FO (F_q1z a0 a1 a2) 34 [(TOf.d a0),(AV.d (DV.str a1)),(vi a2)] [] (fun x=>(TRi.d x)) NL:=fO (s:=S_q1z a0 a1 a2) Tryz.func34
def S_qf_b1 (a0:TBo) (iv1:Nat) (iv2:Nat) (sv3:Int):SC Int (Step (Int) Int) :=
.reg 9 [] [] [.w iv2,.ev 0]<|
 let e0_:=(a0.G.getD iv2 dF)
.ite ((e0_.X)==((a0.C.getD iv1 dF).O)) (
.r (.cont (i64.wrap (sv3-(e0_.Ad))))) (
.c sv3)
def S_qf_b2 (a0:TBo) (a1:Y8) (a2:Int) (iv1:Nat) (sv4:Int):SC Int (Step (Int) Int) :=
.reg 4 [] [] [.w iv1,.ev 0]<|
 let e0_:=(a0.C.getD iv1 dF)
.ite (cO (!((e0_.D)==a1)) ((e0_.E) != a2)) (
.c sv4) (
.range (a0.G.length:Int) a0.G.length rfl (.slot 37) 39 [1,2,3,9,13,14,15,37,38] (fun (sv3:Int)=>[(7,(vi sv3))]) (fun _=>[]) (i64.wrap (sv4+(i64.wrap ((e0_.S)-(e0_.Ad))))) (S_qf_b1 a0 iv1) (fun sv3 => 
.c sv3) .ret)
def S_qf (a0:TBo) (a1:Y8) (a2:Int):SC Int Int :=
.range (a0.C.length:Int) a0.C.length rfl (.slot 13) 15 [1,2,3,13,14] (fun (sv4:Int)=>[(7,(vi sv4))]) (fun _=>[]) 0 (S_qf_b2 a0 a1 a2) (fun sv4 => 
.r sv4) id
def F_qf (a0:TBo) (a1:Y8) (a2:Int):=(S_qf a0 a1 a2).den
theorem F_qf_ok {a0:TBo} {a1:Y8} {a2:Int}:FO (F_qf a0 a1 a2) 35 [(TBo.d a0),(AV.d (DV.str a1)),(vi a2)] [] vi NL:=fO (s:=S_qf a0 a1 a2) Tryz.func35
def S_q3k (a0:TOf) (a1:Y8) (a2:Int):SC Int Int :=
.a 1 3 1 (@F_q1z_ok a0 a1 a2) fun rv1=>
.a 2 9 2 (@F_qf_ok a0.Ae a1 a2) fun rv2=>
.r (i64.wrap ((i64.wrap (rv1.A-rv1.M))-rv2))
def F_q3k (a0:TOf) (a1:Y8) (a2:Int):=(S_q3k a0 a1 a2).den
theorem F_q3k_ok {a0:TOf} {a1:Y8} {a2:Int}:FO (F_q3k a0 a1 a2) 14 [(TOf.d a0),(AV.d (DV.str a1)),(vi a2)] [] vi NL:=fO (s:=S_q3k a0 a1 a2) Tryz.func14
def S_q9_b1 (a0:TOf) (iv1:Nat) (_:Unit):SC Bool (Step (Unit) Bool) :=
.reg 5 [] [] [.w iv1,.ev 0]<|
 let e1_:=(a0.J.getD iv1 dF)
.call (@F_q2z_ok e1_) fun rv2 cv2=>
.calld [(!rv2)=false] dF (@F_q3k_ok a0 (e1_.D) (e1_.E)) fun rv3 cv3 =>
.reg 6 [] [(1,hc cv2 [] true),(9,hc cv3 [] true)] [.cl 2 cv2 [] 2 true,.clg 0 [(!rv2)=false] cv3 [] 2 true]<|
.ite (cO (!rv2) (decide (rv3<0))) (
.r (.ret false)) (
.ite (decide ((iv1:Int)>0)) (
 let e0_:=(i64.wrap ((iv1:Int)-1))
 let e2_:=(a0.J.getD ((e0_).toNat) dF)
.call (@F_qv_ok (e2_.D) (e1_.D)) fun rv4 cv4=>
.guard [(0:Int)<=e0_,(e0_).toNat<a0.J.length]<|
.reg 9 [] [(9,hc cv4 [] true)] [.ev 0,.ev 1,.cl 2 cv4 [] 2 true]<|
 let e3_:=(decide (rv4>0))
.guard [AllP [(rv4==0)=true,e3_=false]->((0:Int)<=e0_),AllP [(rv4==0)=true,e3_=false]->((e0_).toNat<a0.J.length)]<|
.reg 10 [] [] [.ev 0,.ev 1]<|
.ite (cO e3_ (bif (rv4==0) then (decide ((e2_.E)>=(e1_.E))) else false)) (
.r (.ret false)) (
.r (.cont ()))) (
.r (.cont ())))
def S_q9_b2 (a0:TOf) (iv5:Nat) (_:Unit):SC Bool (Step (Unit) Bool) :=
.reg 15 [] [] [.w iv5,.ev 0]<|
 let e0_:=(a0.Ae.C.getD iv5 dF)
.a 16 5 2 (@F_qz_ok a0 (e0_.D) (e0_.E)) fun rv6=>
.ite (decide (rv6<0)) (
.r (.ret false)) (
.r (.cont ()))
def S_q9 (a0:TOf):SC Bool Bool :=
 let e0_:=(cO (cO (decide (a0.O<1)) (decide (a0.O>6))) (decide ((a0.J.length:Int)>60)))
.calld [e0_=false] dF (@F_q1g_ok a0.Ae) fun rv7 cv7 =>
.reg 1 [] [(17,hc cv7 [] true)] [.clg 0 [e0_=false] cv7 [] 1 true]<|
.ite (cO e0_ (!rv7)) (
.r false) (
.range (a0.J.length:Int) a0.J.length rfl (.slot 29) 31 [1,29,30] (fun (_:Unit)=>[]) (fun _=>[]) () (S_q9_b1 a0) (fun _ => 
.range (a0.Ae.C.length:Int) a0.Ae.C.length rfl (.slot 81) 83 [1,81,82] (fun (_:Unit)=>[]) (fun _=>[]) () (S_q9_b2 a0) (fun _ => 
.r true) id) id)
def F_q9 (a0:TOf):=(S_q9 a0).den
theorem F_q9_ok {a0:TOf}:FO (F_q9 a0) 50 [(TOf.d a0)] [] vb NL:=fO (s:=S_q9 a0) Tryz.func50
theorem cz7:OLe (bx (DV.agg [Z0,Z0,Z0,Z0])) (TBo.b (⟨[],[],[],[]⟩:TBo)):=z50 (DLe.agg (DLeL.cons DLe.sl0 (DLeL.cons DLe.sl0 (DLeL.cons DLe.sl0 (DLeL.cons DLe.sl0 DLeL.nil)))))
abbrev R_q20:=(List TRe)×(List TCo)×(List TVe)×(List TOr)
def S_q20 (a0:TBo):SC R_q20 R_q20 :=
.reg 0 [] [(1,{ obs:=[(1,(TBo.b (⟨[],[],[],[]⟩:TBo)))] })] [.pf cz7]<|
.guard [a0.C.length * (2 * 56)<=2 ^ 48,a0.G.length * (2 * 56)<=2 ^ 48,a0.I.length * (2 * 32)<=2 ^ 48,a0.T.length * (2 * 40)<=2 ^ 48]<|
.reg 1 [3,7,11,15,17] [(3,{ h:=.obj }),(7,{ h:=.obj }),(11,{ h:=.obj }),(15,{ h:=.obj })] [.pf (p:=∀ k,k<a0.C.length->(TRe.d (a0.C.getD k dF)).wd=6) (fun _ _=>rfl),.ev 0,.pf (p:=∀ k,k<a0.G.length->(TCo.d (a0.G.getD k dF)).wd=7) (fun _ _=>rfl),.ev 1,.pf (p:=∀ k,k<a0.I.length->(TVe.d (a0.I.getD k dF)).wd=4) (fun _ _=>rfl),.ev 2,.pf (p:=∀ k,k<a0.T.length->(TOr.d (a0.T.getD k dF)).wd=5) (fun _ _=>rfl),.ev 3]<|
.kill 0<|
.r (a0.C,a0.G,a0.I,a0.T)
def F_q20 (a0:TBo):=(S_q20 a0).den
theorem F_q20_ok {a0:TBo}:FO (F_q20 a0) 166 [(TBo.d a0)] [] (fun x=>(AV.agg [(AV.ref 2 x.1.length 0 x.1.length),(AV.ref 3 x.2.1.length 0 x.2.1.length),(AV.ref 4 x.2.2.1.length 0 x.2.2.1.length),(AV.ref 5 x.2.2.2.length 0 x.2.2.2.length)])) (fun x=>[Ob.dead,(Ob.box (AV.agg [(AV.ref 2 x.1.length 0 x.1.length),(AV.ref 3 x.2.1.length 0 x.2.1.length),(AV.ref 4 x.2.2.1.length 0 x.2.2.1.length),(AV.ref 5 x.2.2.2.length 0 x.2.2.2.length)])),(eS 6 TRe.e x.1),(eS 7 TCo.e x.2.1),(eS 4 TVe.e x.2.2.1),(eS 5 TOr.e x.2.2.2)]):=fO (s:=S_q20 a0) Tryz.func166
theorem zy:LeV (AV.d (DV.agg [Z0,Z0,Z0,Z0])) (TBo.d (⟨[],[],[],[]⟩:TBo)):=z2p rfl (DLe.agg (DLeL.cons DLe.sl0 (DLeL.cons DLe.sl0 (DLeL.cons DLe.sl0 (DLeL.cons DLe.sl0 DLeL.nil)))))
def S_q4u (a0:TBo) (a1:Y8) (a2:Int) (a3:Int) (a4:Int):SC (TBo×Int) (TBo×Int) :=
 let e2_:=(⟨[],[],[],[]⟩:TBo)
.reg 0 [] [(1,{ obs:=[(1,(TBo.b e2_))] })] [.pf cz7]<|
.a 1 1 2 (@F_q1g_ok a0) fun rv1=>
 let e3_:=(0,hv (TBo.d e2_))
.ite (!rv1) (
.reg 2 [] [e3_] [.pf zy]<|
.r (e2_,1)) (
.a 3 1 2 (@F_qk_ok a1) fun rv2=>
.ite (!rv2) (
.reg 4 [] [e3_] [.pf zy]<|
.r (e2_,5)) (
 let e1_:=(cO (decide (a2<0)) (decide (a2>99)))
.calld [e1_=false] dF (@F_qy_ok a3) fun rv3 cv3 =>
 let e4_:=(cO e1_ (!rv3))
.calld [e4_=false] dF (@F_q1d_ok a4) fun rv4 cv4 =>
.reg 5 [] [(8,hc cv3 [] true),(13,hc cv4 [] true)] [.clg 2 [e1_=false] cv3 [] 2 true,.clg 0 [e4_=false] cv4 [] 2 true]<|
.ite (cO e4_ (!rv4)) (
.reg 6 [] [e3_] [.pf zy]<|
.r (e2_,2)) (
.a 7 1 2 (@F_q1c_ok a3) fun rv5=>
.ite (rv5 != a2) (
.reg 8 [] [e3_] [.pf zy]<|
.r (e2_,16)) (
.ite ((a0.C.length:Int)==200) (
.reg 10 [] [e3_] [.pf zy]<|
.r (e2_,3)) (
.call (@F_q20_ok a0) fun rv6 cv6=>
.reg 11 [] [(1,hc cv6 [] false),(2,{ h:=.obj })] [.cl 0 cv6 [] 2 false]<|
.kill 3<|
.guard [rv6.2.1.length<2 ^ 63]<|
.frz 5 (.ev 0) none [] [8]<|
.guard [rv6.2.2.1.length<2 ^ 63]<|
.frz 6 (.ev 0) none [] [8]<|
.guard [rv6.2.2.2.length<2 ^ 63]<|
.frz 7 (.ev 0) none [] [8]<|
.guard [(rv6.1.length+1) * (2 * 56)<=2 ^ 48]<|
 let e0_:=([(⟨(i64.wrap ((a0.C.length:Int)+1)),a1,a2,a3,a4,0⟩:TRe)]:List TRe)
.reg 12 [] [(11,hv (AV.d (eL TRe.e e0_))),(12,{ cast:=some (AV.ref 4 ((rv6.1++e0_).length) 0 ((rv6.1++e0_).length)),obs:=[(4,(eS 6 TRe.e (rv6.1++e0_)))] })] [.pf (ze TRe.e e0_),.e rv6.1.length,.e rv6.1.length,.pf (p:=∀ k,k<1->(TRe.d (e0_.getD k dF)).wd=6) (fun _ _=>rfl),.ev 0,.pf (z11 (o:=4) (l:=rv6.1) (x:=e0_)),.pf (z13 (sz:=6) (e:=TRe.e) (l:=rv6.1) (x:=e0_))]<|
.guard [(rv6.1++e0_).length<2 ^ 63]<|
.reg 13 [] [] []<|
.frz 4 (.ev 0) none [] [1,8]<|
.r ((⟨(rv6.1++e0_),rv6.2.1,rv6.2.2.1,rv6.2.2.2⟩:TBo),0))))))
def F_q4u (a0:TBo) (a1:Y8) (a2:Int) (a3:Int) (a4:Int):=(S_q4u a0 a1 a2 a3 a4).den
theorem F_q4u_ok {a0:TBo} {a1:Y8} {a2:Int} {a3:Int} {a4:Int}:FO (F_q4u a0 a1 a2 a3 a4) 128 [(TBo.d a0),(AV.d (DV.str a1)),(vi a2),(vi a3),(vi a4)] [] (fun x=>(AV.tup [(TBo.d x.1),(vi x.2)])) NL:=fO (s:=S_q4u a0 a1 a2 a3 a4) Tryz.func128
def S_q4v (a0:TBo) (a1:Int) (a2:Int) (a3:Int) (a4:Int) (a5:Int):SC (TBo×Int) (TBo×Int) :=
 let e1_:=(⟨[],[],[],[]⟩:TBo)
.reg 0 [] [(1,{ obs:=[(1,(TBo.b e1_))] })] [.pf cz7]<|
.a 1 1 2 (@F_q1g_ok a0) fun rv1=>
 let e3_:=(0,hv (TBo.d e1_))
.ite (!rv1) (
.reg 2 [] [e3_] [.pf zy]<|
.r (e1_,1)) (
.ite (cO (decide (a1<1)) (decide (a1>(a0.C.length:Int)))) (
.reg 4 [] [e3_] [.pf zy]<|
.r (e1_,6)) (
.call (@F_qy_ok a2) fun rv2 cv2=>
.calld [(!rv2)=false] dF (@F_q1d_ok a3) fun rv3 cv3 =>
 let e2_:=(cO (cO (cO (!rv2) (!rv3)) (decide (a4<1))) (decide (a4>1000000)))
.calld [e2_=false] dF (@F_qy_ok a5) fun rv4 cv4 =>
.reg 5 [] [(1,hc cv2 [] true),(5,hc cv3 [] true),(18,hc cv4 [] true)] [.cl 4 cv2 [] 2 true,.clg 2 [(!rv2)=false] cv3 [] 2 true,.clg 0 [e2_=false] cv4 [] 2 true]<|
.ite (cO e2_ (!rv4)) (
.reg 6 [] [e3_] [.pf zy]<|
.r (e1_,2)) (
 let e4_:=(i64.wrap (a1-1))
.guard [(0:Int)<=e4_,(e4_).toNat<a0.C.length]<|
.reg 7 [] [] [.ev 0,.ev 1]<|
.a 8 1 3 (@F_q1c_ok a2) fun rv5=>
 let e6_:=(a0.C.getD ((e4_).toNat) dF)
.ite (rv5 != (e6_.E)) (
.reg 9 [] [e3_] [.pf zy]<|
.r (e1_,16)) (
.ite (decide (a2<(e6_.Z))) (
.reg 11 [] [e3_] [.pf zy]<|
.r (e1_,8)) (
.a 12 3 3 (@F_qo_ok a0 a1) fun rv6=>
.ite (decide (a3>rv6)) (
.reg 13 [] [e3_] [.pf zy]<|
.r (e1_,15)) (
.ite ((a0.G.length:Int)==200) (
.reg 15 [] [e3_] [.pf zy]<|
.r (e1_,3)) (
.call (@F_q20_ok a0) fun rv7 cv7=>
.reg 16 [] [(1,hc cv7 [] false),(2,{ h:=.obj })] [.cl 0 cv7 [] 3 false]<|
.kill 4<|
.guard [rv7.1.length<2 ^ 63]<|
.frz 5 (.ev 0) none [] [9]<|
.guard [rv7.2.2.1.length<2 ^ 63]<|
.frz 7 (.ev 0) none [] [9]<|
.guard [rv7.2.2.2.length<2 ^ 63]<|
.frz 8 (.ev 0) none [] [9]<|
.guard [(rv7.2.1.length+1) * (2 * 56)<=2 ^ 48]<|
 let e0_:=([(⟨(i64.wrap ((a0.G.length:Int)+1)),a1,a2,a3,0,a4,a5⟩:TCo)]:List TCo)
 let e5_:=(rv7.2.1++e0_)
.reg 17 [] [(12,hv (AV.d (eL TCo.e e0_))),(13,{ cast:=some (AV.ref 6 (e5_.length) 0 (e5_.length)),obs:=[(6,(eS 7 TCo.e e5_))] })] [.pf (ze TCo.e e0_),.e rv7.2.1.length,.e rv7.2.1.length,.pf (p:=∀ k,k<1->(TCo.d (e0_.getD k dF)).wd=7) (fun _ _=>rfl),.ev 0,.pf (z11 (o:=6) (l:=rv7.2.1) (x:=e0_)),.pf (z13 (sz:=7) (e:=TCo.e) (l:=rv7.2.1) (x:=e0_))]<|
.guard [e5_.length<2 ^ 63]<|
.reg 18 [] [] []<|
.frz 6 (.ev 0) none [] [1,9]<|
.r ((⟨rv7.1,e5_,rv7.2.2.1,rv7.2.2.2⟩:TBo),0))))))))
def F_q4v (a0:TBo) (a1:Int) (a2:Int) (a3:Int) (a4:Int) (a5:Int):=(S_q4v a0 a1 a2 a3 a4 a5).den
theorem F_q4v_ok {a0:TBo} {a1:Int} {a2:Int} {a3:Int} {a4:Int} {a5:Int}:FO (F_q4v a0 a1 a2 a3 a4 a5) 129 [(TBo.d a0),(vi a1),(vi a2),(vi a3),(vi a4),(vi a5)] [] (fun x=>(AV.tup [(TBo.d x.1),(vi x.2)])) NL:=fO (s:=S_q4v a0 a1 a2 a3 a4 a5) Tryz.func129
def S_q4w (a0:TBo) (a1:Int) (a2:Int) (a3:Int):SC (TBo×Int) (TBo×Int) :=
 let e1_:=(⟨[],[],[],[]⟩:TBo)
.reg 0 [] [(1,{ obs:=[(1,(TBo.b e1_))] })] [.pf cz7]<|
.a 1 1 2 (@F_q1g_ok a0) fun rv1=>
 let e2_:=(0,hv (TBo.d e1_))
.ite (!rv1) (
.reg 2 [] [e2_] [.pf zy]<|
.r (e1_,1)) (
.ite (cO (decide (a1<1)) (decide (a1>(a0.G.length:Int)))) (
.reg 4 [] [e2_] [.pf zy]<|
.r (e1_,6)) (
.call (@F_qy_ok a2) fun rv2 cv2=>
.calld [(!rv2)=false] dF (@F_q1d_ok a3) fun rv3 cv3 =>
.reg 5 [] [(1,hc cv2 [] true),(5,hc cv3 [] true)] [.cl 2 cv2 [] 2 true,.clg 0 [(!rv2)=false] cv3 [] 2 true]<|
.ite (cO (!rv2) (!rv3)) (
.reg 6 [] [e2_] [.pf zy]<|
.r (e1_,2)) (
.call (@F_q1c_ok a2) fun rv4 cv4=>
.call (@F_q1y_ok a0 a1) fun rv5 cv5=>
.reg 7 [] [(1,hc cv4 [] true),(4,hc cv5 [] true)] [.cl 1 cv4 [] 2 true,.cl 0 cv5 [] 2 true]<|
.ite (decide (rv4>(i64.wrap (rv5+1)))) (
.reg 8 [] [e2_] [.pf zy]<|
.r (e1_,16)) (
 let e3_:=(i64.wrap (a1-1))
.guard [(0:Int)<=e3_,(e3_).toNat<a0.G.length]<|
.reg 9 [] [] [.ev 0,.ev 1]<|
 let e5_:=(a0.G.getD ((e3_).toNat) dF)
.ite (decide (a2<(e5_.Z))) (
.reg 10 [] [e2_] [.pf zy]<|
.r (e1_,8)) (
.call (@F_q1f_ok a0 e5_) fun rv6 cv6=>
.reg 11 [] [(8,hc cv6 [] true)] [.ev 2,.ev 3,.cl 0 cv6 [] 2 true]<|
.ite (decide (a3>rv6)) (
.reg 12 [] [e2_] [.pf zy]<|
.r (e1_,15)) (
.ite ((a0.I.length:Int)==200) (
.reg 14 [] [e2_] [.pf zy]<|
.r (e1_,3)) (
.call (@F_q20_ok a0) fun rv7 cv7=>
.reg 15 [] [(1,hc cv7 [] false),(2,{ h:=.obj })] [.cl 0 cv7 [] 2 false]<|
.kill 3<|
.guard [rv7.1.length<2 ^ 63]<|
.frz 4 (.ev 0) none [] [8]<|
.guard [rv7.2.1.length<2 ^ 63]<|
.frz 5 (.ev 0) none [] [8]<|
.guard [rv7.2.2.2.length<2 ^ 63]<|
.frz 7 (.ev 0) none [] [8]<|
.guard [(rv7.2.2.1.length+1) * (2 * 32)<=2 ^ 48]<|
 let e0_:=([(⟨(i64.wrap ((a0.I.length:Int)+1)),a1,a2,a3⟩:TVe)]:List TVe)
 let e4_:=(rv7.2.2.1++e0_)
.reg 16 [] [(10,hv (AV.d (eL TVe.e e0_))),(11,{ cast:=some (AV.ref 6 (e4_.length) 0 (e4_.length)),obs:=[(6,(eS 4 TVe.e e4_))] })] [.pf (ze TVe.e e0_),.e rv7.2.2.1.length,.e rv7.2.2.1.length,.pf (p:=∀ k,k<1->(TVe.d (e0_.getD k dF)).wd=4) (fun _ _=>rfl),.ev 0,.pf (z11 (o:=6) (l:=rv7.2.2.1) (x:=e0_)),.pf (z13 (sz:=4) (e:=TVe.e) (l:=rv7.2.2.1) (x:=e0_))]<|
.guard [e4_.length<2 ^ 63]<|
.reg 17 [] [] []<|
.frz 6 (.ev 0) none [] [1,8]<|
.r ((⟨rv7.1,rv7.2.1,e4_,rv7.2.2.2⟩:TBo),0))))))))
def F_q4w (a0:TBo) (a1:Int) (a2:Int) (a3:Int):=(S_q4w a0 a1 a2 a3).den
theorem F_q4w_ok {a0:TBo} {a1:Int} {a2:Int} {a3:Int}:FO (F_q4w a0 a1 a2 a3) 130 [(TBo.d a0),(vi a1),(vi a2),(vi a3)] [] (fun x=>(AV.tup [(TBo.d x.1),(vi x.2)])) NL:=fO (s:=S_q4w a0 a1 a2 a3) Tryz.func130
def S_q21_b1 (a0:TBo) (a1:Int) (iv1:Nat) (sv2:TOr×Int):SC (TOr×Int) (Step (TOr×Int) (TOr×Int)) :=
.reg 5 [] [] [.w iv1,.ev 0]<|
 let e0_:=(a0.T.getD iv1 dF)
.ite ((e0_.U)==a1) (
.r (.cont (e0_,(i64.wrap (sv2.2+1))))) (
.r (.cont (sv2.1,sv2.2)))
def S_q21 (a0:TBo) (a1:Int):SC (TOr×Int) (TOr×Int) :=
.range (a0.T.length:Int) a0.T.length rfl (.slot 11) 13 [1,4,6,11,12] (fun (sv2:TOr×Int)=>[(7,(vi sv2.2))]) (fun sv2=>[(2,(TOr.b sv2.1))]) ((⟨0,0,0,0,false⟩:TOr),0) (S_q21_b1 a0 a1) (fun sv2 => 
.r (sv2.1,sv2.2)) id
def F_q21 (a0:TBo) (a1:Int):=(S_q21 a0 a1).den
theorem F_q21_ok {a0:TBo} {a1:Int}:FO (F_q21 a0 a1) 170 [(TBo.d a0),(vi a1)] [] (fun x=>(AV.tup [(TOr.d x.1),(vi x.2)])) NL:=fO (s:=S_q21 a0 a1) Tryz.func170
def S_q4x (a0:TBo) (a1:Int) (a2:Int):SC (TBo×Int) (TBo×Int) :=
 let e1_:=(⟨[],[],[],[]⟩:TBo)
.reg 0 [] [(1,{ obs:=[(1,(TBo.b e1_))] })] [.pf cz7]<|
.a 1 1 2 (@F_q1g_ok a0) fun rv1=>
 let e2_:=(0,hv (TBo.d e1_))
.ite (!rv1) (
.reg 2 [] [e2_] [.pf zy]<|
.r (e1_,1)) (
.ite (cO (decide (a1<1)) (decide (a1>(a0.I.length:Int)))) (
.reg 4 [] [e2_] [.pf zy]<|
.r (e1_,6)) (
.a 5 1 2 (@F_qy_ok a2) fun rv2=>
.ite (!rv2) (
.reg 6 [] [e2_] [.pf zy]<|
.r (e1_,2)) (
 let e3_:=(i64.wrap (a1-1))
.guard [(0:Int)<=e3_,(e3_).toNat<a0.I.length]<|
.reg 7 [] [] [.ev 0,.ev 1]<|
.a 8 2 3 (@F_q21_ok a0 a1) fun rv3=>
.call (@F_q1c_ok a2) fun rv4 cv4=>
 let e5_:=(a0.I.getD ((e3_).toNat) dF)
.call (@F_q1y_ok a0 (e5_.Ac)) fun rv5 cv5=>
.reg 9 [] [(1,hc cv4 [] true),(5,hc cv5 [] true)] [.cl 1 cv4 [] 4 true,.cl 0 cv5 [] 4 true]<|
.ite (decide (rv4>(i64.wrap (rv5+1)))) (
.reg 10 [] [e2_] [.pf zy]<|
.r (e1_,16)) (
.ite (bif (decide (rv3.2>0)) then (!rv3.1.Al) else false) (
.reg 12 [] [e2_] [.pf zy]<|
.r (e1_,20)) (
.ite (cO (decide (a2<(e5_.Z))) (bif (decide (rv3.2>0)) then (decide (a2<rv3.1.Z)) else false)) (
.reg 14 [] [e2_] [.pf zy]<|
.r (e1_,8)) (
.ite ((a0.T.length:Int)==200) (
.reg 16 [] [e2_] [.pf zy]<|
.r (e1_,3)) (
.call (@F_q20_ok a0) fun rv6 cv6=>
.reg 17 [] [(1,hc cv6 [] false),(2,{ h:=.obj })] [.cl 0 cv6 [] 4 false]<|
.kill 5<|
.guard [rv6.1.length<2 ^ 63]<|
.frz 6 (.ev 0) none [] [10]<|
.guard [rv6.2.1.length<2 ^ 63]<|
.frz 7 (.ev 0) none [] [10]<|
.guard [rv6.2.2.1.length<2 ^ 63]<|
.frz 8 (.ev 0) none [] [10]<|
.guard [(rv6.2.2.2.length+1) * (2 * 40)<=2 ^ 48]<|
 let e0_:=([(⟨(i64.wrap ((a0.T.length:Int)+1)),a1,(i64.wrap (rv3.2+1)),a2,false⟩:TOr)]:List TOr)
 let e4_:=(rv6.2.2.2++e0_)
.reg 18 [] [(11,hv (AV.d (eL TOr.e e0_))),(12,{ cast:=some (AV.ref 9 (e4_.length) 0 (e4_.length)),obs:=[(9,(eS 5 TOr.e e4_))] })] [.pf (ze TOr.e e0_),.e rv6.2.2.2.length,.e rv6.2.2.2.length,.pf (p:=∀ k,k<1->(TOr.d (e0_.getD k dF)).wd=5) (fun _ _=>rfl),.ev 0,.pf (z11 (o:=9) (l:=rv6.2.2.2) (x:=e0_)),.pf (z13 (sz:=5) (e:=TOr.e) (l:=rv6.2.2.2) (x:=e0_))]<|
.guard [e4_.length<2 ^ 63]<|
.reg 19 [] [] []<|
.frz 9 (.ev 0) none [] [1,10]<|
.r ((⟨rv6.1,rv6.2.1,rv6.2.2.1,e4_⟩:TBo),0))))))))
def F_q4x (a0:TBo) (a1:Int) (a2:Int):=(S_q4x a0 a1 a2).den
theorem F_q4x_ok {a0:TBo} {a1:Int} {a2:Int}:FO (F_q4x a0 a1 a2) 131 [(TBo.d a0),(vi a1),(vi a2)] [] (fun x=>(AV.tup [(TBo.d x.1),(vi x.2)])) NL:=fO (s:=S_q4x a0 a1 a2) Tryz.func131
end
end Go.Proofs.YtlhikmklpelceaaGreatDoor
/- What the functions compute,and that their calls return it. No condition. -/
namespace Go.Proofs.YtlhikmklpelceaaGreatDoor
open Go Go.TA
open Go.IntKind (i64)
noncomputable section
set_option maxRecDepth 100000
def S_q4y (a0:TBo) (a1:Int) (a2:Int):SC (TBo×Int) (TBo×Int) :=
 let e2_:=(⟨[],[],[],[]⟩:TBo)
 let e7_:=(TBo.b e2_)
.reg 0 [] [(1,{ obs:=[(1,e7_)] })] [.pf cz7]<|
.a 1 1 2 (@F_q1g_ok a0) fun rv1=>
 let e5_:=(0,hv (TBo.d e2_))
.ite (!rv1) (
.reg 2 [] [e5_] [.pf zy]<|
.r (e2_,1)) (
.ite (cO (decide (a1<1)) (decide (a1>(a0.C.length:Int)))) (
.reg 4 [] [e5_] [.pf zy]<|
.r (e2_,6)) (
.a 5 1 2 (@F_q1d_ok a2) fun rv2=>
.ite (!rv2) (
.reg 6 [] [e5_] [.pf zy]<|
.r (e2_,2)) (
.a 7 3 2 (@F_qo_ok a0 a1) fun rv3=>
.ite (decide (a2>rv3)) (
.reg 8 [] [e5_] [.pf zy]<|
.r (e2_,15)) (
.call (@F_q20_ok a0) fun rv4 cv4=>
.reg 9 [] [(1,hc cv4 [] false),(2,{ obs:=[(8,e7_)] })] [.cl 0 cv4 [] 2 false,.pf cz7]<|
.kill 3<|
.guard [rv4.2.1.length<2 ^ 63]<|
.frz 5 (.ev 0) none [] [8]<|
.guard [rv4.2.2.1.length<2 ^ 63]<|
.frz 6 (.ev 0) none [] [8]<|
.guard [rv4.2.2.2.length<2 ^ 63]<|
.frz 7 (.ev 0) none [] [8]<|
 let e6_:=(i64.wrap (a1-1))
 let e1_:=(0+(e6_).toNat)
.guard [(0:Int)<=e6_,(e6_).toNat<rv4.1.length,e1_<rv4.1.length]<|
 let e3_:=(rv4.1.getD e1_ dF)
 let e0_:=(⟨e3_.O,e3_.D,e3_.E,e3_.Z,e3_.S,(i64.wrap ((e3_.Ad)+a2))⟩:TRe)
 let e4_:=(rv4.1.set e1_ e0_)
 let e8_:=(eS 6 TRe.e e4_)
.reg 10 [] [(11,{ obs:=[(4,e8_)] })] [.e rv4.1.length,.ev 0,.ev 1,.e rv4.1.length,.e rv4.1.length,.ev 2,.e rv4.1.length,.ev 0,.ev 1,.e rv4.1.length,.e rv4.1.length,.ev 2,.pf (zu (sz:=6) (e:=TRe.e) (l:=rv4.1) (i:=e1_) (x:=e0_) (fun _=>rfl))]<|
 let e9_:=(AV.d (eL TVe.e rv4.2.2.1))
 let e10_:=(AV.d (eL TOr.e rv4.2.2.2))
 let e11_:=(AV.d (eL TCo.e rv4.2.1))
 let e12_:=[(6,(vp 1)),(8,(vp 8))]
.cst (A:=True) (.pf trivial) e12_ e12_ [(TBo.b a0),e7_,Ob.dead,Ob.dead,e8_,Ob.dead,Ob.dead,Ob.dead,(Ob.box (AV.agg [(AV.ref 4 rv4.1.length 0 rv4.1.length),e11_,e9_,e10_]))] [(TBo.b a0),e7_,Ob.dead,Ob.dead,e8_,Ob.dead,Ob.dead,Ob.dead,(Ob.box (AV.agg [(AV.ref 4 (e4_.length) 0 (e4_.length)),e11_,e9_,e10_]))] (fun _=>⟨by simp +zetaDelta only,by simp +zetaDelta only[ya]⟩)<|
.guard [e4_.length<2 ^ 63]<|
.reg 11 [] [] []<|
.frz 4 (.ev 0) none [] [1,8]<|
.r ((⟨e4_,rv4.2.1,rv4.2.2.1,rv4.2.2.2⟩:TBo),0)))))
def F_q4y (a0:TBo) (a1:Int) (a2:Int):=(S_q4y a0 a1 a2).den
theorem F_q4y_ok {a0:TBo} {a1:Int} {a2:Int}:FO (F_q4y a0 a1 a2) 132 [(TBo.d a0),(vi a1),(vi a2)] [] (fun x=>(AV.tup [(TBo.d x.1),(vi x.2)])) NL:=fO (s:=S_q4y a0 a1 a2) Tryz.func132
def S_q4z (a0:TBo) (a1:Int) (a2:Int):SC (TBo×Int) (TBo×Int) :=
 let e2_:=(⟨[],[],[],[]⟩:TBo)
 let e7_:=(TBo.b e2_)
.reg 0 [] [(1,{ obs:=[(1,e7_)] })] [.pf cz7]<|
.a 1 1 2 (@F_q1g_ok a0) fun rv1=>
 let e6_:=(0,hv (TBo.d e2_))
.ite (!rv1) (
.reg 2 [] [e6_] [.pf zy]<|
.r (e2_,1)) (
.ite (cO (decide (a1<1)) (decide (a1>(a0.G.length:Int)))) (
.reg 4 [] [e6_] [.pf zy]<|
.r (e2_,6)) (
.a 5 1 2 (@F_q1d_ok a2) fun rv2=>
.ite (!rv2) (
.reg 6 [] [e6_] [.pf zy]<|
.r (e2_,2)) (
 let e5_:=(i64.wrap (a1-1))
.call (@F_q1f_ok a0 (a0.G.getD ((e5_).toNat) dF)) fun rv3 cv3=>
.guard [(0:Int)<=e5_,(e5_).toNat<a0.G.length]<|
.reg 7 [] [(8,hc cv3 [] true)] [.ev 0,.ev 1,.cl 2 cv3 [] 2 true]<|
.ite (decide (a2>rv3)) (
.reg 8 [] [e6_] [.pf zy]<|
.r (e2_,15)) (
.call (@F_q20_ok a0) fun rv4 cv4=>
.reg 9 [] [(1,hc cv4 [] false),(2,{ obs:=[(8,e7_)] })] [.cl 0 cv4 [] 2 false,.pf cz7]<|
.kill 3<|
.guard [rv4.1.length<2 ^ 63]<|
.frz 4 (.ev 0) none [] [8]<|
.guard [rv4.2.2.1.length<2 ^ 63]<|
.frz 6 (.ev 0) none [] [8]<|
.guard [rv4.2.2.2.length<2 ^ 63]<|
.frz 7 (.ev 0) none [] [8]<|
 let e1_:=(0+(e5_).toNat)
.guard [(e5_).toNat<rv4.2.1.length,e1_<rv4.2.1.length]<|
 let e3_:=(rv4.2.1.getD e1_ dF)
 let e0_:=(⟨e3_.O,e3_.X,e3_.Z,e3_.S,(i64.wrap ((e3_.Ad)+a2)),e3_.Ah,e3_.Aj⟩:TCo)
 let e4_:=(rv4.2.1.set e1_ e0_)
 let e8_:=(eS 7 TCo.e e4_)
.reg 10 [] [(11,{ obs:=[(5,e8_)] })] [.e rv4.2.1.length,.ev 7,.ev 0,.e rv4.2.1.length,.e rv4.2.1.length,.ev 1,.e rv4.2.1.length,.ev 7,.ev 0,.e rv4.2.1.length,.e rv4.2.1.length,.ev 1,.pf (zu (sz:=7) (e:=TCo.e) (l:=rv4.2.1) (i:=e1_) (x:=e0_) (fun _=>rfl))]<|
 let e9_:=(AV.d (eL TVe.e rv4.2.2.1))
 let e10_:=(AV.d (eL TOr.e rv4.2.2.2))
 let e11_:=[(6,(vp 1)),(8,(vp 8))]
 let e12_:=(AV.d (eL TRe.e rv4.1))
.cst (A:=True) (.pf trivial) e11_ e11_ [(TBo.b a0),e7_,Ob.dead,Ob.dead,Ob.dead,e8_,Ob.dead,Ob.dead,(Ob.box (AV.agg [e12_,(AV.ref 5 rv4.2.1.length 0 rv4.2.1.length),e9_,e10_]))] [(TBo.b a0),e7_,Ob.dead,Ob.dead,Ob.dead,e8_,Ob.dead,Ob.dead,(Ob.box (AV.agg [e12_,(AV.ref 5 (e4_.length) 0 (e4_.length)),e9_,e10_]))] (fun _=>⟨by simp +zetaDelta only,by simp +zetaDelta only[ya]⟩)<|
.guard [e4_.length<2 ^ 63]<|
.reg 11 [] [] []<|
.frz 5 (.ev 0) none [] [1,8]<|
.r ((⟨rv4.1,e4_,rv4.2.2.1,rv4.2.2.2⟩:TBo),0)))))
def F_q4z (a0:TBo) (a1:Int) (a2:Int):=(S_q4z a0 a1 a2).den
theorem F_q4z_ok {a0:TBo} {a1:Int} {a2:Int}:FO (F_q4z a0 a1 a2) 133 [(TBo.d a0),(vi a1),(vi a2)] [] (fun x=>(AV.tup [(TBo.d x.1),(vi x.2)])) NL:=fO (s:=S_q4z a0 a1 a2) Tryz.func133
def S_q50 (a0:TBo) (a1:Int):SC (TBo×Int) (TBo×Int) :=
 let e2_:=(⟨[],[],[],[]⟩:TBo)
 let e6_:=(TBo.b e2_)
.reg 0 [] [(1,{ obs:=[(1,e6_)] })] [.pf cz7]<|
.a 1 1 2 (@F_q1g_ok a0) fun rv1=>
 let e4_:=(0,hv (TBo.d e2_))
.ite (!rv1) (
.reg 2 [] [e4_] [.pf zy]<|
.r (e2_,1)) (
.ite (cO (decide (a1<1)) (decide (a1>(a0.I.length:Int)))) (
.reg 4 [] [e4_] [.pf zy]<|
.r (e2_,6)) (
.a 5 2 2 (@F_q21_ok a0 a1) fun rv2=>
.ite (cO (rv2.2==0) rv2.1.Al) (
.reg 7 [] [e4_] [.pf zy]<|
.r (e2_,9)) (
.call (@F_q20_ok a0) fun rv3 cv3=>
.reg 8 [] [(1,hc cv3 [] false),(2,{ obs:=[(9,e6_)] })] [.cl 0 cv3 [] 3 false,.pf cz7]<|
.kill 4<|
.guard [rv3.1.length<2 ^ 63]<|
.frz 5 (.ev 0) none [] [9]<|
.guard [rv3.2.1.length<2 ^ 63]<|
.frz 6 (.ev 0) none [] [9]<|
.guard [rv3.2.2.1.length<2 ^ 63]<|
.frz 7 (.ev 0) none [] [9]<|
 let e3_:=(i64.wrap (rv2.1.O-1))
 let e7_:=(0+(e3_).toNat)
.guard [(0:Int)<=e3_,(e3_).toNat<rv3.2.2.2.length,e7_<rv3.2.2.2.length]<|
 let e1_:=(rv3.2.2.2.getD e7_ dF)
 let e5_:=(⟨e1_.O,e1_.U,e1_.Ak,e1_.Z,true⟩:TOr)
 let e0_:=(rv3.2.2.2.set e7_ e5_)
 let e8_:=(eS 5 TOr.e e0_)
.reg 9 [] [(7,{ obs:=[(8,e8_)] })] [.e rv3.2.2.2.length,.ev 0,.ev 1,.e rv3.2.2.2.length,.e rv3.2.2.2.length,.ev 2,.pf (zu (sz:=5) (e:=TOr.e) (l:=rv3.2.2.2) (i:=e7_) (x:=e5_) (fun _=>rfl))]<|
 let e9_:=(AV.d (eL TVe.e rv3.2.2.1))
 let e10_:=(AV.d (eL TCo.e rv3.2.1))
 let e11_:=[(4,(vp 1)),(8,(vp 9))]
 let e12_:=(AV.d (eL TRe.e rv3.1))
.cst (A:=True) (.pf trivial) e11_ e11_ [(TBo.b a0),e6_,(TOr.b rv2.1),Ob.dead,Ob.dead,Ob.dead,Ob.dead,Ob.dead,e8_,(Ob.box (AV.agg [e12_,e10_,e9_,(AV.ref 8 rv3.2.2.2.length 0 rv3.2.2.2.length)]))] [(TBo.b a0),e6_,(TOr.b rv2.1),Ob.dead,Ob.dead,Ob.dead,Ob.dead,Ob.dead,e8_,(Ob.box (AV.agg [e12_,e10_,e9_,(AV.ref 8 (e0_.length) 0 (e0_.length))]))] (fun _=>⟨by simp +zetaDelta only,by simp +zetaDelta only[ya]⟩)<|
.guard [e0_.length<2 ^ 63]<|
.reg 10 [] [] []<|
.frz 8 (.ev 0) none [] [1,9]<|
.r ((⟨rv3.1,rv3.2.1,rv3.2.2.1,e0_⟩:TBo),0))))
def F_q50 (a0:TBo) (a1:Int):=(S_q50 a0 a1).den
theorem F_q50_ok {a0:TBo} {a1:Int}:FO (F_q50 a0 a1) 134 [(TBo.d a0),(vi a1)] [] (fun x=>(AV.tup [(TBo.d x.1),(vi x.2)])) NL:=fO (s:=S_q50 a0 a1) Tryz.func134
def S_q3l (a0:TRi) (a1:TMe):SC (TRi×Int) (TRi×Int) :=
.a 1 1 3 (@F_q2z_ok a0) fun rv1=>
.ite (cO (cO (cO (!rv1) (a1.Aa != 0)) (!(a1.D==a0.D))) (a1.E != a0.E)) (
.r ((⟨[],0,0,0,0⟩:TRi),1)) (
.call (@F_qe_ok a1.A) fun rv2 cv2=>
.calld [(!rv2)=false] dF (@F_qe_ok a1.K) fun rv3 cv3 =>
.reg 3 [] [(2,hc cv2 [] true),(7,hc cv3 [] true)] [.cl 2 cv2 [] 3 true,.clg 0 [(!rv2)=false] cv3 [] 3 true]<|
.ite (cO (!rv2) (!rv3)) (
.r ((⟨[],0,0,0,0⟩:TRi),2)) (
.reg 5 [11,13] [] []<|
.r ((⟨a0.D,a0.E,(if a1.A>a0.A then a1.A else a0.A),(if a1.K>a0.K then a1.K else a0.K),a0.M⟩:TRi),0)))
def F_q3l (a0:TRi) (a1:TMe):=(S_q3l a0 a1).den
theorem F_q3l_ok {a0:TRi} {a1:TMe}:FO (F_q3l a0 a1) 171 [(TRi.d a0),(TMe.d a1)] [] (fun x=>(AV.tup [(TRi.d x.1),(vi x.2)])) NL:=fO (s:=S_q3l a0 a1) Tryz.func171
theorem cz9:∀ k,k<1->(TRi.d (([(⟨[],0,0,0,0⟩:TRi)]:List TRi).getD k dF)).wd=5:=fun _ _=>rfl
def S_q1h_b1 (a0:TOf) (rv1:(TRi×Int)) (sv2:Int):SC (TOf×Int) (Step (Int) (TOf×Int)) :=
.ite (decide (sv2<(a0.J.length:Int))) (
 let e2_:=(0+(sv2).toNat)
 let e3_:=(a0.J.getD e2_ dF)
.call (@F_qv_ok (e3_.D) rv1.1.D) fun rv3 cv3=>
.guard [(0:Int)<=sv2,(sv2).toNat<a0.J.length,e2_<a0.J.length]<|
.reg 15 [] [(7,hc cv3 [] true)] [.e a0.J.length,.ev 0,.ev 1,.e a0.J.length,.e a0.J.length,.ev 2,.cl 3 cv3 [] 5 true]<|
 let e0_:=(decide (rv3>0))
.guard [AllP [(rv3==0)=true,e0_=false]->((0:Int)<=sv2),AllP [(rv3==0)=true,e0_=false]->((sv2).toNat<a0.J.length),AllP [(rv3==0)=true,e0_=false]->(e2_<a0.J.length)]<|
 let e1_:=(a0.J.length=a0.J.length)
.reg 16 [] [] [.pf (p:=AllP [(rv3==0)=true,e0_=false]->e1_) (fun _=>rfl),.ev 0,.ev 1,.pf (p:=AllP [(rv3==0)=true,e0_=false]->e1_) (fun _=>rfl),.pf (p:=AllP [(rv3==0)=true,e0_=false]->e1_) (fun _=>rfl),.ev 2]<|
.ite (cO e0_ (bif (rv3==0) then (decide ((e3_.E)>rv1.1.E)) else false)) (
.r (.brk sv2)) (
.r (.cont (i64.wrap (sv2+1))))) (
.r (.brk sv2))
def S_q1h (a0:TOf) (a1:TOp):SC (TOf×Int) (TOf×Int) :=
 let e1_:=(⟨0,[],(⟨[],[],[],[]⟩:TBo)⟩:TOf)
 let e10_:=(TOf.b e1_)
.reg 0 [] [(2,{ obs:=[(2,e10_)] })] [.pf cz5]<|
.a 1 2 3 (@F_qk_ok a1.D) fun rv4=>
 let e7_:=(0,hv (TOf.d e1_))
.ite (!rv4) (
.reg 2 [] [e7_] [.pf cz6]<|
.r (e1_,5)) (
.ite (cO (decide (a1.E<0)) (decide (a1.E>99))) (
.reg 4 [] [e7_] [.pf cz6]<|
.r (e1_,2)) (
.a 5 5 3 (@F_qz_ok a0 a1.D a1.E) fun rv5=>
.ite (bif (decide (rv5<0)) then ((a0.J.length:Int)==60) else false) (
.reg 7 [] [e7_] [.pf cz6]<|
.r (e1_,3)) (
.call (@F_q1z_ok a0 a1.D a1.E) fun rv6 cv6=>
.call (@F_q3l_ok rv6 (⟨0,0,a1.D,a1.E,a1.A,a1.Af,0,0⟩:TMe)) fun rv1 cv1=>
.reg 8 [19,20] [(5,hc cv6 [] true),(15,hc cv1 [] true)] [.cl 1 cv6 [] 3 true,.cl 1 cv6 [] 4 true,.cl 0 cv1 [] 3 true,.cl 0 cv1 [] 4 true]<|
.ite (rv1.2 != 0) (
.reg 10 [] [e7_] [.pf cz6]<|
.r (e1_,rv1.2)) (
.guard [a0.J.length * (2 * 48)<=2 ^ 48]<|
.reg 11 [] [(3,{ h:=.obj })] [.pf (p:=∀ k,k<a0.J.length->(TRi.d (a0.J.getD k dF)).wd=5) (fun _ _=>rfl),.ev 0]<|
 let e12_:=(TRi.b rv1.1)
 let e15_:=(TOf.b a0)
 let e16_:=(TOp.b a1)
.cut none [2,4,7] (fun (sv7:(List TRi)×Int)=>[(6,(vi sv7.2)),(9,(AV.ref 4 sv7.1.length 0 sv7.1.length))]) (fun sv7=>[(4,(eS 5 TRi.e sv7.1))]) (
.ite (decide (rv5<0)) (
.iter [2,4,7,9] (fun (sv2:Int)=>[(6,(vi sv2))]) (fun _=>[]) 0 (S_q1h_b1 a0 rv1) (fun sv2 =>
.guard [(a0.J.length+1) * (2 * 48)<=2 ^ 48]<|
 let e6_:=(⟨[],0,0,0,0⟩:TRi)
 let e9_:=([e6_]:List TRi)
 let e0_:=(a0.J++e9_)
 let e11_:=(AV.ref 4 (e0_.length) 0 (e0_.length))
.reg 18 [] [(2,hv (AV.d (eL TRi.e e9_))),(3,{ h:=.obj,cast:=some e11_,obs:=[(4,(eS 5 TRi.e e0_))] })] [.pf (ze TRi.e e9_),.e a0.J.length,.e a0.J.length,.pf cz9,.ev 0,.pf (z11 (o:=4) (l:=a0.J) (x:=e9_)),.pf (z13 (sz:=5) (e:=TRi.e) (l:=a0.J) (x:=e9_))]<|
 let e14_:=(i64.wrap (sv2+1))
 let e2_:=(e14_)
.guard [(0:Int)<=e14_,e2_.toNat<=e0_.length,(0:Int)<=sv2,(sv2).toNat<=e0_.length]<|
 let e5_:=(0+(sv2).toNat)
 let e8_:=(0+e2_.toNat)
.reg 19 [7] [(7,{ obs:=[(4,(eS 5 TRi.e (copyL e0_ e8_ (min (e0_.length-(sv2).toNat) (e0_.length-e2_.toNat)) (fun i=>(e0_.getD (e5_+i) dF)))))] })] [.ev 0,.ev 1,.e (e0_.length),.ev 2,.ev 3,.e (e0_.length),.e (e0_.length),.e (e0_.length),.pf (p:=∀ k,k<(e0_.length-(sv2).toNat)->(TRi.d (e0_.getD (e5_+k) dF)).wd=5) (fun _ _=>rfl),.pf (z9k (sz:=5) (e:=TRi.e) (l:=e0_) (off:=e8_) (k:=(min (e0_.length-(sv2).toNat) (e0_.length-e2_.toNat))) (s:=(fun i=>(e0_.getD (e5_+i) dF))))]<|
.cst (A:=True) (.pf trivial) [(2,(vp 0)),(4,(vp 2)),(6,(vi sv2)),(7,(vp 3)),(9,e11_)] [(2,(vp 0)),(4,(vp 2)),(6,(vi sv2)),(7,(vp 3)),(9,(AV.ref 4 ((copyL e0_ e8_ (min (e0_.length-(sv2).toNat) (e0_.length-e2_.toNat)) (fun i=>(e0_.getD (e5_+i) dF))).length) 0 ((copyL e0_ e8_ (min (e0_.length-(sv2).toNat) (e0_.length-e2_.toNat)) (fun i=>(e0_.getD (e5_+i) dF))).length)))] [e15_,e16_,e10_,e12_,(eS 5 TRi.e (copyL e0_ e8_ (min (e0_.length-(sv2).toNat) (e0_.length-e2_.toNat)) (fun i=>(e0_.getD (e5_+i) dF))))] [e15_,e16_,e10_,e12_,(eS 5 TRi.e (copyL e0_ e8_ (min (e0_.length-(sv2).toNat) (e0_.length-e2_.toNat)) (fun i=>(e0_.getD (e5_+i) dF))))] (fun _=>⟨by simp +zetaDelta only[zq],by rfl⟩)<|
.r (.next ((copyL e0_ e8_ (min (e0_.length-(sv2).toNat) (e0_.length-e2_.toNat)) (fun i=>(e0_.getD (e5_+i) dF))),sv2))) .ret) (
.r (.next (a0.J,rv5)))) fun sv7=>
 let e13_:=(0+(sv7.2).toNat)
.guard [(0:Int)<=sv7.2,(sv7.2).toNat<sv7.1.length,e13_<sv7.1.length]<|
 let e3_:=(sv7.1.set e13_ rv1.1)
.reg 20 [] [(4,{ obs:=[(4,(eS 5 TRi.e e3_))] })] [.e sv7.1.length,.ev 0,.ev 1,.e sv7.1.length,.ev 2,.pf (zu (sz:=5) (e:=TRi.e) (l:=sv7.1) (i:=e13_) (x:=rv1.1) (fun _=>rfl))]<|
 let e4_:=[e15_,e16_,e10_,e12_,(eS 5 TRi.e e3_)]
.cst (A:=True) (.pf trivial) [(2,(vp 0)),(4,(vp 2)),(9,(AV.ref 4 sv7.1.length 0 sv7.1.length))] [(2,(vp 0)),(4,(vp 2)),(9,(AV.ref 4 (e3_.length) 0 (e3_.length)))] e4_ e4_ (fun _=>⟨by simp +zetaDelta only[ya],by rfl⟩)<|
.guard [e3_.length<2 ^ 63]<|
.reg 22 [] [] []<|
.frz 4 (.ev 0) none [] [0,2]<|
.r ((⟨a0.O,e3_,a0.Ae⟩:TOf),0)))))
def F_q1h (a0:TOf) (a1:TOp):=(S_q1h a0 a1).den
theorem F_q1h_ok {a0:TOf} {a1:TOp}:FO (F_q1h a0 a1) 135 [(TOf.d a0),(TOp.d a1)] [] (fun x=>(AV.tup [(TOf.d x.1),(vi x.2)])) NL:=fO (s:=S_q1h a0 a1) Tryz.func135
def S_q51 (a0:TRi) (a1:Int) (a2:Int):SC (TRi×Int) (TRi×Int) :=
.a 1 1 2 (@F_q2z_ok a0) fun rv1=>
 let e0_:=(⟨[],0,0,0,0⟩:TRi)
 let e1_:=(i64.wrap (a0.A-a0.M))
.ite (cO (cO (!rv1) (decide (a1<0))) (decide (a1>e1_))) (
.r (e0_,1)) (
.ite (cO (decide (a2<1)) (decide (a2>1000000000000000))) (
.r (e0_,2)) (
.ite (decide (a2>(i64.wrap (e1_-a1)))) (
.r (e0_,15)) (
.r ((⟨a0.D,a0.E,a0.A,a0.K,(i64.wrap (a0.M+a2))⟩:TRi),0))))
def F_q51 (a0:TRi) (a1:Int) (a2:Int):=(S_q51 a0 a1 a2).den
theorem F_q51_ok {a0:TRi} {a1:Int} {a2:Int}:FO (F_q51 a0 a1 a2) 136 [(TRi.d a0),(vi a1),(vi a2)] [] (fun x=>(AV.tup [(TRi.d x.1),(vi x.2)])) NL:=fO (s:=S_q51 a0 a1 a2) Tryz.func136
def S_q44 (a0:TOf) (a1:TOp):SC (TOf×Int) (TOf×Int) :=
 let e7_:=(⟨[],[],[],[]⟩:TBo)
 let e0_:=(⟨0,[],e7_⟩:TOf)
 let e4_:=(TOf.b e0_)
.reg 0 [] [(2,{ obs:=[(2,e4_)] })] [.pf cz5]<|
.a 1 1 3 (@F_q9_ok a0) fun rv1=>
 let e2_:=(0,hv (TOf.d e0_))
.ite (!rv1) (
.reg 2 [] [e2_] [.pf cz6]<|
.r (e0_,1)) (
.reg 3 [] [(2,{ obs:=[(3,(TBo.b e7_))] })] [.pf cz7]<|
.cut (some 0) [2,4,6] (fun (sv2:TBo×Int)=>[(7,(vi sv2.2))]) (fun sv2=>[(3,(TBo.b sv2.1))]) (
.ite (a1.Q==1) (
.a 7 10 4 (@F_q4u_ok a0.Ae a1.D a1.E a1.Z a1.S) fun rv3=>
.calld [(rv3.2==0)=true] dF (@F_q3k_ok a0 a1.D a1.E) fun rv4 cv4 =>
.reg 8 [] [(10,hc cv4 [] true)] [.clg 0 [(rv3.2==0)=true] cv4 [] 4 true]<|
.ite (bif (rv3.2==0) then (decide (a1.S>rv4)) else false) (
.r (.next (rv3.1,15))) (
.r (.next (rv3.1,rv3.2)))) (
.ite (a1.Q==2) (
.a 11 12 4 (@F_q4v_ok a0.Ae a1.Of a1.Z a1.S a1.Ah a1.Aj) fun rv5=>
.r (.next (rv5.1,rv5.2))) (
.ite (a1.Q==3) (
.a 13 8 4 (@F_q4w_ok a0.Ae a1.Of a1.Z a1.S) fun rv6=>
.r (.next (rv6.1,rv6.2))) (
.ite (a1.Q==4) (
.a 15 6 4 (@F_q4x_ok a0.Ae a1.Of a1.Z) fun rv7=>
.r (.next (rv7.1,rv7.2))) (
.ite (a1.Q==5) (
.a 17 6 4 (@F_q4y_ok a0.Ae a1.Of a1.S) fun rv8=>
.r (.next (rv8.1,rv8.2))) (
.ite (a1.Q==6) (
.a 19 6 4 (@F_q4z_ok a0.Ae a1.Of a1.S) fun rv9=>
.r (.next (rv9.1,rv9.2))) (
.ite (a1.Q==9) (
.a 21 4 4 (@F_q50_ok a0.Ae a1.Of) fun rv10=>
.r (.next (rv10.1,rv10.2))) (
.ite (a1.Q==8) (
.a 23 2 4 (@F_q1h_ok a0 a1) fun rv11=>
.r (.ret (rv11.1,rv11.2))) (
.ite (a1.Q==7) (
.a 25 5 4 (@F_qz_ok a0 a1.D a1.E) fun rv12=>
.ite (decide (rv12<0)) (
.reg 27 [] [e2_] [.pf cz6]<|
.r (.ret (e0_,6))) (
.call (@F_qf_ok a0.Ae a1.D a1.E) fun rv13 cv13=>
.call (@F_q51_ok (a0.J.getD ((rv12).toNat) dF) rv13 a1.S) fun rv14 cv14=>
.guard [(0:Int)<=rv12,(rv12).toNat<a0.J.length]<|
.reg 28 [18,19] [(11,hc cv13 [] true),(14,hc cv14 [] true)] [.ev 0,.ev 1,.ev 0,.ev 1,.cl 3 cv13 [] 4 true,.cl 3 cv13 [] 5 true,.cl 2 cv14 [] 4 true,.cl 2 cv14 [] 5 true]<|
.ite (rv14.2 != 0) (
.reg 30 [] [e2_] [.pf cz6]<|
.r (.ret (e0_,rv14.2))) (
.guard [a0.J.length * (2 * 48)<=2 ^ 48]<|
.reg 31 [] [(3,{ h:=.obj })] [.pf (p:=∀ k,k<a0.J.length->(TRi.d (a0.J.getD k dF)).wd=5) (fun _ _=>rfl),.ev 0]<|
 let e5_:=(0+(rv12).toNat)
.guard [e5_<a0.J.length]<|
 let e1_:=(a0.J.set e5_ rv14.1)
 let e6_:=(eS 5 TRi.e e1_)
.reg 32 [] [(5,{ obs:=[(5,e6_)] })] [.e a0.J.length,.ev 3,.ev 4,.e a0.J.length,.ev 0,.pf (zu (sz:=5) (e:=TRi.e) (l:=a0.J) (i:=e5_) (x:=rv14.1) (fun _=>rfl))]<|
 let e3_:=(TBo.e a0.Ae)
 let e8_:=[(2,(vp 0)),(4,(vp 2))]
.cst (A:=True) (.pf trivial) e8_ e8_ [(Ob.box (AV.agg [(vi a0.O),(AV.ref 5 a0.J.length 0 a0.J.length),(AV.d e3_)])),(TOp.b a1),e4_,(bx e3_),(TRi.b rv14.1),e6_] [(Ob.box (AV.agg [(vi a0.O),(AV.ref 5 (e1_.length) 0 (e1_.length)),(AV.d e3_)])),(TOp.b a1),e4_,(bx e3_),(TRi.b rv14.1),e6_] (fun _=>⟨by simp +zetaDelta only,by simp +zetaDelta only[ya]⟩)<|
.guard [e1_.length<2 ^ 63]<|
.reg 33 [] [] []<|
.frz 5 (.ev 0) none [] [0,2]<|
.r (.ret ((⟨a0.O,e1_,a0.Ae⟩:TOf),0))))) (
.r (.next (a0.Ae,1)))))))))))) fun sv2=>
.ite (sv2.2 != 0) (
.reg 35 [] [e2_] [.pf cz6]<|
.r (e0_,sv2.2)) (
.r ((⟨a0.O,a0.J,sv2.1⟩:TOf),0)))
def F_q44 (a0:TOf) (a1:TOp):=(S_q44 a0 a1).den
theorem F_q44_ok {a0:TOf} {a1:TOp}:FO (F_q44 a0 a1) 88 [(TOf.d a0),(TOp.d a1)] [] (fun x=>(AV.tup [(TOf.d x.1),(vi x.2)])) NL:=fO (s:=S_q44 a0 a1) Tryz.func88
end
end Go.Proofs.YtlhikmklpelceaaGreatDoor
