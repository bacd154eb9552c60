/- A part of the proof: what the functions compute, and that their calls return it. No condition. -/
import Derived.Test.YtgfgnhpecnmlpaaGreatDoorT5
import Derived.Lib.AppendZerosOnto
import Derived.Test.YtgfgnhpecnmlpaaGreatDoorProg
import Derived.Test.YtgfgnhpecnmlpaaGreatDoorT3
import Derived.Test.YtgfgnhpecnmlpaaGreatDoorG2
/- slices.Insert of one element, into rows of two kinds. No condition. -/
namespace Go.Proofs.YtgfgnhpecnmlpaaGreatDoor
namespace InsG
open Go Go.TA
open Go.IntKind (i64)
def cL:Code->Code
 | .seq x _=>x
 | _=>.skip
def cR:Code->Code
 | .seq _ y=>y
 | _=>.skip
def cT:Code->Code
 | .cond _ x _=>x
 | _=>.skip
noncomputable def regOps:Code->Array Oper
 | .region _ ops _=>ops
 | _=>#[]
noncomputable def opAt (ops : Array Oper) (i : Nat) : Oper := (ops[i]?).getD { dst := none, op := .move (.tmp 0), type := 0, pos := "", after := #[], guard := none }
noncomputable def ci (ff:Func):Code:=ff.body.getD .skip
section
variable (ff:Func)
noncomputable def R0:Code:=cL (ci ff)
noncomputable def R1:Code:=cL (cR (ci ff))
noncomputable def R2:Code:=cL (cR (cR (ci ff)))
noncomputable def X3:Code:=cL (cR (cR (cR (ci ff))))
noncomputable def R5:Code:=cL (cR (cR (cR (cR (ci ff)))))
noncomputable def X6:Code:=cL (cR (cR (cR (cR (cR (ci ff))))))
noncomputable def T8:Code:=cR (cR (cR (cR (cR (cR (ci ff))))))
noncomputable def R8:Code:=cL (cL (T8 ff))
noncomputable def B9:Code:=cT (cR (cL (T8 ff)))
noncomputable def R9:Code:=cL (B9 ff)
noncomputable def B10:Code:=cR (B9 ff)
noncomputable def C13:Code:=cR (T8 ff)
end
inductive PP:Func->Func->Nat->Nat->Nat->Nat->Nat->Nat->Prop
 | a:PP Tryz.f192 Tryz.f211 192 211 26 51 3 32
 | b:PP Tryz.f194 Tryz.f213 194 213 27 80 3 32
 | c:PP Tryz.f66 Tryz.f133 66 133 31 57 3 40
section
variable {ff fo:Func} {nf no tS tE sz bt:Nat}
theorem PP.fF (hp:PP ff fo nf no tS tE sz bt):Tryz.prog.funcs[nf]? = some ff:=by
 cases hp
 ·exact Tryz.func192
 ·exact Tryz.func194
 ·exact Tryz.func66
theorem PP.fO (hp:PP ff fo nf no tS tE sz bt):Tryz.prog.funcs[no]? = some fo:=by
 cases hp
 ·exact Tryz.func211
 ·exact Tryz.func213
 ·exact Tryz.func133
theorem PP.uS (hp:PP ff fo nf no tS tE sz bt):Tryz.prog.underlying tS=some (.slice tE):=by
 cases hp
 ·exact Tryz.underlying26
 ·exact Tryz.underlying27
 ·exact Tryz.underlying31
theorem PP.zE (hp:PP ff fo nf no tS tE sz bt):∀ w,(Go.sizeOf tE).run Tryz.prog w = .ok sz w:=by
 cases hp
 ·exact Tryz.sizeOf51
 ·exact Tryz.sizeOf80
 ·exact Tryz.sizeOf57
theorem zk4 (hp:PP ff fo nf no tS tE sz bt):ff.body=some (.seq (R0 ff) (.seq (R1 ff) (.seq (R2 ff) (.seq (.seq (cL (X3 ff)) (.cond (.tmp 16) (cT (cR (X3 ff))) .skip)) (.seq (R5 ff) (.seq (.seq (cL (X6 ff)) (.cond (.tmp 22) (cT (cR (X6 ff))) .skip)) (.seq (.seq (R8 ff) (.cond (.tmp 31) (.seq (R9 ff) (B10 ff)) .skip)) (C13 ff)))))))):=by cases hp <;> kernel_rfl
theorem zmi (hp:PP ff fo nf no tS tE sz bt):(R8 ff) = .region 8 (regOps (R8 ff)) false:=by cases hp <;> kernel_rfl
theorem zmj (hp:PP ff fo nf no tS tE sz bt):(R9 ff) = .region 9 (regOps (R9 ff)) false:=by cases hp <;> kernel_rfl
end
variable {i zn:Nat} {a:Act} {Q:Exit->Act->World->Prop} {X:Nat->Prop} {ms:Blocks} {w:World}
section
variable {α:Type} [Inhabited α] {e:α->DV} {ff fo:Func} {nf no tS tE sz bt:Nat}
def gB (sz:Nat) (e:α->DV) (l:List α) (i:Nat):Nat->AV:=fun j=>if j<i then .d (e (l.getD j dF)) else garb sz
noncomputable def sB (sz:Nat) (l:List α) (x:α) (i:Nat) (n1:(0:Int)<=i) (h1:i<=l.length+1) (w0:0<=i64.wrap ((i:Int)+1)) (w1:(i64.wrap ((i:Int)+1)).toNat<=l.length+1) (h2:i<=l.length)
  (hx:∀ k,k<1->(AV.d (e ([x].getD (0+k) dF))).wd=sz) (hl:∀ k,k<l.length-i->(AV.d (e (l.getD (0+i+k) dF))).wd=sz)
  (ho:OLe (.seq sz (l.length+1) fun j=>if 0+(i64.wrap ((i:Int)+1)).toNat<=j/\j<0+(i64.wrap ((i:Int)+1)).toNat+min (l.length-i) (l.length+1-(i64.wrap ((i:Int)+1)).toNat) then .d (e (l.getD (0+i+(j-(0+(i64.wrap ((i:Int)+1)).toNat))) dF))
   else if 0+i<=j/\j<0+i+min 1 (l.length+1-i) then .d (e ([x].getD (0+(j-(0+i))) dF)) else gB sz e l i j) (eS sz e (insL l i x))):SC Unit Unit :=
 .reg 10 [] [] [.pf n1,.pf h1,.pf (y1x (l.length+1)),.pf (y1x 1),.pf (y1x (l.length+1)),.pf hx] <|
 .reg 11 [8] [(8,{ obs:=[(2,eS sz e (insL l i x))] })] [.pf w0,.pf w1,.pf (y1x (l.length+1)),.pf n1,.pf h2,.pf (y1x l.length),.pf (y1x l.length),.pf (y1x (l.length+1)),.pf hl,.pf ho] <|
 .ret [] ()
def frI (n i:Nat) (s:AV):Fr:=[(7,.d (.i .i64 1)),(8,.d (.i .i64 (n:Int))),(2,.ref 1 1 0 1),(1,.d (.i .i64 (i:Int))),(0,s)]
theorem tailB (hp:PP ff fo nf no tS tE sz bt) (he:∀ x,(e x).wd=sz) {l:List α} {x:α} (hi:i<l.length) (hl:l.length<100000000000000) :
  AW none Tryz.prog ff.ntmps (B10 ff) (fun e1 fr L=>e1 = .ret/\FR Tryz.prog ff (.ref 2 (l.length+1) 0 (l.length+1)) [eS sz e l,eS sz e [x],eS sz e (insL l i x)] fr L)
   ((9,.ref 2 (l.length+1) 0 (l.length+1)) :: frI l.length i (.ref 0 l.length 0 l.length)) [eS sz e l,eS sz e [x],.seq sz (l.length+1) (gB sz e l i)]:=by
 have hw:i64.wrap ((i:Int)+1)=(i:Int)+1:=by rw[z2m] <;> omega
 exact pTailR (ρ:=Unit) (V:=fun _=>.ref 2 (l.length+1) 0 (l.length+1)) (Lr:=fun _=>[eS sz e l,eS sz e [x],eS sz e (insL l i x)]) (r:=())
  (s:=sB (e:=e) sz l x i om om (by rw[hw]; omega) (by rw[hw]; omega) om (fun k _=>he _) (fun k _=>he _) (by
   rw[hw]
   refine z3f z12.symm fun j hj=>?_
   rw[z96 om,show ((i:Int)+1).toNat=i+1 from om]
   by_cases h1:j<i
   ·rw[y5 om,y5 om,y6 h1,gB,y6 h1]
   ·by_cases h2:j=i
    ·subst h2
     rw[y5 om,y6 om,y5 h1,y6 rfl,show 0+(j-(0+j))=0 from om]
     rfl
    ·rw[y6 om,y5 h1,y5 h2]
     congr 3; omega)) (by cases hp <;> kernel_rfl) rfl
def gC (sz:Nat) (e:α->DV) (l:List α):Nat->AV:=fun j=>if j<l.length then .d (e (l.getD j dF)) else garb sz
noncomputable def sC (sz no:Nat) (l:List α) (x:α) (i:Nat) (a:(0:Int)<=i64.wrap ((l.length:Int)+1)) (c:(i64.wrap ((l.length:Int)+1)).toNat<=l.length+1) (f:(i64.wrap ((l.length:Int)+1)).toNat=l.length+1)
  (w0:(0:Int)<=i64.wrap ((i:Int)+1)) (w1:(i64.wrap ((i:Int)+1)).toNat<=l.length+1) (n1:(0:Int)<=i) (h1:i<=l.length+1)
  (hx:ExtOk Tryz.prog no [.ref 1 1 0 1,.ref 0 (l.length+1) (0+(i64.wrap ((i:Int)+1)).toNat) (l.length+1-(i64.wrap ((i:Int)+1)).toNat)] [.seq sz (l.length+1) (gC sz e l),eS sz e [x]] (.d (.b false)))
  (hg:∀ k,k<l.length+1-i->(gC sz e l (0+i+k)).wd=sz) (hy:∀ k,k<1->(AV.d (e ([x].getD (0+k) dF))).wd=sz)
  (ho:OLe (.seq sz (l.length+1) fun j=>if 0+i<=j/\j<0+i+min 1 (l.length+1-i) then .d (e ([x].getD (0+(j-(0+i))) dF))
   else if 0+(i64.wrap ((i:Int)+1)).toNat<=j/\j<0+(i64.wrap ((i:Int)+1)).toNat+min (l.length+1-i) (l.length+1-(i64.wrap ((i:Int)+1)).toNat) then gC sz e l (0+i+(j-(0+(i64.wrap ((i:Int)+1)).toNat)))
   else gC sz e l j) (eS sz e (insL l i x))):SC Unit Unit :=
 .reg 13 [] [] [.pf a,.pf c,.pf (y1x (l.length+1))] <|
 .cst (A:=(i64.wrap ((l.length:Int)+1)).toNat=l.length+1) (.pf f) [(0,.ref 0 (l.length+1) (0+0) ((i64.wrap ((l.length:Int)+1)).toNat-0)),(1,.d (.i .i64 (i:Int))),(2,.ref 1 1 0 1),(7,.d (.i .i64 1))]
  [(0,.ref 0 (l.length+1) 0 (l.length+1)),(1,.d (.i .i64 (i:Int))),(2,.ref 1 1 0 1),(7,.d (.i .i64 1))]
  [.seq sz (l.length+1) (gC sz e l),eS sz e [x]] [.seq sz (l.length+1) (gC sz e l),eS sz e [x]] (fun h=>⟨by rw[h]; rfl,rfl⟩) <|
 .reg 14 [] [(6,{ h:=.callr (.d (.b false)) })] [.pf w0,.pf w1,.pf (y1x (l.length+1)),.pf hx] <|
 .br true (.pf (p:=(!false)=true) rfl) <|
 .reg 15 [8] [] [.pf w0,.pf w1,.pf (y1x (l.length+1)),.pf n1,.pf h1,.pf (y1x (l.length+1)),.pf (y1x (l.length+1)),.pf (y1x (l.length+1)),.pf hg] <|
 .reg 16 [] [(4,{ obs:=[(0,eS sz e (insL l i x))] })] [.pf n1,.pf h1,.pf (y1x (l.length+1)),.pf (y1x 1),.pf (y1x (l.length+1)),.pf hy,.pf ho] <|
 .reg 17 [] [] [] <|
 .ret [] ()
theorem tailC (hp:PP ff fo nf no tS tE sz bt) (he:∀ x,(e x).wd=sz) {l:List α} {x:α} (hi:i<l.length) (hl:l.length<100000000000000) :
  AW none Tryz.prog ff.ntmps (C13 ff) (FQ Tryz.prog ff (.ref 0 (l.length+1) 0 (l.length+1)) [eS sz e (insL l i x),eS sz e [x]])
   (frI l.length i (.ref 0 (l.length+1) 0 l.length)) [.seq sz (l.length+1) (gC sz e l),eS sz e [x]]:=by
 have hw:i64.wrap ((i:Int)+1)=(i:Int)+1:=by rw[z2m] <;> omega
 have hw2:i64.wrap ((l.length:Int)+1)=(l.length:Int)+1:=by rw[z2m] <;> omega
 have hwd:∀ k,(gC sz e l k).wd=sz:=fun k=>by
  unfold gC
  split
  ·exact he _
  ·cases hp <;> rfl
 exact pTailG (ρ:=Unit) (V:=fun _=>.ref 0 (l.length+1) 0 (l.length+1)) (Lr:=fun _=>[eS sz e (insL l i x),eS sz e [x]]) (r:=())
  (s:=sC (e:=e) sz no l x i (by rw[hw2]; omega) (by rw[hw2]; omega) (by rw[hw2]; omega) (by rw[hw]; omega) (by rw[hw]; omega) om om
   (zej (fn:=fo) (tR:=4) (te:=tE) (sz:=sz) (z1:=sz) (z2:=sz) hp.fO (by cases hp <;> kernel_rfl) (by cases hp <;> kernel_rfl) (by cases hp <;> kernel_rfl) (by cases hp <;> kernel_rfl) hp.uS hp.zE (by cases hp <;> decide) rfl rfl dk rfl (by rw[hw]; omega) (by rw[hw]; omega) (by cases hp <;> decide))
   (fun k _=>hwd _) (fun k _=>he _) (by
   rw[hw]
   refine z3f z12.symm fun j hj=>?_
   rw[z96 om,show ((i:Int)+1).toNat=i+1 from om]
   by_cases h2:j=i
   ·subst h2
    rw[y6 om,y5 om,y6 rfl,show 0+(j-(0+j))=0 from om]
    rfl
   ·rw[y5 om,y5 h2]
    by_cases h1:j<i
    ·rw[y5 om,y6 h1,gC,y6 om]
    ·rw[y6 om,y5 h1,gC,y6 om]
     congr 3; omega)) (by cases hp <;> kernel_rfl) rfl
theorem z3z {c:Cx} {G:GFr} {t:Nat} {v:AV} (hf:FrIs c G a.tmps) (h:(t,[],v)∈G):AV.IsV c v (a.tmps.getD t undef):=(hf _ h).2.1 (fun z hz=>by cases hz)
theorem zmk (hp:PP ff fo nf no tS tE sz bt) {l:List α} {x:α} (h0:0<l.length) (hr:Rel X ms [eS sz e l,eS sz e [x]] w) (hf:FrIs (cxOf X ms [eS sz e l,eS sz e [x]] w) (frI l.length i (.ref 0 l.length 0 l.length)).up a.tmps) (hN:a.tmps.size=ff.ntmps) (hQ:∀ a' ms' w' b tc,Rel X ms' [eS sz e l,eS sz e [x]] w'->Ext ms w ms' w'->(cxOf X ms [eS sz e l,eS sz e [x]] w).le (cxOf X ms' [eS sz e l,eS sz e [x]] w')->FrIs (cxOf X ms' [eS sz e l,eS sz e [x]] w') (frI l.length i (.ref 0 l.length 0 l.length)).up a'.tmps ->
   a'.tmps.size=ff.ntmps->a'.defers=a.defers->ms'[0]? = some (some (b,tc))->l.length<=tc->a'.eval (.tmp 0) = .slice (some ⟨b,0,none⟩) l.length tc->a'.eval (.tmp 31) = .bool (decide (i64.wrap ((l.length:Int)+1)>(tc:Int)))->Q .normal a' w') :
  (R8 ff).wpIn (fenceOf none) zn Tryz.prog Q a w:=by
 rw[zmi hp]
 refine y5i ?_
 rw[show List.range (regOps (R8 ff)).size=[0,1,2,3]++[4,5] by cases hp <;> kernel_rfl]
 refine zbr (hs:=[]) (C:=[]) (L1:=[eS sz e l,eS sz e [x]]) (G1:=[(29,[],.ref 0 l.length 0 l.length),(28,[],.d (.i .i64 (i64.wrap ((l.length:Int)+1)))),(27,[],.d (.i .i64 1)),(26,[],.d (.i .i64 (l.length:Int))),
  (7,[],.d (.i .i64 1)),(8,[],.d (.i .i64 (l.length:Int))),(2,[],.ref 1 1 0 1),(1,[],.d (.i .i64 (i:Int))),(0,[],.ref 0 l.length 0 l.length)]) (by cases hp <;> kernel_rfl) trivial hr hf hN fun f ms1 w1 r1 e1 c1 f1 n1 d1=>?_
 have k1:=IsV.is1 rfl sj sj (z3z f1 (t:=29) (v:=.ref 0 l.length 0 l.length) sj)
 have k0:=IsV.is1 rfl sj sj (z3z f1 (t:=0) (v:=.ref 0 l.length 0 l.length) sj)
 have at0:∀ {t:Nat} {v:Value},f.tmps.getD t undef=v->AV.Is (cxOf X ms1 [eS sz e l,eS sz e [x]] w1) (.ref 0 l.length 0 l.length) [v]->∃ b tc,ms1[0]? = some (some (b,tc))/\l.length<=tc/\v = .slice (some ⟨b,0,none⟩) l.length tc:=fun {t v} _ h=>by
  cases h with
  | ref _ _ _ _ _ h =>
  obtain⟨_,⟨_,_,rfl⟩,_,h⟩:=h
  obtain⟨_,h⟩:=h sz _ rfl
  rcases h with ⟨_,_,h⟩ | ⟨h,_⟩ | ⟨b,tc,m,h1,h2⟩
  ·simp only[y39] at h; omega
  ·exact absurd rfl h
  ·exact⟨b,tc,m,h1,by simpa using h2⟩
 obtain⟨b,tc,m1,hle,h29⟩:=at0 rfl k1
 obtain⟨b',tc',m1',_,h0'⟩:=at0 rfl k0
 have e1':=m1'.symm.trans m1
 cases e1'
 refine zf3 (o:=opAt (regOps (R8 ff)) 4) (by cases hp <;> kernel_rfl) (by cases hp <;> kernel_rfl) (OpOk.value (zkt (x:=.tmp 29) (t:=tS) (by cases hp <;> kernel_rfl) hp.uS h29) ?_)
 rw[show (opAt (regOps (R8 ff)) 4).dst=some 30 by cases hp <;> kernel_rfl]
 obtain⟨g,j,k⟩:=z3v (dst:=some 30) (ch:=[]) (v:=.d (.i .i64 (tc:Int))) (u:=.int .i64 tc) (G:=[(29,[],.ref 0 l.length 0 l.length),(28,[],.d (.i .i64 (i64.wrap ((l.length:Int)+1)))),(27,[],.d (.i .i64 1)),(26,[],.d (.i .i64 (l.length:Int))),
  (7,[],.d (.i .i64 1)),(8,[],.d (.i .i64 (l.length:Int))),(2,[],.ref 1 1 0 1),(1,[],.d (.i .i64 (i:Int))),(0,[],.ref 0 l.length 0 l.length)]) (G1:=(30,[],.d (.i .i64 (tc:Int))) :: [(29,[],.ref 0 l.length 0 l.length),(28,[],.d (.i .i64 (i64.wrap ((l.length:Int)+1)))),(27,[],.d (.i .i64 1)),(26,[],.d (.i .i64 (l.length:Int))),
  (7,[],.d (.i .i64 1)),(8,[],.d (.i .i64 (l.length:Int))),(2,[],.ref 1 1 0 1),(1,[],.d (.i .i64 (i:Int))),(0,[],.ref 0 l.length 0 l.length)]) (N:=ff.ntmps) (by cases hp <;> kernel_rfl) n1 f1 (fun _=>.one _ _ rfl (.d _ _ (.i _ _))) (fun h=>absurd (fun z hz=>by cases hz) h)
 refine z1w (hs:=[]) none zn [5] _ _ ([(31,[],.d (.b (decide (i64.wrap ((l.length:Int)+1)>(tc:Int)))))]++(30,[],.d (.i .i64 (tc:Int))) :: [(29,[],.ref 0 l.length 0 l.length),(28,[],.d (.i .i64 (i64.wrap ((l.length:Int)+1)))),(27,[],.d (.i .i64 1)),(26,[],.d (.i .i64 (l.length:Int))),
  (7,[],.d (.i .i64 1)),(8,[],.d (.i .i64 (l.length:Int))),(2,[],.ref 1 1 0 1),(1,[],.d (.i .i64 (i:Int))),(0,[],.ref 0 l.length 0 l.length)]) [eS sz e l,eS sz e [x]] [] ms1 w1 _ (by cases hp <;> kernel_rfl) trivial r1 g j fun c ms2 w2 r2 e2 c2 f2 n2 d2=>?_
 have m2:ms2[0]? = some (some (b,tc)):=by
  obtain⟨_,h1,_,_,h2⟩:=c2.ob 0 (eS sz e l) (by simp[cxOf]) rfl (by simp[eS,Ob.stamp])
  obtain rfl:_=eS sz e l:=yu h1.symm
  exact (h2 rfl).trans m1
 have k0':=IsV.is1 rfl sj sj (z3z f2 (t:=0) (v:=.ref 0 l.length 0 l.length) sj)
 have h0'':c.tmps.getD 0 undef = .slice (some ⟨b,0,none⟩) l.length tc:=by
  generalize c.tmps.getD 0 undef=v at k0'
  cases k0' with
  | ref _ _ _ _ _ h =>
  obtain⟨_,⟨_,_,rfl⟩,_,h⟩:=h
  obtain⟨_,h⟩:=h sz _ rfl
  rcases h with ⟨_,_,h⟩ | ⟨h,_⟩ | ⟨b'',tc'',m,h1,h2⟩
  ·simp only[y39] at h; omega
  ·exact absurd rfl h
  ·have e:=m2.symm.trans m
   cases e
   simpa using h2
 exact hQ c ms2 w2 b tc r2 (e1.trans e2) (c1.trans c2) (fun q hq=>f2 q (by
  simp only[frI,Fr.up,y31,y55,yi,y2z,y4b] at hq
  rcases hq with rfl | rfl | rfl | rfl | rfl <;> simp)) n2 (d2.trans (k.trans d1)) m2 hle h0'' (IsV.b (z3z f2 (t:=31) (v:=.d (.b (decide (i64.wrap ((l.length:Int)+1)>(tc:Int))))) sj))
theorem zml (hp:PP ff fo nf no tS tE sz bt) {l:List α} {x:α} (hi:i<l.length) (hl:(l.length+1) * (4 * bt)<=2 ^ 48) {b:Nat} (hr:Rel X ms [eS sz e l,eS sz e [x]] w) (hf:FrIs (cxOf X ms [eS sz e l,eS sz e [x]] w) (frI l.length i (.ref 0 l.length 0 l.length)).up a.tmps) (hN:a.tmps.size=ff.ntmps) (hm:ms[0]? = some (some (b,l.length))) (hQ:∀ a' ms' w',Rel X ms' [eS sz e l,eS sz e [x],.seq sz (l.length+1) (gB sz e l i)] w'->Ext ms w ms' w'->(cxOf X ms [eS sz e l,eS sz e [x]] w).le (cxOf X ms' [eS sz e l,eS sz e [x],.seq sz (l.length+1) (gB sz e l i)] w') ->
   FrIs (cxOf X ms' [eS sz e l,eS sz e [x],.seq sz (l.length+1) (gB sz e l i)] w') (Fr.up ((9,.ref 2 (l.length+1) 0 (l.length+1)) :: frI l.length i (.ref 0 l.length 0 l.length))) a'.tmps ->
   a'.tmps.size=ff.ntmps->a'.defers=a.defers->Q .normal a' w') :
  (R9 ff).wpIn (fenceOf none) zn Tryz.prog Q a w:=by
 have hn:l.length<100000000000000:=by cases hp <;> omega
 have hw2:i64.wrap ((l.length:Int)+1)=(l.length:Int)+1:=by rw[z2m] <;> omega
 have hw3:i64.wrap (i64.wrap ((l.length:Int)+1)-(i:Int))=((l.length+1-i:Nat):Int):=by rw[hw2,z2m] <;> omega
 rw[zmj hp]
 refine y5i ?_
 rw[show List.range (regOps (R9 ff)).size=[0,1,2,3,4,5,6,7]++[8,9] by cases hp <;> kernel_rfl]
 refine zbr (hs:=[]) (C:=[(0:Int)<=(i:Int),i<=l.length,l.length=l.length]) (L1:=[eS sz e l,eS sz e [x]]) (G1:=[(39,[],.d (.i .i64 (i64.wrap (i64.wrap ((l.length:Int)+1)-(i:Int))))),(38,[],.d (.i .i64 (i:Int))),(37,[],.d (.i .i64 (i64.wrap ((l.length:Int)+1)))),
  (36,[],.d (.i .i64 1)),(35,[],.d (.i .i64 (l.length:Int))),(34,[],.ref 0 l.length (0+0) (i-0)),(33,[],.d (.i .i64 (i:Int))),(32,[],.ref 0 l.length 0 l.length),
  (7,[],.d (.i .i64 1)),(8,[],.d (.i .i64 (l.length:Int))),(2,[],.ref 1 1 0 1),(1,[],.d (.i .i64 (i:Int))),(0,[],.ref 0 l.length 0 l.length)]) (by cases hp <;> kernel_rfl) ⟨om,om,rfl,trivial⟩ hr hf hN fun f ms1 w1 r1 e1 c1 f1 n1 d1=>?_
 have m1:ms1[0]? = some (some (b,l.length)):=by
  obtain⟨_,h1,_,_,h2⟩:=c1.ob 0 (eS sz e l) (by simp[cxOf]) rfl (by simp[eS,Ob.stamp])
  obtain rfl:_=eS sz e l:=yu h1.symm
  exact (h2 rfl).trans hm
 have k34:=IsV.is1 rfl sj sj (z3z f1 (t:=34) (v:=.ref 0 l.length (0+0) (i-0)) sj)
 have h34:f.eval (.tmp 34) = .slice (some ⟨b,0,none⟩) i l.length:=by
  show f.tmps.getD 34 undef=_
  generalize f.tmps.getD 34 undef=v at k34
  cases k34 with
  | ref _ _ _ _ _ h =>
  obtain⟨_,⟨_,_,rfl⟩,_,h⟩:=h
  obtain⟨_,h⟩:=h sz _ rfl
  rcases h with ⟨h,_⟩ | ⟨h,_⟩ | ⟨b'',tc'',m,h1,h2⟩
  ·have e:some (none:Option (Nat×Nat))=some (some (b,l.length)):=h.symm.trans m1
   cases e
  ·exact absurd rfl h
  ·have e:=m1.symm.trans m
   cases e
   simpa using h2
 have h39:f.eval (.tmp 39) = .int .i64 ((l.length+1-i:Nat):Int):=by
  have:=IsV.i (z3z f1 (t:=39) (v:=.d (.i .i64 (i64.wrap (i64.wrap ((l.length:Int)+1)-(i:Int))))) sj)
  rw[hw3] at this
  exact this
 obtain⟨arr,ty,cs,g1,g2,g3,g4,g5,g6⟩:=r1.seq (o:=0) rfl m1
 obtain⟨info,hinf⟩:∃ info,Tryz.prog.info? tE=some info:=⟨_,Option.eq_some_of_isSome (by cases hp <;> kernel_rfl)⟩
 have hsz:info.size=sz:=by
  have:(Tryz.prog.info? tE).map (·.size)=some sz:=by cases hp <;> kernel_rfl
  rw[hinf] at this; simpa using this
 have hby:info.bytes=bt:=by
  have:(Tryz.prog.info? tE).map (·.bytes)=some bt:=by cases hp <;> kernel_rfl
  rw[hinf] at this; simpa using this
 obtain⟨z,hz⟩:∃ z,info.zero=some z:=by
  have:((Tryz.prog.info? tE).bind (·.zero)).isSome=true:=by cases hp <;> kernel_rfl
  rw[hinf] at this
  exact y35.1 this
 have hzs:z.cells.size=sz:=by
  have:((Tryz.prog.info? tE).bind (·.zero)).map (fun z=>z.cells.size)=some sz:=by cases hp <;> kernel_rfl
  rw[hinf] at this
  simpa [hz] using this
 have hzone:∀ v∈z.cells.toList,v.oneCell'=true:=by
  have:((Tryz.prog.info? tE).bind (·.zero)).map (fun z=>z.cells.toList.all fun v=>v.oneCell')=some true:=by cases hp <;> kernel_rfl
  rw[hinf] at this
  have h:z.cells.toList.all (fun v=>v.oneCell')=true:=by simpa [hz] using this
  exact y1m.1 h
 have hcsi:∀ k,k<i->(cs k).length=sz:=fun k hk=>g5 k om
 have hold:(Builtin.firstCells info.size i (.slice (some ⟨b,0,none⟩) i l.length)).run Tryz.prog w1.drew = .ok ((List.range i).flatMap cs).toArray w1.drew:=by
  rw[hsz]
  exact z2u (w:=w1) (w1:=w1.drew) (off:=0) (cap:=l.length) rfl g1 hcsi (fun k hk j hj=>by simpa using g6 k om j hj) i
 have hfit:Builtin.nextslicecap (i+(l.length+1-i)) l.length * info.bytes<=281474976710656:=by
  have h1:=z5h (need:=i+(l.length+1-i)) (old:=l.length) om
  rw[hby]
  cases hp <;> omega
 have hap:=Lib.run_append_grow_zeros (P:=Tryz.prog) w1 tS 3 (opAt (regOps (R9 ff)) 8).type tE info z .i64 .i64 hp.uS Tryz.underlying3 hinf hz (some ⟨b,0,none⟩) i l.length ((List.range i).flatMap cs) hold (l.length+1-i) (by cases hp <;> omega) (by cases hp <;> omega) (by cases hp <;> omega) (by cases hp <;> omega) (by rw[hby]; cases hp <;> omega) hfit
 rw[show i+(l.length+1-i)=l.length+1 from om] at hap
 obtain⟨nc,hnc⟩:∃ nc,nc=grownCap w1 (l.length+1) l.length tE:=⟨_,rfl⟩
 have hge:=grownCap_ge w1 (l.length+1) l.length tE
 rw[<- hnc] at hap hge
 obtain⟨row,hrow⟩:∃ row:Array Value,row=((List.range i).flatMap cs).toArray++Builtin.zeroCells z.cells (l.length+1-i)++Builtin.zeroCells z.cells (nc-(l.length+1)):=⟨_,rfl⟩
 rw[<- hrow] at hap
 have hkl:=z6 i sz cs hcsi
 have hrs:row.size=nc * sz:=by
  rw[hrow,y3r,y3r,y2g,hkl,y4o,y4o,hzs]
  cases hp <;> omega
 have hone:∀ v∈row.toList,v.oneCell'=true:=by
  rw[hrow]
  simp only[y3a,yg]
  rintro v ((hv | hv) | hv)
  ·exact z27 (fun k (hk:k<i)=>g4 k om) v hv
  ·exact z35 hzone _ v hv
  ·exact z35 hzone _ v hv
 have hget:∀ k,k<i->∀ j,j<sz->row[k * sz+j]? = (cs k)[j]? := fun k hk j hj=>by
  rw[hrow,<- y16]
  simp only[y3a,y22]
  rw[yk (by rw[hkl]; cases hp <;> omega)]
  exact zb? i sz cs hcsi k j hk hj
 have hcl:∀ j,j<l.length+1->((row.toList.drop (j * sz)).take sz).length=sz:=fun j hj=>by
  simp only[y15,y21,y1s,hrs]
  cases hp <;> omega
 obtain⟨w2,hw⟩:∃ w2,w2=w1.drew.alloc (.cells row tE):=⟨_,rfl⟩
 rw[<- hw] at hap
 have hgrow:Grow w1 w2:=by rw[hw]; exact (Grow.drew w1).trans (Grow.alloc _ _)
 have hhp:w2.heap[w1.heap.size]? = some (.cells row tE (0,0)):=by rw[hw]; exact z1r w1.drew _
 have hsize:w1.heap.size<w2.heap.size:=z3l hhp
 obtain⟨q1,q2,q3⟩:=r1.push (m:=some (w1.heap.size,nc)) (obj:=.seq sz (l.length+1) (gB sz e l i)) hgrow (fun b tc e=>by cases e; exact⟨ya _,hsize⟩) (fun hcx=>by
  refine .inr ⟨w1.heap.size,nc,row,tE,fun j=>if j<i then cs j else (row.toList.drop (j * sz)).take sz,by simp[cxOf,<- r1.len],hhp,hge,⟨hrs,hone⟩,fun j hj=>?_,fun j hj=>?_,fun j hj q hq=>?_⟩
  ·by_cases hji:j<i
   ·simp only[gB,y6 hji]; exact (g4 j om).mono hcx
   ·simp only[gB,y5 hji,garb]
    have:=zax (c:=cxOf X (ms1++[some (w1.heap.size,nc)]) ([eS sz e l,eS sz e [x]]++[.seq sz (l.length+1) (gB sz e l i)]) w2) (l:=(row.toList.drop (j * sz)).take sz) fun v hv=>hone v (y2x (y1k hv))
    rw[hcl j hj] at this
    exact .agg _ _ this
  ·by_cases hji:j<i
   ·simp only[y6 hji]; exact g5 j om
   ·simp only[y5 hji]; exact hcl j hj
  ·by_cases hji:j<i
   ·simp only[y6 hji]; exact hget j hji q hq
   ·simp only[y5 hji]
    rw[y1h hq,y3d,y16])
 have hexec:(execOp f.eval (opAt (regOps (R9 ff)) 8)).run Tryz.prog w1 = .ok (.value (.slice (some ⟨w1.heap.size,0,none⟩) (l.length+1) nc)) w2:=by
  have hop:(opAt (regOps (R9 ff)) 8).op = .call ⟨.builtin .append,#[.tmp 34,.tmp 39],#[tS,3]⟩:=by cases hp <;> kernel_rfl
  generalize opAt (regOps (R9 ff)) 8=o at hop hap
  obtain⟨dst,op,ty,pos,after,guard⟩:=o
  subst hop
  refine zp (s:=Builtin.append_ #[tS,3] ty (#[.tmp 34,.tmp 39].map f.eval)) ?_
  have ha:(#[.tmp 34,.tmp 39]:Array Operand).map f.eval = #[.slice (some ⟨b,0,none⟩) i l.length,.int .i64 ((l.length+1-i:Nat):Int)]:=by
   simp[h34,h39]
  rw[ha]
  exact hap
 refine zf3 (o:=opAt (regOps (R9 ff)) 8) (by cases hp <;> kernel_rfl) (by cases hp <;> kernel_rfl) (OpOk.value hexec ?_)
 rw[show (opAt (regOps (R9 ff)) 8).dst=some 40 by cases hp <;> kernel_rfl]
 obtain⟨g,n,p⟩:=z3v (dst:=some 40) (ch:=[]) (v:=.ref 2 (l.length+1) 0 (l.length+1)) (u:=.slice (some ⟨w1.heap.size,0,none⟩) (l.length+1) nc) (G:=(frI l.length i (.ref 0 l.length 0 l.length)).up)
  (G1:=(40,[],.ref 2 (l.length+1) 0 (l.length+1)) :: (frI l.length i (.ref 0 l.length 0 l.length)).up) (N:=ff.ntmps) (by cases hp <;> kernel_rfl) n1 (fun q hq=>(f1.mono q3) q (by
  simp only[frI,Fr.up,y31,y55,yi,y2z,y4b] at hq
  rcases hq with rfl | rfl | rfl | rfl | rfl <;> simp)) (fun _=>z80 r1.len hge) (fun h=>absurd (fun z hz=>by cases hz) h)
 refine z1w (hs:=[]) none zn [9] _ _ ((9,[],.ref 2 (l.length+1) 0 (l.length+1)) :: (40,[],.ref 2 (l.length+1) 0 (l.length+1)) :: (frI l.length i (.ref 0 l.length 0 l.length)).up) [eS sz e l,eS sz e [x],.seq sz (l.length+1) (gB sz e l i)] [] _ w2 _ (by cases hp <;> kernel_rfl) trivial q1 g n fun r ms2 w3 r2 e2 c2 f2 n2 d2=>?_
 exact hQ r ms2 w3 r2 ((e1.trans q2).trans e2) ((c1.trans q3).trans c2) (fun q hq=>f2 q (by
  rcases yi.1 (show q∈(9,[],AV.ref 2 (l.length+1) 0 (l.length+1)) :: (frI l.length i (.ref 0 l.length 0 l.length)).up from hq) with hq | hq
  ·exact yi.2 (.inl hq)
  ·exact yi.2 (.inr (yi.2 (.inr hq))))) n2 (d2.trans (p.trans d1))
theorem regc {N:Nat} {Q:Post} {fr fr' fr2:Fr} {L L':List Ob} {id:Nat} {c:Code} {C:List Prop} (hq:c = .region id (regOps c) false) (h:regionRun Tryz.prog (regOps c) N [] fr L=some (fr',L',C)) (hc:AllP C)
  (hm:∀ q∈fr2,q∈fr') (k:Q .normal fr2 L'):AW none Tryz.prog N c Q fr L:=by
 have:=zku (id:=id) (Q:=Q) h hc hm k
 rwa [<- hq] at this
theorem head (hp:PP ff fo nf no tS tE sz bt) (_he:∀ x,(e x).wd=sz) {l:List α} {x:α} (hi:i<l.length) (Q:Post) (h:AW none Tryz.prog ff.ntmps (.seq (.seq (R8 ff) (.cond (.tmp 31) (.seq (R9 ff) (B10 ff)) .skip)) (C13 ff)) Q (frI l.length i (.ref 0 l.length 0 l.length)) [eS sz e l,eS sz e [x]]) :
  AW none Tryz.prog ff.ntmps (.seq (R0 ff) (.seq (R1 ff) (.seq (R2 ff) (.seq (.seq (cL (X3 ff)) (.cond (.tmp 16) (cT (cR (X3 ff))) .skip)) (.seq (R5 ff) (.seq (.seq (cL (X6 ff)) (.cond (.tmp 22) (cT (cR (X6 ff))) .skip)) (.seq (.seq (R8 ff) (.cond (.tmp 31) (.seq (R9 ff) (B10 ff)) .skip)) (C13 ff)))))))) Q
   (argFr [.ref 0 l.length 0 l.length,.d (.i .i64 (i:Int)),.ref 1 1 0 1] 0) [eS sz e l,eS sz e [x]]:=by
 have hne:((i:Int)==(l.length:Int))=false:=sk
 refine z3p (regc (L':=[eS sz e l,eS sz e [x]]) (id:=0) (C:=[]) (fr':=(6,.full 0 fun _=>.b false) :: argFr [.ref 0 l.length 0 l.length,.d (.i .i64 (i:Int)),.ref 1 1 0 1] 0) (fr2:=argFr [.ref 0 l.length 0 l.length,.d (.i .i64 (i:Int)),.ref 1 1 0 1] 0)
  (by cases hp <;> kernel_rfl) (by cases hp <;> kernel_rfl) trivial (fun q hq=>ym _ hq) ?_)
 refine z3p (regc (L':=[eS sz e l,eS sz e [x]]) (id:=1) (C:=[(0:Int)<=(i:Int),i<=l.length,l.length=l.length]) (fr':=(12,.ref 0 l.length (0+i) (l.length-i)) :: (11,.d (.i .i64 (i:Int))) :: (10,.ref 0 l.length 0 l.length) :: argFr [.ref 0 l.length 0 l.length,.d (.i .i64 (i:Int)),.ref 1 1 0 1] 0)
  (fr2:=argFr [.ref 0 l.length 0 l.length,.d (.i .i64 (i:Int)),.ref 1 1 0 1] 0)
  (by cases hp <;> kernel_rfl) (by cases hp <;> kernel_rfl) ⟨om,om,rfl,trivial⟩ (fun q hq=>ym _ (ym _ (ym _ hq))) ?_)
 refine z3p (regc (L':=[eS sz e l,eS sz e [x]]) (id:=2) (C:=[]) (fr':=(7,.d (.i .i64 1)) :: (14,.d (.i .i64 1)) :: (13,.ref 1 1 0 1) :: argFr [.ref 0 l.length 0 l.length,.d (.i .i64 (i:Int)),.ref 1 1 0 1] 0)
  (fr2:=[(7,.d (.i .i64 1)),(2,.ref 1 1 0 1),(1,.d (.i .i64 (i:Int))),(0,.ref 0 l.length 0 l.length)])
  (by cases hp <;> kernel_rfl) (by cases hp <;> kernel_rfl) trivial (fun q hq=>by
   simp only[yi,y2z,y4b] at hq
   simp only[argFr,yi,y2z,y4b]
   rcases hq with rfl | rfl | rfl | rfl <;> simp) ?_)
 refine z3p (z3p (regc (L':=[eS sz e l,eS sz e [x]]) (id:=3) (C:=[]) (fr':=(16,.d (.b false)) :: (15,.d (.i .i64 1)) :: [(7,.d (.i .i64 1)),(2,.ref 1 1 0 1),(1,.d (.i .i64 (i:Int))),(0,.ref 0 l.length 0 l.length)])
  (fr2:=[(16,.d (.b false)),(7,.d (.i .i64 1)),(2,.ref 1 1 0 1),(1,.d (.i .i64 (i:Int))),(0,.ref 0 l.length 0 l.length)])
  (by cases hp <;> kernel_rfl) (by cases hp <;> kernel_rfl) trivial (fun q hq=>by
   simp only[yi,y2z,y4b] at hq |-
   rcases hq with rfl | rfl | rfl | rfl | rfl <;> simp) ?_))
 refine z81 (b:=false) rfl (fun h=>by cases h) fun _=>zao ?_
 refine z3p (regc (L':=[eS sz e l,eS sz e [x]]) (id:=5) (C:=[]) (fr':=(8,.d (.i .i64 (l.length:Int))) :: (19,.d (.i .i64 (l.length:Int))) :: (18,.ref 0 l.length 0 l.length) :: [(16,.d (.b false)),(7,.d (.i .i64 1)),(2,.ref 1 1 0 1),(1,.d (.i .i64 (i:Int))),(0,.ref 0 l.length 0 l.length)])
  (fr2:=frI l.length i (.ref 0 l.length 0 l.length))
  (by cases hp <;> kernel_rfl) (by cases hp <;> kernel_rfl) trivial (fun q hq=>by
   simp only[frI,yi,y2z,y4b] at hq |-
   rcases hq with rfl | rfl | rfl | rfl | rfl <;> simp) ?_)
 refine z3p (z3p (regc (L':=[eS sz e l,eS sz e [x]]) (id:=6) (C:=[]) (fr':=(22,.d (.b ((i:Int)==(l.length:Int)))) :: (21,.d (.i .i64 (l.length:Int))) :: (20,.d (.i .i64 (i:Int))) :: frI l.length i (.ref 0 l.length 0 l.length))
  (fr2:=(22,.d (.b ((i:Int)==(l.length:Int)))) :: frI l.length i (.ref 0 l.length 0 l.length))
  (by cases hp <;> kernel_rfl) (by cases hp <;> kernel_rfl) trivial (fun q hq=>by
   rcases yi.1 hq with rfl | hq
   ·exact y14
   ·exact ym _ (ym _ (ym _ hq))) ?_))
 refine z81 (b:=((i:Int)==(l.length:Int))) rfl (fun h=>by rw[hne] at h; cases h) fun _=>zao ?_
 exact zhc h fun q hq=>⟨q.2,ym _ hq,LeV.refl _⟩
theorem zmm (hp:PP ff fo nf no tS tE sz bt) (he:∀ x,(e x).wd=sz) {l:List α} {x:α} (hi:i<l.length) (hl:(l.length+1) * (4 * bt)<=2 ^ 48) :
  AW none Tryz.prog ff.ntmps (.seq (.seq (R8 ff) (.cond (.tmp 31) (.seq (R9 ff) (B10 ff)) .skip)) (C13 ff))
   (fun e1 fr L=>FQ Tryz.prog ff (.ref 0 (l.length+1) 0 (l.length+1)) [eS sz e (insL l i x),eS sz e [x]] e1 fr L \/
    FQ Tryz.prog ff (.ref 2 (l.length+1) 0 (l.length+1)) [eS sz e l,eS sz e [x],eS sz e (insL l i x)] e1 fr L)
   (frI l.length i (.ref 0 l.length 0 l.length)) [eS sz e l,eS sz e [x]]:=by
 have hn:l.length<100000000000000:=by cases hp <;> omega
 have hw2:i64.wrap ((l.length:Int)+1)=(l.length:Int)+1:=by rw[z2m] <;> omega
 intro zn df X ms w a hr hf hN hd
 refine y4w (y4w (zmk hp om hr hf hN fun c ms1 w1 b tc r1 e1 c1 f1 n1 d1 m1 hle h0e h31=>?_))
 by_cases hcap:l.length+1<=tc
 ·refine wpIn_cond_false (h31.trans (by rw[hw2]; simp; omega)) (wpIn_skip ?_)
  obtain⟨q1,q3⟩:=r1.room (o:=0) (n':=l.length+1) rfl m1 om hcap
  refine y2w (tailC hp he hi hn zn df X ms1 w1 c q1 (fun q hq=>?_) n1 (d1.trans hd)) ?_
  ·simp only[frI,Fr.up,y31,y55,yi,y2z,y4b] at hq
   have f1':=f1.mono q3
   rcases hq with rfl | rfl | rfl | rfl | rfl
   ·exact f1' _ (by simp[frI,Fr.up])
   ·exact f1' _ (by simp[frI,Fr.up])
   ·exact f1' _ (by simp[frI,Fr.up])
   ·exact f1' _ (by simp[frI,Fr.up])
   ·obtain⟨s1,s2,s3⟩:=f1 (0,[],.ref 0 l.length 0 l.length) (by simp[frI,Fr.up])
    refine⟨s1,fun _=>?_,s3⟩
    have h0e':c.tmps.getD 0 undef = .slice (some ⟨b,0,none⟩) l.length tc:=h0e
    rw[h0e']
    refine .one _ _ rfl (.ref _ _ _ _ _ ⟨by simp[cxOf],⟨_,_,rfl⟩,fun obj s ho hs=>?_,fun sz' f' hL'=>⟨om,.inr (.inr ⟨b,tc,m1,hcap,sj⟩)⟩⟩)
    obtain rfl:=yu ho
    simp[Ob.stamp] at hs; omega
  ·rintro e2 d w2 ⟨ms2,fr2,L2,hq,r2,e3,c3,f3,n3,d3⟩
   exact⟨ms2,fr2,L2,.inl hq,r2,e1.trans e3,(c1.trans q3).trans c3,f3,n3,d3⟩
 ·have htc:tc=l.length:=om
  subst htc
  refine wpIn_cond_true (h31.trans (by rw[hw2]; simp; omega)) (y4w (zml hp hi hl r1 f1 n1 m1 fun d ms2 w2 r2 e2 c2 f2 n2 d2=>?_))
  refine y2w (tailB hp he hi hn zn df X ms2 w2 d r2 f2 n2 ((d2.trans d1).trans hd)) ?_
  rintro e3 f w3 ⟨ms3,fr3,L3,⟨rfl,hq⟩,r3,e3,c3,f3,n3,d3⟩
  exact⟨ms3,fr3,L3,.inr ⟨.inr rfl,hq⟩,r3,(e1.trans e2).trans e3,(c1.trans c2).trans c3,f3,n3,d3⟩
theorem zlz (hp:PP ff fo nf no tS tE sz bt) (he:∀ x,(e x).wd=sz) {l:List α} {x:α} (hi:i<l.length) (hl:(l.length+1) * (4 * bt)<=2 ^ 48) :
  CallOk Tryz.prog nf [.ref 0 l.length 0 l.length,.d (.i .i64 (i:Int)),.ref 1 1 0 1] [eS sz e l,eS sz e [x]] (.ref 0 (l.length+1) 0 (l.length+1)) [eS sz e (insL l i x),eS sz e [x]]:=by
 intro X ms w us hr hu
 have hlen:=z12 (l:=l) (i:=i) (x:=x)
 refine (zje (L:=[eS sz e l,eS sz e [x]]) (v:=.ref 0 (l.length+1) 0 (l.length+1)) (v3:=.ref 2 (l.length+1) 0 (l.length+1)) hp.fF (zk4 hp) (y32 (by cases hp <;> kernel_rfl)) sj rfl (lsOk (n:=2) (L:=[eS sz e (insL l i x),eS sz e [x]]) ⟨fun _ _=>rfl,fun _ _=>rfl,trivial⟩)
  sj rfl (lsOk (n:=3) (L:=[eS sz e l,eS sz e [x],eS sz e (insL l i x)]) ⟨fun _ _=>rfl,fun _ _=>rfl,fun _ _=>rfl,trivial⟩) (head hp (x:=x) he hi _ (zmm hp he hi hl)) hr hu).mono fun e1 w1 h=>?_
 rcases h with h | ⟨u,ms1,rfl,h1,h2,h3,h4⟩
 ·exact h
 ·rw[<- hlen] at h4 |-
  obtain⟨ms2,k1,k2,k3,k4⟩:=third hr hlen h1 h2 h3 h4
  exact⟨u,ms2,rfl,k1,k2,k3,k4⟩
noncomputable def sE (sz bt:Nat) (l:List α) (x:α) (a:(0:Int)<=(l.length:Int)) (b:l.length<=l.length) (c:((l.length:Int)==(l.length:Int))=true)
  (hx:∀ k,k<1->(AV.d (e ([x].getD k dF))).wd=sz) (hs:(l.length+1) * (2 * bt)<=2 ^ 48)
  (ho:OLe (.seq sz (l.length+1) (catF l.length (fun j=>.d (e (l.getD j dF))) (fun j=>.d (e ([x].getD j dF))))) (eS sz e (insL l l.length x))):SC Unit Unit :=
 .reg 0 [] [] [] <|
 .reg 1 [] [] [.pf a,.pf b,.pf (y1x l.length)] <|
 .reg 2 [] [] [] <|
 .reg 3 [] [] [] <|
 .br false (.pf (p:=((1:Int)==0)=false) dk) <|
 .reg 5 [] [] [] <|
 .reg 6 [] [] [] <|
 .br true (.pf c) <|
 .reg 7 [] [(2,{ obs:=[(0,eS sz e (insL l l.length x))] })] [.pf (y1x 1),.pf (y1x l.length),.pf (y1x l.length),.pf hx,.pf hs,.pf ho] <|
 .ret [] ()
set_option maxRecDepth 100000 in
theorem zm0 (hp:PP ff fo nf no tS tE sz bt) (he:∀ x,(e x).wd=sz) {l:List α} {x:α} (hl:(l.length+1) * (4 * bt)<=2 ^ 48) :
  CallOk Tryz.prog nf [.ref 0 l.length 0 l.length,.d (.i .i64 (l.length:Int)),.ref 1 1 0 1] [eS sz e l,eS sz e [x]] (.ref 0 (l.length+1) 0 (l.length+1)) [eS sz e (insL l l.length x),eS sz e [x]] :=
 fOk (ρ:=Unit) (V:=fun _=>.ref 0 (l.length+1) 0 (l.length+1)) (Lr:=fun _=>[eS sz e (insL l l.length x),eS sz e [x]]) (r:=())
  (s:=sE (e:=e) sz bt l x om (ya _) sj (fun k _=>he _) (by cases hp <;> omega) (by
   refine z3f z12.symm fun j hj=>?_
   rw[z96 (ya _)]
   by_cases h1:j<l.length
   ·rw[z1n h1,y6 h1]
   ·have h2:j=l.length:=om
    subst h2
    rw[z1p om,y5 om,y6 rfl,Nat.sub_self]
    rfl)) hp.fF (zk4 hp) (by cases hp <;> kernel_rfl) rfl
theorem ins_ok (hp:PP ff fo nf no tS tE sz bt) (he:∀ x,(e x).wd=sz) {l:List α} {x:α} (hi:i<=l.length) (hl:(l.length+1) * (4 * bt)<=2 ^ 48) :
  CallOk Tryz.prog nf [.ref 0 l.length 0 l.length,.d (.i .i64 (i:Int)),.ref 1 1 0 1] [eS sz e l,eS sz e [x]] (.ref 0 (insL l i x).length 0 (insL l i x).length) [eS sz e (insL l i x),eS sz e [x]]:=by
 rw[z12]
 rcases yn i l.length with h | h
 ·exact zlz hp he h hl
 ·obtain rfl:i=l.length:=om
  exact zm0 hp he hl
end
end InsG
end Go.Proofs.YtgfgnhpecnmlpaaGreatDoor
/- The shapes of data. No condition. -/
namespace Go.Proofs.YtgfgnhpecnmlpaaGreatDoor
open Go Go.TA
open Go.IntKind (i64)
abbrev Z0:DV:=DV.sl 0 fun _=>DV.b false
structure TTape where
 l:(List Int)
 at_:Int
 deriving Inhabited
def TTape.e (x:TTape):DV:=.agg [(eL (DV.i .i64) x.l),(DV.i .i64 x.at_)]
abbrev TTape.d (x:TTape):AV:=AV.d (TTape.e x)
abbrev TTape.b (x:TTape):Ob:=bx (TTape.e x)
structure THe where
 B:Y8
 V:Y8
 deriving Inhabited
def THe.e (x:THe):DV:=.agg [(DV.str x.B),(DV.str x.V)]
abbrev THe.d (x:THe):AV:=AV.d (THe.e x)
abbrev THe.b (x:THe):Ob:=bx (THe.e x)
structure TLi where
 B:Y8
 H:Int
 D:Int
 deriving Inhabited
def TLi.e (x:TLi):DV:=.agg [(DV.str x.B),(DV.i .i64 x.H),(DV.i .i64 x.D)]
abbrev TLi.d (x:TLi):AV:=AV.d (TLi.e x)
abbrev TLi.b (x:TLi):Ob:=bx (TLi.e x)
structure TBo where
 B:Y8
 H:Int
 D:Int
 deriving Inhabited
def TBo.e (x:TBo):DV:=.agg [(DV.str x.B),(DV.i .i64 x.H),(DV.i .i64 x.D)]
abbrev TBo.d (x:TBo):AV:=AV.d (TBo.e x)
abbrev TBo.b (x:TBo):Ob:=bx (TBo.e x)
structure TEa where
 Q:Y8
 B:Y8
 R:Int
 deriving Inhabited
def TEa.e (x:TEa):DV:=.agg [(DV.str x.Q),(DV.str x.B),(DV.i .i64 x.R)]
abbrev TEa.d (x:TEa):AV:=AV.d (TEa.e x)
abbrev TEa.b (x:TEa):Ob:=bx (TEa.e x)
structure TCo where
 B:Y8
 H:Int
 D:Int
 C:Int
 L:Int
 Q:Y8
 U:Int
 deriving Inhabited
def TCo.e (x:TCo):DV:=.agg [(DV.str x.B),(DV.i .i64 x.H),(DV.i .i64 x.D),(DV.i .i64 x.C),(DV.i .i64 x.L),(DV.str x.Q),(DV.i .i64 x.U)]
abbrev TCo.d (x:TCo):AV:=AV.d (TCo.e x)
abbrev TCo.b (x:TCo):Ob:=bx (TCo.e x)
structure TRu where
 J:Int
 T:Y8
 W:Y8
 R:Int
 deriving Inhabited
def TRu.e (x:TRu):DV:=.agg [(DV.i .i64 x.J),(DV.str x.T),(DV.str x.W),(DV.i .i64 x.R)]
abbrev TRu.d (x:TRu):AV:=AV.d (TRu.e x)
abbrev TRu.b (x:TRu):Ob:=bx (TRu.e x)
structure TCh where
 C:Int
 B:Y8
 H:Int
 D:Int
 deriving Inhabited
def TCh.e (x:TCh):DV:=.agg [(DV.i .i64 x.C),(DV.str x.B),(DV.i .i64 x.H),(DV.i .i64 x.D)]
abbrev TCh.d (x:TCh):AV:=AV.d (TCh.e x)
abbrev TCh.b (x:TCh):Ob:=bx (TCh.e x)
structure TAm where
 L:Int
 J:Int
 G:(List TCh)
 deriving Inhabited
def TAm.e (x:TAm):DV:=.agg [(DV.i .i64 x.L),(DV.i .i64 x.J),(eL TCh.e x.G)]
abbrev TAm.d (x:TAm):AV:=AV.d (TAm.e x)
abbrev TAm.b (x:TAm):Ob:=bx (TAm.e x)
structure TLa where
 E:Int
 F:Int
 I:(List THe)
 N:(List TLi)
 K:(List TBo)
 P:(List TBo)
 O:(List TEa)
 M:(List TCo)
 S:(List TRu)
 A:(List TAm)
 deriving Inhabited
def TLa.e (x:TLa):DV:=.agg [(DV.i .i64 x.E),(DV.i .i64 x.F),(eL THe.e x.I),(eL TLi.e x.N),(eL TBo.e x.K),(eL TBo.e x.P),(eL TEa.e x.O),(eL TCo.e x.M),(eL TRu.e x.S),(eL TAm.e x.A)]
abbrev TLa.d (x:TLa):AV:=AV.d (TLa.e x)
abbrev TLa.b (x:TLa):Ob:=bx (TLa.e x)
structure TChe where
 law:TLa
 leaves:(List Y8)
 deriving Inhabited
def TChe.e (x:TChe):DV:=.agg [(TLa.e x.law),(eL DV.str x.leaves)]
abbrev TChe.d (x:TChe):AV:=AV.d (TChe.e x)
abbrev TChe.b (x:TChe):Ob:=bx (TChe.e x)
structure TPl where
 code:Y8
 year:Int
 deriving Inhabited
def TPl.e (x:TPl):DV:=.agg [(DV.str x.code),(DV.i .i64 x.year)]
abbrev TPl.d (x:TPl):AV:=AV.d (TPl.e x)
abbrev TPl.b (x:TPl):Ob:=bx (TPl.e x)
theorem zdi:∀ a b:Y8,eqD Tryz.prog 8 9 (DV.str a) (DV.str b)=some (a==b):=fun a b=>kj
end Go.Proofs.YtgfgnhpecnmlpaaGreatDoor
/- What the functions compute,and that their calls return it. No condition. -/
namespace Go.Proofs.YtgfgnhpecnmlpaaGreatDoor
open Go Go.TA
open Go.IntKind (i64)
noncomputable section
set_option maxRecDepth 100000
set_option maxHeartbeats 2000000
def S_q3b (b:(List Int)):SC TTape TTape :=
 let a:=(if 500<(b.length:Int) then 500 else (b.length:Int))
.guard [(0:Int)<=a,a.toNat<=b.length]<|
 let c:=(b.take a.toNat)
.reg 1 [] [(4,hv (vl c))] [.ev 0,.ev 1,.der (fun (h0:a.toNat<=b.length)=>lvT (DV.i .i64) b h0) 1]<|
.r (⟨c,0⟩:TTape)
def F_q3b (a:(List Int)):=(S_q3b a).den
theorem F_q3b_ok {a:(List Int)}:FO (F_q3b a) 8 [(vl a)] [] (fun _=>(vp 0)) (fun x=>[(TTape.b x)]):=fO (s:=S_q3b a) Tryz.func8
def S_q0 (d:Int) (a:TTape):SC (Int×TTape) (Int×TTape) :=
.ite (decide (a.at_>=(a.l.length:Int))) (
.r (0,a)) (
.guard [(0:Int)<=a.at_,a.at_.toNat<a.l.length,(d:Int)≠0]<|
.reg 3 [] [] [.ev 0,.ev 1,.ev 2]<|
 let b:=((a.l.getD a.at_.toNat dF).tmod d)
 let c:=(⟨a.l,(i64.wrap (a.at_+1))⟩:TTape)
.ite (decide (b<0)) (
.r ((i64.wrap (b+d)),c)) (
.r (b,c)))
def F_q0 (a:Int) (b:TTape):=(S_q0 a b).den
theorem F_q0_ok {a:Int} {c:TTape}:FO (F_q0 a c) 10 [(vp 0),(vi a)] [(TTape.b c)] (fun x=>(vi x.1)) (fun x=>[(TTape.b x.2)]):=fO (s:=S_q0 a c) Tryz.func10
def S_qa (a:(List Int)) (b:TTape):SC (Int×TTape) (Int×TTape) :=
.call (@F_q0_ok (a.length:Int) b) fun r3 c3=>
.guard [(0:Int)<=r3.1,r3.1.toNat<a.length]<|
.reg 1 [] [(4,hc c3 [0] false)] [.cl 2 c3 [0] 1 false,.ev 0,.ev 1]<|
.r ((a.getD r3.1.toNat dF),r3.2)
def F_qa (a:(List Int)) (b:TTape):=(S_qa a b).den
theorem F_qa_ok {a:(List Int)} {c:TTape}:FO (F_qa a c) 35 [(vp 0),(vl a)] [(TTape.b c)] (fun x=>(vi x.1)) (fun x=>[(TTape.b x.2)]):=fO (s:=S_qa a c) Tryz.func35
def S_q3p (a:Int) (b:Int) (c:TTape):SC (Int×TTape) (Int×TTape) :=
.call (@F_q0_ok (i64.wrap ((i64.wrap (b-a))+1)) c) fun r6 c6=>
.reg 1 [] [(6,hc c6 [0] false)] [.cl 0 c6 [0] 1 false]<|
.r ((i64.wrap (a+r6.1)),r6.2)
def F_q3p (a:Int) (b:Int) (c:TTape):=(S_q3p a b c).den
theorem F_q3p_ok {a:Int} {c:Int} {d:TTape}:FO (F_q3p a c d) 28 [(vp 0),(vi a),(vi c)] [(TTape.b d)] (fun x=>(vi x.1)) (fun x=>[(TTape.b x.2)]):=fO (s:=S_q3p a c d) Tryz.func28
theorem cz1:LeV (AV.full 0 fun _=>DV.b false) (vl ([])):=lvN (DV.i .i64)
abbrev R_qe:=(List Int)
def S_qe_b1 (f:Y8) (a:(List Int)×Int×Int×Int):SC R_qe (Step ((List Int)×Int×Int×Int) R_qe) :=
.ite (decide (a.2.2.2<=(f.length:Int))) (
 let g:=(a.2.2.2==(f.length:Int))
 let q:=(a.2.2.2.toNat<f.length)
.guard [AllP [g=false]->((0:Int)<=a.2.2.2),AllP [g=false]->q]<|
.reg 8 [] [] [.ev 0,.ev 1]<|
 let c:=((f.getD a.2.2.2.toNat 0).toNat:Int)
 let s:=(i64.wrap (a.2.2.2+1))
.ite (cO g (c==46)) (
 let j:=(cO (a.2.2.1==0) (decide (a.2.2.1>2)))
 let m:=(i64.wrap (a.2.2.2-a.2.2.1))
.guard [AllP [j=false]->((0:Int)<=m),AllP [j=false]->(m.toNat<f.length)]<|
.reg 9 [] [] [.ev 0,.ev 1]<|
.ite (cO j (((f.getD m.toNat 0).toNat:Int)==48)) (
.ret [.pf cz1] (.ret ([]))) (
.guard [(a.1.length+1) * (2 * 8)<=2 ^ 48]<|
 let b:=([a.2.1]:List Int)
.reg 11 [] [(2,hv (vl b)),(3,{ h:=.obj,cast:=some (AV.ref 0 ((a.1++b).length) 0 ((a.1++b).length)),obs:=[(0,(eS 1 (DV.i .i64) (a.1++b)))] })] [.pf (z5 (DV.i .i64) b),.e a.1.length,.e a.1.length,.pf (p:=∀ k,k<1->(AV.d ((DV.i .i64) (b.getD k dF))).wd=1) (fun _ _=>rfl),.ev 0,.pf (zf (o:=0) (l:=a.1) (x:=b)),.pf (ze (sz:=1) (e:=(DV.i .i64)) (l:=a.1) (x:=b))]<|
.r (.cont ((a.1++b),0,0,s)))) (
 let n:=(decide (c<48))
.guard [(0:Int)<=a.2.2.2,a.2.2.2.toNat<f.length,AllP [n=false]->((0:Int)<=a.2.2.2),AllP [n=false]->q]<|
.reg 13 [] [] [.ev 0,.ev 1,.ev 2,.ev 3]<|
.ite (cO n (decide (c>57))) (
.ret [.pf cz1] (.ret ([]))) (
.reg 15 [] [] [.ev 1,.ev 2]<|
.r (.cont (a.1,(i64.wrap ((i64.wrap (10 * a.2.1))+(i64.wrap (IntKind.u8.wrap (c-48))))),(i64.wrap (a.2.2.1+1)),s))))) (
.r (.brk (a.1,a.2.1,a.2.2.1,a.2.2.2)))
def S_qe (b:Y8):SC R_qe R_qe :=
.ite (decide ((b.length:Int)>12)) (
.ret [.pf cz1] ([])) (
.reg 5 [] [] []<|
.bor 1 (fun j=>AV.d ((DV.i .i64) (([]:List Int).getD j dF))) [3]<|
.iter [0] (fun (a:(List Int)×Int×Int×Int)=>[(3,(AV.ref 0 a.1.length 0 a.1.length)),(4,(vi a.2.1)),(5,(vi a.2.2.1)),(6,(vi a.2.2.2))]) (fun a=>[(0,(eS 1 (DV.i .i64) a.1))]) (([]:List Int),0,0,0) (S_qe_b1 b) (fun a =>
.ite (decide ((a.1.length:Int)>4)) (
.ret [.pf cz1] ([])) (
.guard [a.1.length<2 ^ 63]<|
.reg 18 [] [] []<|
.frz 0 (.ev 0) none [2] []<|
.r a.1)) id)
def F_qe (a:Y8):=(S_qe a).den
theorem F_qe_ok {a:Y8}:FO (F_qe a) 85 [(AV.d (DV.str a))] [] vl NL:=fO (s:=S_qe a) Tryz.func85
abbrev R_qy:=Y8
def S_qy_b1 (i:(List Int)) (a:Nat) (c:Y8):SC R_qy (Step Y8 R_qy) :=
.guard [(0+a)<i.length]<|
.reg 6 [] [] [.e i.length,.w a,.ev 1,.e i.length,.ev 0]<|
 let f:=(i.getD (0+a) dF)
.ite (cO (decide (f<1)) (decide (f>99))) (
.r (.ret ([]))) (
.cut none [5,9,10,11] (fun (b:Y8)=>[(3,(AV.d (DV.str b)))]) (fun _=>[]) (
.ite (decide ((a:Int)>0)) (
.guard [c.length+([46]).length<2 ^ 63]<|
.reg 10 [] [] [.ev 0]<|
.r (.next (c++([46])))) (
.r (.next c))) fun b=>
.call (@F_q4w_ok f) fun g h=>
.guard [b.length+g.length<2 ^ 63]<|
.reg 11 [] [(2,hc h [] true)] [.cl 1 h [] 1 true,.ev 0]<|
.r (.cont (b++g)))
def S_qy (b:(List Int)):SC R_qy R_qy :=
.ite (decide ((b.length:Int)>4)) (
.r ([])) (
.guard [b.length<2 ^ 63]<|
.range (b.length:Int) b.length rfl (.why (.ev 0)) 11 [9,10] (fun (a:Y8)=>[(3,(AV.d (DV.str a)))]) (fun _=>[]) ([]) (S_qy_b1 b) (fun a => 
.r a) id)
def F_qy (a:(List Int)):=(S_qy a).den
theorem F_qy_ok {a:(List Int)}:FO (F_qy a) 86 [(AV.ref 0 a.length 0 a.length)] [(eS 1 (DV.i .i64) a)] (fun x=>(AV.d (DV.str x))) (fun _=>[(eS 1 (DV.i .i64) a)]):=fO (s:=S_qy a) Tryz.func86
def S_qi_b1 (b:R_qe) (c:R_qe) (a:Int):SC Int (Step Int Int) :=
.ite (bif (decide (a<(b.length:Int))) then (decide (a<(c.length:Int))) else false) (
.guard [(0:Int)<=a,a.toNat<b.length,a.toNat<c.length]<|
.reg 15 [] [] [.ev 0,.ev 1,.ev 0,.ev 2]<|
 let d:=(b.getD a.toNat dF)
 let e:=(c.getD a.toNat dF)
.ite (decide (d<e)) (
.r (.ret (-1))) (
.reg 17 [] [] [.ev 1,.ev 2,.ev 1,.ev 3]<|
.ite (decide (d>e)) (
.r (.ret 1)) (
.r (.cont (i64.wrap (a+1)))))) (
.r (.brk a))
def S_qi (g:Y8) (h:Y8):SC Int Int :=
.call (@F_qe_ok g) fun c d=>
.call (@F_qe_ok h) fun e f=>
.reg 1 [] [(1,hc d [] true),(3,hc f [] true)] [.cl 1 d [] 0 true,.cl 0 f [] 0 true]<|
 let a:=(c.length:Int)
 let b:=(e.length:Int)
.ite (cO (a==0) (b==0)) (
.ite (decide (a>0)) (
.r 1) (
.ite (decide (b>0)) (
.r (-1)) (
.ite (Op.bytesLess g h) (
.r (-1)) (
.ite (!(Op.bytesLess g h||g==h)) (
.r 1) (
.r 0))))) (
.iter [5,6] (fun (i:Int)=>[(7,(vi i))]) (fun _=>[]) 0 (S_qi_b1 c e) (fun _ =>
.ite (decide (a<b)) (
.r (-1)) (
.ite (decide (a>b)) (
.r 1) (
.r 0))) id)
def F_qi (a:Y8) (b:Y8):=(S_qi a b).den
theorem F_qi_ok {a:Y8} {b:Y8}:FO (F_qi a b) 118 [(AV.d (DV.str a)),(AV.d (DV.str b))] [] vi NL:=fO (s:=S_qi a b) Tryz.func118
abbrev R_ql:=(List Y8)
def S_ql_b1 (m:(List Y8)) (n:Y8) (i:Nat) (c:(List Y8)×Bool):SC R_ql (Step ((List Y8)×Bool) R_ql) :=
.reg 5 [] [] [.w i,.ev 0]<|
.a 6 2 1 (@F_qi_ok n (m.getD i dF)) fun j=>
.ite (j==0) (
.r (.ret m)) (
.cut none [0,1,8,10,11,12] (fun (b:(List Y8)×Bool)=>[(5,(AV.ref 0 b.1.length 0 b.1.length)),(6,(vb b.2))]) (fun b=>[(0,(eS 1 DV.str b.1))]) (
.ite (bif (decide (j<0)) then (!c.2) else false) (
.guard [(c.1.length+1) * (2 * 16)<=2 ^ 48]<|
 let f:=([n]:List Y8)
.reg 10 [] [(2,hv (AV.d (eL DV.str f))),(3,{ h:=.obj,cast:=some (AV.ref 0 ((c.1++f).length) 0 ((c.1++f).length)),obs:=[(0,(eS 1 DV.str (c.1++f)))] })] [.pf (z5 DV.str f),.e c.1.length,.e c.1.length,.pf (p:=∀ k,k<1->(AV.d (DV.str (f.getD k dF))).wd=1) (fun _ _=>rfl),.ev 0,.pf (zf (o:=0) (l:=c.1) (x:=f)),.pf (ze (sz:=1) (e:=DV.str) (l:=c.1) (x:=f))]<|
.r (.next ((c.1++f),true))) (
.r (.next (c.1,c.2)))) fun b=>
.guard [(b.1.length+1) * (2 * 16)<=2 ^ 48]<|
 let g:=([(m.getD i dF)]:List Y8)
.reg 11 [] [(2,hv (AV.d (eL DV.str g))),(3,{ h:=.obj,cast:=some (AV.ref 0 ((b.1++g).length) 0 ((b.1++g).length)),obs:=[(0,(eS 1 DV.str (b.1++g)))] })] [.pf (z5 DV.str g),.e b.1.length,.e b.1.length,.pf (p:=∀ k,k<1->(AV.d (DV.str (g.getD k dF))).wd=1) (fun _ _=>rfl),.ev 0,.pf (zf (o:=0) (l:=b.1) (x:=g)),.pf (ze (sz:=1) (e:=DV.str) (l:=b.1) (x:=g))]<|
.r (.cont ((b.1++g),b.2)))
def S_ql (c:(List Y8)) (f:Y8):SC R_ql R_ql :=
.reg 3 [] [] []<|
.bor 1 (fun j=>AV.d (DV.str (([]:List Y8).getD j dF))) [5]<|
.range (c.length:Int) c.length rfl (.slot 0) 12 [0,1,10,11] (fun (a:(List Y8)×Bool)=>[(5,(AV.ref 0 a.1.length 0 a.1.length)),(6,(vb a.2))]) (fun a=>[(0,(eS 1 DV.str a.1))]) (([]:List Y8),false) (S_ql_b1 c f) (fun a => 
.ite (!a.2) (
.guard [(a.1.length+1) * (2 * 16)<=2 ^ 48]<|
 let b:=([f]:List Y8)
.reg 14 [] [(2,hv (AV.d (eL DV.str b))),(3,{ h:=.obj,cast:=some (AV.ref 0 ((a.1++b).length) 0 ((a.1++b).length)),obs:=[(0,(eS 1 DV.str (a.1++b)))] })] [.pf (z5 DV.str b),.e a.1.length,.e a.1.length,.pf (p:=∀ k,k<1->(AV.d (DV.str (b.getD k dF))).wd=1) (fun _ _=>rfl),.ev 0,.pf (zf (o:=0) (l:=a.1) (x:=b)),.pf (ze (sz:=1) (e:=DV.str) (l:=a.1) (x:=b))]<|
.guard [(a.1++b).length<2 ^ 63]<|
.reg 15 [] [] []<|
.frz 0 (.ev 0) none [4] []<|
.r (a.1++b)) (
.guard [a.1.length<2 ^ 63]<|
.reg 15 [] [] []<|
.frz 0 (.ev 0) none [4] []<|
.r a.1)) id
def F_ql (a:(List Y8)) (b:Y8):=(S_ql a b).den
theorem F_ql_ok {a:(List Y8)} {b:Y8}:FO (F_ql a b) 87 [(AV.d (eL DV.str a)),(AV.d (DV.str b))] [] (fun x=>(AV.d (eL DV.str x))) NL:=fO (s:=S_ql a b) Tryz.func87
abbrev R_q5:=(List THe)×TTape
def S_q5_b1 (c:TTape×(List Y8)×Int):SC R_q5 (Step (TTape×(List Y8)×Int) R_q5) :=
.ite (decide (c.2.2>0)) (
.call (@F_q0_ok (c.2.1.length:Int) c.1) fun g j=>
.call (@F_qe_ok (c.2.1.getD g.1.toNat dF)) fun b m=>
.guard [(0:Int)<=g.1,g.1.toNat<c.2.1.length]<|
.reg 5 [] [(4,hc j [0] false),(7,hc m [] true)] [.cl 3 j [0] 1 false,.ev 0,.ev 1,.cl 2 m [] 1 true]<|
 let n:=(i64.wrap (c.2.2-1))
.ite (decide ((b.length:Int)>=3)) (
.r (.cont (g.2,c.2.1,n))) (
.call (@F_qa_ok ([1,2,3,10]:List Int) g.2) fun q s=>
 let f:=([q.1]:List Int)
.call (@F_qy_ok (b++f)) fun u t=>
.guard [b.length * (2 * 8)<=2 ^ 48,(b.length+1) * (2 * 8)<=2 ^ 48]<|
.reg 7 [] [(2,{ h:=.obj }),(4,hv (vl ([1,2,3,10]:List Int))),(5,hc s [0] false),(6,hv (vl f)),(7,{ cast:=some (AV.ref 1 ((b++f).length) 0 ((b++f).length)),obs:=[(1,(eS 1 (DV.i .i64) (b++f)))] }),(8,hc t [1] true)] [.pf (p:=∀ k,k<b.length->(AV.d ((DV.i .i64) (b.getD k dF))).wd=1) (fun _ _=>rfl),.ev 0,.pf (z5 (DV.i .i64) ([1,2,3,10]:List Int)),.cl 3 s [0] 2 false,.pf (z5 (DV.i .i64) f),.e b.length,.e b.length,.pf (p:=∀ k,k<1->(AV.d ((DV.i .i64) (f.getD k dF))).wd=1) (fun _ _=>rfl),.ev 1,.pf (zf (o:=1) (l:=b) (x:=f)),.pf (ze (sz:=1) (e:=(DV.i .i64)) (l:=b) (x:=f)),.cl 2 t [1] 2 true]<|
.a 8 2 2 (@F_ql_ok c.2.1 u) fun v=>
.r (.cont (q.2,v,n)))) (
.r (.brk (c.1,c.2.1,c.2.2)))
def S_q5_b2 (a:TTape×(List Y8)×Int):SC R_q5 (Step (TTape×(List Y8)×Int) R_q5) :=
.ite (decide (a.2.2>0)) (
.call (@F_q0_ok 2 a.1) fun b c=>
.call (@F_ql_ok a.2.1 (([[57,46,49],[57,46,50]]:List Y8).getD b.1.toNat dF)) fun f e=>
.guard [(0:Int)<=b.1,b.1.toNat<2]<|
.reg 13 [] [(1,hv (AV.d (eL DV.str ([[57,46,49],[57,46,50]]:List Y8)))),(3,hc c [0] false),(6,hc e [] true)] [.pf (z5 DV.str ([[57,46,49],[57,46,50]]:List Y8)),.cl 3 c [0] 1 false,.ev 0,.ev 1,.cl 2 e [] 1 true]<|
.r (.cont (b.2,f,(i64.wrap (a.2.2-1))))) (
.r (.brk (a.1,a.2.1,a.2.2)))
def S_q5_b3 (m:TTape×(List Y8)×Int) (i:Nat) (a:TTape×(List THe)):SC R_q5 (Step (TTape×(List THe)) R_q5) :=
.reg 17 [] [] [.w i,.ev 0]<|
.call (@F_q0_ok 5 a.1) fun b j=>
.guard [(0:Int)<=b.1,b.1.toNat<5,(a.2.length+1) * (2 * 32)<=2 ^ 48]<|
 let f:=([(⟨(m.2.1.getD i dF),(([[115,99,104,111,111,108,115],[114,111,97,100,115],[99,111,117,114,116,32,111,102,32,97,117,100,105,116],[97],[116,97,120]]:List Y8).getD b.1.toNat dF)⟩:THe)]:List THe)
 let g:=(a.2++f)
.reg 18 [] [(2,hv (AV.d (eL DV.str ([[115,99,104,111,111,108,115],[114,111,97,100,115],[99,111,117,114,116,32,111,102,32,97,117,100,105,116],[97],[116,97,120]]:List Y8)))),(4,hc j [0] false),(8,hv (AV.d (eL THe.e f))),(9,{ h:=.obj,cast:=some (AV.ref 1 g.length 0 g.length),obs:=[(1,(eS 2 THe.e g))] })] [.pf (z5 DV.str ([[115,99,104,111,111,108,115],[114,111,97,100,115],[99,111,117,114,116,32,111,102,32,97,117,100,105,116],[97],[116,97,120]]:List Y8)),.cl 3 j [0] 2 false,.ev 0,.ev 1,.pf (z5 THe.e f),.e a.2.length,.e a.2.length,.pf (p:=∀ k,k<1->(THe.d (f.getD k dF)).wd=2) (fun _ _=>rfl),.ev 2,.pf (zf (o:=1) (l:=a.2) (x:=f)),.pf (ze (sz:=2) (e:=THe.e) (l:=a.2) (x:=f))]<|
.c (b.2,g)
def S_q5 (o:Int) (p:TTape):SC R_q5 R_q5 :=
.reg 1 [] [(0,hv (AV.d (eL DV.str ([[49],[50]]:List Y8))))] [.pf (z5 DV.str ([[49],[50]]:List Y8))]<|
.call (@F_q0_ok (i64.wrap (o+1)) p) fun h l=>
.k 2 3 l [0] 1 false<|
.iter [0] (fun (g:TTape×(List Y8)×Int)=>[(5,(AV.d (eL DV.str g.2.1))),(6,(vi g.2.2))]) (fun g=>[(0,(TTape.b g.1))]) (h.2,([[49],[50]]:List Y8),h.1) S_q5_b1 (fun g =>
.a 9 1 1 (@F_ql_ok g.2.1 ([57])) fun m=>
.call (@F_q0_ok 3 g.1) fun i n=>
.k 10 1 n [0] 1 false<|
.iter [0] (fun (f:TTape×(List Y8)×Int)=>[(5,(AV.d (eL DV.str f.2.1))),(9,(vi f.2.2))]) (fun f=>[(0,(TTape.b f.1))]) (i.2,m,i.1) S_q5_b2 (fun f =>
.reg 15 [] [] []<|
.bor 2 (fun j=>AV.d (THe.e (([]:List THe).getD j dF))) [10]<|
.range (f.2.1.length:Int) f.2.1.length rfl (.slot 60) 62 [0,60,61] (fun (c:TTape×(List THe))=>[(10,(AV.ref 1 c.2.length 0 c.2.length))]) (fun c=>[(0,(TTape.b c.1)),(1,(eS 2 THe.e c.2))]) (f.1,([]:List THe)) (S_q5_b3 f) (fun c => 
.guard [c.2.length<2 ^ 63]<|
.reg 20 [] [] []<|
.frz 1 (.ev 0) none [4] []<|
.r (c.2,c.1)) id) id) id
def F_q5 (a:Int) (b:TTape):=(S_q5 a b).den
theorem F_q5_ok {a:Int} {c:TTape}:FO (F_q5 a c) 36 [(vp 0),(vi a)] [(TTape.b c)] (fun x=>(AV.d (eL THe.e x.1))) (fun x=>[(TTape.b x.2)]):=fO (s:=S_q5 a c) Tryz.func36
def S_qb_b1 (g:Y8) (a:Int×Int×Int):SC Bool (Step (Int×Int×Int) Bool) :=
.ite (decide (a.2.2<(g.length:Int))) (
.guard [(0:Int)<=a.2.2,a.2.2.toNat<g.length]<|
.reg 6 [] [] [.ev 0,.ev 1]<|
 let b:=((g.getD a.2.2.toNat 0).toNat:Int)
 let e:=(i64.wrap (a.2.2+1))
.ite (b==46) (
.ite (a.1==0) (
.r (.ret false)) (
.r (.cont (0,(i64.wrap (a.2.1+1)),e)))) (
 let c:=(decide (b<48))
 let d:=(cO c (decide (b>57)))
 let f:=(a.2.2.toNat<g.length)
.guard [AllP [c=false]->((0:Int)<=a.2.2),AllP [c=false]->f,AllP [(a.1==0)=true,d=false]->((0:Int)<=a.2.2),AllP [(a.1==0)=true,d=false]->f]<|
.reg 11 [] [] [.ev 5,.ev 6,.ev 0,.ev 1,.ev 2,.ev 3]<|
.ite (cO (cO d (bif (a.1==0) then (b==48) else false)) (a.1==2)) (
.r (.ret false)) (
.r (.cont ((i64.wrap (a.1+1)),a.2.1,e))))) (
.r (.brk (a.1,a.2.1,a.2.2)))
def S_qb (b:Y8):SC Bool Bool :=
.iter [0] (fun (a:Int×Int×Int)=>[(3,(vi a.1)),(4,(vi a.2.1)),(5,(vi a.2.2))]) (fun _=>[]) (0,1,0) (S_qb_b1 b) (fun a =>
.r (bif (decide (a.1>0)) then (decide (a.2.1<=4)) else false)) id
def F_qb (a:Y8):=(S_qb a).den
theorem F_qb_ok {a:Y8}:FO (F_qb a) 88 [(AV.d (DV.str a))] [] vb NL:=fO (s:=S_qb a) Tryz.func88
def S_q2y (b:Y8) (c:Y8):SC Bool Bool :=
.call (@F_qb_ok b) fun d g=>
.calld [(!d)=false] dF (@F_qb_ok c) fun i h =>
 let a:=(c.length:Int)
 let e:=(cO (cO (!d) (!i)) (decide ((b.length:Int)<a)))
.guard [AllP [e=false]->(c.length<=b.length)]<|
.reg 1 [] [(1,hc g [] true),(5,hc h [] true)] [.cl 3 g [] 0 true,.clg 1 [(!d)=false] h [] 0 true,.pf (p:=AllP [e=false]->((0:Int)<=a)) (fun _=>(y37 _)),.ev 0]<|
.ite (cO e (!((b.take c.length)==c))) (
.r false) (
 let f:=((b.length:Int)==a)
.guard [AllP [f=false]->(c.length<b.length)]<|
.reg 3 [] [] [.pf (p:=AllP [f=false]->((0:Int)<=a)) (fun _=>(y37 _)),.ev 0]<|
.r (cO f (((b.getD c.length 0).toNat:Int)==46)))
def F_q2y (a:Y8) (b:Y8):=(S_q2y a b).den
theorem F_q2y_ok {a:Y8} {b:Y8}:FO (F_q2y a b) 89 [(AV.d (DV.str a)),(AV.d (DV.str b))] [] vb NL:=fO (s:=S_q2y a b) Tryz.func89
abbrev R_qf:=Y8
def S_qf_b1 (b:Y8) (a:Int):SC R_qf (Step Int R_qf) :=
.ite (decide (a>=0)) (
.guard [(0:Int)<=a,a.toNat<b.length]<|
.reg 6 [] [] [.ev 0,.ev 1]<|
.ite (((b.getD a.toNat 0).toNat:Int)==46) (
.guard [a.toNat<=b.length]<|
.reg 7 [] [] [.ev 2,.ev 0]<|
.r (.ret (b.take a.toNat))) (
.r (.cont (i64.wrap (a-1))))) (
.r (.brk a))
def S_qf (b:Y8):SC R_qf R_qf :=
.a 1 1 0 (@F_qb_ok b) fun c=>
.ite (!c) (
.r ([])) (
.iter [0] (fun (d:Int)=>[(3,(vi d))]) (fun _=>[]) (i64.wrap ((b.length:Int)-1)) (S_qf_b1 b) (fun _ =>
.r ([])) id)
def F_qf (a:Y8):=(S_qf a).den
theorem F_qf_ok {a:Y8}:FO (F_qf a) 90 [(AV.d (DV.str a))] [] (fun x=>(AV.d (DV.str x))) NL:=fO (s:=S_qf a) Tryz.func90
abbrev R_q3:=(List Y8)
def S_q3_b1 (g:(List THe)) (e:Nat) (b:Nat) (a:Bool):SC R_q3 (Step Bool R_q3) :=
.reg 9 [] [] [.w b,.ev 0]<|
.calld [a=true] dF (@F_qf_ok ((g.getD b dF).B)) fun f d =>
.reg 10 [] [(4,hc d [] true)] [.clg 0 [a=true] d [] 3 true]<|
.c (bif a then (!(f==((g.getD e dF).B))) else false)
def S_q3_b2 (q:(List THe)) (s:Y8) (f:Nat) (a:(List Y8)):SC R_q3 (Step ((List Y8)) R_q3) :=
.reg 4 [] [] [.w f,.ev 0]<|
 let g:=(q.getD f dF)
.call (@F_qb_ok g.B) fun i m=>
.calld [(!(s==([])))=true,(!i)=false] dF (@F_q2y_ok g.B s) fun t n =>
.reg 5 [] [(2,hc m [] true),(11,hc n [] true)] [.cl 2 m [] 2 true,.clg 0 [(!(s==([])))=true,(!i)=false] n [] 2 true]<|
.ite (cO (!i) (bif (!(s==([]))) then (!t) else false)) (
.c a) (
.range (q.length:Int) q.length rfl (.slot 0) 34 [0,1,5,7,11,12,13,32,33] (fun (j:Bool)=>[(8,(vb j))]) (fun _=>[]) true (S_q3_b1 q f) (fun j => 
.ite j (
.guard [(a.length+1) * (2 * 16)<=2 ^ 48]<|
 let b:=([g.B]:List Y8)
.reg 13 [] [(3,hv (AV.d (eL DV.str b))),(4,{ h:=.obj,cast:=some (AV.ref 0 ((a++b).length) 0 ((a++b).length)),obs:=[(0,(eS 1 DV.str (a++b)))] })] [.pf (z5 DV.str b),.e a.length,.e a.length,.pf (p:=∀ k,k<1->(AV.d (DV.str (b.getD k dF))).wd=1) (fun _ _=>rfl),.ev 0,.pf (zf (o:=0) (l:=a) (x:=b)),.pf (ze (sz:=1) (e:=DV.str) (l:=a) (x:=b))]<|
.r (.cont (a++b))) (
.c a)) .ret)
def S_q3 (b:(List THe)) (c:Y8):SC R_q3 R_q3 :=
.reg 2 [] [] []<|
.bor 1 (fun j=>AV.d (DV.str (([]:List Y8).getD j dF))) [5]<|
.range (b.length:Int) b.length rfl (.slot 0) 13 [0,1,11,12] (fun (a:(List Y8))=>[(5,(AV.ref 0 a.length 0 a.length))]) (fun a=>[(0,(eS 1 DV.str a))]) ([]:List Y8) (S_q3_b2 b c) (fun a => 
.guard [a.length<2 ^ 63]<|
.reg 15 [] [] []<|
.frz 0 (.ev 0) none [4] []<|
.r a) id
def F_q3 (a:(List THe)) (b:Y8):=(S_q3 a b).den
theorem F_q3_ok {a:(List THe)} {b:Y8}:FO (F_q3 a b) 37 [(AV.d (eL THe.e a)),(AV.d (DV.str b))] [] (fun x=>(AV.d (eL DV.str x))) NL:=fO (s:=S_q3 a b) Tryz.func37
def S_q1d (k:TTape):SC (Int×TTape) (Int×TTape) :=
.call (@F_q0_ok 1000 k) fun b c=>
.call (@F_q0_ok 1000 b.2) fun d e=>
.call (@F_q0_ok 100000 d.2) fun f g=>
 let a:=([0,100,b.1,d.1,f.1,1000000000000]:List Int)
.call (@F_qa_ok a f.2) fun h j=>
.reg 1 [] [(2,hc c [0] false),(4,hc e [0] false),(6,hc g [0] false),(7,hv (vl a)),(8,hc j [0] false)] [.cl 3 c [0] 1 false,.cl 2 e [0] 1 false,.cl 1 g [0] 1 false,.pf (z5 (DV.i .i64) a),.cl 0 j [0] 1 false]<|
.r (h.1,h.2)
def F_q1d (a:TTape):=(S_q1d a).den
theorem F_q1d_ok {a:TTape}:FO (F_q1d a) 38 [(vp 0)] [(TTape.b a)] (fun x=>(vi x.1)) (fun x=>[(TTape.b x.2)]):=fO (s:=S_q1d a) Tryz.func38
abbrev R_qz:=(List Int)
def S_qz_b1 (a0_0:Int) (a0_1:Int) (a:(List Int)×Int):SC R_qz (Step ((List Int)×Int) R_qz) :=
.ite (decide (a.2<(i64.wrap (a0_0+a0_1)))) (
.guard [(a.1.length+1) * (2 * 8)<=2 ^ 48]<|
 let b:=([a.2]:List Int)
.reg 5 [] [(2,hv (vl b)),(3,{ h:=.obj,cast:=some (AV.ref 8 ((a.1++b).length) 0 ((a.1++b).length)),obs:=[(8,(eS 1 (DV.i .i64) (a.1++b)))] })] [.pf (z5 (DV.i .i64) b),.e a.1.length,.e a.1.length,.pf (p:=∀ k,k<1->(AV.d ((DV.i .i64) (b.getD k dF))).wd=1) (fun _ _=>rfl),.ev 0,.pf (zf (o:=8) (l:=a.1) (x:=b)),.pf (ze (sz:=1) (e:=(DV.i .i64)) (l:=a.1) (x:=b))]<|
.r (.cont ((a.1++b),(i64.wrap (a.2+1))))) (
.r (.brk (a.1,a.2)))
def S_qz (a0_0:Int) (a0_1:Int) (_:(List THe)) (_:(List TLi)) (_:(List TBo)) (_:(List TBo)) (_:(List TEa)) (_:(List TCo)) (_:(List TRu)) (_:(List TAm)):SC R_qz R_qz :=
.reg 1 [] [(0,{ h:=.obj,obs:=[(8,(eS 1 (DV.i .i64) ([(-1)]:List Int)))] })] [.pf (z2h (sz:=1) (e:=(DV.i .i64)) (l:=([(-1)]:List Int)))]<|
.iter [1] (fun (a:(List Int)×Int)=>[(3,(AV.ref 8 a.1.length 0 a.1.length)),(4,(vi a.2))]) (fun a=>[(8,(eS 1 (DV.i .i64) a.1))]) (([(-1)]:List Int),a0_0) (S_qz_b1 a0_0 a0_1) (fun a =>
.guard [a.1.length<2 ^ 63]<|
.reg 6 [] [] []<|
.frz 8 (.ev 0) none [2] []<|
.r a.1) id
def F_qz (a0_0:Int) (a0_1:Int) (a0_2:(List THe)) (a:(List TLi)) (b:(List TBo)) (c:(List TBo)) (d:(List TEa)) (e:(List TCo)) (f:(List TRu)) (g:(List TAm)):=(S_qz a0_0 a0_1 a0_2 a b c d e f g).den
theorem F_qz_ok {a0_0:Int} {a0_1:Int} {a0_2:(List THe)} {a:(List TLi)} {b:(List TBo)} {c:(List TBo)} {f:(List TEa)} {g:(List TCo)} {h:(List TRu)} {i:(List TAm)}:FO (F_qz a0_0 a0_1 a0_2 a b c f g h i) 39 [(AV.agg [(vi a0_0),(vi a0_1),(AV.d (eL THe.e a0_2)),(AV.ref 0 a.length 0 a.length),(AV.ref 1 b.length 0 b.length),(AV.ref 2 c.length 0 c.length),(AV.ref 3 f.length 0 f.length),(AV.ref 4 g.length 0 g.length),(AV.ref 5 h.length 0 h.length),(AV.ref 6 i.length 0 i.length)])] [(eS 3 TLi.e a),(eS 3 TBo.e b),(eS 3 TBo.e c),(eS 3 TEa.e f),(eS 7 TCo.e g),(eS 4 TRu.e h),(eS 3 TAm.e i)] vl (fun _=>[(eS 3 TLi.e a),(eS 3 TBo.e b),(eS 3 TBo.e c),(eS 3 TEa.e f),(eS 7 TCo.e g),(eS 4 TRu.e h),(eS 3 TAm.e i)]):=fO (s:=S_qz a0_0 a0_1 a0_2 a b c f g h i) Tryz.func39
abbrev R_qj:=(List Y8)
def S_qj_b1 (g:(List THe)) (e:Nat) (b:Nat) (a:Bool):SC R_qj (Step Bool R_qj) :=
.reg 9 [] [] [.w b,.ev 0]<|
.calld [a=true] dF (@F_qf_ok ((g.getD b dF).B)) fun f d =>
.reg 10 [] [(4,hc d [] true)] [.clg 0 [a=true] d [] 3 true]<|
.c (bif a then (!(f==((g.getD e dF).B))) else false)
def S_qj_b2 (q:(List THe)) (s:Y8) (f:Nat) (b:(List Y8)):SC R_qj (Step ((List Y8)) R_qj) :=
.reg 4 [] [] [.w f,.ev 0]<|
 let g:=(q.getD f dF)
.call (@F_qb_ok g.B) fun i m=>
.calld [(!(s==([])))=true,(!i)=false] dF (@F_q2y_ok g.B s) fun t n =>
.reg 5 [] [(2,hc m [] true),(11,hc n [] true)] [.cl 2 m [] 2 true,.clg 0 [(!(s==([])))=true,(!i)=false] n [] 2 true]<|
.ite (cO (!i) (bif (!(s==([]))) then (!t) else false)) (
.c b) (
.range (q.length:Int) q.length rfl (.slot 0) 34 [0,1,5,7,11,12,13,32,33] (fun (j:Bool)=>[(8,(vb j))]) (fun _=>[]) true (S_qj_b1 q f) (fun j => 
.ite j (
 let a:=([g.B]:List Y8)
.guard [(b.length+a.length) * (2 * 16)<=2 ^ 48]<|
.reg 13 [] [(3,{ h:=.obj,obs:=[(2,(eS 1 DV.str a))] }),(4,{ h:=.obj,cast:=some (AV.ref 0 ((b++a).length) 0 ((b++a).length)),obs:=[(0,(eS 1 DV.str (b++a)))] })] [.pf (z2h (sz:=1) (e:=DV.str) (l:=a)),.e a.length,.e b.length,.e b.length,.pf (p:=∀ k,k<a.length->(AV.d (DV.str (a.getD k dF))).wd=1) (fun _ _=>rfl),.ev 0,.pf (zf (o:=0) (l:=b) (x:=a)),.pf (ze (sz:=1) (e:=DV.str) (l:=b) (x:=a))]<|
.r (.cont (b++a))) (
.c b)) .ret)
def S_qj (b:(List THe)) (c:Y8):SC R_qj R_qj :=
.reg 2 [] [] []<|
.bor 1 (fun j=>AV.d (DV.str (([]:List Y8).getD j dF))) [5]<|
.range (b.length:Int) b.length rfl (.slot 0) 13 [0,1,11,12] (fun (a:(List Y8))=>[(5,(AV.ref 0 a.length 0 a.length))]) (fun a=>[(0,(eS 1 DV.str a))]) ([]:List Y8) (S_qj_b2 b c) (fun a => 
.r a) id
def F_qj (a:(List THe)) (b:Y8):=(S_qj a b).den
theorem F_qj_ok {a:(List THe)} {b:Y8}:FO (F_qj a b) 37 [(AV.d (eL THe.e a)),(AV.d (DV.str b))] [] (fun x=>(AV.ref 0 x.length 0 x.length)) (fun x=>[(eS 1 DV.str x)]):=fO (s:=S_qj a b) Tryz.func37
abbrev R_q10:=Y8×TTape
def S_q10 (j:(List THe)) (m:TTape):SC R_q10 R_q10 :=
.call (@F_qj_ok j ([49])) fun a f=>
.call (@F_q3_ok j ([50])) fun b g=>
.guard [(a.length+b.length) * (2 * 16)<=2 ^ 48]<|
.reg 1 [] [(1,hc f [] false),(3,hc g [] true),(4,{ cast:=some (AV.ref 1 ((a++b).length) 0 ((a++b).length)),obs:=[(1,(eS 1 DV.str (a++b)))] })] [.cl 2 f [] 1 false,.cl 1 g [] 2 true,.e a.length,.e a.length,.pf (p:=∀ k,k<b.length->(AV.d (DV.str (b.getD k dF))).wd=1) (fun _ _=>rfl),.ev 0,.pf (zf (o:=1) (l:=a) (x:=b)),.pf (ze (sz:=1) (e:=DV.str) (l:=a) (x:=b))]<|
.guard [(a++b).length<2 ^ 63]<|
.frz 1 (.ev 0) none [5] []<|
 let h:=((a++b).length:Int)
.ite (h==0) (
.r ([49],m)) (
.call (@F_q0_ok h m) fun c i=>
.guard [(0:Int)<=c.1,c.1.toNat<(a++b).length]<|
.reg 4 [] [(4,hc i [0] false)] [.cl 2 i [0] 2 false,.ev 0,.ev 1]<|
.r (((a++b).getD c.1.toNat dF),c.2))
def F_q10 (a:(List THe)) (b:TTape):=(S_q10 a b).den
theorem F_q10_ok {a:(List THe)} {c:TTape}:FO (F_q10 a c) 58 [(vp 0),(AV.d (eL THe.e a))] [(TTape.b c)] (fun x=>(AV.d (DV.str x.1))) (fun x=>[(TTape.b x.2)]):=fO (s:=S_q10 a c) Tryz.func58
abbrev R_q3q:=Y8×TTape
def S_q3q (c:TTape):SC R_q3q R_q3q :=
.call (@F_q0_ok 12 c) fun a b=>
.guard [(0:Int)<=a.1,a.1.toNat<12]<|
.reg 1 [] [(0,hv (AV.d (eL DV.str ([[],[48],[48,49],[49,46],[46,49],[49,46,46,50],[49,48,48],[49,46,50,46,51,46,52,46,53],[120],[49,32],[57,57,46,57,57,46,57,57,46,57,57],[52]]:List Y8)))),(2,hc b [0] false)] [.pf (z5 DV.str ([[],[48],[48,49],[49,46],[46,49],[49,46,46,50],[49,48,48],[49,46,50,46,51,46,52,46,53],[120],[49,32],[57,57,46,57,57,46,57,57,46,57,57],[52]]:List Y8)),.cl 2 b [0] 1 false,.ev 0,.ev 1]<|
.r ((([[],[48],[48,49],[49,46],[46,49],[49,46,46,50],[49,48,48],[49,46,50,46,51,46,52,46,53],[120],[49,32],[57,57,46,57,57,46,57,57,46,57,57],[52]]:List Y8).getD a.1.toNat dF),a.2)
def F_q3q (a:TTape):=(S_q3q a).den
theorem F_q3q_ok {a:TTape}:FO (F_q3q a) 76 [(vp 0)] [(TTape.b a)] (fun x=>(AV.d (DV.str x.1))) (fun x=>[(TTape.b x.2)]):=fO (s:=S_q3q a) Tryz.func76
abbrev R_q11:=Y8×TTape
def S_q11 (i:(List THe)) (j:TTape):SC R_q11 R_q11 :=
 let a:=((i.length:Int)==0)
.calld [a=false] (dF,j) (@F_q0_ok 12 j) fun c e =>
.reg 1 [] [(5,hc e [0] false)] [.clg 0 [a=false] e [0] 1 false,.der (fun (h:¬ AllP [a=false]->(dF,j)=c) (hn:¬ AllP [a=false])=>(by obtain rfl:=h hn; rfl:[(TTape.b j)]=[(TTape.b c.2)])) 1]<|
.ite (cO a (c.1==11)) (
.call (@F_q3q_ok c.2) fun f l=>
.k 2 1 l [0] 1 false<|
.r (f.1,f.2)) (
.call (@F_q0_ok (i.length:Int) c.2) fun d g=>
.guard [(0:Int)<=d.1,d.1.toNat<i.length]<|
.reg 3 [] [(4,hc g [0] false)] [.cl 2 g [0] 1 false,.ev 0,.ev 1]<|
.r ((i.getD d.1.toNat dF).B,d.2))
def F_q11 (a:(List THe)) (b:TTape):=(S_q11 a b).den
theorem F_q11_ok {a:(List THe)} {c:TTape}:FO (F_q11 a c) 91 [(vp 0),(AV.d (eL THe.e a))] [(TTape.b c)] (fun x=>(AV.d (DV.str x.1))) (fun x=>[(TTape.b x.2)]):=fO (s:=S_q11 a c) Tryz.func91
def S_qq_b1 (b:(List THe)) (c:Y8) (a:Nat) (_:Unit):SC Bool (Step Unit Bool) :=
.reg 3 [] [] [.w a,.ev 0]<|
.ite (((b.getD a dF).B)==c) (
.r (.ret true)) (
.r (.cont ()))
def S_qq (a:(List THe)) (b:Y8):SC Bool Bool :=
.range (a.length:Int) a.length rfl (.slot 7) 9 [1,7,8] (fun (_:Unit)=>[]) (fun _=>[]) () (S_qq_b1 a b) (fun _ => 
.r false) id
def F_qq (a:(List THe)) (b:Y8):=(S_qq a b).den
theorem F_qq_ok {a:(List THe)} {b:Y8}:FO (F_qq a b) 148 [(AV.d (eL THe.e a)),(AV.d (DV.str b))] [] vb NL:=fO (s:=S_qq a b) Tryz.func148
def S_q2z (_:Int) (_:Int) (a0_2:(List THe)) (_:(List TEa)) (_:(List TCo)) (c:Y8) (_:(List TLi)) (_:(List TBo)) (_:(List TBo)) (_:(List TRu)) (_:(List TAm)):SC Bool Bool :=
.a 1 3 6 (@F_qq_ok a0_2 c) fun b=>
.r b
def F_q2z (a0_0:Int) (a0_1:Int) (a0_2:(List THe)) (a0_3:(List TEa)) (a0_4:(List TCo)) (a:Y8) (b:(List TLi)) (c:(List TBo)) (d:(List TBo)) (e:(List TRu)) (f:(List TAm)):=(S_q2z a0_0 a0_1 a0_2 a0_3 a0_4 a b c d e f).den
theorem F_q2z_ok {a0_0:Int} {a0_1:Int} {a0_2:(List THe)} {a0_3:(List TEa)} {a0_4:(List TCo)} {h:Y8} {a:(List TLi)} {b:(List TBo)} {c:(List TBo)} {f:(List TRu)} {g:(List TAm)}:FO (F_q2z a0_0 a0_1 a0_2 a0_3 a0_4 h a b c f g) 92 [(AV.agg [(vi a0_0),(vi a0_1),(AV.d (eL THe.e a0_2)),(AV.ref 0 a.length 0 a.length),(AV.ref 1 b.length 0 b.length),(AV.ref 2 c.length 0 c.length),(AV.d (eL TEa.e a0_3)),(AV.d (eL TCo.e a0_4)),(AV.ref 3 f.length 0 f.length),(AV.ref 4 g.length 0 g.length)]),(AV.d (DV.str h))] [(eS 3 TLi.e a),(eS 3 TBo.e b),(eS 3 TBo.e c),(eS 4 TRu.e f),(eS 3 TAm.e g)] vb (fun _=>[(eS 3 TLi.e a),(eS 3 TBo.e b),(eS 3 TBo.e c),(eS 4 TRu.e f),(eS 3 TAm.e g)]):=fO (s:=S_q2z a0_0 a0_1 a0_2 a0_3 a0_4 h a b c f g) Tryz.func92
def S_q2v (c:TLa) (d:Y8):SC Bool Bool :=
.a 1 3 1 (@F_qq_ok c.I d) fun b=>
.r b
def F_q2v (a:TLa) (b:Y8):=(S_q2v a b).den
theorem F_q2v_ok {a:TLa} {b:Y8}:FO (F_q2v a b) 92 [(TLa.d a),(AV.d (DV.str b))] [] vb NL:=fO (s:=S_q2v a b) Tryz.func92
end
end Go.Proofs.YtgfgnhpecnmlpaaGreatDoor
/- What the functions compute,and that their calls return it. No condition. -/
namespace Go.Proofs.YtgfgnhpecnmlpaaGreatDoor
open Go Go.TA
open Go.IntKind (i64)
noncomputable section
set_option maxRecDepth 100000
abbrev R_q1:=TTape×Int×Int×(List THe)×(List TEa)×(List TCo)×(List TRu)
def S_q1_b1 (q:R_q3) (g:Nat) (a:TTape×Int×Int×(List THe)×(List TEa)):SC R_q1 (Step (TTape×Int×Int×(List THe)×(List TEa)) R_q1) :=
.reg 2 [] [] [.w g,.ev 0]<|
.call (@F_q0_ok 2 a.1) fun f s=>
.k 3 1 s [0] 9 false<|
.ite (f.1==0) (
.call (@F_q10_ok a.2.2.2.1 f.2) fun h j=>
.call (@F_qa_ok ([0,10,33,50]:List Int) h.2) fun m n=>
.guard [(a.2.2.2.2.length+1) * (2 * 40)<=2 ^ 48]<|
 let b:=([(⟨(q.getD g dF),h.1,m.1⟩:TEa)]:List TEa)
 let c:=(a.2.2.2.2++b)
.reg 4 [11,14,17,20] [(11,hc j [0] false),(13,hv (vl ([0,10,33,50]:List Int))),(14,hc n [0] false),(16,hv (AV.d (eL TEa.e b))),(17,{ cast:=some (AV.ref 5 c.length 0 c.length),obs:=[(5,(eS 3 TEa.e c))] })] [.cl 2 j [0] 9 false,.pf (z5 (DV.i .i64) ([0,10,33,50]:List Int)),.pf (z5 (DV.i .i64) ([0,10,33,50]:List Int)),.cl 1 n [0] 9 false,.pf (z5 TEa.e b),.e a.2.2.2.2.length,.e a.2.2.2.2.length,.pf (p:=∀ k,k<1->(TEa.d (b.getD k dF)).wd=3) (fun _ _=>rfl),.ev 0,.pf (zf (o:=5) (l:=a.2.2.2.2) (x:=b)),.pf (ze (sz:=3) (e:=TEa.e) (l:=a.2.2.2.2) (x:=b))]<|
.r (.cont (m.2,a.2.1,a.2.2.1,a.2.2.2.1,c))) (
.r (.cont (f.2,a.2.1,a.2.2.1,a.2.2.2.1,a.2.2.2.2)))
def S_q1_b2 (L:(List TLi)) (M:(List TBo)) (N:(List TBo)) (O:(List TRu)) (P:(List TAm)) (a:TTape×Int×Int×(List THe)×(List TEa)×(List TCo)×Int):SC R_q1 (Step (TTape×Int×Int×(List THe)×(List TEa)×(List TCo)×Int) R_q1) :=
 let C:=(decide (a.2.2.2.2.2.2>0))
.ite C (
 let D:=(AV.agg [(vi a.2.1),(vi a.2.2.1),(AV.d (eL THe.e a.2.2.2.1)),(AV.ref 2 L.length 0 L.length),(AV.ref 3 M.length 0 M.length),(AV.ref 4 N.length 0 N.length),(AV.d (eL TEa.e a.2.2.2.2.1)),(AV.ref 6 a.2.2.2.2.2.1.length 0 a.2.2.2.2.2.1.length),(AV.ref 7 O.length 0 O.length),(AV.ref 8 P.length 0 P.length)])
 let E:=[(0,(vp 0)),(1,(vp 1)),(6,(vi a.2.2.2.2.2.2)),(85,(vb C))]
 let F:=(eS 7 TCo.e a.2.2.2.2.2.1)
.sh (H:=NoH) (A:=True) (.pf trivial) E E [(TTape.b a.1),(Ob.box D),(eS 3 TLi.e L),(eS 3 TBo.e M),(eS 3 TBo.e N),Ob.dead,F,(eS 4 TRu.e O),(eS 3 TAm.e P),Ob.dead] [(TTape.b a.1),(Ob.box D),(eS 3 TLi.e L),(eS 3 TBo.e M),(eS 3 TBo.e N),Ob.dead,F,(eS 4 TRu.e O),(eS 3 TAm.e P),Ob.dead,Ob.unb] (fun _=>z2n) (z29 _)<|
.call (@F_q10_ok a.2.2.2.1 a.1) fun y z=>
.call (@F_q0_ok a.2.2.1 y.2) fun G B=>
.call (@F_q1d_ok G.2) fun u g=>
 let s:=([50,200,u.1]:List Int)
.call (@F_qa_ok s u.2) fun j m=>
.call (@F_q0_ok 360 j.2) fun v n=>
.reg 11 [5,15,19,21,28,31,32] [(5,hc z [0] false),(15,hc B [0] false),(19,hc g [0] false),(20,hv (vl s)),(21,hc m [0] false),(28,hc n [0] false),(31,{ h:=.born 10 false })] [.cl 4 z [0] 11 false,.cl 4 z [0] 11 false,.cl 3 B [0] 11 false,.cl 3 B [0] 11 false,.cl 2 g [0] 11 false,.cl 2 g [0] 11 false,.pf (z5 (DV.i .i64) s),.pf (z5 (DV.i .i64) s),.cl 1 m [0] 11 false,.cl 1 m [0] 11 false,.cl 0 n [0] 11 false,.cl 0 n [0] 11 false]<|
.call (@F_q0_ok 2 v.2) fun q I=>
.k 12 1 I [0] 11 false<|
.cut none [0,1,6,7] (fun (_:TTape×TCo)=>[]) (fun c=>[(0,(TTape.b c.1)),(10,(TCo.b c.2))]) (
 let J:=(i64.wrap (a.2.1+G.1))
.ite (q.1==0) (
.call (@F_q0_ok 2000 q.2) fun w K=>
.k 13 1 K [0] 11 false<|
.r (.next (w.2,(⟨y.1,J,j.1,2,0,[57],w.1⟩:TCo)))) (
.r (.next (q.2,(⟨y.1,J,j.1,1,(i64.wrap ((i64.wrap (360 * a.2.1))+v.1)),[],0⟩:TCo))))) fun c=>
.guard [(a.2.2.2.2.2.1.length+1) * (2 * 72)<=2 ^ 48]<|
 let f:=([c.2]:List TCo)
 let t:=(a.2.2.2.2.2.1++f)
.reg 14 [7,10] [(6,hv (AV.d (eL TCo.e f))),(7,{ cast:=some (AV.ref 6 t.length 0 t.length),obs:=[(6,(eS 7 TCo.e t))] })] [.pf (z5 TCo.e f),.e a.2.2.2.2.2.1.length,.e a.2.2.2.2.2.1.length,.pf (p:=∀ k,k<1->(TCo.d (f.getD k dF)).wd=7) (fun _ _=>rfl),.ev 0,.pf (zf (o:=6) (l:=a.2.2.2.2.2.1) (x:=f)),.pf (ze (sz:=7) (e:=TCo.e) (l:=a.2.2.2.2.2.1) (x:=f))]<|
.r (.cont (c.1,a.2.1,a.2.2.1,a.2.2.2.1,a.2.2.2.2.1,t,(i64.wrap (a.2.2.2.2.2.2-1))))) (
.r (.brk (a.1,a.2.1,a.2.2.1,a.2.2.2.1,a.2.2.2.2.1,a.2.2.2.2.2.1,a.2.2.2.2.2.2)))
def S_q1_b3 (D:(List TLi)) (E:(List TBo)) (F:(List TBo)) (G:(List TAm)) (a:TTape×Int×Int×(List THe)×(List TEa)×(List TCo)×Nat×(List TRu)×Int):SC R_q1 (Step (TTape×Int×Int×(List THe)×(List TEa)×(List TCo)×Nat×(List TRu)×Int) R_q1) :=
.call (@F_q0_ok 4 a.1) fun t ax=>
.k 16 2 ax [0] 10 false<|
 let Q:=(decide (a.2.2.2.2.2.2.2.2<=t.1))
.ite Q (
 let H:=(eL TCo.e a.2.2.2.2.2.1)
 let I:=(eL TEa.e a.2.2.2.2.1)
 let J:=(eL THe.e a.2.2.2.1)
 let U:=(i64.wrap (a.2.2.2.2.2.2.2.2+1))
 let R:=(8,(vi a.2.2.2.2.2.2.2.2))
 let u:=(vi a.2.2.1)
 let v:=(eS 3 TLi.e D)
 let w:=(eS 3 TBo.e E)
 let y:=(eS 3 TBo.e F)
 let z:=(eS 3 TAm.e G)
 let B:=(vi a.2.1)
 let V:=(vl ([0,10,50,100]:List Int))
.split (decide (a.2.2.2.2.2.2.1=a.2.2.2.2.2.2.2.1.length)) (
 let X:=(eS 4 TRu.e a.2.2.2.2.2.2.2.1)
.cst (A:=a.2.2.2.2.2.2.1=a.2.2.2.2.2.2.2.1.length) (.der (fun (h:decide (a.2.2.2.2.2.2.1=a.2.2.2.2.2.2.2.1.length)=true)=>y2t h) 0) [(0,(vp 0)),(1,(vp 1)),R,(141,(vb Q))] [(0,(vp 0)),(1,(vp 1)),R,(141,(vb Q))] [(TTape.b t.2),(Ob.box (AV.agg [B,u,(AV.d J),(AV.ref 2 D.length 0 D.length),(AV.ref 3 E.length 0 E.length),(AV.ref 4 F.length 0 F.length),(AV.d I),(AV.d H),(AV.ref 7 a.2.2.2.2.2.2.2.1.length 0 a.2.2.2.2.2.2.1),(AV.ref 8 G.length 0 G.length)])),v,w,y,Ob.dead,Ob.dead,X,z,Ob.dead] [(TTape.b t.2),(Ob.box (AV.agg [B,u,(AV.d J),(AV.ref 2 D.length 0 D.length),(AV.ref 3 E.length 0 E.length),(AV.ref 4 F.length 0 F.length),(AV.d I),(AV.d H),(AV.ref 7 a.2.2.2.2.2.2.2.1.length 0 a.2.2.2.2.2.2.2.1.length),(AV.ref 8 G.length 0 G.length)])),v,w,y,Ob.dead,Ob.dead,X,z,Ob.dead] (fun h=>⟨by first | rfl | rw[h],by first | rfl | rw[h]⟩)<|
.call (@F_q11_ok a.2.2.2.1 t.2) fun Y Z=>
.call (@F_q11_ok a.2.2.2.1 Y.2) fun aa ab=>
.call (@F_qa_ok ([0,10,50,100]:List Int) aa.2) fun S ac=>
.guard [(a.2.2.2.2.2.2.2.1.length+1) * (2 * 48)<=2 ^ 48]<|
 let P:=([(⟨a.2.2.2.2.2.2.2.2,Y.1,aa.1,S.1⟩:TRu)]:List TRu)
 let f:=(a.2.2.2.2.2.2.2.1++P)
.reg 18 [11,17,20,23,26] [(11,hc Z [0] false),(17,hc ab [0] false),(19,hv V),(20,hc ac [0] false),(22,hv (AV.d (eL TRu.e P))),(23,{ cast:=some (AV.ref 7 f.length 0 f.length),obs:=[(7,(eS 4 TRu.e f))] })] [.cl 3 Z [0] 10 false,.cl 2 ab [0] 10 false,.pf (z5 (DV.i .i64) ([0,10,50,100]:List Int)),.pf (z5 (DV.i .i64) ([0,10,50,100]:List Int)),.pf (z5 (DV.i .i64) ([0,10,50,100]:List Int)),.cl 1 ac [0] 10 false,.pf (z5 TRu.e P),.e a.2.2.2.2.2.2.2.1.length,.e a.2.2.2.2.2.2.2.1.length,.pf (p:=∀ k,k<1->(TRu.d (P.getD k dF)).wd=4) (fun _ _=>rfl),.ev 0,.pf (zf (o:=7) (l:=a.2.2.2.2.2.2.2.1) (x:=P)),.pf (ze (sz:=4) (e:=TRu.e) (l:=a.2.2.2.2.2.2.2.1) (x:=P))]<|
 let M:=(i64.wrap ((f.length:Int)-1))
 let O:=(0+M.toNat)
.call (@F_q2z_ok a.2.1 a.2.2.1 a.2.2.2.1 a.2.2.2.2.1 a.2.2.2.2.2.1 ((f.getD O dF).T) D E F f G) fun m ad=>
.calld [(!m)=false] dF (@F_q2z_ok a.2.1 a.2.2.1 a.2.2.2.1 a.2.2.2.2.1 a.2.2.2.2.2.1 ((f.getD O dF).W) D E F f G) fun ay ae =>
.guard [(0:Int)<=M,M.toNat<f.length,O<f.length,AllP [(!m)=false]->((0:Int)<=M),AllP [(!m)=false]->(M.toNat<f.length),AllP [(!m)=false]->(O<f.length)]<|
.reg 19 [] [(16,hc ad [2,3,4,7,8] true),(35,hc ae [2,3,4,7,8] true)] [.e f.length,.ev 0,.ev 1,.e f.length,.e f.length,.ev 2,.cl 8 ad [2,3,4,7,8] 10 true,.pf (p:=AllP [(!m)=false]->(f.length=f.length)) (fun _=>rfl),.ev 3,.ev 4,.pf (p:=AllP [(!m)=false]->(f.length=f.length)) (fun _=>rfl),.pf (p:=AllP [(!m)=false]->(f.length=f.length)) (fun _=>rfl),.ev 5,.clg 6 [(!m)=false] ae [2,3,4,7,8] 10 true]<|
.ite (cO (!m) (!ay)) (
.guard [M.toNat<=f.length]<|
.reg 20 [14] [] [.ev 2,.ev 0,.e f.length]<|
.r (.cont (S.2,a.2.1,a.2.2.1,a.2.2.2.1,a.2.2.2.2.1,a.2.2.2.2.2.1,(M.toNat-0),f,U))) (
.r (.cont (S.2,a.2.1,a.2.2.1,a.2.2.2.1,a.2.2.2.2.1,a.2.2.2.2.2.1,f.length,f,U)))) (
.call (@F_q11_ok a.2.2.2.1 t.2) fun af ag=>
.call (@F_q11_ok a.2.2.2.1 af.2) fun ah ai=>
.call (@F_qa_ok ([0,10,50,100]:List Int) ah.2) fun K aj=>
.guard [a.2.2.2.2.2.2.1+1<=a.2.2.2.2.2.2.2.1.length]<|
 let c:=([(⟨a.2.2.2.2.2.2.2.2,af.1,ah.1,K.1⟩:TRu)]:List TRu)
.reg 18 [11,17,20,23,26] [(11,hc ag [0] false),(17,hc ai [0] false),(19,hv V),(20,hc aj [0] false),(22,hv (AV.d (eL TRu.e c))),(23,{ h:=.imm,obs:=[(7,(eS 4 TRu.e (copyL a.2.2.2.2.2.2.2.1 a.2.2.2.2.2.2.1 1 (fun i=>(c.getD i dF)))))] })] [.cl 3 ag [0] 10 false,.cl 2 ai [0] 10 false,.pf (z5 (DV.i .i64) ([0,10,50,100]:List Int)),.pf (z5 (DV.i .i64) ([0,10,50,100]:List Int)),.pf (z5 (DV.i .i64) ([0,10,50,100]:List Int)),.cl 1 aj [0] 10 false,.pf (z5 TRu.e c),.e a.2.2.2.2.2.2.2.1.length,.ev 0,.pf (p:=∀ k,k<1->(TRu.d (c.getD k dF)).wd=4) (fun _ _=>rfl),.pf (z6q (sz:=4) (e:=TRu.e) (l:=a.2.2.2.2.2.2.2.1) (off:=a.2.2.2.2.2.2.1) (k:=1) (s:=(fun i=>(c.getD i dF))))]<|
 let n:=(a.2.2.2.2.2.2.1+1)
 let ak:=(AV.ref 2 D.length 0 D.length)
 let al:=(AV.ref 3 E.length 0 E.length)
 let am:=(AV.ref 4 F.length 0 F.length)
 let an:=(AV.ref 8 G.length 0 G.length)
 let ao:=[(0,(vp 0)),(1,(vp 1)),R]
.cst (A:=True) (.pf trivial) ao ao [(TTape.b K.2),(Ob.box (AV.agg [B,u,(AV.d J),ak,al,am,(AV.d I),(AV.d H),(AV.ref 7 a.2.2.2.2.2.2.2.1.length 0 n),an])),v,w,y,Ob.dead,Ob.dead,(eS 4 TRu.e (copyL a.2.2.2.2.2.2.2.1 a.2.2.2.2.2.2.1 1 (fun i=>(c.getD i dF)))),z,Ob.dead] [(TTape.b K.2),(Ob.box (AV.agg [B,u,(AV.d J),ak,al,am,(AV.d I),(AV.d H),(AV.ref 7 ((copyL a.2.2.2.2.2.2.2.1 a.2.2.2.2.2.2.1 1 (fun i=>(c.getD i dF))).length) 0 n),an])),v,w,y,Ob.dead,Ob.dead,(eS 4 TRu.e (copyL a.2.2.2.2.2.2.2.1 a.2.2.2.2.2.2.1 1 (fun i=>(c.getD i dF)))),z,Ob.dead] (fun _=>⟨Zd,by simp +zetaDelta only[zq]⟩)<|
 let N:=(i64.wrap ((n:Int)-1))
 let C:=(0+N.toNat)
 let ap:=(AV.ref 0 D.length 0 D.length)
 let aq:=(AV.ref 1 E.length 0 E.length)
 let ar:=(AV.ref 2 F.length 0 F.length)
 let au:=(AV.ref 4 G.length 0 G.length)
.call (lendOk (xs:=[(AV.agg [B,u,(AV.d J),ap,aq,ar,(AV.d I),(AV.d H),(AV.ref 3 ((copyL a.2.2.2.2.2.2.2.1 a.2.2.2.2.2.2.1 1 (fun i=>(c.getD i dF))).length) 0 n),au]),(AV.d (DV.str (((copyL a.2.2.2.2.2.2.2.1 a.2.2.2.2.2.2.1 1 (fun i=>(c.getD i dF))).getD C dF).T)))]) (L:=[v,w,y,(eS 4 TRu.e (copyL a.2.2.2.2.2.2.2.1 a.2.2.2.2.2.2.1 1 (fun i=>(c.getD i dF)))),z]) (g:=D.length<2 ^ 63/\E.length<2 ^ 63/\F.length<2 ^ 63/\((copyL a.2.2.2.2.2.2.2.1 a.2.2.2.2.2.2.1 1 (fun i=>(c.getD i dF))).length<2 ^ 63/\n<=(copyL a.2.2.2.2.2.2.2.1 a.2.2.2.2.2.2.1 1 (fun i=>(c.getD i dF))).length)/\G.length<2 ^ 63) (@F_q2v_ok (⟨a.2.1,a.2.2.1,a.2.2.2.1,D,E,F,a.2.2.2.2.1,a.2.2.2.2.2.1,((copyL a.2.2.2.2.2.2.2.1 a.2.2.2.2.2.2.1 1 (fun i=>(c.getD i dF))).take n),G⟩:TLa) (((copyL a.2.2.2.2.2.2.2.1 a.2.2.2.2.2.2.1 1 (fun i=>(c.getD i dF))).getD C dF).T)) (fun _=>rfl) (fun hg=>(LendVs.cons (LendS.agg (ys:=[(DV.i .i64 a.2.1),(DV.i .i64 a.2.2.1),J,(eL TLi.e D),(eL TBo.e E),(eL TBo.e F),I,H,(eL TRu.e ((copyL a.2.2.2.2.2.2.2.1 a.2.2.2.2.2.2.1 1 (fun i=>(c.getD i dF))).take n)),(eL TAm.e G)]) (LendL.cons LendV.d (LendL.cons LendV.d (LendL.cons LendV.d (LendL.cons (LendV.ref (sz:=3) (g:=fun j=>TLi.e (D.getD j dF)) rfl hg.1) (LendL.cons (LendV.ref (sz:=3) (g:=fun j=>TBo.e (E.getD j dF)) rfl hg.2.1) (LendL.cons (LendV.ref (sz:=3) (g:=fun j=>TBo.e (F.getD j dF)) rfl hg.2.2.1) (LendL.cons LendV.d (LendL.cons LendV.d (LendL.cons (LendV.refT (sz:=4) (e:=TRu.e) (l:=(copyL a.2.2.2.2.2.2.2.1 a.2.2.2.2.2.2.1 1 (fun i=>(c.getD i dF)))) rfl hg.2.2.2.1) (LendL.cons (LendV.ref (sz:=3) (g:=fun j=>TAm.e (G.getD j dF)) rfl hg.2.2.2.2) LendL.nil))))))))))) (LendVs.cons LendS.d LendVs.nil))) (fun _=>FlatV.b)) fun q av=>
.calld [(!q)=false] dF (lendOk (xs:=[(AV.agg [B,u,(AV.d J),ap,aq,ar,(AV.d I),(AV.d H),(AV.ref 3 ((copyL a.2.2.2.2.2.2.2.1 a.2.2.2.2.2.2.1 1 (fun i=>(c.getD i dF))).length) 0 n),au]),(AV.d (DV.str (((copyL a.2.2.2.2.2.2.2.1 a.2.2.2.2.2.2.1 1 (fun i=>(c.getD i dF))).getD C dF).W)))]) (L:=[v,w,y,(eS 4 TRu.e (copyL a.2.2.2.2.2.2.2.1 a.2.2.2.2.2.2.1 1 (fun i=>(c.getD i dF)))),z]) (g:=D.length<2 ^ 63/\E.length<2 ^ 63/\F.length<2 ^ 63/\((copyL a.2.2.2.2.2.2.2.1 a.2.2.2.2.2.2.1 1 (fun i=>(c.getD i dF))).length<2 ^ 63/\n<=(copyL a.2.2.2.2.2.2.2.1 a.2.2.2.2.2.2.1 1 (fun i=>(c.getD i dF))).length)/\G.length<2 ^ 63) (@F_q2v_ok (⟨a.2.1,a.2.2.1,a.2.2.2.1,D,E,F,a.2.2.2.2.1,a.2.2.2.2.2.1,((copyL a.2.2.2.2.2.2.2.1 a.2.2.2.2.2.2.1 1 (fun i=>(c.getD i dF))).take n),G⟩:TLa) (((copyL a.2.2.2.2.2.2.2.1 a.2.2.2.2.2.2.1 1 (fun i=>(c.getD i dF))).getD C dF).W)) (fun _=>rfl) (fun hg=>(LendVs.cons (LendS.agg (ys:=[(DV.i .i64 a.2.1),(DV.i .i64 a.2.2.1),J,(eL TLi.e D),(eL TBo.e E),(eL TBo.e F),I,H,(eL TRu.e ((copyL a.2.2.2.2.2.2.2.1 a.2.2.2.2.2.2.1 1 (fun i=>(c.getD i dF))).take n)),(eL TAm.e G)]) (LendL.cons LendV.d (LendL.cons LendV.d (LendL.cons LendV.d (LendL.cons (LendV.ref (sz:=3) (g:=fun j=>TLi.e (D.getD j dF)) rfl hg.1) (LendL.cons (LendV.ref (sz:=3) (g:=fun j=>TBo.e (E.getD j dF)) rfl hg.2.1) (LendL.cons (LendV.ref (sz:=3) (g:=fun j=>TBo.e (F.getD j dF)) rfl hg.2.2.1) (LendL.cons LendV.d (LendL.cons LendV.d (LendL.cons (LendV.refT (sz:=4) (e:=TRu.e) (l:=(copyL a.2.2.2.2.2.2.2.1 a.2.2.2.2.2.2.1 1 (fun i=>(c.getD i dF)))) rfl hg.2.2.2.1) (LendL.cons (LendV.ref (sz:=3) (g:=fun j=>TAm.e (G.getD j dF)) rfl hg.2.2.2.2) LendL.nil))))))))))) (LendVs.cons LendS.d LendVs.nil))) (fun _=>FlatV.b)) fun az aw =>
.guard [(0:Int)<=N,N.toNat<n,C<(copyL a.2.2.2.2.2.2.2.1 a.2.2.2.2.2.2.1 1 (fun i=>(c.getD i dF))).length,AllP [(!q)=false]->((0:Int)<=N),AllP [(!q)=false]->(N.toNat<n),AllP [(!q)=false]->(C<(copyL a.2.2.2.2.2.2.2.1 a.2.2.2.2.2.2.1 1 (fun i=>(c.getD i dF))).length)]<|
.reg 19 [] [(16,hc av [2,3,4,7,8] true),(35,hc aw [2,3,4,7,8] true)] [.pf (y1x ((copyL a.2.2.2.2.2.2.2.1 a.2.2.2.2.2.2.1 1 (fun i=>(c.getD i dF))).length)),.ev 0,.ev 1,.pf (y1x ((copyL a.2.2.2.2.2.2.2.1 a.2.2.2.2.2.2.1 1 (fun i=>(c.getD i dF))).length)),.pf (y1x ((copyL a.2.2.2.2.2.2.2.1 a.2.2.2.2.2.2.1 1 (fun i=>(c.getD i dF))).length)),.ev 2,.cl 8 av [2,3,4,7,8] 10 true,.pf (p:=AllP [(!q)=false]->((copyL a.2.2.2.2.2.2.2.1 a.2.2.2.2.2.2.1 1 (fun i=>(c.getD i dF))).length=(copyL a.2.2.2.2.2.2.2.1 a.2.2.2.2.2.2.1 1 (fun i=>(c.getD i dF))).length)) (fun _=>rfl),.ev 3,.ev 4,.pf (p:=AllP [(!q)=false]->((copyL a.2.2.2.2.2.2.2.1 a.2.2.2.2.2.2.1 1 (fun i=>(c.getD i dF))).length=(copyL a.2.2.2.2.2.2.2.1 a.2.2.2.2.2.2.1 1 (fun i=>(c.getD i dF))).length)) (fun _=>rfl),.pf (p:=AllP [(!q)=false]->((copyL a.2.2.2.2.2.2.2.1 a.2.2.2.2.2.2.1 1 (fun i=>(c.getD i dF))).length=(copyL a.2.2.2.2.2.2.2.1 a.2.2.2.2.2.2.1 1 (fun i=>(c.getD i dF))).length)) (fun _=>rfl),.ev 5,.clg 6 [(!q)=false] aw [2,3,4,7,8] 10 true]<|
.ite (cO (!q) (!az)) (
.guard [N.toNat<=(copyL a.2.2.2.2.2.2.2.1 a.2.2.2.2.2.2.1 1 (fun i=>(c.getD i dF))).length]<|
.reg 20 [14] [] [.ev 2,.ev 0,.pf (y1x ((copyL a.2.2.2.2.2.2.2.1 a.2.2.2.2.2.2.1 1 (fun i=>(c.getD i dF))).length))]<|
.r (.cont (K.2,a.2.1,a.2.2.1,a.2.2.2.1,a.2.2.2.2.1,a.2.2.2.2.2.1,(N.toNat-0),(copyL a.2.2.2.2.2.2.2.1 a.2.2.2.2.2.2.1 1 (fun i=>(c.getD i dF))),U))) (
.r (.cont (K.2,a.2.1,a.2.2.1,a.2.2.2.1,a.2.2.2.2.1,a.2.2.2.2.2.1,n,(copyL a.2.2.2.2.2.2.2.1 a.2.2.2.2.2.2.1 1 (fun i=>(c.getD i dF))),U))))) (
.r (.brk (t.2,a.2.1,a.2.2.1,a.2.2.2.1,a.2.2.2.2.1,a.2.2.2.2.2.1,a.2.2.2.2.2.2.1,a.2.2.2.2.2.2.2.1,a.2.2.2.2.2.2.2.2)))
def S_q1_b4 (L:(List TLi)) (M:(List TBo)) (N:(List TBo)) (O:(List TRu)) (P:(List TAm)) (a:TTape×Int×Int×(List THe)×(List TEa)×(List TCo)×Int):SC R_q1 (Step (TTape×Int×Int×(List THe)×(List TEa)×(List TCo)×Int) R_q1) :=
 let D:=(decide (a.2.2.2.2.2.2>0))
.ite D (
 let E:=(AV.agg [(vi a.2.1),(vi a.2.2.1),(AV.d (eL THe.e a.2.2.2.1)),(AV.ref 2 L.length 0 L.length),(AV.ref 3 M.length 0 M.length),(AV.ref 4 N.length 0 N.length),(AV.d (eL TEa.e a.2.2.2.2.1)),(AV.ref 6 a.2.2.2.2.2.1.length 0 a.2.2.2.2.2.1.length),(AV.ref 7 O.length 0 O.length),(AV.ref 8 P.length 0 P.length)])
 let F:=[(0,(vp 0)),(1,(vp 1)),(6,(vi a.2.2.2.2.2.2)),(85,(vb D))]
 let G:=(eS 7 TCo.e a.2.2.2.2.2.1)
.sh (H:=NoH) (A:=True) (.pf trivial) F F [(TTape.b a.1),(Ob.box E),(eS 3 TLi.e L),(eS 3 TBo.e M),(eS 3 TBo.e N),Ob.dead,G,(eS 4 TRu.e O),(eS 3 TAm.e P)] [(TTape.b a.1),(Ob.box E),(eS 3 TLi.e L),(eS 3 TBo.e M),(eS 3 TBo.e N),Ob.dead,G,(eS 4 TRu.e O),(eS 3 TAm.e P),Ob.unb] (fun _=>z2n) (z29 _)<|
.call (@F_q10_ok a.2.2.2.1 a.1) fun g j=>
.call (@F_q0_ok a.2.2.1 g.2) fun y m=>
.call (@F_q1d_ok y.2) fun z n=>
 let v:=([50,200,z.1]:List Int)
.call (@F_qa_ok v z.2) fun q s=>
.call (@F_q0_ok 360 q.2) fun B t=>
.reg 11 [5,15,19,21,28,31,32] [(5,hc j [0] false),(15,hc m [0] false),(19,hc n [0] false),(20,hv (vl v)),(21,hc s [0] false),(28,hc t [0] false),(31,{ h:=.born 9 false })] [.cl 4 j [0] 10 false,.cl 4 j [0] 10 false,.cl 3 m [0] 10 false,.cl 3 m [0] 10 false,.cl 2 n [0] 10 false,.cl 2 n [0] 10 false,.pf (z5 (DV.i .i64) v),.pf (z5 (DV.i .i64) v),.cl 1 s [0] 10 false,.cl 1 s [0] 10 false,.cl 0 t [0] 10 false,.cl 0 t [0] 10 false]<|
.call (@F_q0_ok 2 B.2) fun u I=>
.k 12 1 I [0] 10 false<|
.cut none [0,1,6,7] (fun (_:TTape×TCo)=>[]) (fun c=>[(0,(TTape.b c.1)),(9,(TCo.b c.2))]) (
 let J:=(i64.wrap (a.2.1+y.1))
.ite (u.1==0) (
.call (@F_q0_ok 2000 u.2) fun C K=>
.k 13 1 K [0] 10 false<|
.r (.next (C.2,(⟨g.1,J,q.1,2,0,[57],C.1⟩:TCo)))) (
.r (.next (u.2,(⟨g.1,J,q.1,1,(i64.wrap ((i64.wrap (360 * a.2.1))+B.1)),[],0⟩:TCo))))) fun c=>
.guard [(a.2.2.2.2.2.1.length+1) * (2 * 72)<=2 ^ 48]<|
 let f:=([c.2]:List TCo)
 let w:=(a.2.2.2.2.2.1++f)
.reg 14 [7,10] [(6,hv (AV.d (eL TCo.e f))),(7,{ cast:=some (AV.ref 6 w.length 0 w.length),obs:=[(6,(eS 7 TCo.e w))] })] [.pf (z5 TCo.e f),.e a.2.2.2.2.2.1.length,.e a.2.2.2.2.2.1.length,.pf (p:=∀ k,k<1->(TCo.d (f.getD k dF)).wd=7) (fun _ _=>rfl),.ev 0,.pf (zf (o:=6) (l:=a.2.2.2.2.2.1) (x:=f)),.pf (ze (sz:=7) (e:=TCo.e) (l:=a.2.2.2.2.2.1) (x:=f))]<|
.r (.cont (c.1,a.2.1,a.2.2.1,a.2.2.2.1,a.2.2.2.2.1,w,(i64.wrap (a.2.2.2.2.2.2-1))))) (
.r (.brk (a.1,a.2.1,a.2.2.1,a.2.2.2.1,a.2.2.2.2.1,a.2.2.2.2.2.1,a.2.2.2.2.2.2)))
def S_q1_b5 (D:(List TLi)) (E:(List TBo)) (F:(List TBo)) (G:(List TAm)) (a:TTape×Int×Int×(List THe)×(List TEa)×(List TCo)×Nat×(List TRu)×Int):SC R_q1 (Step (TTape×Int×Int×(List THe)×(List TEa)×(List TCo)×Nat×(List TRu)×Int) R_q1) :=
.call (@F_q0_ok 4 a.1) fun t ax=>
.k 16 2 ax [0] 9 false<|
 let Q:=(decide (a.2.2.2.2.2.2.2.2<=t.1))
.ite Q (
 let H:=(eL TCo.e a.2.2.2.2.2.1)
 let I:=(eL TEa.e a.2.2.2.2.1)
 let J:=(eL THe.e a.2.2.2.1)
 let U:=(i64.wrap (a.2.2.2.2.2.2.2.2+1))
 let R:=(8,(vi a.2.2.2.2.2.2.2.2))
 let u:=(vi a.2.2.1)
 let v:=(eS 3 TLi.e D)
 let w:=(eS 3 TBo.e E)
 let y:=(eS 3 TBo.e F)
 let z:=(eS 3 TAm.e G)
 let B:=(vi a.2.1)
 let V:=(vl ([0,10,50,100]:List Int))
.split (decide (a.2.2.2.2.2.2.1=a.2.2.2.2.2.2.2.1.length)) (
 let X:=(eS 4 TRu.e a.2.2.2.2.2.2.2.1)
.cst (A:=a.2.2.2.2.2.2.1=a.2.2.2.2.2.2.2.1.length) (.der (fun (h:decide (a.2.2.2.2.2.2.1=a.2.2.2.2.2.2.2.1.length)=true)=>y2t h) 0) [(0,(vp 0)),(1,(vp 1)),R,(141,(vb Q))] [(0,(vp 0)),(1,(vp 1)),R,(141,(vb Q))] [(TTape.b t.2),(Ob.box (AV.agg [B,u,(AV.d J),(AV.ref 2 D.length 0 D.length),(AV.ref 3 E.length 0 E.length),(AV.ref 4 F.length 0 F.length),(AV.d I),(AV.d H),(AV.ref 7 a.2.2.2.2.2.2.2.1.length 0 a.2.2.2.2.2.2.1),(AV.ref 8 G.length 0 G.length)])),v,w,y,Ob.dead,Ob.dead,X,z] [(TTape.b t.2),(Ob.box (AV.agg [B,u,(AV.d J),(AV.ref 2 D.length 0 D.length),(AV.ref 3 E.length 0 E.length),(AV.ref 4 F.length 0 F.length),(AV.d I),(AV.d H),(AV.ref 7 a.2.2.2.2.2.2.2.1.length 0 a.2.2.2.2.2.2.2.1.length),(AV.ref 8 G.length 0 G.length)])),v,w,y,Ob.dead,Ob.dead,X,z] (fun h=>⟨by first | rfl | rw[h],by first | rfl | rw[h]⟩)<|
.call (@F_q11_ok a.2.2.2.1 t.2) fun Y Z=>
.call (@F_q11_ok a.2.2.2.1 Y.2) fun aa ab=>
.call (@F_qa_ok ([0,10,50,100]:List Int) aa.2) fun S ac=>
.guard [(a.2.2.2.2.2.2.2.1.length+1) * (2 * 48)<=2 ^ 48]<|
 let P:=([(⟨a.2.2.2.2.2.2.2.2,Y.1,aa.1,S.1⟩:TRu)]:List TRu)
 let f:=(a.2.2.2.2.2.2.2.1++P)
.reg 18 [11,17,20,23,26] [(11,hc Z [0] false),(17,hc ab [0] false),(19,hv V),(20,hc ac [0] false),(22,hv (AV.d (eL TRu.e P))),(23,{ cast:=some (AV.ref 7 f.length 0 f.length),obs:=[(7,(eS 4 TRu.e f))] })] [.cl 3 Z [0] 9 false,.cl 2 ab [0] 9 false,.pf (z5 (DV.i .i64) ([0,10,50,100]:List Int)),.pf (z5 (DV.i .i64) ([0,10,50,100]:List Int)),.pf (z5 (DV.i .i64) ([0,10,50,100]:List Int)),.cl 1 ac [0] 9 false,.pf (z5 TRu.e P),.e a.2.2.2.2.2.2.2.1.length,.e a.2.2.2.2.2.2.2.1.length,.pf (p:=∀ k,k<1->(TRu.d (P.getD k dF)).wd=4) (fun _ _=>rfl),.ev 0,.pf (zf (o:=7) (l:=a.2.2.2.2.2.2.2.1) (x:=P)),.pf (ze (sz:=4) (e:=TRu.e) (l:=a.2.2.2.2.2.2.2.1) (x:=P))]<|
 let M:=(i64.wrap ((f.length:Int)-1))
 let O:=(0+M.toNat)
.call (@F_q2z_ok a.2.1 a.2.2.1 a.2.2.2.1 a.2.2.2.2.1 a.2.2.2.2.2.1 ((f.getD O dF).T) D E F f G) fun m ad=>
.calld [(!m)=false] dF (@F_q2z_ok a.2.1 a.2.2.1 a.2.2.2.1 a.2.2.2.2.1 a.2.2.2.2.2.1 ((f.getD O dF).W) D E F f G) fun ay ae =>
.guard [(0:Int)<=M,M.toNat<f.length,O<f.length,AllP [(!m)=false]->((0:Int)<=M),AllP [(!m)=false]->(M.toNat<f.length),AllP [(!m)=false]->(O<f.length)]<|
.reg 19 [] [(16,hc ad [2,3,4,7,8] true),(35,hc ae [2,3,4,7,8] true)] [.e f.length,.ev 0,.ev 1,.e f.length,.e f.length,.ev 2,.cl 8 ad [2,3,4,7,8] 9 true,.pf (p:=AllP [(!m)=false]->(f.length=f.length)) (fun _=>rfl),.ev 3,.ev 4,.pf (p:=AllP [(!m)=false]->(f.length=f.length)) (fun _=>rfl),.pf (p:=AllP [(!m)=false]->(f.length=f.length)) (fun _=>rfl),.ev 5,.clg 6 [(!m)=false] ae [2,3,4,7,8] 9 true]<|
.ite (cO (!m) (!ay)) (
.guard [M.toNat<=f.length]<|
.reg 20 [14] [] [.ev 2,.ev 0,.e f.length]<|
.r (.cont (S.2,a.2.1,a.2.2.1,a.2.2.2.1,a.2.2.2.2.1,a.2.2.2.2.2.1,(M.toNat-0),f,U))) (
.r (.cont (S.2,a.2.1,a.2.2.1,a.2.2.2.1,a.2.2.2.2.1,a.2.2.2.2.2.1,f.length,f,U)))) (
.call (@F_q11_ok a.2.2.2.1 t.2) fun af ag=>
.call (@F_q11_ok a.2.2.2.1 af.2) fun ah ai=>
.call (@F_qa_ok ([0,10,50,100]:List Int) ah.2) fun K aj=>
.guard [a.2.2.2.2.2.2.1+1<=a.2.2.2.2.2.2.2.1.length]<|
 let c:=([(⟨a.2.2.2.2.2.2.2.2,af.1,ah.1,K.1⟩:TRu)]:List TRu)
.reg 18 [11,17,20,23,26] [(11,hc ag [0] false),(17,hc ai [0] false),(19,hv V),(20,hc aj [0] false),(22,hv (AV.d (eL TRu.e c))),(23,{ h:=.imm,obs:=[(7,(eS 4 TRu.e (copyL a.2.2.2.2.2.2.2.1 a.2.2.2.2.2.2.1 1 (fun i=>(c.getD i dF)))))] })] [.cl 3 ag [0] 9 false,.cl 2 ai [0] 9 false,.pf (z5 (DV.i .i64) ([0,10,50,100]:List Int)),.pf (z5 (DV.i .i64) ([0,10,50,100]:List Int)),.pf (z5 (DV.i .i64) ([0,10,50,100]:List Int)),.cl 1 aj [0] 9 false,.pf (z5 TRu.e c),.e a.2.2.2.2.2.2.2.1.length,.ev 0,.pf (p:=∀ k,k<1->(TRu.d (c.getD k dF)).wd=4) (fun _ _=>rfl),.pf (z6q (sz:=4) (e:=TRu.e) (l:=a.2.2.2.2.2.2.2.1) (off:=a.2.2.2.2.2.2.1) (k:=1) (s:=(fun i=>(c.getD i dF))))]<|
 let n:=(a.2.2.2.2.2.2.1+1)
 let ak:=(AV.ref 2 D.length 0 D.length)
 let al:=(AV.ref 3 E.length 0 E.length)
 let am:=(AV.ref 4 F.length 0 F.length)
 let an:=(AV.ref 8 G.length 0 G.length)
 let ao:=[(0,(vp 0)),(1,(vp 1)),R]
.cst (A:=True) (.pf trivial) ao ao [(TTape.b K.2),(Ob.box (AV.agg [B,u,(AV.d J),ak,al,am,(AV.d I),(AV.d H),(AV.ref 7 a.2.2.2.2.2.2.2.1.length 0 n),an])),v,w,y,Ob.dead,Ob.dead,(eS 4 TRu.e (copyL a.2.2.2.2.2.2.2.1 a.2.2.2.2.2.2.1 1 (fun i=>(c.getD i dF)))),z] [(TTape.b K.2),(Ob.box (AV.agg [B,u,(AV.d J),ak,al,am,(AV.d I),(AV.d H),(AV.ref 7 ((copyL a.2.2.2.2.2.2.2.1 a.2.2.2.2.2.2.1 1 (fun i=>(c.getD i dF))).length) 0 n),an])),v,w,y,Ob.dead,Ob.dead,(eS 4 TRu.e (copyL a.2.2.2.2.2.2.2.1 a.2.2.2.2.2.2.1 1 (fun i=>(c.getD i dF)))),z] (fun _=>⟨Zd,by simp +zetaDelta only[zq]⟩)<|
 let N:=(i64.wrap ((n:Int)-1))
 let C:=(0+N.toNat)
 let ap:=(AV.ref 0 D.length 0 D.length)
 let aq:=(AV.ref 1 E.length 0 E.length)
 let ar:=(AV.ref 2 F.length 0 F.length)
 let au:=(AV.ref 4 G.length 0 G.length)
.call (lendOk (xs:=[(AV.agg [B,u,(AV.d J),ap,aq,ar,(AV.d I),(AV.d H),(AV.ref 3 ((copyL a.2.2.2.2.2.2.2.1 a.2.2.2.2.2.2.1 1 (fun i=>(c.getD i dF))).length) 0 n),au]),(AV.d (DV.str (((copyL a.2.2.2.2.2.2.2.1 a.2.2.2.2.2.2.1 1 (fun i=>(c.getD i dF))).getD C dF).T)))]) (L:=[v,w,y,(eS 4 TRu.e (copyL a.2.2.2.2.2.2.2.1 a.2.2.2.2.2.2.1 1 (fun i=>(c.getD i dF)))),z]) (g:=D.length<2 ^ 63/\E.length<2 ^ 63/\F.length<2 ^ 63/\((copyL a.2.2.2.2.2.2.2.1 a.2.2.2.2.2.2.1 1 (fun i=>(c.getD i dF))).length<2 ^ 63/\n<=(copyL a.2.2.2.2.2.2.2.1 a.2.2.2.2.2.2.1 1 (fun i=>(c.getD i dF))).length)/\G.length<2 ^ 63) (@F_q2v_ok (⟨a.2.1,a.2.2.1,a.2.2.2.1,D,E,F,a.2.2.2.2.1,a.2.2.2.2.2.1,((copyL a.2.2.2.2.2.2.2.1 a.2.2.2.2.2.2.1 1 (fun i=>(c.getD i dF))).take n),G⟩:TLa) (((copyL a.2.2.2.2.2.2.2.1 a.2.2.2.2.2.2.1 1 (fun i=>(c.getD i dF))).getD C dF).T)) (fun _=>rfl) (fun hg=>(LendVs.cons (LendS.agg (ys:=[(DV.i .i64 a.2.1),(DV.i .i64 a.2.2.1),J,(eL TLi.e D),(eL TBo.e E),(eL TBo.e F),I,H,(eL TRu.e ((copyL a.2.2.2.2.2.2.2.1 a.2.2.2.2.2.2.1 1 (fun i=>(c.getD i dF))).take n)),(eL TAm.e G)]) (LendL.cons LendV.d (LendL.cons LendV.d (LendL.cons LendV.d (LendL.cons (LendV.ref (sz:=3) (g:=fun j=>TLi.e (D.getD j dF)) rfl hg.1) (LendL.cons (LendV.ref (sz:=3) (g:=fun j=>TBo.e (E.getD j dF)) rfl hg.2.1) (LendL.cons (LendV.ref (sz:=3) (g:=fun j=>TBo.e (F.getD j dF)) rfl hg.2.2.1) (LendL.cons LendV.d (LendL.cons LendV.d (LendL.cons (LendV.refT (sz:=4) (e:=TRu.e) (l:=(copyL a.2.2.2.2.2.2.2.1 a.2.2.2.2.2.2.1 1 (fun i=>(c.getD i dF)))) rfl hg.2.2.2.1) (LendL.cons (LendV.ref (sz:=3) (g:=fun j=>TAm.e (G.getD j dF)) rfl hg.2.2.2.2) LendL.nil))))))))))) (LendVs.cons LendS.d LendVs.nil))) (fun _=>FlatV.b)) fun q av=>
.calld [(!q)=false] dF (lendOk (xs:=[(AV.agg [B,u,(AV.d J),ap,aq,ar,(AV.d I),(AV.d H),(AV.ref 3 ((copyL a.2.2.2.2.2.2.2.1 a.2.2.2.2.2.2.1 1 (fun i=>(c.getD i dF))).length) 0 n),au]),(AV.d (DV.str (((copyL a.2.2.2.2.2.2.2.1 a.2.2.2.2.2.2.1 1 (fun i=>(c.getD i dF))).getD C dF).W)))]) (L:=[v,w,y,(eS 4 TRu.e (copyL a.2.2.2.2.2.2.2.1 a.2.2.2.2.2.2.1 1 (fun i=>(c.getD i dF)))),z]) (g:=D.length<2 ^ 63/\E.length<2 ^ 63/\F.length<2 ^ 63/\((copyL a.2.2.2.2.2.2.2.1 a.2.2.2.2.2.2.1 1 (fun i=>(c.getD i dF))).length<2 ^ 63/\n<=(copyL a.2.2.2.2.2.2.2.1 a.2.2.2.2.2.2.1 1 (fun i=>(c.getD i dF))).length)/\G.length<2 ^ 63) (@F_q2v_ok (⟨a.2.1,a.2.2.1,a.2.2.2.1,D,E,F,a.2.2.2.2.1,a.2.2.2.2.2.1,((copyL a.2.2.2.2.2.2.2.1 a.2.2.2.2.2.2.1 1 (fun i=>(c.getD i dF))).take n),G⟩:TLa) (((copyL a.2.2.2.2.2.2.2.1 a.2.2.2.2.2.2.1 1 (fun i=>(c.getD i dF))).getD C dF).W)) (fun _=>rfl) (fun hg=>(LendVs.cons (LendS.agg (ys:=[(DV.i .i64 a.2.1),(DV.i .i64 a.2.2.1),J,(eL TLi.e D),(eL TBo.e E),(eL TBo.e F),I,H,(eL TRu.e ((copyL a.2.2.2.2.2.2.2.1 a.2.2.2.2.2.2.1 1 (fun i=>(c.getD i dF))).take n)),(eL TAm.e G)]) (LendL.cons LendV.d (LendL.cons LendV.d (LendL.cons LendV.d (LendL.cons (LendV.ref (sz:=3) (g:=fun j=>TLi.e (D.getD j dF)) rfl hg.1) (LendL.cons (LendV.ref (sz:=3) (g:=fun j=>TBo.e (E.getD j dF)) rfl hg.2.1) (LendL.cons (LendV.ref (sz:=3) (g:=fun j=>TBo.e (F.getD j dF)) rfl hg.2.2.1) (LendL.cons LendV.d (LendL.cons LendV.d (LendL.cons (LendV.refT (sz:=4) (e:=TRu.e) (l:=(copyL a.2.2.2.2.2.2.2.1 a.2.2.2.2.2.2.1 1 (fun i=>(c.getD i dF)))) rfl hg.2.2.2.1) (LendL.cons (LendV.ref (sz:=3) (g:=fun j=>TAm.e (G.getD j dF)) rfl hg.2.2.2.2) LendL.nil))))))))))) (LendVs.cons LendS.d LendVs.nil))) (fun _=>FlatV.b)) fun az aw =>
.guard [(0:Int)<=N,N.toNat<n,C<(copyL a.2.2.2.2.2.2.2.1 a.2.2.2.2.2.2.1 1 (fun i=>(c.getD i dF))).length,AllP [(!q)=false]->((0:Int)<=N),AllP [(!q)=false]->(N.toNat<n),AllP [(!q)=false]->(C<(copyL a.2.2.2.2.2.2.2.1 a.2.2.2.2.2.2.1 1 (fun i=>(c.getD i dF))).length)]<|
.reg 19 [] [(16,hc av [2,3,4,7,8] true),(35,hc aw [2,3,4,7,8] true)] [.pf (y1x ((copyL a.2.2.2.2.2.2.2.1 a.2.2.2.2.2.2.1 1 (fun i=>(c.getD i dF))).length)),.ev 0,.ev 1,.pf (y1x ((copyL a.2.2.2.2.2.2.2.1 a.2.2.2.2.2.2.1 1 (fun i=>(c.getD i dF))).length)),.pf (y1x ((copyL a.2.2.2.2.2.2.2.1 a.2.2.2.2.2.2.1 1 (fun i=>(c.getD i dF))).length)),.ev 2,.cl 8 av [2,3,4,7,8] 9 true,.pf (p:=AllP [(!q)=false]->((copyL a.2.2.2.2.2.2.2.1 a.2.2.2.2.2.2.1 1 (fun i=>(c.getD i dF))).length=(copyL a.2.2.2.2.2.2.2.1 a.2.2.2.2.2.2.1 1 (fun i=>(c.getD i dF))).length)) (fun _=>rfl),.ev 3,.ev 4,.pf (p:=AllP [(!q)=false]->((copyL a.2.2.2.2.2.2.2.1 a.2.2.2.2.2.2.1 1 (fun i=>(c.getD i dF))).length=(copyL a.2.2.2.2.2.2.2.1 a.2.2.2.2.2.2.1 1 (fun i=>(c.getD i dF))).length)) (fun _=>rfl),.pf (p:=AllP [(!q)=false]->((copyL a.2.2.2.2.2.2.2.1 a.2.2.2.2.2.2.1 1 (fun i=>(c.getD i dF))).length=(copyL a.2.2.2.2.2.2.2.1 a.2.2.2.2.2.2.1 1 (fun i=>(c.getD i dF))).length)) (fun _=>rfl),.ev 5,.clg 6 [(!q)=false] aw [2,3,4,7,8] 9 true]<|
.ite (cO (!q) (!az)) (
.guard [N.toNat<=(copyL a.2.2.2.2.2.2.2.1 a.2.2.2.2.2.2.1 1 (fun i=>(c.getD i dF))).length]<|
.reg 20 [14] [] [.ev 2,.ev 0,.pf (y1x ((copyL a.2.2.2.2.2.2.2.1 a.2.2.2.2.2.2.1 1 (fun i=>(c.getD i dF))).length))]<|
.r (.cont (K.2,a.2.1,a.2.2.1,a.2.2.2.1,a.2.2.2.2.1,a.2.2.2.2.2.1,(N.toNat-0),(copyL a.2.2.2.2.2.2.2.1 a.2.2.2.2.2.2.1 1 (fun i=>(c.getD i dF))),U))) (
.r (.cont (K.2,a.2.1,a.2.2.1,a.2.2.2.1,a.2.2.2.2.1,a.2.2.2.2.2.1,n,(copyL a.2.2.2.2.2.2.2.1 a.2.2.2.2.2.2.1 1 (fun i=>(c.getD i dF))),U))))) (
.r (.brk (t.2,a.2.1,a.2.2.1,a.2.2.2.1,a.2.2.2.2.1,a.2.2.2.2.2.1,a.2.2.2.2.2.2.1,a.2.2.2.2.2.2.2.1,a.2.2.2.2.2.2.2.2)))
def S_q1 (p0:TTape) (p1_0:Int) (p1_1:Int) (p1_2:(List THe)) (p2:(List TLi)) (p3:(List TBo)) (p4:(List TBo)) (p5:(List TEa)) (p6:(List TCo)) (E:(List TRu)) (p8:(List TAm)):SC R_q1 R_q1 :=
.a 0 4 9 (@F_q3_ok p1_2 ([57])) fun ab=>
 let s:=(AV.ref 2 p2.length 0 p2.length)
 let t:=(AV.ref 3 p3.length 0 p3.length)
 let u:=(AV.ref 4 p4.length 0 p4.length)
 let v:=(AV.ref 8 p8.length 0 p8.length)
 let F:=(AV.ref 7 E.length 0 E.length)
 let G:=(AV.ref 6 p6.length 0 p6.length)
.range (ab.length:Int) ab.length rfl (.slot 13) 15 [0,1,13,14] (fun (_:TTape×Int×Int×(List THe)×(List TEa))=>[]) (fun i=>[(0,(TTape.b i.1)),(1,(Ob.box (AV.agg [(vi i.2.1),(vi i.2.2.1),(AV.d (eL THe.e i.2.2.2.1)),s,t,u,(AV.ref 5 i.2.2.2.2.length 0 i.2.2.2.2.length),G,F,v]))),(5,(eS 3 TEa.e i.2.2.2.2))]) (p0,p1_0,p1_1,p1_2,p5) (S_q1_b1 ab) (fun i => 
.guard [i.2.2.2.2.length<2 ^ 63]<|
.frz 5 (.ev 0) none [] [1]<|
 let ac:=(decide ((i.2.2.2.2.length:Int)>0))
 let D:=(bif ac then (!(((i.2.2.2.2.getD 0 dF).Q)==([57]))) else false)
.calld [D=true] (dF,i.1) (@F_q0_ok 2 i.1) fun B I =>
.guard [AllP [ac=true]->(0<i.2.2.2.2.length)]<|
 let ad:=(AV.agg [(vi i.2.1),(vi i.2.2.1),(AV.d (eL THe.e i.2.2.2.1)),s,t,u,(AV.d (eL TEa.e i.2.2.2.2)),G,F,v])
 let C:=(eS 3 TLi.e p2)
 let w:=(eS 3 TBo.e p3)
 let y:=(eS 3 TBo.e p4)
 let z:=(eS 3 TAm.e p8)
.reg 6 [] [(18,hc I [0] false)] [.pf (p:=AllP [ac=true]->((0:Int)<=0)) (fun _=>dk),.ev 0,.clg 1 [D=true] I [0] 9 false,.der (fun (h:¬ AllP [D=true]->(dF,i.1)=B) (hn:¬ AllP [D=true])=>(by obtain rfl:=h hn; rfl:[(TTape.b i.1),(Ob.box ad),C,w,y,Ob.dead,(eS 7 TCo.e p6),(eS 4 TRu.e E),z]=[(TTape.b B.2),(Ob.box ad),C,w,y,Ob.dead,(eS 7 TCo.e p6),(eS 4 TRu.e E),z])) 2]<|
.ite (bif D then (B.1==0) else false) (
.call (@F_q10_ok i.2.2.2.1 B.2) fun J K=>
.call (@F_q0_ok 51 J.2) fun L M=>
 let q:=([(⟨[57],J.1,L.1⟩:TEa)]:List TEa)
.guard [(q.length+i.2.2.2.2.length) * (2 * 40)<=2 ^ 48]<|
 let N:=((q++i.2.2.2.2).length)
.reg 7 [6,8,10,15,18] [(6,hc K [0] false),(8,hc M [0] false),(10,{ h:=.obj,obs:=[(9,(eS 3 TEa.e q))] }),(15,{ cast:=some (AV.ref 9 N 0 N),obs:=[(9,(eS 3 TEa.e (q++i.2.2.2.2)))] })] [.cl 2 K [0] 9 false,.cl 1 M [0] 9 false,.pf (z2h (sz:=3) (e:=TEa.e) (l:=q)),.e q.length,.e q.length,.pf (p:=∀ k,k<i.2.2.2.2.length->(TEa.d (i.2.2.2.2.getD k dF)).wd=3) (fun _ _=>rfl),.ev 0,.pf (zf (o:=9) (l:=q) (x:=i.2.2.2.2)),.pf (ze (sz:=3) (e:=TEa.e) (l:=q) (x:=i.2.2.2.2))]<|
.guard [(q++i.2.2.2.2).length<2 ^ 63]<|
.frz 9 (.ev 0) none [] [1]<|
.call (@F_q0_ok 4 L.2) fun O ae=>
.k 8 1 ae [0] 10 false<|
.iter [0,1] (fun (n:TTape×Int×Int×(List THe)×(List TEa)×(List TCo)×Int)=>[(6,(vi n.2.2.2.2.2.2))]) (fun n=>[(0,(TTape.b n.1)),(1,(Ob.box (AV.agg [(vi n.2.1),(vi n.2.2.1),(AV.d (eL THe.e n.2.2.2.1)),s,t,u,(AV.d (eL TEa.e n.2.2.2.2.1)),(AV.ref 6 n.2.2.2.2.2.1.length 0 n.2.2.2.2.2.1.length),F,v]))),(6,(eS 7 TCo.e n.2.2.2.2.2.1))]) (O.2,i.2.1,i.2.2.1,i.2.2.2.1,(q++i.2.2.2.2),p6,O.1) (S_q1_b2 p2 p3 p4 E p8) (fun n =>
.guard [n.2.2.2.2.2.1.length<2 ^ 63]<|
.frz 6 (.ev 0) none [] [1]<|
.iter [0,1] (fun (c:TTape×Int×Int×(List THe)×(List TEa)×(List TCo)×Nat×(List TRu)×Int)=>[(8,(vi c.2.2.2.2.2.2.2.2))]) (fun c=>[(0,(TTape.b c.1)),(1,(Ob.box (AV.agg [(vi c.2.1),(vi c.2.2.1),(AV.d (eL THe.e c.2.2.2.1)),s,t,u,(AV.d (eL TEa.e c.2.2.2.2.1)),(AV.d (eL TCo.e c.2.2.2.2.2.1)),(AV.ref 7 c.2.2.2.2.2.2.2.1.length 0 c.2.2.2.2.2.2.1),v]))),(7,(eS 4 TRu.e c.2.2.2.2.2.2.2.1))]) (n.1,n.2.1,n.2.2.1,n.2.2.2.1,n.2.2.2.2.1,n.2.2.2.2.2.1,E.length,E,1) (S_q1_b3 p2 p3 p4 p8) (fun c =>
.guard [c.2.2.2.2.2.2.2.1.length<2 ^ 63/\c.2.2.2.2.2.2.1<=c.2.2.2.2.2.2.2.1.length]<|
 let P:=[(0,(vp 0)),(1,(vp 1)),(8,(vi c.2.2.2.2.2.2.2.2))]
 let R:=(c.2.2.2.2.2.2.2.1.take c.2.2.2.2.2.2.1)
 let S:=(AV.d (eL TCo.e c.2.2.2.2.2.1))
 let T:=(AV.d (eL TEa.e c.2.2.2.2.1))
 let U:=(AV.d (eL THe.e c.2.2.2.1))
.sh (H:=FzH 7 c.2.2.2.2.2.2.2.1.length (fun j=>TRu.e (c.2.2.2.2.2.2.2.1.getD j dF))) (A:=c.2.2.2.2.2.2.2.1.length<2 ^ 63/\c.2.2.2.2.2.2.1<=c.2.2.2.2.2.2.2.1.length) (.ev 0) P P [(TTape.b c.1),(Ob.box (AV.agg [(vi c.2.1),(vi c.2.2.1),U,s,t,u,T,S,(AV.ref 7 c.2.2.2.2.2.2.2.1.length 0 c.2.2.2.2.2.2.1),v])),C,w,y,Ob.dead,Ob.dead,(eS 4 TRu.e c.2.2.2.2.2.2.2.1),z,Ob.dead] [(TTape.b c.1),(Ob.box (AV.agg [(vi c.2.1),(vi c.2.2.1),U,s,t,u,T,S,(AV.d (eL TRu.e R)),v])),C,w,y,Ob.dead,Ob.dead,Ob.dead,z,Ob.dead] (fun h=>z52 (o:=7) (g:=fun j=>TRu.e (c.2.2.2.2.2.2.2.1.getD j dF)) rfl h.1 (.keep _ _ _ _ (y8 rfl) (.box _ _ _ _ _ (y8 rfl) (TrV.agg (TrL.cons (TrV.keep _) (TrL.cons (TrV.keep _) (TrL.cons (TrV.keep _) (TrL.cons (TrV.keep _) (TrL.cons (TrV.keep _) (TrL.cons (TrV.keep _) (TrL.cons (TrV.keep _) (TrL.cons (TrV.keep _) (TrL.cons (TrV.refT h.2) (TrL.cons (TrV.keep _) TrL.nil))))))))))) (.keep _ _ _ _ (y8 rfl) (.keep _ _ _ _ (y8 rfl) (.keep _ _ _ _ (y8 rfl) (.keep _ _ _ _ (y8 rfl) (.keep _ _ _ _ (y8 rfl) (.here _ _ _ _ rfl (.keep _ _ _ _ (y8 rfl) (.keep _ _ _ _ (y8 rfl) (.nil _)))))))))))) (zj (k:=0) rfl (TrS.keep _) (zj (k:=1) rfl (TrS.keep _) (zj (k:=2) rfl (TrS.keep _) z1f)))<|
.r (c.1,c.2.1,c.2.2.1,c.2.2.2.1,c.2.2.2.2.1,c.2.2.2.2.2.1,R)) id) id) (
.call (@F_q0_ok 4 B.2) fun V af=>
.k 8 1 af [0] 9 false<|
.iter [0,1] (fun (m:TTape×Int×Int×(List THe)×(List TEa)×(List TCo)×Int)=>[(6,(vi m.2.2.2.2.2.2))]) (fun m=>[(0,(TTape.b m.1)),(1,(Ob.box (AV.agg [(vi m.2.1),(vi m.2.2.1),(AV.d (eL THe.e m.2.2.2.1)),s,t,u,(AV.d (eL TEa.e m.2.2.2.2.1)),(AV.ref 6 m.2.2.2.2.2.1.length 0 m.2.2.2.2.2.1.length),F,v]))),(6,(eS 7 TCo.e m.2.2.2.2.2.1))]) (V.2,i.2.1,i.2.2.1,i.2.2.2.1,i.2.2.2.2,p6,V.1) (S_q1_b4 p2 p3 p4 E p8) (fun m =>
.guard [m.2.2.2.2.2.1.length<2 ^ 63]<|
.frz 6 (.ev 0) none [] [1]<|
.iter [0,1] (fun (f:TTape×Int×Int×(List THe)×(List TEa)×(List TCo)×Nat×(List TRu)×Int)=>[(8,(vi f.2.2.2.2.2.2.2.2))]) (fun f=>[(0,(TTape.b f.1)),(1,(Ob.box (AV.agg [(vi f.2.1),(vi f.2.2.1),(AV.d (eL THe.e f.2.2.2.1)),s,t,u,(AV.d (eL TEa.e f.2.2.2.2.1)),(AV.d (eL TCo.e f.2.2.2.2.2.1)),(AV.ref 7 f.2.2.2.2.2.2.2.1.length 0 f.2.2.2.2.2.2.1),v]))),(7,(eS 4 TRu.e f.2.2.2.2.2.2.2.1))]) (m.1,m.2.1,m.2.2.1,m.2.2.2.1,m.2.2.2.2.1,m.2.2.2.2.2.1,E.length,E,1) (S_q1_b5 p2 p3 p4 p8) (fun f =>
.guard [f.2.2.2.2.2.2.2.1.length<2 ^ 63/\f.2.2.2.2.2.2.1<=f.2.2.2.2.2.2.2.1.length]<|
 let W:=[(0,(vp 0)),(1,(vp 1)),(8,(vi f.2.2.2.2.2.2.2.2))]
 let X:=(f.2.2.2.2.2.2.2.1.take f.2.2.2.2.2.2.1)
 let Y:=(AV.d (eL TCo.e f.2.2.2.2.2.1))
 let Z:=(AV.d (eL TEa.e f.2.2.2.2.1))
 let aa:=(AV.d (eL THe.e f.2.2.2.1))
.sh (H:=FzH 7 f.2.2.2.2.2.2.2.1.length (fun j=>TRu.e (f.2.2.2.2.2.2.2.1.getD j dF))) (A:=f.2.2.2.2.2.2.2.1.length<2 ^ 63/\f.2.2.2.2.2.2.1<=f.2.2.2.2.2.2.2.1.length) (.ev 0) W W [(TTape.b f.1),(Ob.box (AV.agg [(vi f.2.1),(vi f.2.2.1),aa,s,t,u,Z,Y,(AV.ref 7 f.2.2.2.2.2.2.2.1.length 0 f.2.2.2.2.2.2.1),v])),C,w,y,Ob.dead,Ob.dead,(eS 4 TRu.e f.2.2.2.2.2.2.2.1),z] [(TTape.b f.1),(Ob.box (AV.agg [(vi f.2.1),(vi f.2.2.1),aa,s,t,u,Z,Y,(AV.d (eL TRu.e X)),v])),C,w,y,Ob.dead,Ob.dead,Ob.dead,z] (fun h=>z52 (o:=7) (g:=fun j=>TRu.e (f.2.2.2.2.2.2.2.1.getD j dF)) rfl h.1 (.keep _ _ _ _ (y8 rfl) (.box _ _ _ _ _ (y8 rfl) (TrV.agg (TrL.cons (TrV.keep _) (TrL.cons (TrV.keep _) (TrL.cons (TrV.keep _) (TrL.cons (TrV.keep _) (TrL.cons (TrV.keep _) (TrL.cons (TrV.keep _) (TrL.cons (TrV.keep _) (TrL.cons (TrV.keep _) (TrL.cons (TrV.refT h.2) (TrL.cons (TrV.keep _) TrL.nil))))))))))) (.keep _ _ _ _ (y8 rfl) (.keep _ _ _ _ (y8 rfl) (.keep _ _ _ _ (y8 rfl) (.keep _ _ _ _ (y8 rfl) (.keep _ _ _ _ (y8 rfl) (.here _ _ _ _ rfl (.keep _ _ _ _ (y8 rfl) (.nil _))))))))))) (zj (k:=0) rfl (TrS.keep _) (zj (k:=1) rfl (TrS.keep _) (zj (k:=2) rfl (TrS.keep _) z1f)))<|
.r (f.1,f.2.1,f.2.2.1,f.2.2.2.1,f.2.2.2.2.1,f.2.2.2.2.2.1,X)) id) id)) id
def F_q1 (a:TTape) (p1_0:Int) (p1_1:Int) (p1_2:(List THe)) (b:(List TLi)) (c:(List TBo)) (d:(List TBo)) (e:(List TEa)) (f:(List TCo)) (g:(List TRu)) (h:(List TAm)):=(S_q1 a p1_0 p1_1 p1_2 b c d e f g h).den
theorem F_q1_ok {k:TTape} {p1_0:Int} {p1_1:Int} {p1_2:(List THe)} {a:(List TLi)} {c:(List TBo)} {f:(List TBo)} {h:(List TEa)} {i:(List TCo)} {j:(List TRu)} {g:(List TAm)}:FO (F_q1 k p1_0 p1_1 p1_2 a c f h i j g) 40 [(vp 0),(vp 1)] [(TTape.b k),(Ob.box (AV.agg [(vi p1_0),(vi p1_1),(AV.d (eL THe.e p1_2)),(AV.ref 2 a.length 0 a.length),(AV.ref 3 c.length 0 c.length),(AV.ref 4 f.length 0 f.length),(AV.ref 5 h.length 0 h.length),(AV.ref 6 i.length 0 i.length),(AV.ref 7 j.length 0 j.length),(AV.ref 8 g.length 0 g.length)])),(eS 3 TLi.e a),(eS 3 TBo.e c),(eS 3 TBo.e f),(eS 3 TEa.e h),(eS 7 TCo.e i),(eS 4 TRu.e j),(eS 3 TAm.e g)] (fun _=>(AV.tup [])) (fun x=>[(TTape.b x.1),(Ob.box (AV.agg [(vi x.2.1),(vi x.2.2.1),(AV.d (eL THe.e x.2.2.2.1)),(AV.ref 2 a.length 0 a.length),(AV.ref 3 c.length 0 c.length),(AV.ref 4 f.length 0 f.length),(AV.d (eL TEa.e x.2.2.2.2.1)),(AV.d (eL TCo.e x.2.2.2.2.2.1)),(AV.d (eL TRu.e x.2.2.2.2.2.2)),(AV.ref 8 g.length 0 g.length)])),(eS 3 TLi.e a),(eS 3 TBo.e c),(eS 3 TBo.e f),Ob.dead,Ob.dead,Ob.dead,(eS 3 TAm.e g)]):=fO (s:=S_q1 k p1_0 p1_1 p1_2 a c f h i j g) Tryz.func40
end
end Go.Proofs.YtgfgnhpecnmlpaaGreatDoor
/- What the functions compute,and that their calls return it. No condition. -/
namespace Go.Proofs.YtgfgnhpecnmlpaaGreatDoor
open Go Go.TA
open Go.IntKind (i64)
noncomputable section
set_option maxRecDepth 100000
abbrev R_q1e:=(List Int)
def S_q1e_b1 (a0_0:Int) (a0_1:Int) (a:(List Int)×Int):SC R_q1e (Step ((List Int)×Int) R_q1e) :=
.ite (decide (a.2<(i64.wrap (a0_0+a0_1)))) (
.guard [(a.1.length+1) * (2 * 8)<=2 ^ 48]<|
 let b:=([a.2]:List Int)
.reg 5 [] [(2,hv (vl b)),(3,{ h:=.obj,cast:=some (AV.ref 5 ((a.1++b).length) 0 ((a.1++b).length)),obs:=[(5,(eS 1 (DV.i .i64) (a.1++b)))] })] [.pf (z5 (DV.i .i64) b),.e a.1.length,.e a.1.length,.pf (p:=∀ k,k<1->(AV.d ((DV.i .i64) (b.getD k dF))).wd=1) (fun _ _=>rfl),.ev 0,.pf (zf (o:=5) (l:=a.1) (x:=b)),.pf (ze (sz:=1) (e:=(DV.i .i64)) (l:=a.1) (x:=b))]<|
.r (.cont ((a.1++b),(i64.wrap (a.2+1))))) (
.r (.brk (a.1,a.2)))
def S_q1e (a0_0:Int) (a0_1:Int) (_:(List THe)) (_:(List TEa)) (_:(List TCo)) (_:(List TRu)) (_:(List TLi)) (_:(List TBo)) (_:(List TBo)) (_:(List TAm)):SC R_q1e R_q1e :=
.reg 1 [] [(0,{ h:=.obj,obs:=[(5,(eS 1 (DV.i .i64) ([(-1)]:List Int)))] })] [.pf (z2h (sz:=1) (e:=(DV.i .i64)) (l:=([(-1)]:List Int)))]<|
.iter [1] (fun (a:(List Int)×Int)=>[(3,(AV.ref 5 a.1.length 0 a.1.length)),(4,(vi a.2))]) (fun a=>[(5,(eS 1 (DV.i .i64) a.1))]) (([(-1)]:List Int),a0_0) (S_q1e_b1 a0_0 a0_1) (fun a =>
.guard [a.1.length<2 ^ 63]<|
.reg 6 [] [] []<|
.frz 5 (.ev 0) none [2] []<|
.r a.1) id
def F_q1e (a0_0:Int) (a0_1:Int) (a0_2:(List THe)) (a0_3:(List TEa)) (a0_4:(List TCo)) (a0_5:(List TRu)) (a:(List TLi)) (b:(List TBo)) (c:(List TBo)) (d:(List TAm)):=(S_q1e a0_0 a0_1 a0_2 a0_3 a0_4 a0_5 a b c d).den
theorem F_q1e_ok {a0_0:Int} {a0_1:Int} {a0_2:(List THe)} {a0_3:(List TEa)} {a0_4:(List TCo)} {a0_5:(List TRu)} {a:(List TLi)} {b:(List TBo)} {c:(List TBo)} {f:(List TAm)}:FO (F_q1e a0_0 a0_1 a0_2 a0_3 a0_4 a0_5 a b c f) 39 [(AV.agg [(vi a0_0),(vi a0_1),(AV.d (eL THe.e a0_2)),(AV.ref 0 a.length 0 a.length),(AV.ref 1 b.length 0 b.length),(AV.ref 2 c.length 0 c.length),(AV.d (eL TEa.e a0_3)),(AV.d (eL TCo.e a0_4)),(AV.d (eL TRu.e a0_5)),(AV.ref 3 f.length 0 f.length)])] [(eS 3 TLi.e a),(eS 3 TBo.e b),(eS 3 TBo.e c),(eS 3 TAm.e f)] vl (fun _=>[(eS 3 TLi.e a),(eS 3 TBo.e b),(eS 3 TBo.e c),(eS 3 TAm.e f)]):=fO (s:=S_q1e a0_0 a0_1 a0_2 a0_3 a0_4 a0_5 a b c f) Tryz.func39
abbrev R_q12:=(List TCh)×TTape
def S_q12_b1 (a1_0:Int) (a1_1:Int) (a1_2:(List THe)) (a1_3:(List TEa)) (a1_4:(List TCo)) (a1_5:(List TRu)) (T:(List TLi)) (U:(List TBo)) (V:(List TBo)) (W:(List TAm)) (a:TTape×(List TCh)×Int):SC R_q12 (Step (TTape×(List TCh)×Int) R_q12) :=
.ite (decide (a.2.2<=3)) (
.call (@F_q0_ok 2 a.1) fun n X=>
.k 5 1 X [0] 7 false<|
 let L:=(bif (n.1==0) then (decide ((a.2.1.length:Int)>0)) else false)
 let D:=(i64.wrap (a.2.2+1))
.ite L (
.r (.cont (n.2,a.2.1,D))) (
 let t:=(AV.agg [(vi a1_0),(vi a1_1),(AV.d (eL THe.e a1_2)),(AV.ref 1 T.length 0 T.length),(AV.ref 2 U.length 0 U.length),(AV.ref 3 V.length 0 V.length),(AV.d (eL TEa.e a1_3)),(AV.d (eL TCo.e a1_4)),(AV.d (eL TRu.e a1_5)),(AV.ref 4 W.length 0 W.length)])
 let M:=[(0,(vp 0)),(3,(vp 5)),(5,(AV.ref 6 a.2.1.length 0 a.2.1.length)),(6,(vi a.2.2)),(19,(vb L))]
 let u:=(eS 4 TCh.e a.2.1)
 let v:=(eS 3 TLi.e T)
 let w:=(eS 3 TBo.e U)
 let y:=(eS 3 TBo.e V)
 let g:=(eS 3 TAm.e W)
.sh (H:=NoH) (A:=True) (.pf trivial) M M [(TTape.b n.2),v,w,y,g,(Ob.box t),u] [(TTape.b n.2),v,w,y,g,(Ob.box t),u,Ob.unb] (fun _=>z2n) (z29 _)<|
.call (@F_q0_ok (a1_2.length:Int) n.2) fun z G=>
.call (@F_q1e_ok a1_0 a1_1 a1_2 a1_3 a1_4 a1_5 T U V W) fun Y I=>
.call (@F_qa_ok Y z.2) fun q J=>
.call (@F_q1d_ok q.2) fun f K=>
.guard [(0:Int)<=z.1,z.1.toNat<a1_2.length]<|
.reg 6 [7,14,16,18,19] [(7,hc G [0] false),(13,hc I [1,2,3,4] true),(14,hc J [0] false),(16,hc K [0] false),(18,{ h:=.born 7 false })] [.cl 5 G [0] 8 false,.cl 5 G [0] 8 false,.ev 0,.ev 1,.ev 0,.ev 1,.ev 0,.ev 1,.ev 0,.ev 1,.ev 0,.ev 1,.ev 0,.ev 1,.cl 4 I [1,2,3,4] 8 true,.cl 4 I [1,2,3,4] 8 true,.cl 3 J [0] 8 false,.cl 3 J [0] 8 false,.cl 2 K [0] 8 false,.cl 2 K [0] 8 false]<|
.cut (some 2) [0,3,5,6,7] (fun (_:TTape×TCh)=>[]) (fun s=>[(0,(TTape.b s.1)),(7,(TCh.b s.2))]) (
.ite (a.2.2==1) (
.call (@F_q10_ok a1_2 f.2) fun N O=>
.call (@F_q0_ok a1_1 N.2) fun P Q=>
.reg 8 [3,9,12,14] [(3,hc O [0] false),(9,hc Q [0] false)] [.cl 1 O [0] 8 false,.cl 0 Q [0] 8 false]<|
.r (.next (P.2,(⟨a.2.2,N.1,(i64.wrap (a1_0+P.1)),f.1⟩:TCh)))) (
.calld [(a.2.2==2)=true] (dF,f.2) (@F_q0_ok 3 f.2) fun c E =>
 let C:=(a1_2.getD z.1.toNat dF)
 let R:=(bx (DV.agg [(DV.i .i64 a.2.2),(DV.str C.B),(DV.i .i64 q.1),(DV.i .i64 f.1)]))
.reg 9 [] [(4,hc E [0] false)] [.clg 0 [(a.2.2==2)=true] E [0] 8 false,.der (fun (h:¬ AllP [(a.2.2==2)=true]->(dF,f.2)=c) (hn:¬ AllP [(a.2.2==2)=true])=>(by obtain rfl:=h hn; rfl:[(TTape.b f.2),v,w,y,g,(Ob.box t),u,R]=[(TTape.b c.2),v,w,y,g,(Ob.box t),u,R])) 1]<|
.ite (bif (a.2.2==2) then (c.1==0) else false) (
.r (.next (c.2,(⟨a.2.2,C.B,q.1,(-1)⟩:TCh)))) (
.ite (a.2.2==3) (
.call (@F_q0_ok 200 c.2) fun F S=>
.k 12 1 S [0] 8 false<|
.r (.next (F.2,(⟨a.2.2,C.B,q.1,F.1⟩:TCh)))) (
.r (.next (c.2,(⟨a.2.2,C.B,q.1,f.1⟩:TCh))))))) fun s=>
.guard [(a.2.1.length+1) * (2 * 40)<=2 ^ 48]<|
 let m:=([s.2]:List TCh)
 let j:=(a.2.1++m)
.reg 13 [] [(2,hv (AV.d (eL TCh.e m))),(3,{ h:=.obj,cast:=some (AV.ref 6 j.length 0 j.length),obs:=[(6,(eS 4 TCh.e j))] })] [.pf (z5 TCh.e m),.e a.2.1.length,.e a.2.1.length,.pf (p:=∀ k,k<1->(TCh.d (m.getD k dF)).wd=4) (fun _ _=>rfl),.ev 0,.pf (zf (o:=6) (l:=a.2.1) (x:=m)),.pf (ze (sz:=4) (e:=TCh.e) (l:=a.2.1) (x:=m))]<|
.r (.cont (s.1,j,D)))) (
.r (.brk (a.1,a.2.1,a.2.2)))
def S_q12 (a1_0:Int) (a1_1:Int) (a1_2:(List THe)) (a1_3:(List TEa)) (a1_4:(List TCo)) (a1_5:(List TRu)) (c:TTape) (f:(List TLi)) (g:(List TBo)) (h:(List TBo)) (i:(List TAm)):SC R_q12 R_q12 :=
.reg 2 [] [] []<|
.bor 4 (fun j=>AV.d (TCh.e (([]:List TCh).getD j dF))) [5]<|
.iter [0,3] (fun (a:TTape×(List TCh)×Int)=>[(5,(AV.ref 6 a.2.1.length 0 a.2.1.length)),(6,(vi a.2.2))]) (fun a=>[(0,(TTape.b a.1)),(6,(eS 4 TCh.e a.2.1))]) (c,([]:List TCh),1) (S_q12_b1 a1_0 a1_1 a1_2 a1_3 a1_4 a1_5 f g h i) (fun a =>
.guard [a.2.1.length<2 ^ 63]<|
.reg 14 [] [] []<|
.frz 6 (.ev 0) none [4] []<|
.r (a.2.1,a.1)) id
def F_q12 (a1_0:Int) (a1_1:Int) (a1_2:(List THe)) (a1_3:(List TEa)) (a1_4:(List TCo)) (a1_5:(List TRu)) (a:TTape) (b:(List TLi)) (c:(List TBo)) (d:(List TBo)) (e:(List TAm)):=(S_q12 a1_0 a1_1 a1_2 a1_3 a1_4 a1_5 a b c d e).den
theorem F_q12_ok {a1_0:Int} {a1_1:Int} {a1_2:(List THe)} {a1_3:(List TEa)} {a1_4:(List TCo)} {a1_5:(List TRu)} {h:TTape} {a:(List TLi)} {c:(List TBo)} {f:(List TBo)} {g:(List TAm)}:FO (F_q12 a1_0 a1_1 a1_2 a1_3 a1_4 a1_5 h a c f g) 16 [(vp 0),(AV.agg [(vi a1_0),(vi a1_1),(AV.d (eL THe.e a1_2)),(AV.ref 1 a.length 0 a.length),(AV.ref 2 c.length 0 c.length),(AV.ref 3 f.length 0 f.length),(AV.d (eL TEa.e a1_3)),(AV.d (eL TCo.e a1_4)),(AV.d (eL TRu.e a1_5)),(AV.ref 4 g.length 0 g.length)])] [(TTape.b h),(eS 3 TLi.e a),(eS 3 TBo.e c),(eS 3 TBo.e f),(eS 3 TAm.e g)] (fun x=>(AV.d (eL TCh.e x.1))) (fun x=>[(TTape.b x.2),(eS 3 TLi.e a),(eS 3 TBo.e c),(eS 3 TBo.e f),(eS 3 TAm.e g)]):=fO (s:=S_q12 a1_0 a1_1 a1_2 a1_3 a1_4 a1_5 h a c f g) Tryz.func16
def S_qr_b1 (d:Y8) (a:Int):SC Bool (Step Int Bool) :=
.ite (decide (a<(d.length:Int))) (
 let c:=((d.getD a.toNat 0).toNat:Int)
 let b:=(decide (c<32))
.guard [(0:Int)<=a,a.toNat<d.length,AllP [b=false]->((0:Int)<=a),AllP [b=false]->(a.toNat<d.length)]<|
.reg 6 [] [] [.ev 0,.ev 1,.ev 2,.ev 3]<|
.ite (cO b (decide (c>126))) (
.r (.ret false)) (
.r (.cont (i64.wrap (a+1))))) (
.r (.brk a))
def S_qr (e:Y8):SC Bool Bool :=
 let a:=(e.length:Int)
 let b:=(cO (decide (a<1)) (decide (a>40)))
 let c:=(cO b (((e.getD 0 0).toNat:Int)==32))
 let d:=(i64.wrap (a-1))
.guard [AllP [b=false]->(0<e.length),AllP [c=false]->((0:Int)<=d),AllP [c=false]->(d.toNat<e.length)]<|
.reg 1 [] [] [.pf (p:=AllP [b=false]->((0:Int)<=0)) (fun _=>dk),.ev 0,.ev 1,.ev 2]<|
.ite (cO c (((e.getD d.toNat 0).toNat:Int)==32)) (
.r false) (
.iter [0] (fun (f:Int)=>[(3,(vi f))]) (fun _=>[]) 0 (S_qr_b1 e) (fun _ =>
.r true) id)
def F_qr (a:Y8):=(S_qr a).den
theorem F_qr_ok {a:Y8}:FO (F_qr a) 167 [(AV.d (DV.str a))] [] vb NL:=fO (s:=S_qr a) Tryz.func167
def S_q26_b1 (l:(List THe)) (b:Nat) (_:Unit):SC (Int×Int) (Step Unit (Int×Int)) :=
.reg 5 [] [] [.w b,.ev 0]<|
 let c:=(l.getD b dF)
.a 6 2 1 (@F_qb_ok c.B) fun m=>
 let f:=(i64.wrap ((b:Int)+1))
.ite (!m) (
.r (.ret (f,5))) (
.a 8 2 1 (@F_qr_ok c.V) fun n=>
.ite (!n) (
.r (.ret (f,4))) (
 let d:=(decide ((b:Int)>0))
 let g:=(i64.wrap ((b:Int)-1))
.calld [d=true] dF (@F_qi_ok ((l.getD g.toNat dF).B) c.B) fun o h =>
.guard [AllP [d=true]->((0:Int)<=g),AllP [d=true]->(g.toNat<l.length)]<|
.reg 10 [] [(11,hc h [] true)] [.ev 0,.ev 1,.clg 2 [d=true] h [] 1 true]<|
.ite (bif d then (decide (o>=0)) else false) (
.r (.ret (f,8))) (
.call (@F_qf_ok c.B) fun p i=>
 let e:=(!(p==([])))
.calld [e=true] dF (@F_qf_ok c.B) fun q j =>
.calld [e=true] dF (@F_qq_ok l q) fun s k =>
.reg 12 [] [(2,hc i [] true),(8,hc j [] true),(9,hc k [] true)] [.cl 4 i [] 1 true,.clg 2 [e=true] j [] 1 true,.clg 0 [e=true] k [] 1 true]<|
.ite (bif e then (!s) else false) (
.r (.ret (f,6))) (
.r (.cont ())))))
def S_q26 (a:(List THe)):SC (Int×Int) (Int×Int) :=
.ite (decide ((a.length:Int)>60)) (
.r (0,3)) (
.range (a.length:Int) a.length rfl (.slot 0) 11 [0,9,10] (fun (_:Unit)=>[]) (fun _=>[]) () (S_q26_b1 a) (fun _ => 
.r (0,0)) id)
def F_q26 (a:(List THe)):=(S_q26 a).den
theorem F_q26_ok {a:(List THe)}:FO (F_q26 a) 113 [(AV.d (eL THe.e a))] [] (fun x=>(AV.tup [(vi x.1),(vi x.2)])) NL:=fO (s:=S_q26 a) Tryz.func113
def S_q3r (c:(List THe)):SC Int Int :=
.a 1 1 0 (@F_q26_ok c) fun b=>
.r b.2
def F_q3r (a:(List THe)):=(S_q3r a).den
theorem F_q3r_ok {a:(List THe)}:FO (F_q3r a) 49 [(AV.d (eL THe.e a))] [] vi NL:=fO (s:=S_q3r a) Tryz.func49
theorem cz2:OLe (bx (DV.agg [(DV.i .i64 0),(DV.i .i64 0),Z0])) (TAm.b (⟨0,0,[]⟩:TAm)):=z84 (DLe.agg (DLeL.cons (DLe.refl _) (DLeL.cons (DLe.refl _) (DLeL.cons DLe.sl0 DLeL.nil))))
def S_q1f_b1 (c:(List TAm)) (a:Nat) (_:Unit):SC Int (Step Unit Int) :=
.guard [(0+a)<c.length]<|
.reg 5 [] [(2,{ obs:=[(5,(TAm.b (⟨0,0,[]⟩:TAm)))] })] [.e c.length,.w a,.ev 1,.e c.length,.ev 0,.pf cz2]<|
.ite (decide ((((c.getD (0+a) dF).G).length:Int)>20)) (
.r (.ret 3)) (
.r (.cont ()))
def S_q1f (_:Int) (_:Int) (_:(List THe)) (a0_3:(List TEa)) (a0_4:(List TCo)) (a0_5:(List TRu)) (b:(List TLi)) (c:(List TBo)) (d:(List TBo)) (a:(List TAm)):SC Int Int :=
.ite (cO (cO (cO (cO (cO (cO (decide ((b.length:Int)>120)) (decide ((c.length:Int)>60))) (decide ((d.length:Int)>60))) (decide ((a0_3.length:Int)>20))) (decide ((a0_4.length:Int)>20))) (decide ((a0_5.length:Int)>20))) (decide ((a.length:Int)>20))) (
.r 3) (
.guard [a.length<2 ^ 63]<|
.range (a.length:Int) a.length rfl (.why (.ev 0)) 48 [46,47] (fun (_:Unit)=>[]) (fun _=>[]) () (S_q1f_b1 a) (fun _ => 
.r 0) id)
def F_q1f (a0_0:Int) (a0_1:Int) (a0_2:(List THe)) (a0_3:(List TEa)) (a0_4:(List TCo)) (a0_5:(List TRu)) (a:(List TLi)) (b:(List TBo)) (c:(List TBo)) (d:(List TAm)):=(S_q1f a0_0 a0_1 a0_2 a0_3 a0_4 a0_5 a b c d).den
theorem F_q1f_ok {a0_0:Int} {a0_1:Int} {a0_2:(List THe)} {a0_3:(List TEa)} {a0_4:(List TCo)} {a0_5:(List TRu)} {a:(List TLi)} {b:(List TBo)} {c:(List TBo)} {f:(List TAm)}:FO (F_q1f a0_0 a0_1 a0_2 a0_3 a0_4 a0_5 a b c f) 50 [(AV.agg [(vi a0_0),(vi a0_1),(AV.d (eL THe.e a0_2)),(AV.ref 0 a.length 0 a.length),(AV.ref 1 b.length 0 b.length),(AV.ref 2 c.length 0 c.length),(AV.d (eL TEa.e a0_3)),(AV.d (eL TCo.e a0_4)),(AV.d (eL TRu.e a0_5)),(AV.ref 3 f.length 0 f.length)])] [(eS 3 TLi.e a),(eS 3 TBo.e b),(eS 3 TBo.e c),(eS 3 TAm.e f)] vi (fun _=>[(eS 3 TLi.e a),(eS 3 TBo.e b),(eS 3 TBo.e c),(eS 3 TAm.e f)]):=fO (s:=S_q1f a0_0 a0_1 a0_2 a0_3 a0_4 a0_5 a b c f) Tryz.func50
def S_q13 (_:Int) (_:Int) (a0_2:(List THe)) (_:(List TEa)) (_:(List TCo)) (_:(List TRu)) (c:Y8) (_:(List TLi)) (_:(List TBo)) (_:(List TBo)) (_:(List TAm)):SC Bool Bool :=
.a 1 3 5 (@F_qq_ok a0_2 c) fun b=>
.r b
def F_q13 (a0_0:Int) (a0_1:Int) (a0_2:(List THe)) (a0_3:(List TEa)) (a0_4:(List TCo)) (a0_5:(List TRu)) (a:Y8) (b:(List TLi)) (c:(List TBo)) (d:(List TBo)) (e:(List TAm)):=(S_q13 a0_0 a0_1 a0_2 a0_3 a0_4 a0_5 a b c d e).den
theorem F_q13_ok {a0_0:Int} {a0_1:Int} {a0_2:(List THe)} {a0_3:(List TEa)} {a0_4:(List TCo)} {a0_5:(List TRu)} {g:Y8} {a:(List TLi)} {b:(List TBo)} {c:(List TBo)} {f:(List TAm)}:FO (F_q13 a0_0 a0_1 a0_2 a0_3 a0_4 a0_5 g a b c f) 92 [(AV.agg [(vi a0_0),(vi a0_1),(AV.d (eL THe.e a0_2)),(AV.ref 0 a.length 0 a.length),(AV.ref 1 b.length 0 b.length),(AV.ref 2 c.length 0 c.length),(AV.d (eL TEa.e a0_3)),(AV.d (eL TCo.e a0_4)),(AV.d (eL TRu.e a0_5)),(AV.ref 3 f.length 0 f.length)]),(AV.d (DV.str g))] [(eS 3 TLi.e a),(eS 3 TBo.e b),(eS 3 TBo.e c),(eS 3 TAm.e f)] vb (fun _=>[(eS 3 TLi.e a),(eS 3 TBo.e b),(eS 3 TBo.e c),(eS 3 TAm.e f)]):=fO (s:=S_q13 a0_0 a0_1 a0_2 a0_3 a0_4 a0_5 g a b c f) Tryz.func92
def S_qs_b1 (a0_2:(List THe)) (d:Y8) (b:Nat) (_:Unit):SC Bool (Step Unit Bool) :=
.reg 5 [] [] [.w b,.ev 0]<|
.a 6 2 6 (@F_qf_ok ((a0_2.getD b dF).B)) fun c=>
.ite (c==d) (
.r (.ret false)) (
.r (.cont ()))
def S_qs (a0_0:Int) (a0_1:Int) (a0_2:(List THe)) (a0_3:(List TEa)) (a0_4:(List TCo)) (a0_5:(List TRu)) (d:Y8) (f:(List TLi)) (g:(List TBo)) (h:(List TBo)) (i:(List TAm)):SC Bool Bool :=
.call (@F_qb_ok d) fun a b=>
.calld [(!a)=false] dF (@F_q13_ok a0_0 a0_1 a0_2 a0_3 a0_4 a0_5 d f g h i) fun e c =>
.reg 1 [] [(1,hc b [] true),(6,hc c [0,1,2,3] true)] [.cl 2 b [] 5 true,.clg 0 [(!a)=false] c [0,1,2,3] 5 true]<|
.ite (cO (!a) (!e)) (
.r false) (
.range (a0_2.length:Int) a0_2.length rfl (.slot 17) 19 [1,17,18] (fun (_:Unit)=>[]) (fun _=>[]) () (S_qs_b1 a0_2 d) (fun _ => 
.r true) id)
def F_qs (a0_0:Int) (a0_1:Int) (a0_2:(List THe)) (a0_3:(List TEa)) (a0_4:(List TCo)) (a0_5:(List TRu)) (a:Y8) (b:(List TLi)) (c:(List TBo)) (d:(List TBo)) (e:(List TAm)):=(S_qs a0_0 a0_1 a0_2 a0_3 a0_4 a0_5 a b c d e).den
theorem F_qs_ok {a0_0:Int} {a0_1:Int} {a0_2:(List THe)} {a0_3:(List TEa)} {a0_4:(List TCo)} {a0_5:(List TRu)} {g:Y8} {a:(List TLi)} {b:(List TBo)} {c:(List TBo)} {f:(List TAm)}:FO (F_qs a0_0 a0_1 a0_2 a0_3 a0_4 a0_5 g a b c f) 114 [(AV.agg [(vi a0_0),(vi a0_1),(AV.d (eL THe.e a0_2)),(AV.ref 0 a.length 0 a.length),(AV.ref 1 b.length 0 b.length),(AV.ref 2 c.length 0 c.length),(AV.d (eL TEa.e a0_3)),(AV.d (eL TCo.e a0_4)),(AV.d (eL TRu.e a0_5)),(AV.ref 3 f.length 0 f.length)]),(AV.d (DV.str g))] [(eS 3 TLi.e a),(eS 3 TBo.e b),(eS 3 TBo.e c),(eS 3 TAm.e f)] vb (fun _=>[(eS 3 TLi.e a),(eS 3 TBo.e b),(eS 3 TBo.e c),(eS 3 TAm.e f)]):=fO (s:=S_qs a0_0 a0_1 a0_2 a0_3 a0_4 a0_5 g a b c f) Tryz.func114
def S_q2m (a0_0:Int) (a0_1:Int) (_:(List THe)) (_:(List TEa)) (_:(List TCo)) (_:(List TRu)) (a:Int) (_:(List TLi)) (_:(List TBo)) (_:(List TBo)) (_:(List TAm)):SC Bool Bool :=
.r (bif (bif (decide (a0_1>0)) then (decide (a>=a0_0)) else false) then (decide ((IntKind.u64.wrap ((IntKind.u64.wrap a)-(IntKind.u64.wrap a0_0)))<(IntKind.u64.wrap a0_1))) else false)
def F_q2m (a0_0:Int) (a0_1:Int) (a0_2:(List THe)) (a0_3:(List TEa)) (a0_4:(List TCo)) (a0_5:(List TRu)) (a:Int) (b:(List TLi)) (c:(List TBo)) (d:(List TBo)) (e:(List TAm)):=(S_q2m a0_0 a0_1 a0_2 a0_3 a0_4 a0_5 a b c d e).den
theorem F_q2m_ok {a0_0:Int} {a0_1:Int} {a0_2:(List THe)} {a0_3:(List TEa)} {a0_4:(List TCo)} {a0_5:(List TRu)} {g:Int} {a:(List TLi)} {b:(List TBo)} {c:(List TBo)} {f:(List TAm)}:FO (F_q2m a0_0 a0_1 a0_2 a0_3 a0_4 a0_5 g a b c f) 115 [(AV.agg [(vi a0_0),(vi a0_1),(AV.d (eL THe.e a0_2)),(AV.ref 0 a.length 0 a.length),(AV.ref 1 b.length 0 b.length),(AV.ref 2 c.length 0 c.length),(AV.d (eL TEa.e a0_3)),(AV.d (eL TCo.e a0_4)),(AV.d (eL TRu.e a0_5)),(AV.ref 3 f.length 0 f.length)]),(vi g)] [(eS 3 TLi.e a),(eS 3 TBo.e b),(eS 3 TBo.e c),(eS 3 TAm.e f)] vb (fun _=>[(eS 3 TLi.e a),(eS 3 TBo.e b),(eS 3 TBo.e c),(eS 3 TAm.e f)]):=fO (s:=S_q2m a0_0 a0_1 a0_2 a0_3 a0_4 a0_5 g a b c f) Tryz.func115
def S_q1g (a:Int):SC Bool Bool :=
.r (bif (decide (a>=0)) then (decide (a<=1000000000000)) else false)
def F_q1g (a:Int):=(S_q1g a).den
theorem F_q1g_ok {a:Int}:FO (F_q1g a) 116 [(vi a)] [] vb NL:=fO (s:=S_q1g a) Tryz.func116
def S_q2n (c:Y8) (d:Int) (e:Y8) (f:Int):SC Bool Bool :=
.a 1 2 0 (@F_qi_ok c e) fun b=>
.r (cO (decide (b<0)) (bif (b==0) then (decide (d<f)) else false))
def F_q2n (a:Y8) (b:Int) (c:Y8) (d:Int):=(S_q2n a b c d).den
theorem F_q2n_ok {a:Y8} {b:Int} {c:Y8} {e:Int}:FO (F_q2n a b c e) 117 [(AV.d (DV.str a)),(vi b),(AV.d (DV.str c)),(vi e)] [] vb NL:=fO (s:=S_q2n a b c e) Tryz.func117
def S_q1h_b1 (a0_0:Int) (a0_1:Int) (a0_2:(List THe)) (a0_3:(List TEa)) (a0_4:(List TCo)) (a0_5:(List TRu)) (d:(List TLi)) (t:(List TBo)) (u:(List TBo)) (v:(List TAm)) (f:Nat) (_:Unit):SC Int (Step Unit Int) :=
.guard [(0+f)<d.length]<|
.reg 3 [] [] [.e d.length,.w f,.ev 1,.e d.length,.ev 0]<|
 let g:=(d.getD (0+f) dF)
.call (@F_qs_ok a0_0 a0_1 a0_2 a0_3 a0_4 a0_5 g.B d t u v) fun l m=>
.k 4 3 m [0,1,2,3] 6 true<|
.ite (!l) (
.r (.ret 5)) (
.call (@F_q2m_ok a0_0 a0_1 a0_2 a0_3 a0_4 a0_5 g.H d t u v) fun n o=>
.k 6 3 o [0,1,2,3] 6 true<|
.ite (!n) (
.r (.ret 16)) (
.a 8 2 6 (@F_q1g_ok g.D) fun q=>
.ite (!q) (
.r (.ret 2)) (
 let b:=(decide ((f:Int)>0))
 let h:=(i64.wrap ((f:Int)-1))
 let i:=(d.getD (0+h.toNat) dF)
.calld [b=true] dF (@F_q2n_ok i.B i.H g.B g.H) fun s j =>
.guard [AllP [b=true]->((0:Int)<=h),AllP [b=true]->(h.toNat<d.length),AllP [b=true]->((0+h.toNat)<d.length)]<|
 let c:=(d.length=d.length)
.reg 10 [] [(21,hc j [] true)] [.pf (p:=AllP [b=true]->c) (fun _=>rfl),.ev 0,.ev 1,.pf (p:=AllP [b=true]->c) (fun _=>rfl),.pf (p:=AllP [b=true]->c) (fun _=>rfl),.ev 2,.pf (p:=AllP [b=true]->c) (fun _=>rfl),.ev 0,.ev 1,.pf (p:=AllP [b=true]->c) (fun _=>rfl),.pf (p:=AllP [b=true]->c) (fun _=>rfl),.ev 2,.clg 3 [b=true] j [] 6 true]<|
.ite (bif b then (!s) else false) (
.r (.ret 8)) (
.r (.cont ())))))
def S_q1h (a0_0:Int) (a0_1:Int) (a0_2:(List THe)) (a0_3:(List TEa)) (a0_4:(List TCo)) (a0_5:(List TRu)) (a:(List TLi)) (b:(List TBo)) (c:(List TBo)) (d:(List TAm)):SC Int Int :=
.guard [a.length<2 ^ 63]<|
.range (a.length:Int) a.length rfl (.why (.ev 0)) 8 [1,6,7] (fun (_:Unit)=>[]) (fun _=>[]) () (S_q1h_b1 a0_0 a0_1 a0_2 a0_3 a0_4 a0_5 a b c d) (fun _ => 
.r 0) id
def F_q1h (a0_0:Int) (a0_1:Int) (a0_2:(List THe)) (a0_3:(List TEa)) (a0_4:(List TCo)) (a0_5:(List TRu)) (a:(List TLi)) (b:(List TBo)) (c:(List TBo)) (d:(List TAm)):=(S_q1h a0_0 a0_1 a0_2 a0_3 a0_4 a0_5 a b c d).den
theorem F_q1h_ok {a0_0:Int} {a0_1:Int} {a0_2:(List THe)} {a0_3:(List TEa)} {a0_4:(List TCo)} {a0_5:(List TRu)} {a:(List TLi)} {b:(List TBo)} {c:(List TBo)} {f:(List TAm)}:FO (F_q1h a0_0 a0_1 a0_2 a0_3 a0_4 a0_5 a b c f) 51 [(AV.agg [(vi a0_0),(vi a0_1),(AV.d (eL THe.e a0_2)),(AV.ref 0 a.length 0 a.length),(AV.ref 1 b.length 0 b.length),(AV.ref 2 c.length 0 c.length),(AV.d (eL TEa.e a0_3)),(AV.d (eL TCo.e a0_4)),(AV.d (eL TRu.e a0_5)),(AV.ref 3 f.length 0 f.length)])] [(eS 3 TLi.e a),(eS 3 TBo.e b),(eS 3 TBo.e c),(eS 3 TAm.e f)] vi (fun _=>[(eS 3 TLi.e a),(eS 3 TBo.e b),(eS 3 TBo.e c),(eS 3 TAm.e f)]):=fO (s:=S_q1h a0_0 a0_1 a0_2 a0_3 a0_4 a0_5 a b c f) Tryz.func51
def S_q1i_b1 (a0_0:Int) (a0_1:Int) (a0_2:(List THe)) (a0_3:(List TEa)) (a0_4:(List TCo)) (a0_5:(List TRu)) (u:(List TLi)) (f:(List TBo)) (v:(List TBo)) (x:(List TAm)) (g:Nat) (_:Unit):SC Int (Step Unit Int) :=
.guard [(0+g)<f.length]<|
.reg 3 [] [] [.e f.length,.w g,.ev 1,.e f.length,.ev 0]<|
 let c:=(f.getD (0+g) dF)
.call (@F_q13_ok a0_0 a0_1 a0_2 a0_3 a0_4 a0_5 c.B u f v x) fun n o=>
.k 4 3 o [0,1,2,3] 6 true<|
.ite (!n) (
.r (.ret 5)) (
 let i:=(c.H != (-1))
.calld [i=true] dF (@F_q2m_ok a0_0 a0_1 a0_2 a0_3 a0_4 a0_5 c.H u f v x) fun q j =>
.reg 6 [] [(7,hc j [0,1,2,3] true)] [.clg 0 [i=true] j [0,1,2,3] 6 true]<|
.ite (bif i then (!q) else false) (
.r (.ret 16)) (
.a 8 2 6 (@F_q1g_ok c.D) fun s=>
.ite (!s) (
.r (.ret 2)) (
 let b:=(decide ((g:Int)>0))
 let h:=(i64.wrap ((g:Int)-1))
 let l:=(f.getD (0+h.toNat) dF)
.calld [b=true] dF (@F_q2n_ok l.B l.H c.B c.H) fun t m =>
.guard [AllP [b=true]->((0:Int)<=h),AllP [b=true]->(h.toNat<f.length),AllP [b=true]->((0+h.toNat)<f.length)]<|
 let d:=(f.length=f.length)
.reg 10 [] [(19,hc m [] true)] [.pf (p:=AllP [b=true]->d) (fun _=>rfl),.ev 0,.ev 1,.pf (p:=AllP [b=true]->d) (fun _=>rfl),.pf (p:=AllP [b=true]->d) (fun _=>rfl),.ev 2,.pf (p:=AllP [b=true]->d) (fun _=>rfl),.ev 0,.ev 1,.pf (p:=AllP [b=true]->d) (fun _=>rfl),.pf (p:=AllP [b=true]->d) (fun _=>rfl),.ev 2,.clg 3 [b=true] m [] 6 true]<|
.ite (bif b then (!t) else false) (
.r (.ret 8)) (
.r (.cont ())))))
def S_q1i (a0_0:Int) (a0_1:Int) (a0_2:(List THe)) (a0_3:(List TEa)) (a0_4:(List TCo)) (a0_5:(List TRu)) (b:(List TLi)) (a:(List TBo)) (c:(List TBo)) (d:(List TAm)):SC Int Int :=
.guard [a.length<2 ^ 63]<|
.range (a.length:Int) a.length rfl (.why (.ev 0)) 9 [1,2,7,8] (fun (_:Unit)=>[]) (fun _=>[]) () (S_q1i_b1 a0_0 a0_1 a0_2 a0_3 a0_4 a0_5 b a c d) (fun _ => 
.r 0) id
def F_q1i (a0_0:Int) (a0_1:Int) (a0_2:(List THe)) (a0_3:(List TEa)) (a0_4:(List TCo)) (a0_5:(List TRu)) (a:(List TLi)) (b:(List TBo)) (c:(List TBo)) (d:(List TAm)):=(S_q1i a0_0 a0_1 a0_2 a0_3 a0_4 a0_5 a b c d).den
theorem F_q1i_ok {a0_0:Int} {a0_1:Int} {a0_2:(List THe)} {a0_3:(List TEa)} {a0_4:(List TCo)} {a0_5:(List TRu)} {b:(List TLi)} {a:(List TBo)} {c:(List TBo)} {f:(List TAm)}:FO (F_q1i a0_0 a0_1 a0_2 a0_3 a0_4 a0_5 b a c f) 52 [(AV.agg [(vi a0_0),(vi a0_1),(AV.d (eL THe.e a0_2)),(AV.ref 0 b.length 0 b.length),(AV.ref 1 a.length 0 a.length),(AV.ref 2 c.length 0 c.length),(AV.d (eL TEa.e a0_3)),(AV.d (eL TCo.e a0_4)),(AV.d (eL TRu.e a0_5)),(AV.ref 3 f.length 0 f.length)]),(AV.ref 1 a.length 0 a.length)] [(eS 3 TLi.e b),(eS 3 TBo.e a),(eS 3 TBo.e c),(eS 3 TAm.e f)] vi (fun _=>[(eS 3 TLi.e b),(eS 3 TBo.e a),(eS 3 TBo.e c),(eS 3 TAm.e f)]):=fO (s:=S_q1i a0_0 a0_1 a0_2 a0_3 a0_4 a0_5 b a c f) Tryz.func52
def S_q1j_b1 (a0_0:Int) (a0_1:Int) (a0_2:(List THe)) (a0_3:(List TEa)) (a0_4:(List TCo)) (a0_5:(List TRu)) (u:(List TLi)) (v:(List TBo)) (f:(List TBo)) (x:(List TAm)) (g:Nat) (_:Unit):SC Int (Step Unit Int) :=
.guard [(0+g)<f.length]<|
.reg 3 [] [] [.e f.length,.w g,.ev 1,.e f.length,.ev 0]<|
 let c:=(f.getD (0+g) dF)
.call (@F_q13_ok a0_0 a0_1 a0_2 a0_3 a0_4 a0_5 c.B u v f x) fun n o=>
.k 4 3 o [0,1,2,3] 6 true<|
.ite (!n) (
.r (.ret 5)) (
 let i:=(c.H != (-1))
.calld [i=true] dF (@F_q2m_ok a0_0 a0_1 a0_2 a0_3 a0_4 a0_5 c.H u v f x) fun q j =>
.reg 6 [] [(7,hc j [0,1,2,3] true)] [.clg 0 [i=true] j [0,1,2,3] 6 true]<|
.ite (bif i then (!q) else false) (
.r (.ret 16)) (
.a 8 2 6 (@F_q1g_ok c.D) fun s=>
.ite (!s) (
.r (.ret 2)) (
 let b:=(decide ((g:Int)>0))
 let h:=(i64.wrap ((g:Int)-1))
 let l:=(f.getD (0+h.toNat) dF)
.calld [b=true] dF (@F_q2n_ok l.B l.H c.B c.H) fun t m =>
.guard [AllP [b=true]->((0:Int)<=h),AllP [b=true]->(h.toNat<f.length),AllP [b=true]->((0+h.toNat)<f.length)]<|
 let d:=(f.length=f.length)
.reg 10 [] [(19,hc m [] true)] [.pf (p:=AllP [b=true]->d) (fun _=>rfl),.ev 0,.ev 1,.pf (p:=AllP [b=true]->d) (fun _=>rfl),.pf (p:=AllP [b=true]->d) (fun _=>rfl),.ev 2,.pf (p:=AllP [b=true]->d) (fun _=>rfl),.ev 0,.ev 1,.pf (p:=AllP [b=true]->d) (fun _=>rfl),.pf (p:=AllP [b=true]->d) (fun _=>rfl),.ev 2,.clg 3 [b=true] m [] 6 true]<|
.ite (bif b then (!t) else false) (
.r (.ret 8)) (
.r (.cont ())))))
def S_q1j (a0_0:Int) (a0_1:Int) (a0_2:(List THe)) (a0_3:(List TEa)) (a0_4:(List TCo)) (a0_5:(List TRu)) (b:(List TLi)) (c:(List TBo)) (a:(List TBo)) (d:(List TAm)):SC Int Int :=
.guard [a.length<2 ^ 63]<|
.range (a.length:Int) a.length rfl (.why (.ev 0)) 9 [1,2,7,8] (fun (_:Unit)=>[]) (fun _=>[]) () (S_q1j_b1 a0_0 a0_1 a0_2 a0_3 a0_4 a0_5 b c a d) (fun _ => 
.r 0) id
def F_q1j (a0_0:Int) (a0_1:Int) (a0_2:(List THe)) (a0_3:(List TEa)) (a0_4:(List TCo)) (a0_5:(List TRu)) (a:(List TLi)) (b:(List TBo)) (c:(List TBo)) (d:(List TAm)):=(S_q1j a0_0 a0_1 a0_2 a0_3 a0_4 a0_5 a b c d).den
theorem F_q1j_ok {a0_0:Int} {a0_1:Int} {a0_2:(List THe)} {a0_3:(List TEa)} {a0_4:(List TCo)} {a0_5:(List TRu)} {b:(List TLi)} {c:(List TBo)} {a:(List TBo)} {f:(List TAm)}:FO (F_q1j a0_0 a0_1 a0_2 a0_3 a0_4 a0_5 b c a f) 52 [(AV.agg [(vi a0_0),(vi a0_1),(AV.d (eL THe.e a0_2)),(AV.ref 0 b.length 0 b.length),(AV.ref 1 c.length 0 c.length),(AV.ref 2 a.length 0 a.length),(AV.d (eL TEa.e a0_3)),(AV.d (eL TCo.e a0_4)),(AV.d (eL TRu.e a0_5)),(AV.ref 3 f.length 0 f.length)]),(AV.ref 2 a.length 0 a.length)] [(eS 3 TLi.e b),(eS 3 TBo.e c),(eS 3 TBo.e a),(eS 3 TAm.e f)] vi (fun _=>[(eS 3 TLi.e b),(eS 3 TBo.e c),(eS 3 TBo.e a),(eS 3 TAm.e f)]):=fO (s:=S_q1j a0_0 a0_1 a0_2 a0_3 a0_4 a0_5 b c a f) Tryz.func52
def S_q6_b1 (a0_0:Int) (a0_1:Int) (a0_2:(List THe)) (a0_3:(List TEa)) (a0_4:(List TCo)) (a0_5:(List TRu)) (m:(List TLi)) (n:(List TBo)) (o:(List TBo)) (p:(List TAm)) (b:Nat) (_:Unit):SC Int (Step Unit Int) :=
.reg 3 [] [] [.w b,.ev 0]<|
 let a:=(a0_3.getD b dF)
.call (@F_q13_ok a0_0 a0_1 a0_2 a0_3 a0_4 a0_5 a.Q m n o p) fun c e=>
.calld [(!c)=false] dF (@F_qs_ok a0_0 a0_1 a0_2 a0_3 a0_4 a0_5 a.B m n o p) fun k f =>
.reg 4 [] [(3,hc e [0,1,2,3] true),(9,hc f [0,1,2,3] true)] [.cl 2 e [0,1,2,3] 6 true,.clg 0 [(!c)=false] f [0,1,2,3] 6 true]<|
.ite (cO (!c) (!k)) (
.r (.ret 5)) (
.ite (cO (decide (a.R<0)) (decide (a.R>100))) (
.r (.ret 2)) (
.ite (decide ((b:Int)>0)) (
 let d:=(i64.wrap ((b:Int)-1))
.guard [(0:Int)<=d,d.toNat<a0_3.length]<|
.reg 9 [] [] [.ev 0,.ev 1]<|
 let g:=(a0_3.getD d.toNat dF)
.call (@F_qi_ok g.Q a.Q) fun h i=>
.call (@F_qi_ok g.B a.B) fun l j=>
.reg 10 [] [(4,hc i [] true),(9,hc j [] true)] [.cl 1 i [] 7 true,.cl 0 j [] 7 true]<|
.ite (cO (decide (h>0)) (bif (h==0) then (decide (l>=0)) else false)) (
.r (.ret 8)) (
.r (.cont ()))) (
.r (.cont ()))))
def S_q6_b2 (a0_3:(List TEa)) (g:R_q3) (h:Nat) (b:Nat) (d:Int):SC Int (Step Int Int) :=
.reg 20 [] [] [.w b,.ev 0]<|
 let e:=(a0_3.getD b dF)
.a 21 3 6 (@F_q2y_ok (g.getD h dF) e.Q) fun f=>
.ite f (
.r (.cont (i64.wrap (d+e.R)))) (
.c d)
def S_q6_b3 (a0_3:(List TEa)) (c:R_q3) (b:Nat) (_:Unit):SC Int (Step Unit Int) :=
.reg 16 [] [] [.w b,.ev 0]<|
.range (a0_3.length:Int) a0_3.length rfl (.slot 81) 83 [1,9,74,75,76,81,82] (fun (a:Int)=>[(10,(vi a))]) (fun _=>[]) 0 (S_q6_b2 a0_3 c b) (fun a => 
.ite (decide (a>100)) (
.r (.ret 13)) (
.r (.cont ()))) .ret
def S_q6 (a0_0:Int) (a0_1:Int) (a0_2:(List THe)) (a0_3:(List TEa)) (a0_4:(List TCo)) (a0_5:(List TRu)) (c:(List TLi)) (d:(List TBo)) (e:(List TBo)) (f:(List TAm)):SC Int Int :=
.range (a0_3.length:Int) a0_3.length rfl (.slot 14) 16 [1,14,15] (fun (_:Unit)=>[]) (fun _=>[]) () (S_q6_b1 a0_0 a0_1 a0_2 a0_3 a0_4 a0_5 c d e f) (fun _ => 
.a 14 2 5 (@F_q3_ok a0_2 ([])) fun b=>
.range (b.length:Int) b.length rfl (.slot 74) 76 [1,74,75] (fun (_:Unit)=>[]) (fun _=>[]) () (S_q6_b3 a0_3 b) (fun _ => 
.r 0) id) id
def F_q6 (a0_0:Int) (a0_1:Int) (a0_2:(List THe)) (a0_3:(List TEa)) (a0_4:(List TCo)) (a0_5:(List TRu)) (a:(List TLi)) (b:(List TBo)) (c:(List TBo)) (d:(List TAm)):=(S_q6 a0_0 a0_1 a0_2 a0_3 a0_4 a0_5 a b c d).den
theorem F_q6_ok {a0_0:Int} {a0_1:Int} {a0_2:(List THe)} {a0_3:(List TEa)} {a0_4:(List TCo)} {a0_5:(List TRu)} {a:(List TLi)} {b:(List TBo)} {c:(List TBo)} {f:(List TAm)}:FO (F_q6 a0_0 a0_1 a0_2 a0_3 a0_4 a0_5 a b c f) 53 [(AV.agg [(vi a0_0),(vi a0_1),(AV.d (eL THe.e a0_2)),(AV.ref 0 a.length 0 a.length),(AV.ref 1 b.length 0 b.length),(AV.ref 2 c.length 0 c.length),(AV.d (eL TEa.e a0_3)),(AV.d (eL TCo.e a0_4)),(AV.d (eL TRu.e a0_5)),(AV.ref 3 f.length 0 f.length)])] [(eS 3 TLi.e a),(eS 3 TBo.e b),(eS 3 TBo.e c),(eS 3 TAm.e f)] vi (fun _=>[(eS 3 TLi.e a),(eS 3 TBo.e b),(eS 3 TBo.e c),(eS 3 TAm.e f)]):=fO (s:=S_q6 a0_0 a0_1 a0_2 a0_3 a0_4 a0_5 a b c f) Tryz.func53
def S_q1k_b1 (a0_0:Int) (a0_1:Int) (a0_2:(List THe)) (a0_3:(List TEa)) (a0_4:(List TCo)) (a0_5:(List TRu)) (i:(List TLi)) (j:(List TBo)) (l:(List TBo)) (m:(List TAm)) (d:Nat) (_:Unit):SC Int (Step Unit Int) :=
.reg 3 [] [] [.w d,.ev 0]<|
 let a:=(a0_4.getD d dF)
.ite (cO (cO (bif (!(a.C==1)) then (!(a.C==2)) else false) (bif (a.C==1) then (cO (!(a.Q==([]))) (a.U != 0)) else false)) (bif (a.C==2) then (a.L != 0) else false)) (
.r (.ret 1)) (
.call (@F_qs_ok a0_0 a0_1 a0_2 a0_3 a0_4 a0_5 a.B i j l m) fun b e=>
.calld [(a.C==2)=true,(!b)=false] dF (@F_q13_ok a0_0 a0_1 a0_2 a0_3 a0_4 a0_5 a.Q i j l m) fun n f =>
.reg 7 [] [(3,hc e [0,1,2,3] true),(11,hc f [0,1,2,3] true)] [.cl 2 e [0,1,2,3] 6 true,.clg 0 [(a.C==2)=true,(!b)=false] f [0,1,2,3] 6 true]<|
.ite (cO (!b) (bif (a.C==2) then (!n) else false)) (
.r (.ret 5)) (
.call (@F_q2m_ok a0_0 a0_1 a0_2 a0_3 a0_4 a0_5 a.H i j l m) fun o p=>
.k 9 3 p [0,1,2,3] 6 true<|
.ite (!o) (
.r (.ret 16)) (
.call (@F_q1g_ok a.D) fun c g=>
.calld [(!c)=false] dF (@F_q1g_ok a.U) fun q h =>
.reg 11 [] [(2,hc g [] true),(7,hc h [] true)] [.cl 2 g [] 6 true,.clg 0 [(!c)=false] h [] 6 true]<|
.ite (cO (cO (cO (!c) (!q)) (decide (a.L<0))) (decide (a.L>35990))) (
.r (.ret 2)) (
.r (.cont ())))))
def S_q1k (a0_0:Int) (a0_1:Int) (a0_2:(List THe)) (a0_3:(List TEa)) (a0_4:(List TCo)) (a0_5:(List TRu)) (a:(List TLi)) (b:(List TBo)) (c:(List TBo)) (d:(List TAm)):SC Int Int :=
.range (a0_4.length:Int) a0_4.length rfl (.slot 8) 10 [1,8,9] (fun (_:Unit)=>[]) (fun _=>[]) () (S_q1k_b1 a0_0 a0_1 a0_2 a0_3 a0_4 a0_5 a b c d) (fun _ => 
.r 0) id
def F_q1k (a0_0:Int) (a0_1:Int) (a0_2:(List THe)) (a0_3:(List TEa)) (a0_4:(List TCo)) (a0_5:(List TRu)) (a:(List TLi)) (b:(List TBo)) (c:(List TBo)) (d:(List TAm)):=(S_q1k a0_0 a0_1 a0_2 a0_3 a0_4 a0_5 a b c d).den
theorem F_q1k_ok {a0_0:Int} {a0_1:Int} {a0_2:(List THe)} {a0_3:(List TEa)} {a0_4:(List TCo)} {a0_5:(List TRu)} {a:(List TLi)} {b:(List TBo)} {c:(List TBo)} {f:(List TAm)}:FO (F_q1k a0_0 a0_1 a0_2 a0_3 a0_4 a0_5 a b c f) 54 [(AV.agg [(vi a0_0),(vi a0_1),(AV.d (eL THe.e a0_2)),(AV.ref 0 a.length 0 a.length),(AV.ref 1 b.length 0 b.length),(AV.ref 2 c.length 0 c.length),(AV.d (eL TEa.e a0_3)),(AV.d (eL TCo.e a0_4)),(AV.d (eL TRu.e a0_5)),(AV.ref 3 f.length 0 f.length)])] [(eS 3 TLi.e a),(eS 3 TBo.e b),(eS 3 TBo.e c),(eS 3 TAm.e f)] vi (fun _=>[(eS 3 TLi.e a),(eS 3 TBo.e b),(eS 3 TBo.e c),(eS 3 TAm.e f)]):=fO (s:=S_q1k a0_0 a0_1 a0_2 a0_3 a0_4 a0_5 a b c f) Tryz.func54
def S_q1l_b1 (a0_0:Int) (a0_1:Int) (a0_2:(List THe)) (a0_3:(List TEa)) (a0_4:(List TCo)) (a0_5:(List TRu)) (i:(List TLi)) (j:(List TBo)) (k:(List TBo)) (l:(List TAm)) (b:Nat) (_:Unit):SC Int (Step Unit Int) :=
.reg 3 [] [] [.w b,.ev 0]<|
 let a:=(a0_5.getD b dF)
.ite (cO (cO (cO (decide (a.J<1)) (decide (a.J>1000000))) (decide (a.R<0))) (decide (a.R>100))) (
.r (.ret 2)) (
.call (@F_q13_ok a0_0 a0_1 a0_2 a0_3 a0_4 a0_5 a.T i j k l) fun c f=>
.calld [(!c)=false] dF (@F_q13_ok a0_0 a0_1 a0_2 a0_3 a0_4 a0_5 a.W i j k l) fun h g =>
.reg 6 [] [(3,hc f [0,1,2,3] true),(9,hc g [0,1,2,3] true)] [.cl 2 f [0,1,2,3] 6 true,.clg 0 [(!c)=false] g [0,1,2,3] 6 true]<|
.ite (cO (!c) (!h)) (
.r (.ret 5)) (
 let d:=(i64.wrap ((b:Int)-1))
 let e:=(decide ((b:Int)>0))
.guard [AllP [e=true]->((0:Int)<=d),AllP [e=true]->(d.toNat<a0_5.length)]<|
.reg 8 [] [] [.ev 0,.ev 1]<|
.ite (bif e then (decide (((a0_5.getD d.toNat dF).J)>=a.J)) else false) (
.r (.ret 8)) (
.r (.cont ()))))
def S_q1l (a0_0:Int) (a0_1:Int) (a0_2:(List THe)) (a0_3:(List TEa)) (a0_4:(List TCo)) (a0_5:(List TRu)) (a:(List TLi)) (b:(List TBo)) (c:(List TBo)) (d:(List TAm)):SC Int Int :=
.range (a0_5.length:Int) a0_5.length rfl (.slot 6) 8 [1,6,7] (fun (_:Unit)=>[]) (fun _=>[]) () (S_q1l_b1 a0_0 a0_1 a0_2 a0_3 a0_4 a0_5 a b c d) (fun _ => 
.r 0) id
def F_q1l (a0_0:Int) (a0_1:Int) (a0_2:(List THe)) (a0_3:(List TEa)) (a0_4:(List TCo)) (a0_5:(List TRu)) (a:(List TLi)) (b:(List TBo)) (c:(List TBo)) (d:(List TAm)):=(S_q1l a0_0 a0_1 a0_2 a0_3 a0_4 a0_5 a b c d).den
theorem F_q1l_ok {a0_0:Int} {a0_1:Int} {a0_2:(List THe)} {a0_3:(List TEa)} {a0_4:(List TCo)} {a0_5:(List TRu)} {a:(List TLi)} {b:(List TBo)} {c:(List TBo)} {f:(List TAm)}:FO (F_q1l a0_0 a0_1 a0_2 a0_3 a0_4 a0_5 a b c f) 55 [(AV.agg [(vi a0_0),(vi a0_1),(AV.d (eL THe.e a0_2)),(AV.ref 0 a.length 0 a.length),(AV.ref 1 b.length 0 b.length),(AV.ref 2 c.length 0 c.length),(AV.d (eL TEa.e a0_3)),(AV.d (eL TCo.e a0_4)),(AV.d (eL TRu.e a0_5)),(AV.ref 3 f.length 0 f.length)])] [(eS 3 TLi.e a),(eS 3 TBo.e b),(eS 3 TBo.e c),(eS 3 TAm.e f)] vi (fun _=>[(eS 3 TLi.e a),(eS 3 TBo.e b),(eS 3 TBo.e c),(eS 3 TAm.e f)]):=fO (s:=S_q1l a0_0 a0_1 a0_2 a0_3 a0_4 a0_5 a b c f) Tryz.func55
end
end Go.Proofs.YtgfgnhpecnmlpaaGreatDoor
