/- A part of the proof: what the functions compute, and that their calls return it. No condition. -/
import Derived.Test.YtljnmhapbonmfaaGreatDoorT5
import Derived.Lib.AppendZerosOnto
import Derived.Test.YtljnmhapbonmfaaGreatDoorProg
import Derived.Test.YtljnmhapbonmfaaGreatDoorT3
import Derived.Test.YtljnmhapbonmfaaGreatDoorG2
/- slices.Insert of one element, into rows of two kinds. No condition. -/
namespace Go.Proofs.YtljnmhapbonmfaaGreatDoor
namespace InsG
open Go Go.TA
open Go.IntKind (i64)
def cL:Code->Code
 | .seq x _=>x
 | _=>.skip
def cR:Code->Code
 | .seq _ y=>y
 | _=>.skip
def cT:Code->Code
 | .cond _ x _=>x
 | _=>.skip
noncomputable def regOps:Code->Array Oper
 | .region _ ops _=>ops
 | _=>#[]
noncomputable def opAt (ops : Array Oper) (i : Nat) : Oper := (ops[i]?).getD { dst := none, op := .move (.tmp 0), type := 0, pos := "", after := #[], guard := none }
noncomputable def ci (ff:Func):Code:=ff.body.getD .skip
section
variable (ff:Func)
noncomputable def R0:Code:=cL (ci ff)
noncomputable def R1:Code:=cL (cR (ci ff))
noncomputable def R2:Code:=cL (cR (cR (ci ff)))
noncomputable def X3:Code:=cL (cR (cR (cR (ci ff))))
noncomputable def R5:Code:=cL (cR (cR (cR (cR (ci ff)))))
noncomputable def X6:Code:=cL (cR (cR (cR (cR (cR (ci ff))))))
noncomputable def T8:Code:=cR (cR (cR (cR (cR (cR (ci ff))))))
noncomputable def R8:Code:=cL (cL (T8 ff))
noncomputable def B9:Code:=cT (cR (cL (T8 ff)))
noncomputable def R9:Code:=cL (B9 ff)
noncomputable def B10:Code:=cR (B9 ff)
noncomputable def C13:Code:=cR (T8 ff)
end
inductive PP:Func->Func->Nat->Nat->Nat->Nat->Nat->Nat->Prop
 | a:PP Tryz.f181 Tryz.f196 181 196 26 73 3 32
 | b:PP Tryz.f183 Tryz.f198 183 198 27 74 3 32
section
variable {ff fo:Func} {nf no tS tE sz bt:Nat}
theorem PP.fF (hp:PP ff fo nf no tS tE sz bt):Tryz.prog.funcs[nf]? = some ff:=by
 cases hp
 ·exact Tryz.func181
 ·exact Tryz.func183
theorem PP.fO (hp:PP ff fo nf no tS tE sz bt):Tryz.prog.funcs[no]? = some fo:=by
 cases hp
 ·exact Tryz.func196
 ·exact Tryz.func198
theorem PP.uS (hp:PP ff fo nf no tS tE sz bt):Tryz.prog.underlying tS=some (.slice tE):=by
 cases hp
 ·exact Tryz.underlying26
 ·exact Tryz.underlying27
theorem PP.zE (hp:PP ff fo nf no tS tE sz bt):∀ w,(Go.sizeOf tE).run Tryz.prog w = .ok sz w:=by
 cases hp
 ·exact Tryz.sizeOf73
 ·exact Tryz.sizeOf74
theorem zji (hp:PP ff fo nf no tS tE sz bt):ff.body=some (.seq (R0 ff) (.seq (R1 ff) (.seq (R2 ff) (.seq (.seq (cL (X3 ff)) (.cond (.tmp 16) (cT (cR (X3 ff))) .skip)) (.seq (R5 ff) (.seq (.seq (cL (X6 ff)) (.cond (.tmp 22) (cT (cR (X6 ff))) .skip)) (.seq (.seq (R8 ff) (.cond (.tmp 31) (.seq (R9 ff) (B10 ff)) .skip)) (C13 ff)))))))):=by cases hp <;> kernel_rfl
theorem zm4 (hp:PP ff fo nf no tS tE sz bt):(R8 ff) = .region 8 (regOps (R8 ff)) false:=by cases hp <;> kernel_rfl
theorem zm5 (hp:PP ff fo nf no tS tE sz bt):(R9 ff) = .region 9 (regOps (R9 ff)) false:=by cases hp <;> kernel_rfl
end
variable {i zn:Nat} {a:Act} {Q:Exit->Act->World->Prop} {X:Nat->Prop} {ms:Blocks} {w:World}
section
variable {α:Type} [Inhabited α] {e:α->DV} {ff fo:Func} {nf no tS tE sz bt:Nat}
def gB (sz:Nat) (e:α->DV) (l:List α) (i:Nat):Nat->AV:=fun j=>if j<i then .d (e (l.getD j dF)) else garb sz
noncomputable def sB (sz:Nat) (l:List α) (x:α) (i:Nat) (n1:(0:Int)<=i) (h1:i<=l.length+1) (w0:0<=i64.wrap ((i:Int)+1)) (w1:(i64.wrap ((i:Int)+1)).toNat<=l.length+1) (h2:i<=l.length)
  (hx:∀ k,k<1->(AV.d (e ([x].getD (0+k) dF))).wd=sz) (hl:∀ k,k<l.length-i->(AV.d (e (l.getD (0+i+k) dF))).wd=sz)
  (ho:OLe (.seq sz (l.length+1) fun j=>if 0+(i64.wrap ((i:Int)+1)).toNat<=j/\j<0+(i64.wrap ((i:Int)+1)).toNat+min (l.length-i) (l.length+1-(i64.wrap ((i:Int)+1)).toNat) then .d (e (l.getD (0+i+(j-(0+(i64.wrap ((i:Int)+1)).toNat))) dF))
   else if 0+i<=j/\j<0+i+min 1 (l.length+1-i) then .d (e ([x].getD (0+(j-(0+i))) dF)) else gB sz e l i j) (eS sz e (insL l i x))):SC Unit Unit :=
 .reg 10 [] [] [.pf n1,.pf h1,.pf (y2f (l.length+1)),.pf (y2f 1),.pf (y2f (l.length+1)),.pf hx] <|
 .reg 11 [8] [(8,{ obs:=[(2,eS sz e (insL l i x))] })] [.pf w0,.pf w1,.pf (y2f (l.length+1)),.pf n1,.pf h2,.pf (y2f l.length),.pf (y2f l.length),.pf (y2f (l.length+1)),.pf hl,.pf ho] <|
 .ret [] ()
def frI (n i:Nat) (s:AV):Fr:=[(7,.d (.i .i64 1)),(8,.d (.i .i64 (n:Int))),(2,.ref 1 1 0 1),(1,.d (.i .i64 (i:Int))),(0,s)]
theorem tailB (hp:PP ff fo nf no tS tE sz bt) (he:∀ x,(e x).wd=sz) {l:List α} {x:α} (hi:i<l.length) (hl:l.length<100000000000000) :
  AW none Tryz.prog ff.ntmps (B10 ff) (fun e1 fr L=>e1 = .ret/\FR Tryz.prog ff (.ref 2 (l.length+1) 0 (l.length+1)) [eS sz e l,eS sz e [x],eS sz e (insL l i x)] fr L)
   ((9,.ref 2 (l.length+1) 0 (l.length+1)) :: frI l.length i (.ref 0 l.length 0 l.length)) [eS sz e l,eS sz e [x],.seq sz (l.length+1) (gB sz e l i)]:=by
 have hw:i64.wrap ((i:Int)+1)=(i:Int)+1:=by rw[z2m] <;> omega
 exact pTailR (ρ:=Unit) (V:=fun _=>.ref 2 (l.length+1) 0 (l.length+1)) (Lr:=fun _=>[eS sz e l,eS sz e [x],eS sz e (insL l i x)]) (r:=())
  (s:=sB (e:=e) sz l x i om om (by rw[hw]; omega) (by rw[hw]; omega) om (fun k _=>he _) (fun k _=>he _) (by
   rw[hw]
   refine z3k z1u.symm fun j hj=>?_
   rw[z8t om,show ((i:Int)+1).toNat=i+1 from om]
   by_cases h1:j<i
   ·rw[y3 om,y3 om,y4 h1,gB,y4 h1]
   ·by_cases h2:j=i
    ·subst h2
     rw[y3 om,y4 om,y3 h1,y4 rfl,show 0+(j-(0+j))=0 from om]
     rfl
    ·rw[y4 om,y3 h1,y3 h2]
     congr 3; omega)) (by cases hp <;> kernel_rfl) rfl
def gC (sz:Nat) (e:α->DV) (l:List α):Nat->AV:=fun j=>if j<l.length then .d (e (l.getD j dF)) else garb sz
noncomputable def sC (sz no:Nat) (l:List α) (x:α) (i:Nat) (a:(0:Int)<=i64.wrap ((l.length:Int)+1)) (c:(i64.wrap ((l.length:Int)+1)).toNat<=l.length+1) (f:(i64.wrap ((l.length:Int)+1)).toNat=l.length+1)
  (w0:(0:Int)<=i64.wrap ((i:Int)+1)) (w1:(i64.wrap ((i:Int)+1)).toNat<=l.length+1) (n1:(0:Int)<=i) (h1:i<=l.length+1)
  (hx:ExtOk Tryz.prog no [.ref 1 1 0 1,.ref 0 (l.length+1) (0+(i64.wrap ((i:Int)+1)).toNat) (l.length+1-(i64.wrap ((i:Int)+1)).toNat)] [.seq sz (l.length+1) (gC sz e l),eS sz e [x]] (.d (.b false)))
  (hg:∀ k,k<l.length+1-i->(gC sz e l (0+i+k)).wd=sz) (hy:∀ k,k<1->(AV.d (e ([x].getD (0+k) dF))).wd=sz)
  (ho:OLe (.seq sz (l.length+1) fun j=>if 0+i<=j/\j<0+i+min 1 (l.length+1-i) then .d (e ([x].getD (0+(j-(0+i))) dF))
   else if 0+(i64.wrap ((i:Int)+1)).toNat<=j/\j<0+(i64.wrap ((i:Int)+1)).toNat+min (l.length+1-i) (l.length+1-(i64.wrap ((i:Int)+1)).toNat) then gC sz e l (0+i+(j-(0+(i64.wrap ((i:Int)+1)).toNat)))
   else gC sz e l j) (eS sz e (insL l i x))):SC Unit Unit :=
 .reg 13 [] [] [.pf a,.pf c,.pf (y2f (l.length+1))] <|
 .cst (A:=(i64.wrap ((l.length:Int)+1)).toNat=l.length+1) (.pf f) [(0,.ref 0 (l.length+1) (0+0) ((i64.wrap ((l.length:Int)+1)).toNat-0)),(1,.d (.i .i64 (i:Int))),(2,.ref 1 1 0 1),(7,.d (.i .i64 1))]
  [(0,.ref 0 (l.length+1) 0 (l.length+1)),(1,.d (.i .i64 (i:Int))),(2,.ref 1 1 0 1),(7,.d (.i .i64 1))]
  [.seq sz (l.length+1) (gC sz e l),eS sz e [x]] [.seq sz (l.length+1) (gC sz e l),eS sz e [x]] (fun h=>⟨by rw[h]; rfl,rfl⟩) <|
 .reg 14 [] [(6,{ h:=.callr (.d (.b false)) })] [.pf w0,.pf w1,.pf (y2f (l.length+1)),.pf hx] <|
 .br true (.pf (p:=(!false)=true) rfl) <|
 .reg 15 [8] [] [.pf w0,.pf w1,.pf (y2f (l.length+1)),.pf n1,.pf h1,.pf (y2f (l.length+1)),.pf (y2f (l.length+1)),.pf (y2f (l.length+1)),.pf hg] <|
 .reg 16 [] [(4,{ obs:=[(0,eS sz e (insL l i x))] })] [.pf n1,.pf h1,.pf (y2f (l.length+1)),.pf (y2f 1),.pf (y2f (l.length+1)),.pf hy,.pf ho] <|
 .reg 17 [] [] [] <|
 .ret [] ()
theorem tailC (hp:PP ff fo nf no tS tE sz bt) (he:∀ x,(e x).wd=sz) {l:List α} {x:α} (hi:i<l.length) (hl:l.length<100000000000000) :
  AW none Tryz.prog ff.ntmps (C13 ff) (FQ Tryz.prog ff (.ref 0 (l.length+1) 0 (l.length+1)) [eS sz e (insL l i x),eS sz e [x]])
   (frI l.length i (.ref 0 (l.length+1) 0 l.length)) [.seq sz (l.length+1) (gC sz e l),eS sz e [x]]:=by
 have hw:i64.wrap ((i:Int)+1)=(i:Int)+1:=by rw[z2m] <;> omega
 have hw2:i64.wrap ((l.length:Int)+1)=(l.length:Int)+1:=by rw[z2m] <;> omega
 have hwd:∀ k,(gC sz e l k).wd=sz:=fun k=>by
  unfold gC
  split
  ·exact he _
  ·cases hp <;> rfl
 exact pTailG (ρ:=Unit) (V:=fun _=>.ref 0 (l.length+1) 0 (l.length+1)) (Lr:=fun _=>[eS sz e (insL l i x),eS sz e [x]]) (r:=())
  (s:=sC (e:=e) sz no l x i (by rw[hw2]; omega) (by rw[hw2]; omega) (by rw[hw2]; omega) (by rw[hw]; omega) (by rw[hw]; omega) om om
   (zdt (fn:=fo) (tR:=4) (te:=tE) (sz:=sz) (z1:=sz) (z2:=sz) hp.fO (by cases hp <;> kernel_rfl) (by cases hp <;> kernel_rfl) (by cases hp <;> kernel_rfl) (by cases hp <;> kernel_rfl) hp.uS hp.zE (by cases hp <;> decide) rfl rfl dk rfl (by rw[hw]; omega) (by rw[hw]; omega) (by cases hp <;> decide))
   (fun k _=>hwd _) (fun k _=>he _) (by
   rw[hw]
   refine z3k z1u.symm fun j hj=>?_
   rw[z8t om,show ((i:Int)+1).toNat=i+1 from om]
   by_cases h2:j=i
   ·subst h2
    rw[y4 om,y3 om,y4 rfl,show 0+(j-(0+j))=0 from om]
    rfl
   ·rw[y3 om,y3 h2]
    by_cases h1:j<i
    ·rw[y3 om,y4 h1,gC,y4 om]
    ·rw[y4 om,y3 h1,gC,y4 om]
     congr 3; omega)) (by cases hp <;> kernel_rfl) rfl
theorem z44 {c:Cx} {G:GFr} {t:Nat} {v:AV} (hf:FrIs c G a.tmps) (h:(t,[],v)∈G):AV.IsV c v (a.tmps.getD t undef):=(hf _ h).2.1 (fun z hz=>by cases hz)
theorem zm6 (hp:PP ff fo nf no tS tE sz bt) {l:List α} {x:α} (h0:0<l.length) (hr:Rel X ms [eS sz e l,eS sz e [x]] w) (hf:FrIs (cxOf X ms [eS sz e l,eS sz e [x]] w) (frI l.length i (.ref 0 l.length 0 l.length)).up a.tmps) (hN:a.tmps.size=ff.ntmps) (hQ:∀ a' ms' w' b tc,Rel X ms' [eS sz e l,eS sz e [x]] w'->Ext ms w ms' w'->(cxOf X ms [eS sz e l,eS sz e [x]] w).le (cxOf X ms' [eS sz e l,eS sz e [x]] w')->FrIs (cxOf X ms' [eS sz e l,eS sz e [x]] w') (frI l.length i (.ref 0 l.length 0 l.length)).up a'.tmps ->
   a'.tmps.size=ff.ntmps->a'.defers=a.defers->ms'[0]? = some (some (b,tc))->l.length<=tc->a'.eval (.tmp 0) = .slice (some ⟨b,0,none⟩) l.length tc->a'.eval (.tmp 31) = .bool (decide (i64.wrap ((l.length:Int)+1)>(tc:Int)))->Q .normal a' w') :
  (R8 ff).wpIn (fenceOf none) zn Tryz.prog Q a w:=by
 rw[zm4 hp]
 refine y5g ?_
 rw[show List.range (regOps (R8 ff)).size=[0,1,2,3]++[4,5] by cases hp <;> kernel_rfl]
 refine zbh (hs:=[]) (C:=[]) (L1:=[eS sz e l,eS sz e [x]]) (G1:=[(29,[],.ref 0 l.length 0 l.length),(28,[],.d (.i .i64 (i64.wrap ((l.length:Int)+1)))),(27,[],.d (.i .i64 1)),(26,[],.d (.i .i64 (l.length:Int))),
  (7,[],.d (.i .i64 1)),(8,[],.d (.i .i64 (l.length:Int))),(2,[],.ref 1 1 0 1),(1,[],.d (.i .i64 (i:Int))),(0,[],.ref 0 l.length 0 l.length)]) (by cases hp <;> kernel_rfl) trivial hr hf hN fun f ms1 w1 r1 e1 c1 f1 n1 d1=>?_
 have k1:=IsV.is1 rfl sj sj (z44 f1 (t:=29) (v:=.ref 0 l.length 0 l.length) sj)
 have k0:=IsV.is1 rfl sj sj (z44 f1 (t:=0) (v:=.ref 0 l.length 0 l.length) sj)
 have at0:∀ {t:Nat} {v:Value},f.tmps.getD t undef=v->AV.Is (cxOf X ms1 [eS sz e l,eS sz e [x]] w1) (.ref 0 l.length 0 l.length) [v]->∃ b tc,ms1[0]? = some (some (b,tc))/\l.length<=tc/\v = .slice (some ⟨b,0,none⟩) l.length tc:=fun {t v} _ h=>by
  cases h with
  | ref _ _ _ _ _ h =>
  obtain⟨_,⟨_,_,rfl⟩,_,h⟩:=h
  obtain⟨_,h⟩:=h sz _ rfl
  rcases h with ⟨_,_,h⟩ | ⟨h,_⟩ | ⟨b,tc,m,h1,h2⟩
  ·simp only[y39] at h; omega
  ·exact absurd rfl h
  ·exact⟨b,tc,m,h1,by simpa using h2⟩
 obtain⟨b,tc,m1,hle,h29⟩:=at0 rfl k1
 obtain⟨b',tc',m1',_,h0'⟩:=at0 rfl k0
 have e1':=m1'.symm.trans m1
 cases e1'
 refine ze9 (o:=opAt (regOps (R8 ff)) 4) (by cases hp <;> kernel_rfl) (by cases hp <;> kernel_rfl) (OpOk.value (zka (x:=.tmp 29) (t:=tS) (by cases hp <;> kernel_rfl) hp.uS h29) ?_)
 rw[show (opAt (regOps (R8 ff)) 4).dst=some 30 by cases hp <;> kernel_rfl]
 obtain⟨g,j,k⟩:=z40 (dst:=some 30) (ch:=[]) (v:=.d (.i .i64 (tc:Int))) (u:=.int .i64 tc) (G:=[(29,[],.ref 0 l.length 0 l.length),(28,[],.d (.i .i64 (i64.wrap ((l.length:Int)+1)))),(27,[],.d (.i .i64 1)),(26,[],.d (.i .i64 (l.length:Int))),
  (7,[],.d (.i .i64 1)),(8,[],.d (.i .i64 (l.length:Int))),(2,[],.ref 1 1 0 1),(1,[],.d (.i .i64 (i:Int))),(0,[],.ref 0 l.length 0 l.length)]) (G1:=(30,[],.d (.i .i64 (tc:Int))) :: [(29,[],.ref 0 l.length 0 l.length),(28,[],.d (.i .i64 (i64.wrap ((l.length:Int)+1)))),(27,[],.d (.i .i64 1)),(26,[],.d (.i .i64 (l.length:Int))),
  (7,[],.d (.i .i64 1)),(8,[],.d (.i .i64 (l.length:Int))),(2,[],.ref 1 1 0 1),(1,[],.d (.i .i64 (i:Int))),(0,[],.ref 0 l.length 0 l.length)]) (N:=ff.ntmps) (by cases hp <;> kernel_rfl) n1 f1 (fun _=>.one _ _ rfl (.d _ _ (.i _ _))) (fun h=>absurd (fun z hz=>by cases hz) h)
 refine z24 (hs:=[]) none zn [5] _ _ ([(31,[],.d (.b (decide (i64.wrap ((l.length:Int)+1)>(tc:Int)))))]++(30,[],.d (.i .i64 (tc:Int))) :: [(29,[],.ref 0 l.length 0 l.length),(28,[],.d (.i .i64 (i64.wrap ((l.length:Int)+1)))),(27,[],.d (.i .i64 1)),(26,[],.d (.i .i64 (l.length:Int))),
  (7,[],.d (.i .i64 1)),(8,[],.d (.i .i64 (l.length:Int))),(2,[],.ref 1 1 0 1),(1,[],.d (.i .i64 (i:Int))),(0,[],.ref 0 l.length 0 l.length)]) [eS sz e l,eS sz e [x]] [] ms1 w1 _ (by cases hp <;> kernel_rfl) trivial r1 g j fun c ms2 w2 r2 e2 c2 f2 n2 d2=>?_
 have m2:ms2[0]? = some (some (b,tc)):=by
  obtain⟨_,h1,_,_,h2⟩:=c2.ob 0 (eS sz e l) (by simp[cxOf]) rfl (by simp[eS,Ob.stamp])
  obtain rfl:_=eS sz e l:=yx h1.symm
  exact (h2 rfl).trans m1
 have k0':=IsV.is1 rfl sj sj (z44 f2 (t:=0) (v:=.ref 0 l.length 0 l.length) sj)
 have h0'':c.tmps.getD 0 undef = .slice (some ⟨b,0,none⟩) l.length tc:=by
  generalize c.tmps.getD 0 undef=v at k0'
  cases k0' with
  | ref _ _ _ _ _ h =>
  obtain⟨_,⟨_,_,rfl⟩,_,h⟩:=h
  obtain⟨_,h⟩:=h sz _ rfl
  rcases h with ⟨_,_,h⟩ | ⟨h,_⟩ | ⟨b'',tc'',m,h1,h2⟩
  ·simp only[y39] at h; omega
  ·exact absurd rfl h
  ·have e:=m2.symm.trans m
   cases e
   simpa using h2
 exact hQ c ms2 w2 b tc r2 (e1.trans e2) (c1.trans c2) (fun q hq=>f2 q (by
  simp only[frI,Fr.up,y2c,List.map_nil,yn,y36,y4n] at hq
  rcases hq with rfl | rfl | rfl | rfl | rfl <;> simp)) n2 (d2.trans (k.trans d1)) m2 hle h0'' (IsV.b (z44 f2 (t:=31) (v:=.d (.b (decide (i64.wrap ((l.length:Int)+1)>(tc:Int))))) sj))
theorem zm7 (hp:PP ff fo nf no tS tE sz bt) {l:List α} {x:α} (hi:i<l.length) (hl:(l.length+1) * (4 * bt)<=2 ^ 48) {b:Nat} (hr:Rel X ms [eS sz e l,eS sz e [x]] w) (hf:FrIs (cxOf X ms [eS sz e l,eS sz e [x]] w) (frI l.length i (.ref 0 l.length 0 l.length)).up a.tmps) (hN:a.tmps.size=ff.ntmps) (hm:ms[0]? = some (some (b,l.length))) (hQ:∀ a' ms' w',Rel X ms' [eS sz e l,eS sz e [x],.seq sz (l.length+1) (gB sz e l i)] w'->Ext ms w ms' w'->(cxOf X ms [eS sz e l,eS sz e [x]] w).le (cxOf X ms' [eS sz e l,eS sz e [x],.seq sz (l.length+1) (gB sz e l i)] w') ->
   FrIs (cxOf X ms' [eS sz e l,eS sz e [x],.seq sz (l.length+1) (gB sz e l i)] w') (Fr.up ((9,.ref 2 (l.length+1) 0 (l.length+1)) :: frI l.length i (.ref 0 l.length 0 l.length))) a'.tmps ->
   a'.tmps.size=ff.ntmps->a'.defers=a.defers->Q .normal a' w') :
  (R9 ff).wpIn (fenceOf none) zn Tryz.prog Q a w:=by
 have hn:l.length<100000000000000:=by cases hp <;> omega
 have hw2:i64.wrap ((l.length:Int)+1)=(l.length:Int)+1:=by rw[z2m] <;> omega
 have hw3:i64.wrap (i64.wrap ((l.length:Int)+1)-(i:Int))=((l.length+1-i:Nat):Int):=by rw[hw2,z2m] <;> omega
 rw[zm5 hp]
 refine y5g ?_
 rw[show List.range (regOps (R9 ff)).size=[0,1,2,3,4,5,6,7]++[8,9] by cases hp <;> kernel_rfl]
 refine zbh (hs:=[]) (C:=[(0:Int)<=(i:Int),i<=l.length,l.length=l.length]) (L1:=[eS sz e l,eS sz e [x]]) (G1:=[(39,[],.d (.i .i64 (i64.wrap (i64.wrap ((l.length:Int)+1)-(i:Int))))),(38,[],.d (.i .i64 (i:Int))),(37,[],.d (.i .i64 (i64.wrap ((l.length:Int)+1)))),
  (36,[],.d (.i .i64 1)),(35,[],.d (.i .i64 (l.length:Int))),(34,[],.ref 0 l.length (0+0) (i-0)),(33,[],.d (.i .i64 (i:Int))),(32,[],.ref 0 l.length 0 l.length),
  (7,[],.d (.i .i64 1)),(8,[],.d (.i .i64 (l.length:Int))),(2,[],.ref 1 1 0 1),(1,[],.d (.i .i64 (i:Int))),(0,[],.ref 0 l.length 0 l.length)]) (by cases hp <;> kernel_rfl) ⟨om,om,rfl,trivial⟩ hr hf hN fun f ms1 w1 r1 e1 c1 f1 n1 d1=>?_
 have m1:ms1[0]? = some (some (b,l.length)):=by
  obtain⟨_,h1,_,_,h2⟩:=c1.ob 0 (eS sz e l) (by simp[cxOf]) rfl (by simp[eS,Ob.stamp])
  obtain rfl:_=eS sz e l:=yx h1.symm
  exact (h2 rfl).trans hm
 have k34:=IsV.is1 rfl sj sj (z44 f1 (t:=34) (v:=.ref 0 l.length (0+0) (i-0)) sj)
 have h34:f.eval (.tmp 34) = .slice (some ⟨b,0,none⟩) i l.length:=by
  show f.tmps.getD 34 undef=_
  generalize f.tmps.getD 34 undef=v at k34
  cases k34 with
  | ref _ _ _ _ _ h =>
  obtain⟨_,⟨_,_,rfl⟩,_,h⟩:=h
  obtain⟨_,h⟩:=h sz _ rfl
  rcases h with ⟨h,_⟩ | ⟨h,_⟩ | ⟨b'',tc'',m,h1,h2⟩
  ·have e:some (none:Option (Nat×Nat))=some (some (b,l.length)):=h.symm.trans m1
   cases e
  ·exact absurd rfl h
  ·have e:=m1.symm.trans m
   cases e
   simpa using h2
 have h39:f.eval (.tmp 39) = .int .i64 ((l.length+1-i:Nat):Int):=by
  have:=IsV.i (z44 f1 (t:=39) (v:=.d (.i .i64 (i64.wrap (i64.wrap ((l.length:Int)+1)-(i:Int))))) sj)
  rw[hw3] at this
  exact this
 obtain⟨arr,ty,cs,g1,g2,g3,g4,g5,g6⟩:=r1.seq (o:=0) rfl m1
 obtain⟨info,hinf⟩:∃ info,Tryz.prog.info? tE=some info:=⟨_,Option.eq_some_of_isSome (by cases hp <;> kernel_rfl)⟩
 have hsz:info.size=sz:=by
  have:(Tryz.prog.info? tE).map (·.size)=some sz:=by cases hp <;> kernel_rfl
  rw[hinf] at this; simpa using this
 have hby:info.bytes=bt:=by
  have:(Tryz.prog.info? tE).map (·.bytes)=some bt:=by cases hp <;> kernel_rfl
  rw[hinf] at this; simpa using this
 obtain⟨z,hz⟩:∃ z,info.zero=some z:=by
  have:((Tryz.prog.info? tE).bind (·.zero)).isSome=true:=by cases hp <;> kernel_rfl
  rw[hinf] at this
  exact y34.1 this
 have hzs:z.cells.size=sz:=by
  have:((Tryz.prog.info? tE).bind (·.zero)).map (fun z=>z.cells.size)=some sz:=by cases hp <;> kernel_rfl
  rw[hinf] at this
  simpa [hz] using this
 have hzone:∀ v∈z.cells.toList,v.oneCell'=true:=by
  have:((Tryz.prog.info? tE).bind (·.zero)).map (fun z=>z.cells.toList.all fun v=>v.oneCell')=some true:=by cases hp <;> kernel_rfl
  rw[hinf] at this
  have h:z.cells.toList.all (fun v=>v.oneCell')=true:=by simpa [hz] using this
  exact y1c.1 h
 have hcsi:∀ k,k<i->(cs k).length=sz:=fun k hk=>g5 k om
 have hold:(Builtin.firstCells info.size i (.slice (some ⟨b,0,none⟩) i l.length)).run Tryz.prog w1.drew = .ok ((List.range i).flatMap cs).toArray w1.drew:=by
  rw[hsz]
  exact z2u (w:=w1) (w1:=w1.drew) (off:=0) (cap:=l.length) rfl g1 hcsi (fun k hk j hj=>by simpa using g6 k om j hj) i
 have hfit:Builtin.nextslicecap (i+(l.length+1-i)) l.length * info.bytes<=281474976710656:=by
  have h1:=z5i (need:=i+(l.length+1-i)) (old:=l.length) om
  rw[hby]
  cases hp <;> omega
 have hap:=Lib.run_append_grow_zeros (P:=Tryz.prog) w1 tS 3 (opAt (regOps (R9 ff)) 8).type tE info z .i64 .i64 hp.uS Tryz.underlying3 hinf hz (some ⟨b,0,none⟩) i l.length ((List.range i).flatMap cs) hold (l.length+1-i) (by cases hp <;> omega) (by cases hp <;> omega) (by cases hp <;> omega) (by cases hp <;> omega) (by rw[hby]; cases hp <;> omega) hfit
 rw[show i+(l.length+1-i)=l.length+1 from om] at hap
 obtain⟨nc,hnc⟩:∃ nc,nc=grownCap w1 (l.length+1) l.length tE:=⟨_,rfl⟩
 have hge:=grownCap_ge w1 (l.length+1) l.length tE
 rw[<- hnc] at hap hge
 obtain⟨row,hrow⟩:∃ row:Array Value,row=((List.range i).flatMap cs).toArray++Builtin.zeroCells z.cells (l.length+1-i)++Builtin.zeroCells z.cells (nc-(l.length+1)):=⟨_,rfl⟩
 rw[<- hrow] at hap
 have hkl:=z7 i sz cs hcsi
 have hrs:row.size=nc * sz:=by
  rw[hrow,y3r,y3r,y29,hkl,y4q,y4q,hzs]
  cases hp <;> omega
 have hone:∀ v∈row.toList,v.oneCell'=true:=by
  rw[hrow]
  simp only[y3c,y12]
  rintro v ((hv | hv) | hv)
  ·exact z2a (fun k (hk:k<i)=>g4 k om) v hv
  ·exact z34 hzone _ v hv
  ·exact z34 hzone _ v hv
 have hget:∀ k,k<i->∀ j,j<sz->row[k * sz+j]? = (cs k)[j]? := fun k hk j hj=>by
  rw[hrow,<- y15]
  simp only[y3c,y1o]
  rw[yj (by rw[hkl]; cases hp <;> omega)]
  exact zd? i sz cs hcsi k j hk hj
 have hcl:∀ j,j<l.length+1->((row.toList.drop (j * sz)).take sz).length=sz:=fun j hj=>by
  simp only[y13,y1p,y1t,hrs]
  cases hp <;> omega
 obtain⟨w2,hw⟩:∃ w2,w2=w1.drew.alloc (.cells row tE):=⟨_,rfl⟩
 rw[<- hw] at hap
 have hgrow:Grow w1 w2:=by rw[hw]; exact (Grow.drew w1).trans (Grow.alloc _ _)
 have hhp:w2.heap[w1.heap.size]? = some (.cells row tE (0,0)):=by rw[hw]; exact z1z w1.drew _
 have hsize:w1.heap.size<w2.heap.size:=z3q hhp
 obtain⟨q1,q2,q3⟩:=r1.push (m:=some (w1.heap.size,nc)) (obj:=.seq sz (l.length+1) (gB sz e l i)) hgrow (fun b tc e=>by cases e; exact⟨y7 _,hsize⟩) (fun hcx=>by
  refine .inr ⟨w1.heap.size,nc,row,tE,fun j=>if j<i then cs j else (row.toList.drop (j * sz)).take sz,by simp[cxOf,<- r1.len],hhp,hge,⟨hrs,hone⟩,fun j hj=>?_,fun j hj=>?_,fun j hj q hq=>?_⟩
  ·by_cases hji:j<i
   ·simp only[gB,y4 hji]; exact (g4 j om).mono hcx
   ·simp only[gB,y3 hji,garb]
    have:=zai (c:=cxOf X (ms1++[some (w1.heap.size,nc)]) ([eS sz e l,eS sz e [x]]++[.seq sz (l.length+1) (gB sz e l i)]) w2) (l:=(row.toList.drop (j * sz)).take sz) fun v hv=>hone v (y38 (y1h hv))
    rw[hcl j hj] at this
    exact .agg _ _ this
  ·by_cases hji:j<i
   ·simp only[y4 hji]; exact g5 j om
   ·simp only[y3 hji]; exact hcl j hj
  ·by_cases hji:j<i
   ·simp only[y4 hji]; exact hget j hji q hq
   ·simp only[y3 hji]
    rw[y1j hq,y3n,y15])
 have hexec:(execOp f.eval (opAt (regOps (R9 ff)) 8)).run Tryz.prog w1 = .ok (.value (.slice (some ⟨w1.heap.size,0,none⟩) (l.length+1) nc)) w2:=by
  have hop:(opAt (regOps (R9 ff)) 8).op = .call ⟨.builtin .append,#[.tmp 34,.tmp 39],#[tS,3]⟩:=by cases hp <;> kernel_rfl
  generalize opAt (regOps (R9 ff)) 8=o at hop hap
  obtain⟨dst,op,ty,pos,after,guard⟩:=o
  subst hop
  refine zo (s:=Builtin.append_ #[tS,3] ty (#[.tmp 34,.tmp 39].map f.eval)) ?_
  have ha:(#[.tmp 34,.tmp 39]:Array Operand).map f.eval = #[.slice (some ⟨b,0,none⟩) i l.length,.int .i64 ((l.length+1-i:Nat):Int)]:=by
   simp[h34,h39]
  rw[ha]
  exact hap
 refine ze9 (o:=opAt (regOps (R9 ff)) 8) (by cases hp <;> kernel_rfl) (by cases hp <;> kernel_rfl) (OpOk.value hexec ?_)
 rw[show (opAt (regOps (R9 ff)) 8).dst=some 40 by cases hp <;> kernel_rfl]
 obtain⟨g,n,p⟩:=z40 (dst:=some 40) (ch:=[]) (v:=.ref 2 (l.length+1) 0 (l.length+1)) (u:=.slice (some ⟨w1.heap.size,0,none⟩) (l.length+1) nc) (G:=(frI l.length i (.ref 0 l.length 0 l.length)).up)
  (G1:=(40,[],.ref 2 (l.length+1) 0 (l.length+1)) :: (frI l.length i (.ref 0 l.length 0 l.length)).up) (N:=ff.ntmps) (by cases hp <;> kernel_rfl) n1 (fun q hq=>(f1.mono q3) q (by
  simp only[frI,Fr.up,y2c,List.map_nil,yn,y36,y4n] at hq
  rcases hq with rfl | rfl | rfl | rfl | rfl <;> simp)) (fun _=>z7u r1.len hge) (fun h=>absurd (fun z hz=>by cases hz) h)
 refine z24 (hs:=[]) none zn [9] _ _ ((9,[],.ref 2 (l.length+1) 0 (l.length+1)) :: (40,[],.ref 2 (l.length+1) 0 (l.length+1)) :: (frI l.length i (.ref 0 l.length 0 l.length)).up) [eS sz e l,eS sz e [x],.seq sz (l.length+1) (gB sz e l i)] [] _ w2 _ (by cases hp <;> kernel_rfl) trivial q1 g n fun r ms2 w3 r2 e2 c2 f2 n2 d2=>?_
 exact hQ r ms2 w3 r2 ((e1.trans q2).trans e2) ((c1.trans q3).trans c2) (fun q hq=>f2 q (by
  rcases yn.1 (show q∈(9,[],AV.ref 2 (l.length+1) 0 (l.length+1)) :: (frI l.length i (.ref 0 l.length 0 l.length)).up from hq) with hq | hq
  ·exact yn.2 (.inl hq)
  ·exact yn.2 (.inr (yn.2 (.inr hq))))) n2 (d2.trans (p.trans d1))
theorem regc {N:Nat} {Q:Post} {fr fr' fr2:Fr} {L L':List Ob} {id:Nat} {c:Code} {C:List Prop} (hq:c = .region id (regOps c) false) (h:regionRun Tryz.prog (regOps c) N [] fr L=some (fr',L',C)) (hc:AllP C)
  (hm:∀ q∈fr2,q∈fr') (k:Q .normal fr2 L'):AW none Tryz.prog N c Q fr L:=by
 have:=zkb (id:=id) (Q:=Q) h hc hm k
 rwa [<- hq] at this
theorem head (hp:PP ff fo nf no tS tE sz bt) (_he:∀ x,(e x).wd=sz) {l:List α} {x:α} (hi:i<l.length) (Q:Post) (h:AW none Tryz.prog ff.ntmps (.seq (.seq (R8 ff) (.cond (.tmp 31) (.seq (R9 ff) (B10 ff)) .skip)) (C13 ff)) Q (frI l.length i (.ref 0 l.length 0 l.length)) [eS sz e l,eS sz e [x]]) :
  AW none Tryz.prog ff.ntmps (.seq (R0 ff) (.seq (R1 ff) (.seq (R2 ff) (.seq (.seq (cL (X3 ff)) (.cond (.tmp 16) (cT (cR (X3 ff))) .skip)) (.seq (R5 ff) (.seq (.seq (cL (X6 ff)) (.cond (.tmp 22) (cT (cR (X6 ff))) .skip)) (.seq (.seq (R8 ff) (.cond (.tmp 31) (.seq (R9 ff) (B10 ff)) .skip)) (C13 ff)))))))) Q
   (argFr [.ref 0 l.length 0 l.length,.d (.i .i64 (i:Int)),.ref 1 1 0 1] 0) [eS sz e l,eS sz e [x]]:=by
 have hne:((i:Int)==(l.length:Int))=false:=sk
 refine z3u (regc (L':=[eS sz e l,eS sz e [x]]) (id:=0) (C:=[]) (fr':=(6,.full 0 fun _=>.b false) :: argFr [.ref 0 l.length 0 l.length,.d (.i .i64 (i:Int)),.ref 1 1 0 1] 0) (fr2:=argFr [.ref 0 l.length 0 l.length,.d (.i .i64 (i:Int)),.ref 1 1 0 1] 0)
  (by cases hp <;> kernel_rfl) (by cases hp <;> kernel_rfl) trivial (fun q hq=>yh _ hq) ?_)
 refine z3u (regc (L':=[eS sz e l,eS sz e [x]]) (id:=1) (C:=[(0:Int)<=(i:Int),i<=l.length,l.length=l.length]) (fr':=(12,.ref 0 l.length (0+i) (l.length-i)) :: (11,.d (.i .i64 (i:Int))) :: (10,.ref 0 l.length 0 l.length) :: argFr [.ref 0 l.length 0 l.length,.d (.i .i64 (i:Int)),.ref 1 1 0 1] 0)
  (fr2:=argFr [.ref 0 l.length 0 l.length,.d (.i .i64 (i:Int)),.ref 1 1 0 1] 0)
  (by cases hp <;> kernel_rfl) (by cases hp <;> kernel_rfl) ⟨om,om,rfl,trivial⟩ (fun q hq=>yh _ (yh _ (yh _ hq))) ?_)
 refine z3u (regc (L':=[eS sz e l,eS sz e [x]]) (id:=2) (C:=[]) (fr':=(7,.d (.i .i64 1)) :: (14,.d (.i .i64 1)) :: (13,.ref 1 1 0 1) :: argFr [.ref 0 l.length 0 l.length,.d (.i .i64 (i:Int)),.ref 1 1 0 1] 0)
  (fr2:=[(7,.d (.i .i64 1)),(2,.ref 1 1 0 1),(1,.d (.i .i64 (i:Int))),(0,.ref 0 l.length 0 l.length)])
  (by cases hp <;> kernel_rfl) (by cases hp <;> kernel_rfl) trivial (fun q hq=>by
   simp only[yn,y36,y4n] at hq
   simp only[argFr,yn,y36,y4n]
   rcases hq with rfl | rfl | rfl | rfl <;> simp) ?_)
 refine z3u (z3u (regc (L':=[eS sz e l,eS sz e [x]]) (id:=3) (C:=[]) (fr':=(16,.d (.b false)) :: (15,.d (.i .i64 1)) :: [(7,.d (.i .i64 1)),(2,.ref 1 1 0 1),(1,.d (.i .i64 (i:Int))),(0,.ref 0 l.length 0 l.length)])
  (fr2:=[(16,.d (.b false)),(7,.d (.i .i64 1)),(2,.ref 1 1 0 1),(1,.d (.i .i64 (i:Int))),(0,.ref 0 l.length 0 l.length)])
  (by cases hp <;> kernel_rfl) (by cases hp <;> kernel_rfl) trivial (fun q hq=>by
   simp only[yn,y36,y4n] at hq |-
   rcases hq with rfl | rfl | rfl | rfl | rfl <;> simp) ?_))
 refine z7v (b:=false) rfl (fun h=>by cases h) fun _=>za8 ?_
 refine z3u (regc (L':=[eS sz e l,eS sz e [x]]) (id:=5) (C:=[]) (fr':=(8,.d (.i .i64 (l.length:Int))) :: (19,.d (.i .i64 (l.length:Int))) :: (18,.ref 0 l.length 0 l.length) :: [(16,.d (.b false)),(7,.d (.i .i64 1)),(2,.ref 1 1 0 1),(1,.d (.i .i64 (i:Int))),(0,.ref 0 l.length 0 l.length)])
  (fr2:=frI l.length i (.ref 0 l.length 0 l.length))
  (by cases hp <;> kernel_rfl) (by cases hp <;> kernel_rfl) trivial (fun q hq=>by
   simp only[frI,yn,y36,y4n] at hq |-
   rcases hq with rfl | rfl | rfl | rfl | rfl <;> simp) ?_)
 refine z3u (z3u (regc (L':=[eS sz e l,eS sz e [x]]) (id:=6) (C:=[]) (fr':=(22,.d (.b ((i:Int)==(l.length:Int)))) :: (21,.d (.i .i64 (l.length:Int))) :: (20,.d (.i .i64 (i:Int))) :: frI l.length i (.ref 0 l.length 0 l.length))
  (fr2:=(22,.d (.b ((i:Int)==(l.length:Int)))) :: frI l.length i (.ref 0 l.length 0 l.length))
  (by cases hp <;> kernel_rfl) (by cases hp <;> kernel_rfl) trivial (fun q hq=>by
   rcases yn.1 hq with rfl | hq
   ·exact y16
   ·exact yh _ (yh _ (yh _ hq))) ?_))
 refine z7v (b:=((i:Int)==(l.length:Int))) rfl (fun h=>by rw[hne] at h; cases h) fun _=>za8 ?_
 exact zgn h fun q hq=>⟨q.2,yh _ hq,LeV.refl _⟩
theorem zm8 (hp:PP ff fo nf no tS tE sz bt) (he:∀ x,(e x).wd=sz) {l:List α} {x:α} (hi:i<l.length) (hl:(l.length+1) * (4 * bt)<=2 ^ 48) :
  AW none Tryz.prog ff.ntmps (.seq (.seq (R8 ff) (.cond (.tmp 31) (.seq (R9 ff) (B10 ff)) .skip)) (C13 ff))
   (fun e1 fr L=>FQ Tryz.prog ff (.ref 0 (l.length+1) 0 (l.length+1)) [eS sz e (insL l i x),eS sz e [x]] e1 fr L \/
    FQ Tryz.prog ff (.ref 2 (l.length+1) 0 (l.length+1)) [eS sz e l,eS sz e [x],eS sz e (insL l i x)] e1 fr L)
   (frI l.length i (.ref 0 l.length 0 l.length)) [eS sz e l,eS sz e [x]]:=by
 have hn:l.length<100000000000000:=by cases hp <;> omega
 have hw2:i64.wrap ((l.length:Int)+1)=(l.length:Int)+1:=by rw[z2m] <;> omega
 intro zn df X ms w a hr hf hN hd
 refine y4x (y4x (zm6 hp om hr hf hN fun c ms1 w1 b tc r1 e1 c1 f1 n1 d1 m1 hle h0e h31=>?_))
 by_cases hcap:l.length+1<=tc
 ·refine wpIn_cond_false (h31.trans (by rw[hw2]; simp; omega)) (wpIn_skip ?_)
  obtain⟨q1,q3⟩:=r1.room (o:=0) (n':=l.length+1) rfl m1 om hcap
  refine y2s (tailC hp he hi hn zn df X ms1 w1 c q1 (fun q hq=>?_) n1 (d1.trans hd)) ?_
  ·simp only[frI,Fr.up,y2c,List.map_nil,yn,y36,y4n] at hq
   have f1':=f1.mono q3
   rcases hq with rfl | rfl | rfl | rfl | rfl
   ·exact f1' _ (by simp[frI,Fr.up])
   ·exact f1' _ (by simp[frI,Fr.up])
   ·exact f1' _ (by simp[frI,Fr.up])
   ·exact f1' _ (by simp[frI,Fr.up])
   ·obtain⟨s1,s2,s3⟩:=f1 (0,[],.ref 0 l.length 0 l.length) (by simp[frI,Fr.up])
    refine⟨s1,fun _=>?_,s3⟩
    have h0e':c.tmps.getD 0 undef = .slice (some ⟨b,0,none⟩) l.length tc:=h0e
    rw[h0e']
    refine .one _ _ rfl (.ref _ _ _ _ _ ⟨by simp[cxOf],⟨_,_,rfl⟩,fun obj s ho hs=>?_,fun sz' f' hL'=>⟨om,.inr (.inr ⟨b,tc,m1,hcap,sj⟩)⟩⟩)
    obtain rfl:=yx ho
    simp[Ob.stamp] at hs; omega
  ·rintro e2 d w2 ⟨ms2,fr2,L2,hq,r2,e3,c3,f3,n3,d3⟩
   exact⟨ms2,fr2,L2,.inl hq,r2,e1.trans e3,(c1.trans q3).trans c3,f3,n3,d3⟩
 ·have htc:tc=l.length:=om
  subst htc
  refine wpIn_cond_true (h31.trans (by rw[hw2]; simp; omega)) (y4x (zm7 hp hi hl r1 f1 n1 m1 fun d ms2 w2 r2 e2 c2 f2 n2 d2=>?_))
  refine y2s (tailB hp he hi hn zn df X ms2 w2 d r2 f2 n2 ((d2.trans d1).trans hd)) ?_
  rintro e3 f w3 ⟨ms3,fr3,L3,⟨rfl,hq⟩,r3,e3,c3,f3,n3,d3⟩
  exact⟨ms3,fr3,L3,.inr ⟨.inr rfl,hq⟩,r3,(e1.trans e2).trans e3,(c1.trans c2).trans c3,f3,n3,d3⟩
theorem zli (hp:PP ff fo nf no tS tE sz bt) (he:∀ x,(e x).wd=sz) {l:List α} {x:α} (hi:i<l.length) (hl:(l.length+1) * (4 * bt)<=2 ^ 48) :
  CallOk Tryz.prog nf [.ref 0 l.length 0 l.length,.d (.i .i64 (i:Int)),.ref 1 1 0 1] [eS sz e l,eS sz e [x]] (.ref 0 (l.length+1) 0 (l.length+1)) [eS sz e (insL l i x),eS sz e [x]]:=by
 intro X ms w us hr hu
 have hlen:=z1u (l:=l) (i:=i) (x:=x)
 refine (ziq (L:=[eS sz e l,eS sz e [x]]) (v:=.ref 0 (l.length+1) 0 (l.length+1)) (v3:=.ref 2 (l.length+1) 0 (l.length+1)) hp.fF (zji hp) (y32 (by cases hp <;> kernel_rfl)) sj rfl (lsOk (n:=2) (L:=[eS sz e (insL l i x),eS sz e [x]]) ⟨fun _ _=>rfl,fun _ _=>rfl,trivial⟩)
  sj rfl (lsOk (n:=3) (L:=[eS sz e l,eS sz e [x],eS sz e (insL l i x)]) ⟨fun _ _=>rfl,fun _ _=>rfl,fun _ _=>rfl,trivial⟩) (head hp (x:=x) he hi _ (zm8 hp he hi hl)) hr hu).mono fun e1 w1 h=>?_
 rcases h with h | ⟨u,ms1,rfl,h1,h2,h3,h4⟩
 ·exact h
 ·rw[<- hlen] at h4 |-
  obtain⟨ms2,k1,k2,k3,k4⟩:=third hr hlen h1 h2 h3 h4
  exact⟨u,ms2,rfl,k1,k2,k3,k4⟩
noncomputable def sE (sz bt:Nat) (l:List α) (x:α) (a:(0:Int)<=(l.length:Int)) (b:l.length<=l.length) (c:((l.length:Int)==(l.length:Int))=true)
  (hx:∀ k,k<1->(AV.d (e ([x].getD k dF))).wd=sz) (hs:(l.length+1) * (2 * bt)<=2 ^ 48)
  (ho:OLe (.seq sz (l.length+1) (catF l.length (fun j=>.d (e (l.getD j dF))) (fun j=>.d (e ([x].getD j dF))))) (eS sz e (insL l l.length x))):SC Unit Unit :=
 .reg 0 [] [] [] <|
 .reg 1 [] [] [.pf a,.pf b,.pf (y2f l.length)] <|
 .reg 2 [] [] [] <|
 .reg 3 [] [] [] <|
 .br false (.pf (p:=((1:Int)==0)=false) dk) <|
 .reg 5 [] [] [] <|
 .reg 6 [] [] [] <|
 .br true (.pf c) <|
 .reg 7 [] [(2,{ obs:=[(0,eS sz e (insL l l.length x))] })] [.pf (y2f 1),.pf (y2f l.length),.pf (y2f l.length),.pf hx,.pf hs,.pf ho] <|
 .ret [] ()
set_option maxRecDepth 100000 in
theorem zlj (hp:PP ff fo nf no tS tE sz bt) (he:∀ x,(e x).wd=sz) {l:List α} {x:α} (hl:(l.length+1) * (4 * bt)<=2 ^ 48) :
  CallOk Tryz.prog nf [.ref 0 l.length 0 l.length,.d (.i .i64 (l.length:Int)),.ref 1 1 0 1] [eS sz e l,eS sz e [x]] (.ref 0 (l.length+1) 0 (l.length+1)) [eS sz e (insL l l.length x),eS sz e [x]] :=
 fOk (ρ:=Unit) (V:=fun _=>.ref 0 (l.length+1) 0 (l.length+1)) (Lr:=fun _=>[eS sz e (insL l l.length x),eS sz e [x]]) (r:=())
  (s:=sE (e:=e) sz bt l x om (y7 _) sj (fun k _=>he _) (by cases hp <;> omega) (by
   refine z3k z1u.symm fun j hj=>?_
   rw[z8t (y7 _)]
   by_cases h1:j<l.length
   ·rw[z1r h1,y4 h1]
   ·have h2:j=l.length:=om
    subst h2
    rw[z1w om,y3 om,y4 rfl,Nat.sub_self]
    rfl)) hp.fF (zji hp) (by cases hp <;> kernel_rfl) rfl
theorem ins_ok (hp:PP ff fo nf no tS tE sz bt) (he:∀ x,(e x).wd=sz) {l:List α} {x:α} (hi:i<=l.length) (hl:(l.length+1) * (4 * bt)<=2 ^ 48) :
  CallOk Tryz.prog nf [.ref 0 l.length 0 l.length,.d (.i .i64 (i:Int)),.ref 1 1 0 1] [eS sz e l,eS sz e [x]] (.ref 0 (insL l i x).length 0 (insL l i x).length) [eS sz e (insL l i x),eS sz e [x]]:=by
 rw[z1u]
 rcases yl i l.length with h | h
 ·exact zli hp he h hl
 ·obtain rfl:i=l.length:=om
  exact zlj hp he hl
end
end InsG
end Go.Proofs.YtljnmhapbonmfaaGreatDoor
/- The shapes of data. No condition. -/
namespace Go.Proofs.YtljnmhapbonmfaaGreatDoor
open Go Go.TA
open Go.IntKind (i64)
abbrev Z0:DV:=DV.sl 0 fun _=>DV.b false
structure TTape where
 l:(List Int)
 at_:Int
 deriving Inhabited
def TTape.e (x:TTape):DV:=.agg [(eL (DV.i .i64) x.l),(DV.i .i64 x.at_)]
abbrev TTape.d (x:TTape):AV:=AV.d (TTape.e x)
abbrev TTape.b (x:TTape):Ob:=bx (TTape.e x)
structure THe where
 B:Y8
 X:Y8
 deriving Inhabited
def THe.e (x:THe):DV:=.agg [(DV.str x.B),(DV.str x.X)]
abbrev THe.d (x:THe):AV:=AV.d (THe.e x)
abbrev THe.b (x:THe):Ob:=bx (THe.e x)
structure TLi where
 B:Y8
 D:Int
 C:Int
 deriving Inhabited
def TLi.e (x:TLi):DV:=.agg [(DV.str x.B),(DV.i .i64 x.D),(DV.i .i64 x.C)]
abbrev TLi.d (x:TLi):AV:=AV.d (TLi.e x)
abbrev TLi.b (x:TLi):Ob:=bx (TLi.e x)
structure TBo where
 B:Y8
 D:Int
 C:Int
 deriving Inhabited
def TBo.e (x:TBo):DV:=.agg [(DV.str x.B),(DV.i .i64 x.D),(DV.i .i64 x.C)]
abbrev TBo.d (x:TBo):AV:=AV.d (TBo.e x)
abbrev TBo.b (x:TBo):Ob:=bx (TBo.e x)
structure TEa where
 T:Y8
 B:Y8
 R:Int
 deriving Inhabited
def TEa.e (x:TEa):DV:=.agg [(DV.str x.T),(DV.str x.B),(DV.i .i64 x.R)]
abbrev TEa.d (x:TEa):AV:=AV.d (TEa.e x)
abbrev TEa.b (x:TEa):Ob:=bx (TEa.e x)
structure TCo where
 B:Y8
 D:Int
 C:Int
 N:Int
 H:Int
 T:Y8
 W:Int
 deriving Inhabited
def TCo.e (x:TCo):DV:=.agg [(DV.str x.B),(DV.i .i64 x.D),(DV.i .i64 x.C),(DV.i .i64 x.N),(DV.i .i64 x.H),(DV.str x.T),(DV.i .i64 x.W)]
abbrev TCo.d (x:TCo):AV:=AV.d (TCo.e x)
abbrev TCo.b (x:TCo):Ob:=bx (TCo.e x)
structure TRu where
 F:Int
 K:Y8
 V:Y8
 R:Int
 deriving Inhabited
def TRu.e (x:TRu):DV:=.agg [(DV.i .i64 x.F),(DV.str x.K),(DV.str x.V),(DV.i .i64 x.R)]
abbrev TRu.d (x:TRu):AV:=AV.d (TRu.e x)
abbrev TRu.b (x:TRu):Ob:=bx (TRu.e x)
structure TCh where
 N:Int
 B:Y8
 D:Int
 C:Int
 deriving Inhabited
def TCh.e (x:TCh):DV:=.agg [(DV.i .i64 x.N),(DV.str x.B),(DV.i .i64 x.D),(DV.i .i64 x.C)]
abbrev TCh.d (x:TCh):AV:=AV.d (TCh.e x)
abbrev TCh.b (x:TCh):Ob:=bx (TCh.e x)
structure TAm where
 H:Int
 F:Int
 M:(List TCh)
 deriving Inhabited
def TAm.e (x:TAm):DV:=.agg [(DV.i .i64 x.H),(DV.i .i64 x.F),(eL TCh.e x.M)]
abbrev TAm.d (x:TAm):AV:=AV.d (TAm.e x)
abbrev TAm.b (x:TAm):Ob:=bx (TAm.e x)
structure TLa where
 G:Int
 J:Int
 E:(List THe)
 P:(List TLi)
 S:(List TBo)
 U:(List TBo)
 L:(List TEa)
 O:(List TCo)
 I:(List TRu)
 A:(List TAm)
 deriving Inhabited
def TLa.e (x:TLa):DV:=.agg [(DV.i .i64 x.G),(DV.i .i64 x.J),(eL THe.e x.E),(eL TLi.e x.P),(eL TBo.e x.S),(eL TBo.e x.U),(eL TEa.e x.L),(eL TCo.e x.O),(eL TRu.e x.I),(eL TAm.e x.A)]
abbrev TLa.d (x:TLa):AV:=AV.d (TLa.e x)
abbrev TLa.b (x:TLa):Ob:=bx (TLa.e x)
structure TTr where
 F:Int
 H:Int
 D:Int
 Q:Int
 K:Y8
 V:Y8
 C:Int
 deriving Inhabited
def TTr.e (x:TTr):DV:=.agg [(DV.i .i64 x.F),(DV.i .i64 x.H),(DV.i .i64 x.D),(DV.i .i64 x.Q),(DV.str x.K),(DV.str x.V),(DV.i .i64 x.C)]
abbrev TTr.d (x:TTr):AV:=AV.d (TTr.e x)
abbrev TTr.b (x:TTr):Ob:=bx (TTr.e x)
structure TChe where
 law:TLa
 leaves:(List Y8)
 deriving Inhabited
def TChe.e (x:TChe):DV:=.agg [(TLa.e x.law),(eL DV.str x.leaves)]
abbrev TChe.d (x:TChe):AV:=AV.d (TChe.e x)
abbrev TChe.b (x:TChe):Ob:=bx (TChe.e x)
structure TPl where
 code:Y8
 year:Int
 deriving Inhabited
def TPl.e (x:TPl):DV:=.agg [(DV.str x.code),(DV.i .i64 x.year)]
abbrev TPl.d (x:TPl):AV:=AV.d (TPl.e x)
abbrev TPl.b (x:TPl):Ob:=bx (TPl.e x)
theorem zd2:∀ a b:Y8,eqD Tryz.prog 8 9 (DV.str a) (DV.str b)=some (a==b):=fun a b=>kj
end Go.Proofs.YtljnmhapbonmfaaGreatDoor
/- What the functions compute,and that their calls return it. No condition. -/
namespace Go.Proofs.YtljnmhapbonmfaaGreatDoor
open Go Go.TA
open Go.IntKind (i64)
noncomputable section
set_option maxRecDepth 100000
set_option maxHeartbeats 2000000
def S_q2r (b:(List Int)):SC TTape TTape :=
 let a:=(if 500<(b.length:Int) then 500 else (b.length:Int))
.guard [(0:Int)<=a,a.toNat<=b.length]<|
 let c:=(b.take a.toNat)
.reg 1 [] [(4,hv (vl c))] [.ev 0,.ev 1,.der (fun (h0:a.toNat<=b.length)=>lvT (DV.i .i64) b h0) 1]<|
.r (⟨c,0⟩:TTape)
def F_q2r (a:(List Int)):=(S_q2r a).den
theorem F_q2r_ok {a:(List Int)}:FO (F_q2r a) 7 [(vl a)] [] (fun _=>(vp 0)) (fun x=>[(TTape.b x)]):=fO (s:=S_q2r a) Tryz.func7
abbrev R_q1:=Int×TTape
def S_q1 (d:Int) (a:TTape):SC R_q1 R_q1 :=
.ite (decide (a.at_>=(a.l.length:Int))) (
.r (0,a)) (
.guard [(0:Int)<=a.at_,a.at_.toNat<a.l.length,(d:Int)≠0]<|
.reg 3 [] [] [.ev 0,.ev 1,.ev 2]<|
 let b:=((a.l.getD a.at_.toNat dF).tmod d)
 let c:=(⟨a.l,(i64.wrap (a.at_+1))⟩:TTape)
.ite (decide (b<0)) (
.r ((i64.wrap (b+d)),c)) (
.r (b,c)))
def F_q1 (a:Int) (b:TTape):=(S_q1 a b).den
theorem F_q1_ok {a:Int} {c:TTape}:FO (F_q1 a c) 12 [(vp 0),(vi a)] [(TTape.b c)] (fun x=>(vi x.1)) (fun x=>[(TTape.b x.2)]):=fO (s:=S_q1 a c) Tryz.func12
def S_q6 (a:(List Int)) (b:TTape):SC (Int×TTape) (Int×TTape) :=
.call (@F_q1_ok (a.length:Int) b) fun r3 c3=>
.guard [(0:Int)<=r3.1,r3.1.toNat<a.length]<|
.reg 1 [] [(4,hc c3 [0] false)] [.cl 2 c3 [0] 1 false,.ev 0,.ev 1]<|
.r ((a.getD r3.1.toNat dF),r3.2)
def F_q6 (a:(List Int)) (b:TTape):=(S_q6 a b).den
theorem F_q6_ok {a:(List Int)} {c:TTape}:FO (F_q6 a c) 25 [(vp 0),(vl a)] [(TTape.b c)] (fun x=>(vi x.1)) (fun x=>[(TTape.b x.2)]):=fO (s:=S_q6 a c) Tryz.func25
def S_qx (a:Int) (b:Int) (c:TTape):SC (Int×TTape) (Int×TTape) :=
.call (@F_q1_ok (i64.wrap ((i64.wrap (b-a))+1)) c) fun r6 c6=>
.reg 1 [] [(6,hc c6 [0] false)] [.cl 0 c6 [0] 1 false]<|
.r ((i64.wrap (a+r6.1)),r6.2)
def F_qx (a:Int) (b:Int) (c:TTape):=(S_qx a b c).den
theorem F_qx_ok {a:Int} {c:Int} {d:TTape}:FO (F_qx a c d) 10 [(vp 0),(vi a),(vi c)] [(TTape.b d)] (fun x=>(vi x.1)) (fun x=>[(TTape.b x.2)]):=fO (s:=S_qx a c d) Tryz.func10
theorem cz1:LeV (AV.full 0 fun _=>DV.b false) (vl ([])):=lvN (DV.i .i64)
abbrev R_qe:=(List Int)
def S_qe_b1 (f:Y8) (a:(List Int)×Int×Int×Int):SC R_qe (Step ((List Int)×Int×Int×Int) R_qe) :=
.ite (decide (a.2.2.2<=(f.length:Int))) (
 let g:=(a.2.2.2==(f.length:Int))
 let q:=(a.2.2.2.toNat<f.length)
.guard [AllP [g=false]->((0:Int)<=a.2.2.2),AllP [g=false]->q]<|
.reg 8 [] [] [.ev 0,.ev 1]<|
 let c:=((f.getD a.2.2.2.toNat 0).toNat:Int)
 let s:=(i64.wrap (a.2.2.2+1))
.ite (cO g (c==46)) (
 let j:=(cO (a.2.2.1==0) (decide (a.2.2.1>2)))
 let m:=(i64.wrap (a.2.2.2-a.2.2.1))
.guard [AllP [j=false]->((0:Int)<=m),AllP [j=false]->(m.toNat<f.length)]<|
.reg 9 [] [] [.ev 0,.ev 1]<|
.ite (cO j (((f.getD m.toNat 0).toNat:Int)==48)) (
.ret [.pf cz1] (.ret ([]))) (
.guard [(a.1.length+1) * (2 * 8)<=2 ^ 48]<|
 let b:=([a.2.1]:List Int)
.reg 11 [] [(2,hv (vl b)),(3,{ h:=.obj,cast:=some (AV.ref 0 ((a.1++b).length) 0 ((a.1++b).length)),obs:=[(0,(eS 1 (DV.i .i64) (a.1++b)))] })] [.pf (z5 (DV.i .i64) b),.e a.1.length,.e a.1.length,.pf (p:=∀ k,k<1->(AV.d ((DV.i .i64) (b.getD k dF))).wd=1) (fun _ _=>rfl),.ev 0,.pf (zh (o:=0) (l:=a.1) (x:=b)),.pf (zg (sz:=1) (e:=(DV.i .i64)) (l:=a.1) (x:=b))]<|
.r (.cont ((a.1++b),0,0,s)))) (
 let n:=(decide (c<48))
.guard [(0:Int)<=a.2.2.2,a.2.2.2.toNat<f.length,AllP [n=false]->((0:Int)<=a.2.2.2),AllP [n=false]->q]<|
.reg 13 [] [] [.ev 0,.ev 1,.ev 2,.ev 3]<|
.ite (cO n (decide (c>57))) (
.ret [.pf cz1] (.ret ([]))) (
.reg 15 [] [] [.ev 1,.ev 2]<|
.r (.cont (a.1,(i64.wrap ((i64.wrap (10 * a.2.1))+(i64.wrap (IntKind.u8.wrap (c-48))))),(i64.wrap (a.2.2.1+1)),s))))) (
.r (.brk (a.1,a.2.1,a.2.2.1,a.2.2.2)))
def S_qe (b:Y8):SC R_qe R_qe :=
.ite (decide ((b.length:Int)>12)) (
.ret [.pf cz1] ([])) (
.reg 5 [] [] []<|
.bor 1 (fun j=>AV.d ((DV.i .i64) (([]:List Int).getD j dF))) [3]<|
.iter [0] (fun (a:(List Int)×Int×Int×Int)=>[(3,(AV.ref 0 a.1.length 0 a.1.length)),(4,(vi a.2.1)),(5,(vi a.2.2.1)),(6,(vi a.2.2.2))]) (fun a=>[(0,(eS 1 (DV.i .i64) a.1))]) (([]:List Int),0,0,0) (S_qe_b1 b) (fun a =>
.ite (decide ((a.1.length:Int)>4)) (
.ret [.pf cz1] ([])) (
.guard [a.1.length<2 ^ 63]<|
.reg 18 [] [] []<|
.frz 0 (.ev 0) none [2] []<|
.r a.1)) id)
def F_qe (a:Y8):=(S_qe a).den
theorem F_qe_ok {a:Y8}:FO (F_qe a) 42 [(AV.d (DV.str a))] [] vl NL:=fO (s:=S_qe a) Tryz.func42
abbrev R_qy:=Y8
def S_qy_b1 (i:(List Int)) (a:Nat) (c:Y8):SC R_qy (Step Y8 R_qy) :=
.guard [(0+a)<i.length]<|
.reg 6 [] [] [.e i.length,.w a,.ev 1,.e i.length,.ev 0]<|
 let f:=(i.getD (0+a) dF)
.ite (cO (decide (f<1)) (decide (f>99))) (
.r (.ret ([]))) (
.cut none [5,9,10,11] (fun (b:Y8)=>[(3,(AV.d (DV.str b)))]) (fun _=>[]) (
.ite (decide ((a:Int)>0)) (
.guard [c.length+([46]).length<2 ^ 63]<|
.reg 10 [] [] [.ev 0]<|
.r (.next (c++([46])))) (
.r (.next c))) fun b=>
.call (@F_q4p_ok f) fun g h=>
.guard [b.length+g.length<2 ^ 63]<|
.reg 11 [] [(2,hc h [] true)] [.cl 1 h [] 1 true,.ev 0]<|
.r (.cont (b++g)))
def S_qy (b:(List Int)):SC R_qy R_qy :=
.ite (decide ((b.length:Int)>4)) (
.r ([])) (
.guard [b.length<2 ^ 63]<|
.range (b.length:Int) b.length rfl (.why (.ev 0)) 11 [9,10] (fun (a:Y8)=>[(3,(AV.d (DV.str a)))]) (fun _=>[]) ([]) (S_qy_b1 b) (fun a => 
.r a) id)
def F_qy (a:(List Int)):=(S_qy a).den
theorem F_qy_ok {a:(List Int)}:FO (F_qy a) 43 [(AV.ref 0 a.length 0 a.length)] [(eS 1 (DV.i .i64) a)] (fun x=>(AV.d (DV.str x))) (fun _=>[(eS 1 (DV.i .i64) a)]):=fO (s:=S_qy a) Tryz.func43
def S_qf_b1 (b:R_qe) (c:R_qe) (a:Int):SC Int (Step Int Int) :=
.ite (bif (decide (a<(b.length:Int))) then (decide (a<(c.length:Int))) else false) (
.guard [(0:Int)<=a,a.toNat<b.length,a.toNat<c.length]<|
.reg 15 [] [] [.ev 0,.ev 1,.ev 0,.ev 2]<|
 let d:=(b.getD a.toNat dF)
 let e:=(c.getD a.toNat dF)
.ite (decide (d<e)) (
.r (.ret (-1))) (
.reg 17 [] [] [.ev 1,.ev 2,.ev 1,.ev 3]<|
.ite (decide (d>e)) (
.r (.ret 1)) (
.r (.cont (i64.wrap (a+1)))))) (
.r (.brk a))
def S_qf (g:Y8) (h:Y8):SC Int Int :=
.call (@F_qe_ok g) fun c d=>
.call (@F_qe_ok h) fun e f=>
.reg 1 [] [(1,hc d [] true),(3,hc f [] true)] [.cl 1 d [] 0 true,.cl 0 f [] 0 true]<|
 let a:=(c.length:Int)
 let b:=(e.length:Int)
.ite (cO (a==0) (b==0)) (
.ite (decide (a>0)) (
.r 1) (
.ite (decide (b>0)) (
.r (-1)) (
.ite (Op.bytesLess g h) (
.r (-1)) (
.ite (!(Op.bytesLess g h||g==h)) (
.r 1) (
.r 0))))) (
.iter [5,6] (fun (i:Int)=>[(7,(vi i))]) (fun _=>[]) 0 (S_qf_b1 c e) (fun _ =>
.ite (decide (a<b)) (
.r (-1)) (
.ite (decide (a>b)) (
.r 1) (
.r 0))) id)
def F_qf (a:Y8) (b:Y8):=(S_qf a b).den
theorem F_qf_ok {a:Y8} {b:Y8}:FO (F_qf a b) 73 [(AV.d (DV.str a)),(AV.d (DV.str b))] [] vi NL:=fO (s:=S_qf a b) Tryz.func73
abbrev R_qk:=(List Y8)
def S_qk_b1 (m:(List Y8)) (n:Y8) (i:Nat) (c:(List Y8)×Bool):SC R_qk (Step ((List Y8)×Bool) R_qk) :=
.reg 5 [] [] [.w i,.ev 0]<|
.a 6 2 1 (@F_qf_ok n (m.getD i dF)) fun j=>
.ite (j==0) (
.r (.ret m)) (
.cut none [0,1,8,10,11,12] (fun (b:(List Y8)×Bool)=>[(5,(AV.ref 0 b.1.length 0 b.1.length)),(6,(vb b.2))]) (fun b=>[(0,(eS 1 DV.str b.1))]) (
.ite (bif (decide (j<0)) then (!c.2) else false) (
.guard [(c.1.length+1) * (2 * 16)<=2 ^ 48]<|
 let f:=([n]:List Y8)
.reg 10 [] [(2,hv (AV.d (eL DV.str f))),(3,{ h:=.obj,cast:=some (AV.ref 0 ((c.1++f).length) 0 ((c.1++f).length)),obs:=[(0,(eS 1 DV.str (c.1++f)))] })] [.pf (z5 DV.str f),.e c.1.length,.e c.1.length,.pf (p:=∀ k,k<1->(AV.d (DV.str (f.getD k dF))).wd=1) (fun _ _=>rfl),.ev 0,.pf (zh (o:=0) (l:=c.1) (x:=f)),.pf (zg (sz:=1) (e:=DV.str) (l:=c.1) (x:=f))]<|
.r (.next ((c.1++f),true))) (
.r (.next (c.1,c.2)))) fun b=>
.guard [(b.1.length+1) * (2 * 16)<=2 ^ 48]<|
 let g:=([(m.getD i dF)]:List Y8)
.reg 11 [] [(2,hv (AV.d (eL DV.str g))),(3,{ h:=.obj,cast:=some (AV.ref 0 ((b.1++g).length) 0 ((b.1++g).length)),obs:=[(0,(eS 1 DV.str (b.1++g)))] })] [.pf (z5 DV.str g),.e b.1.length,.e b.1.length,.pf (p:=∀ k,k<1->(AV.d (DV.str (g.getD k dF))).wd=1) (fun _ _=>rfl),.ev 0,.pf (zh (o:=0) (l:=b.1) (x:=g)),.pf (zg (sz:=1) (e:=DV.str) (l:=b.1) (x:=g))]<|
.r (.cont ((b.1++g),b.2)))
def S_qk (c:(List Y8)) (f:Y8):SC R_qk R_qk :=
.reg 3 [] [] []<|
.bor 1 (fun j=>AV.d (DV.str (([]:List Y8).getD j dF))) [5]<|
.range (c.length:Int) c.length rfl (.slot 0) 12 [0,1,10,11] (fun (a:(List Y8)×Bool)=>[(5,(AV.ref 0 a.1.length 0 a.1.length)),(6,(vb a.2))]) (fun a=>[(0,(eS 1 DV.str a.1))]) (([]:List Y8),false) (S_qk_b1 c f) (fun a => 
.ite (!a.2) (
.guard [(a.1.length+1) * (2 * 16)<=2 ^ 48]<|
 let b:=([f]:List Y8)
.reg 14 [] [(2,hv (AV.d (eL DV.str b))),(3,{ h:=.obj,cast:=some (AV.ref 0 ((a.1++b).length) 0 ((a.1++b).length)),obs:=[(0,(eS 1 DV.str (a.1++b)))] })] [.pf (z5 DV.str b),.e a.1.length,.e a.1.length,.pf (p:=∀ k,k<1->(AV.d (DV.str (b.getD k dF))).wd=1) (fun _ _=>rfl),.ev 0,.pf (zh (o:=0) (l:=a.1) (x:=b)),.pf (zg (sz:=1) (e:=DV.str) (l:=a.1) (x:=b))]<|
.guard [(a.1++b).length<2 ^ 63]<|
.reg 15 [] [] []<|
.frz 0 (.ev 0) none [4] []<|
.r (a.1++b)) (
.guard [a.1.length<2 ^ 63]<|
.reg 15 [] [] []<|
.frz 0 (.ev 0) none [4] []<|
.r a.1)) id
def F_qk (a:(List Y8)) (b:Y8):=(S_qk a b).den
theorem F_qk_ok {a:(List Y8)} {b:Y8}:FO (F_qk a b) 44 [(AV.d (eL DV.str a)),(AV.d (DV.str b))] [] (fun x=>(AV.d (eL DV.str x))) NL:=fO (s:=S_qk a b) Tryz.func44
abbrev R_q4:=(List THe)×TTape
def S_q4_b1 (c:TTape×(List Y8)×Int):SC R_q4 (Step (TTape×(List Y8)×Int) R_q4) :=
.ite (decide (c.2.2>0)) (
.call (@F_q1_ok (c.2.1.length:Int) c.1) fun g j=>
.call (@F_qe_ok (c.2.1.getD g.1.toNat dF)) fun b m=>
.guard [(0:Int)<=g.1,g.1.toNat<c.2.1.length]<|
.reg 5 [] [(4,hc j [0] false),(7,hc m [] true)] [.cl 3 j [0] 1 false,.ev 0,.ev 1,.cl 2 m [] 1 true]<|
 let n:=(i64.wrap (c.2.2-1))
.ite (decide ((b.length:Int)>=3)) (
.r (.cont (g.2,c.2.1,n))) (
.call (@F_q6_ok ([1,2,3,10]:List Int) g.2) fun q s=>
 let f:=([q.1]:List Int)
.call (@F_qy_ok (b++f)) fun u t=>
.guard [b.length * (2 * 8)<=2 ^ 48,(b.length+1) * (2 * 8)<=2 ^ 48]<|
.reg 7 [] [(2,{ h:=.obj }),(4,hv (vl ([1,2,3,10]:List Int))),(5,hc s [0] false),(6,hv (vl f)),(7,{ cast:=some (AV.ref 1 ((b++f).length) 0 ((b++f).length)),obs:=[(1,(eS 1 (DV.i .i64) (b++f)))] }),(8,hc t [1] true)] [.pf (p:=∀ k,k<b.length->(AV.d ((DV.i .i64) (b.getD k dF))).wd=1) (fun _ _=>rfl),.ev 0,.pf (z5 (DV.i .i64) ([1,2,3,10]:List Int)),.cl 3 s [0] 2 false,.pf (z5 (DV.i .i64) f),.e b.length,.e b.length,.pf (p:=∀ k,k<1->(AV.d ((DV.i .i64) (f.getD k dF))).wd=1) (fun _ _=>rfl),.ev 1,.pf (zh (o:=1) (l:=b) (x:=f)),.pf (zg (sz:=1) (e:=(DV.i .i64)) (l:=b) (x:=f)),.cl 2 t [1] 2 true]<|
.a 8 2 2 (@F_qk_ok c.2.1 u) fun v=>
.r (.cont (q.2,v,n)))) (
.r (.brk (c.1,c.2.1,c.2.2)))
def S_q4_b2 (a:TTape×(List Y8)×Int):SC R_q4 (Step (TTape×(List Y8)×Int) R_q4) :=
.ite (decide (a.2.2>0)) (
.call (@F_q1_ok 2 a.1) fun b c=>
.call (@F_qk_ok a.2.1 (([[57,46,49],[57,46,50]]:List Y8).getD b.1.toNat dF)) fun f e=>
.guard [(0:Int)<=b.1,b.1.toNat<2]<|
.reg 13 [] [(1,hv (AV.d (eL DV.str ([[57,46,49],[57,46,50]]:List Y8)))),(3,hc c [0] false),(6,hc e [] true)] [.pf (z5 DV.str ([[57,46,49],[57,46,50]]:List Y8)),.cl 3 c [0] 1 false,.ev 0,.ev 1,.cl 2 e [] 1 true]<|
.r (.cont (b.2,f,(i64.wrap (a.2.2-1))))) (
.r (.brk (a.1,a.2.1,a.2.2)))
def S_q4_b3 (m:TTape×(List Y8)×Int) (i:Nat) (a:TTape×(List THe)):SC R_q4 (Step (TTape×(List THe)) R_q4) :=
.reg 17 [] [] [.w i,.ev 0]<|
.call (@F_q1_ok 5 a.1) fun b j=>
.guard [(0:Int)<=b.1,b.1.toNat<5,(a.2.length+1) * (2 * 32)<=2 ^ 48]<|
 let f:=([(⟨(m.2.1.getD i dF),(([[115,99,104,111,111,108,115],[114,111,97,100,115],[99,111,117,114,116,32,111,102,32,97,117,100,105,116],[97],[116,97,120]]:List Y8).getD b.1.toNat dF)⟩:THe)]:List THe)
 let g:=(a.2++f)
.reg 18 [] [(2,hv (AV.d (eL DV.str ([[115,99,104,111,111,108,115],[114,111,97,100,115],[99,111,117,114,116,32,111,102,32,97,117,100,105,116],[97],[116,97,120]]:List Y8)))),(4,hc j [0] false),(8,hv (AV.d (eL THe.e f))),(9,{ h:=.obj,cast:=some (AV.ref 1 g.length 0 g.length),obs:=[(1,(eS 2 THe.e g))] })] [.pf (z5 DV.str ([[115,99,104,111,111,108,115],[114,111,97,100,115],[99,111,117,114,116,32,111,102,32,97,117,100,105,116],[97],[116,97,120]]:List Y8)),.cl 3 j [0] 2 false,.ev 0,.ev 1,.pf (z5 THe.e f),.e a.2.length,.e a.2.length,.pf (p:=∀ k,k<1->(THe.d (f.getD k dF)).wd=2) (fun _ _=>rfl),.ev 2,.pf (zh (o:=1) (l:=a.2) (x:=f)),.pf (zg (sz:=2) (e:=THe.e) (l:=a.2) (x:=f))]<|
.c (b.2,g)
def S_q4 (o:Int) (p:TTape):SC R_q4 R_q4 :=
.reg 1 [] [(0,hv (AV.d (eL DV.str ([[49],[50]]:List Y8))))] [.pf (z5 DV.str ([[49],[50]]:List Y8))]<|
.call (@F_q1_ok (i64.wrap (o+1)) p) fun h l=>
.k 2 3 l [0] 1 false<|
.iter [0] (fun (g:TTape×(List Y8)×Int)=>[(5,(AV.d (eL DV.str g.2.1))),(6,(vi g.2.2))]) (fun g=>[(0,(TTape.b g.1))]) (h.2,([[49],[50]]:List Y8),h.1) S_q4_b1 (fun g =>
.a 9 1 1 (@F_qk_ok g.2.1 ([57])) fun m=>
.call (@F_q1_ok 3 g.1) fun i n=>
.k 10 1 n [0] 1 false<|
.iter [0] (fun (f:TTape×(List Y8)×Int)=>[(5,(AV.d (eL DV.str f.2.1))),(9,(vi f.2.2))]) (fun f=>[(0,(TTape.b f.1))]) (i.2,m,i.1) S_q4_b2 (fun f =>
.reg 15 [] [] []<|
.bor 2 (fun j=>AV.d (THe.e (([]:List THe).getD j dF))) [10]<|
.range (f.2.1.length:Int) f.2.1.length rfl (.slot 60) 62 [0,60,61] (fun (c:TTape×(List THe))=>[(10,(AV.ref 1 c.2.length 0 c.2.length))]) (fun c=>[(0,(TTape.b c.1)),(1,(eS 2 THe.e c.2))]) (f.1,([]:List THe)) (S_q4_b3 f) (fun c => 
.guard [c.2.length<2 ^ 63]<|
.reg 20 [] [] []<|
.frz 1 (.ev 0) none [4] []<|
.r (c.2,c.1)) id) id) id
def F_q4 (a:Int) (b:TTape):=(S_q4 a b).den
theorem F_q4_ok {a:Int} {c:TTape}:FO (F_q4 a c) 26 [(vp 0),(vi a)] [(TTape.b c)] (fun x=>(AV.d (eL THe.e x.1))) (fun x=>[(TTape.b x.2)]):=fO (s:=S_q4 a c) Tryz.func26
def S_qc_b1 (g:Y8) (a:Int×Int×Int):SC Bool (Step (Int×Int×Int) Bool) :=
.ite (decide (a.2.2<(g.length:Int))) (
.guard [(0:Int)<=a.2.2,a.2.2.toNat<g.length]<|
.reg 6 [] [] [.ev 0,.ev 1]<|
 let b:=((g.getD a.2.2.toNat 0).toNat:Int)
 let e:=(i64.wrap (a.2.2+1))
.ite (b==46) (
.ite (a.1==0) (
.r (.ret false)) (
.r (.cont (0,(i64.wrap (a.2.1+1)),e)))) (
 let c:=(decide (b<48))
 let d:=(cO c (decide (b>57)))
 let f:=(a.2.2.toNat<g.length)
.guard [AllP [c=false]->((0:Int)<=a.2.2),AllP [c=false]->f,AllP [(a.1==0)=true,d=false]->((0:Int)<=a.2.2),AllP [(a.1==0)=true,d=false]->f]<|
.reg 11 [] [] [.ev 5,.ev 6,.ev 0,.ev 1,.ev 2,.ev 3]<|
.ite (cO (cO d (bif (a.1==0) then (b==48) else false)) (a.1==2)) (
.r (.ret false)) (
.r (.cont ((i64.wrap (a.1+1)),a.2.1,e))))) (
.r (.brk (a.1,a.2.1,a.2.2)))
def S_qc (b:Y8):SC Bool Bool :=
.iter [0] (fun (a:Int×Int×Int)=>[(3,(vi a.1)),(4,(vi a.2.1)),(5,(vi a.2.2))]) (fun _=>[]) (0,1,0) (S_qc_b1 b) (fun a =>
.r (bif (decide (a.1>0)) then (decide (a.2.1<=4)) else false)) id
def F_qc (a:Y8):=(S_qc a).den
theorem F_qc_ok {a:Y8}:FO (F_qc a) 40 [(AV.d (DV.str a))] [] vb NL:=fO (s:=S_qc a) Tryz.func40
def S_q1t (b:Y8) (c:Y8):SC Bool Bool :=
.call (@F_qc_ok b) fun d g=>
.calld [(!d)=false] dF (@F_qc_ok c) fun i h =>
 let a:=(c.length:Int)
 let e:=(cO (cO (!d) (!i)) (decide ((b.length:Int)<a)))
.guard [AllP [e=false]->(c.length<=b.length)]<|
.reg 1 [] [(1,hc g [] true),(5,hc h [] true)] [.cl 3 g [] 0 true,.clg 1 [(!d)=false] h [] 0 true,.pf (p:=AllP [e=false]->((0:Int)<=a)) (fun _=>(y4m _)),.ev 0]<|
.ite (cO e (!((b.take c.length)==c))) (
.r false) (
 let f:=((b.length:Int)==a)
.guard [AllP [f=false]->(c.length<b.length)]<|
.reg 3 [] [] [.pf (p:=AllP [f=false]->((0:Int)<=a)) (fun _=>(y4m _)),.ev 0]<|
.r (cO f (((b.getD c.length 0).toNat:Int)==46)))
def F_q1t (a:Y8) (b:Y8):=(S_q1t a b).den
theorem F_q1t_ok {a:Y8} {b:Y8}:FO (F_q1t a b) 21 [(AV.d (DV.str a)),(AV.d (DV.str b))] [] vb NL:=fO (s:=S_q1t a b) Tryz.func21
abbrev R_qg:=Y8
def S_qg_b1 (b:Y8) (a:Int):SC R_qg (Step Int R_qg) :=
.ite (decide (a>=0)) (
.guard [(0:Int)<=a,a.toNat<b.length]<|
.reg 6 [] [] [.ev 0,.ev 1]<|
.ite (((b.getD a.toNat 0).toNat:Int)==46) (
.guard [a.toNat<=b.length]<|
.reg 7 [] [] [.ev 2,.ev 0]<|
.r (.ret (b.take a.toNat))) (
.r (.cont (i64.wrap (a-1))))) (
.r (.brk a))
def S_qg (b:Y8):SC R_qg R_qg :=
.a 1 1 0 (@F_qc_ok b) fun c=>
.ite (!c) (
.r ([])) (
.iter [0] (fun (d:Int)=>[(3,(vi d))]) (fun _=>[]) (i64.wrap ((b.length:Int)-1)) (S_qg_b1 b) (fun _ =>
.r ([])) id)
def F_qg (a:Y8):=(S_qg a).den
theorem F_qg_ok {a:Y8}:FO (F_qg a) 45 [(AV.d (DV.str a))] [] (fun x=>(AV.d (DV.str x))) NL:=fO (s:=S_qg a) Tryz.func45
abbrev R_q2:=(List Y8)
def S_q2_b1 (g:(List THe)) (e:Nat) (b:Nat) (a:Bool):SC R_q2 (Step Bool R_q2) :=
.reg 9 [] [] [.w b,.ev 0]<|
.calld [a=true] dF (@F_qg_ok ((g.getD b dF).B)) fun f d =>
.reg 10 [] [(4,hc d [] true)] [.clg 0 [a=true] d [] 3 true]<|
.c (bif a then (!(f==((g.getD e dF).B))) else false)
def S_q2_b2 (q:(List THe)) (s:Y8) (f:Nat) (a:(List Y8)):SC R_q2 (Step ((List Y8)) R_q2) :=
.reg 4 [] [] [.w f,.ev 0]<|
 let g:=(q.getD f dF)
.call (@F_qc_ok g.B) fun i m=>
.calld [(!(s==([])))=true,(!i)=false] dF (@F_q1t_ok g.B s) fun t n =>
.reg 5 [] [(2,hc m [] true),(11,hc n [] true)] [.cl 2 m [] 2 true,.clg 0 [(!(s==([])))=true,(!i)=false] n [] 2 true]<|
.ite (cO (!i) (bif (!(s==([]))) then (!t) else false)) (
.c a) (
.range (q.length:Int) q.length rfl (.slot 0) 34 [0,1,5,7,11,12,13,32,33] (fun (j:Bool)=>[(8,(vb j))]) (fun _=>[]) true (S_q2_b1 q f) (fun j => 
.ite j (
.guard [(a.length+1) * (2 * 16)<=2 ^ 48]<|
 let b:=([g.B]:List Y8)
.reg 13 [] [(3,hv (AV.d (eL DV.str b))),(4,{ h:=.obj,cast:=some (AV.ref 0 ((a++b).length) 0 ((a++b).length)),obs:=[(0,(eS 1 DV.str (a++b)))] })] [.pf (z5 DV.str b),.e a.length,.e a.length,.pf (p:=∀ k,k<1->(AV.d (DV.str (b.getD k dF))).wd=1) (fun _ _=>rfl),.ev 0,.pf (zh (o:=0) (l:=a) (x:=b)),.pf (zg (sz:=1) (e:=DV.str) (l:=a) (x:=b))]<|
.r (.cont (a++b))) (
.c a)) .ret)
def S_q2 (b:(List THe)) (c:Y8):SC R_q2 R_q2 :=
.reg 2 [] [] []<|
.bor 1 (fun j=>AV.d (DV.str (([]:List Y8).getD j dF))) [5]<|
.range (b.length:Int) b.length rfl (.slot 0) 13 [0,1,11,12] (fun (a:(List Y8))=>[(5,(AV.ref 0 a.length 0 a.length))]) (fun a=>[(0,(eS 1 DV.str a))]) ([]:List Y8) (S_q2_b2 b c) (fun a => 
.guard [a.length<2 ^ 63]<|
.reg 15 [] [] []<|
.frz 0 (.ev 0) none [4] []<|
.r a) id
def F_q2 (a:(List THe)) (b:Y8):=(S_q2 a b).den
theorem F_q2_ok {a:(List THe)} {b:Y8}:FO (F_q2 a b) 27 [(AV.d (eL THe.e a)),(AV.d (DV.str b))] [] (fun x=>(AV.d (eL DV.str x))) NL:=fO (s:=S_q2 a b) Tryz.func27
abbrev R_qh:=(List Y8)
def S_qh_b1 (g:(List THe)) (e:Nat) (b:Nat) (a:Bool):SC R_qh (Step Bool R_qh) :=
.reg 9 [] [] [.w b,.ev 0]<|
.calld [a=true] dF (@F_qg_ok ((g.getD b dF).B)) fun f d =>
.reg 10 [] [(4,hc d [] true)] [.clg 0 [a=true] d [] 3 true]<|
.c (bif a then (!(f==((g.getD e dF).B))) else false)
def S_qh_b2 (q:(List THe)) (s:Y8) (f:Nat) (b:(List Y8)):SC R_qh (Step ((List Y8)) R_qh) :=
.reg 4 [] [] [.w f,.ev 0]<|
 let g:=(q.getD f dF)
.call (@F_qc_ok g.B) fun i m=>
.calld [(!(s==([])))=true,(!i)=false] dF (@F_q1t_ok g.B s) fun t n =>
.reg 5 [] [(2,hc m [] true),(11,hc n [] true)] [.cl 2 m [] 2 true,.clg 0 [(!(s==([])))=true,(!i)=false] n [] 2 true]<|
.ite (cO (!i) (bif (!(s==([]))) then (!t) else false)) (
.c b) (
.range (q.length:Int) q.length rfl (.slot 0) 34 [0,1,5,7,11,12,13,32,33] (fun (j:Bool)=>[(8,(vb j))]) (fun _=>[]) true (S_qh_b1 q f) (fun j => 
.ite j (
 let a:=([g.B]:List Y8)
.guard [(b.length+a.length) * (2 * 16)<=2 ^ 48]<|
.reg 13 [] [(3,{ h:=.obj,obs:=[(2,(eS 1 DV.str a))] }),(4,{ h:=.obj,cast:=some (AV.ref 0 ((b++a).length) 0 ((b++a).length)),obs:=[(0,(eS 1 DV.str (b++a)))] })] [.pf (z60 (sz:=1) (e:=DV.str) (l:=a)),.e a.length,.e b.length,.e b.length,.pf (p:=∀ k,k<a.length->(AV.d (DV.str (a.getD k dF))).wd=1) (fun _ _=>rfl),.ev 0,.pf (zh (o:=0) (l:=b) (x:=a)),.pf (zg (sz:=1) (e:=DV.str) (l:=b) (x:=a))]<|
.r (.cont (b++a))) (
.c b)) .ret)
def S_qh (b:(List THe)) (c:Y8):SC R_qh R_qh :=
.reg 2 [] [] []<|
.bor 1 (fun j=>AV.d (DV.str (([]:List Y8).getD j dF))) [5]<|
.range (b.length:Int) b.length rfl (.slot 0) 13 [0,1,11,12] (fun (a:(List Y8))=>[(5,(AV.ref 0 a.length 0 a.length))]) (fun a=>[(0,(eS 1 DV.str a))]) ([]:List Y8) (S_qh_b2 b c) (fun a => 
.r a) id
def F_qh (a:(List THe)) (b:Y8):=(S_qh a b).den
theorem F_qh_ok {a:(List THe)} {b:Y8}:FO (F_qh a b) 27 [(AV.d (eL THe.e a)),(AV.d (DV.str b))] [] (fun x=>(AV.ref 0 x.length 0 x.length)) (fun x=>[(eS 1 DV.str x)]):=fO (s:=S_qh a b) Tryz.func27
abbrev R_q2c:=Y8×TTape
def S_q2c (j:(List THe)) (m:TTape):SC R_q2c R_q2c :=
.call (@F_qh_ok j ([49])) fun a f=>
.call (@F_q2_ok j ([50])) fun b g=>
.guard [(a.length+b.length) * (2 * 16)<=2 ^ 48]<|
.reg 1 [] [(1,hc f [] false),(3,hc g [] true),(4,{ cast:=some (AV.ref 1 ((a++b).length) 0 ((a++b).length)),obs:=[(1,(eS 1 DV.str (a++b)))] })] [.cl 2 f [] 1 false,.cl 1 g [] 2 true,.e a.length,.e a.length,.pf (p:=∀ k,k<b.length->(AV.d (DV.str (b.getD k dF))).wd=1) (fun _ _=>rfl),.ev 0,.pf (zh (o:=1) (l:=a) (x:=b)),.pf (zg (sz:=1) (e:=DV.str) (l:=a) (x:=b))]<|
.guard [(a++b).length<2 ^ 63]<|
.frz 1 (.ev 0) none [5] []<|
 let h:=((a++b).length:Int)
.ite (h==0) (
.r ([49],m)) (
.call (@F_q1_ok h m) fun c i=>
.guard [(0:Int)<=c.1,c.1.toNat<(a++b).length]<|
.reg 4 [] [(4,hc i [0] false)] [.cl 2 i [0] 2 false,.ev 0,.ev 1]<|
.r (((a++b).getD c.1.toNat dF),c.2))
def F_q2c (a:(List THe)) (b:TTape):=(S_q2c a b).den
theorem F_q2c_ok {a:(List THe)} {c:TTape}:FO (F_q2c a c) 11 [(vp 0),(AV.d (eL THe.e a))] [(TTape.b c)] (fun x=>(AV.d (DV.str x.1))) (fun x=>[(TTape.b x.2)]):=fO (s:=S_q2c a c) Tryz.func11
end
end Go.Proofs.YtljnmhapbonmfaaGreatDoor
/- What the functions compute,and that their calls return it. No condition. -/
namespace Go.Proofs.YtljnmhapbonmfaaGreatDoor
open Go Go.TA
open Go.IntKind (i64)
noncomputable section
set_option maxRecDepth 100000
theorem cz2:OLe (bx (DV.agg [(DV.i .i64 0),(DV.i .i64 0),Z0,Z0,Z0,Z0,Z0,Z0,Z0,Z0])) (TLa.b (⟨0,0,[],[],[],[],[],[],[],[]⟩:TLa)):=z7y (DLe.agg (DLeL.cons (DLe.refl _) (DLeL.cons (DLe.refl _) (DLeL.cons DLe.sl0 (DLeL.cons DLe.sl0 (DLeL.cons DLe.sl0 (DLeL.cons DLe.sl0 (DLeL.cons DLe.sl0 (DLeL.cons DLe.sl0 (DLeL.cons DLe.sl0 (DLeL.cons DLe.sl0 DLeL.nil)))))))))))
abbrev R_q0:=TLa×TTape
def S_q0_b1 (n:R_q2) (q:Nat) (a:TTape×Int×Int×(List THe)×(List TAm)×(List TLi)×Int):SC R_q0 (Step (TTape×Int×Int×(List THe)×(List TAm)×(List TLi)×Int) R_q0) :=
.ite (decide (a.2.2.2.2.2.2<(i64.wrap (a.2.1+a.2.2.1)))) (
.call (@F_q1_ok 5000 a.1) fun g h=>
 let f:=([100,500,g.1]:List Int)
.call (@F_q6_ok f g.2) fun j m=>
.guard [(a.2.2.2.2.2.1.length+1) * (2 * 32)<=2 ^ 48]<|
 let b:=([(⟨(n.getD q dF),a.2.2.2.2.2.2,j.1⟩:TLi)]:List TLi)
 let c:=(a.2.2.2.2.2.1++b)
.reg 8 [6,8,11,13] [(6,hc h [0] false),(7,hv (vl f)),(8,hc m [0] false),(10,hv (AV.d (eL TLi.e b))),(11,{ cast:=some (AV.ref 3 c.length 0 c.length),obs:=[(3,(eS 3 TLi.e c))] })] [.cl 2 h [0] 9 false,.pf (z5 (DV.i .i64) f),.cl 1 m [0] 9 false,.pf (z5 TLi.e b),.e a.2.2.2.2.2.1.length,.e a.2.2.2.2.2.1.length,.pf (p:=∀ k,k<1->(TLi.d (b.getD k dF)).wd=3) (fun _ _=>rfl),.ev 0,.pf (zh (o:=3) (l:=a.2.2.2.2.2.1) (x:=b)),.pf (zg (sz:=3) (e:=TLi.e) (l:=a.2.2.2.2.2.1) (x:=b))]<|
.r (.cont (j.2,a.2.1,a.2.2.1,a.2.2.2.1,a.2.2.2.2.1,c,(i64.wrap (a.2.2.2.2.2.2+1))))) (
.r (.brk (a.1,a.2.1,a.2.2.1,a.2.2.2.1,a.2.2.2.2.1,a.2.2.2.2.2.1,a.2.2.2.2.2.2)))
def S_q0_b2 (g:R_q2) (f:Nat) (c:TTape×Int×Int×(List THe)×(List TAm)×(List TLi)):SC R_q0 (Step (TTape×Int×Int×(List THe)×(List TAm)×(List TLi)) R_q0) :=
.reg 4 [] [] [.w f,.ev 0]<|
.iter [0,2,3,5,24,25,26] (fun (a:TTape×Int×Int×(List THe)×(List TAm)×(List TLi)×Int)=>[(6,(vi a.2.2.2.2.2.2))]) (fun a=>[(0,(TTape.b a.1)),(2,(Ob.box (AV.agg [(vi a.2.1),(vi a.2.2.1),(AV.d (eL THe.e a.2.2.2.1)),(AV.ref 3 a.2.2.2.2.2.1.length 0 a.2.2.2.2.2.1.length),(AV.ref 6 0 0 0),(AV.ref 4 0 0 0),(AV.ref 8 0 0 0),(AV.ref 5 0 0 0),(AV.ref 7 0 0 0),(AV.d (eL TAm.e a.2.2.2.2.1))]))),(3,(eS 3 TLi.e a.2.2.2.2.2.1))]) (c.1,c.2.1,c.2.2.1,c.2.2.2.1,c.2.2.2.2.1,c.2.2.2.2.2,c.2.1) (S_q0_b1 g f) (fun a =>
.r (.cont (a.1,a.2.1,a.2.2.1,a.2.2.2.1,a.2.2.2.2.1,a.2.2.2.2.2.1))) .ret
def S_q0_b3 (a:TTape×Int×Int×(List THe)×(List TAm)×(List TRu)×Int):SC R_q0 (Step (TTape×Int×Int×(List THe)×(List TAm)×(List TRu)×Int) R_q0) :=
.ite (decide (a.2.2.2.2.2.2<4)) (
 let m:=(a.2.2.2.1.length:Int)
.call (@F_q1_ok m a.1) fun c n=>
.call (@F_q1_ok m c.2) fun f q=>
.call (@F_q6_ok ([10,50,100]:List Int) f.2) fun h j=>
.guard [(0:Int)<=c.1,c.1.toNat<a.2.2.2.1.length,(0:Int)<=f.1,f.1.toNat<a.2.2.2.1.length,(a.2.2.2.2.2.1.length+1) * (2 * 48)<=2 ^ 48]<|
 let b:=([(⟨a.2.2.2.2.2.2,(a.2.2.2.1.getD c.1.toNat dF).B,(a.2.2.2.1.getD f.1.toNat dF).B,h.1⟩:TRu)]:List TRu)
 let g:=(a.2.2.2.2.2.1++b)
.reg 13 [9,19,25,28,30] [(9,hc n [0] false),(19,hc q [0] false),(24,hv (vl ([10,50,100]:List Int))),(25,hc j [0] false),(27,hv (AV.d (eL TRu.e b))),(28,{ cast:=some (AV.ref 7 g.length 0 g.length),obs:=[(7,(eS 4 TRu.e g))] })] [.cl 7 n [0] 9 false,.ev 0,.ev 1,.ev 0,.ev 1,.ev 0,.ev 1,.cl 6 q [0] 9 false,.ev 2,.ev 3,.ev 2,.ev 3,.pf (z5 (DV.i .i64) ([10,50,100]:List Int)),.pf (z5 (DV.i .i64) ([10,50,100]:List Int)),.pf (z5 (DV.i .i64) ([10,50,100]:List Int)),.cl 5 j [0] 9 false,.pf (z5 TRu.e b),.e a.2.2.2.2.2.1.length,.e a.2.2.2.2.2.1.length,.pf (p:=∀ k,k<1->(TRu.d (b.getD k dF)).wd=4) (fun _ _=>rfl),.ev 4,.pf (zh (o:=7) (l:=a.2.2.2.2.2.1) (x:=b)),.pf (zg (sz:=4) (e:=TRu.e) (l:=a.2.2.2.2.2.1) (x:=b))]<|
.r (.cont (h.2,a.2.1,a.2.2.1,a.2.2.2.1,a.2.2.2.2.1,g,(i64.wrap (a.2.2.2.2.2.2+1))))) (
.r (.brk (a.1,a.2.1,a.2.2.1,a.2.2.2.1,a.2.2.2.2.1,a.2.2.2.2.2.1,a.2.2.2.2.2.2)))
def S_q0_b4 (G:TTape×Int×Int×(List THe)×(List TAm)×(List TLi)) (D:TTape×Int×Int×(List THe)×(List TAm)×(List TRu)×Int) (q:Nat) (a:TTape×Int×Int×(List THe)×(List TAm)×(List TBo)×(List TBo)):SC R_q0 (Step (TTape×Int×Int×(List THe)×(List TAm)×(List TBo)×(List TBo)) R_q0) :=
.reg 16 [] [] [.w q,.ev 0]<|
.call (@F_q1_ok 6 a.1) fun h H=>
.k 17 1 H [0] 10 false<|
 let I:=(D.2.2.2.1.getD q dF)
.cut none [0,2,3,9,90,91,92] (fun (_:TTape×Int×Int×(List THe)×(List TAm)×(List TBo))=>[]) (fun c=>[(0,(TTape.b c.1)),(2,(Ob.box (AV.agg [(vi c.2.1),(vi c.2.2.1),(AV.d (eL THe.e c.2.2.2.1)),(AV.ref 3 G.2.2.2.2.2.length 0 G.2.2.2.2.2.length),(AV.ref 6 c.2.2.2.2.2.length 0 c.2.2.2.2.2.length),(AV.ref 4 a.2.2.2.2.2.1.length 0 a.2.2.2.2.2.1.length),(AV.ref 8 0 0 0),(AV.ref 5 0 0 0),(AV.ref 7 D.2.2.2.2.2.1.length 0 D.2.2.2.2.2.1.length),(AV.d (eL TAm.e c.2.2.2.2.1))]))),(6,(eS 3 TBo.e c.2.2.2.2.2))]) (
.ite (h.1==5) (
 let E:=([(-1),a.2.1]:List Int)
.call (@F_q6_ok E h.2) fun s t=>
.call (@F_q6_ok ([600,3000,20000]:List Int) s.2) fun u v=>
.guard [(a.2.2.2.2.2.2.length+1) * (2 * 32)<=2 ^ 48]<|
 let f:=([(⟨I.B,s.1,u.1⟩:TBo)]:List TBo)
 let m:=(a.2.2.2.2.2.2++f)
.reg 18 [8,11,14,16] [(7,hv (vl E)),(8,hc t [0] false),(10,hv (vl ([600,3000,20000]:List Int))),(11,hc v [0] false),(13,hv (AV.d (eL TBo.e f))),(14,{ cast:=some (AV.ref 6 m.length 0 m.length),obs:=[(6,(eS 3 TBo.e m))] })] [.pf (z5 (DV.i .i64) E),.cl 2 t [0] 10 false,.pf (z5 (DV.i .i64) ([600,3000,20000]:List Int)),.pf (z5 (DV.i .i64) ([600,3000,20000]:List Int)),.cl 1 v [0] 10 false,.pf (z5 TBo.e f),.e a.2.2.2.2.2.2.length,.e a.2.2.2.2.2.2.length,.pf (p:=∀ k,k<1->(TBo.d (f.getD k dF)).wd=3) (fun _ _=>rfl),.ev 0,.pf (zh (o:=6) (l:=a.2.2.2.2.2.2) (x:=f)),.pf (zg (sz:=3) (e:=TBo.e) (l:=a.2.2.2.2.2.2) (x:=f))]<|
.r (.next (u.2,a.2.1,a.2.2.1,a.2.2.2.1,a.2.2.2.2.1,m))) (
.r (.next (h.2,a.2.1,a.2.2.1,a.2.2.2.1,a.2.2.2.2.1,a.2.2.2.2.2.2)))) fun c=>
.call (@F_q1_ok 8 c.1) fun j J=>
.k 19 1 J [0] 10 false<|
.ite (j.1==7) (
 let F:=([(-1),c.2.1]:List Int)
.call (@F_q6_ok F j.2) fun y z=>
.call (@F_q6_ok ([50,400]:List Int) y.2) fun A C=>
.guard [(a.2.2.2.2.2.1.length+1) * (2 * 32)<=2 ^ 48]<|
 let g:=([(⟨I.B,y.1,A.1⟩:TBo)]:List TBo)
 let n:=(a.2.2.2.2.2.1++g)
.reg 20 [8,11,14,16] [(7,hv (vl F)),(8,hc z [0] false),(10,hv (vl ([50,400]:List Int))),(11,hc C [0] false),(13,hv (AV.d (eL TBo.e g))),(14,{ cast:=some (AV.ref 4 n.length 0 n.length),obs:=[(4,(eS 3 TBo.e n))] })] [.pf (z5 (DV.i .i64) F),.cl 2 z [0] 10 false,.pf (z5 (DV.i .i64) ([50,400]:List Int)),.pf (z5 (DV.i .i64) ([50,400]:List Int)),.cl 1 C [0] 10 false,.pf (z5 TBo.e g),.e a.2.2.2.2.2.1.length,.e a.2.2.2.2.2.1.length,.pf (p:=∀ k,k<1->(TBo.d (g.getD k dF)).wd=3) (fun _ _=>rfl),.ev 0,.pf (zh (o:=4) (l:=a.2.2.2.2.2.1) (x:=g)),.pf (zg (sz:=3) (e:=TBo.e) (l:=a.2.2.2.2.2.1) (x:=g))]<|
.r (.cont (A.2,c.2.1,c.2.2.1,c.2.2.2.1,c.2.2.2.2.1,n,c.2.2.2.2.2))) (
.r (.cont (j.2,c.2.1,c.2.2.1,c.2.2.2.1,c.2.2.2.2.1,a.2.2.2.2.2.1,c.2.2.2.2.2)))
def S_q0_b5 (q:R_q2) (g:Nat) (a:TTape×Int×Int×(List THe)×(List TAm)×(List TEa)):SC R_q0 (Step (TTape×Int×Int×(List THe)×(List TAm)×(List TEa)) R_q0) :=
.reg 26 [] [] [.w g,.ev 0]<|
.call (@F_q1_ok 3 a.1) fun c s=>
.k 27 1 s [0] 9 false<|
.ite (decide (c.1>0)) (
.call (@F_q2c_ok a.2.2.2.1 c.2) fun h j=>
.call (@F_q6_ok ([10,33,50]:List Int) h.2) fun m n=>
.guard [(a.2.2.2.2.2.length+1) * (2 * 40)<=2 ^ 48]<|
 let b:=([(⟨(q.getD g dF),h.1,m.1⟩:TEa)]:List TEa)
 let f:=(a.2.2.2.2.2++b)
.reg 28 [6,9,12,14] [(6,hc j [0] false),(8,hv (vl ([10,33,50]:List Int))),(9,hc n [0] false),(11,hv (AV.d (eL TEa.e b))),(12,{ cast:=some (AV.ref 8 f.length 0 f.length),obs:=[(8,(eS 3 TEa.e f))] })] [.cl 2 j [0] 9 false,.pf (z5 (DV.i .i64) ([10,33,50]:List Int)),.pf (z5 (DV.i .i64) ([10,33,50]:List Int)),.cl 1 n [0] 9 false,.pf (z5 TEa.e b),.e a.2.2.2.2.2.length,.e a.2.2.2.2.2.length,.pf (p:=∀ k,k<1->(TEa.d (b.getD k dF)).wd=3) (fun _ _=>rfl),.ev 0,.pf (zh (o:=8) (l:=a.2.2.2.2.2) (x:=b)),.pf (zg (sz:=3) (e:=TEa.e) (l:=a.2.2.2.2.2) (x:=b))]<|
.r (.cont (m.2,a.2.1,a.2.2.1,a.2.2.2.1,a.2.2.2.2.1,f))) (
.r (.cont (c.2,a.2.1,a.2.2.1,a.2.2.2.1,a.2.2.2.2.1,a.2.2.2.2.2)))
def S_q0_b6 (F:TTape×Int×Int×(List THe)×(List TAm)×(List TLi)) (G:TTape×Int×Int×(List THe)×(List TAm)×(List TRu)×Int) (c:TTape×Int×Int×(List THe)×(List TAm)×(List TBo)×(List TBo)) (j:TTape×Int×Int×(List THe)×(List TAm)×(List TEa)) (a:TTape×Int×Int×(List THe)×(List TAm)×(List TCo)×Int):SC R_q0 (Step (TTape×Int×Int×(List THe)×(List TAm)×(List TCo)×Int) R_q0) :=
 let I:=(decide (a.2.2.2.2.2.2>0))
.ite I (
 let J:=(AV.agg [(vi a.2.1),(vi a.2.2.1),(AV.d (eL THe.e a.2.2.2.1)),(AV.ref 3 F.2.2.2.2.2.length 0 F.2.2.2.2.2.length),(AV.ref 6 c.2.2.2.2.2.2.length 0 c.2.2.2.2.2.2.length),(AV.ref 4 c.2.2.2.2.2.1.length 0 c.2.2.2.2.2.1.length),(AV.ref 8 j.2.2.2.2.2.length 0 j.2.2.2.2.2.length),(AV.ref 5 a.2.2.2.2.2.1.length 0 a.2.2.2.2.2.1.length),(AV.ref 7 G.2.2.2.2.2.1.length 0 G.2.2.2.2.2.1.length),(AV.d (eL TAm.e a.2.2.2.2.1))])
 let K:=[(0,(vp 0)),(2,(vp 1)),(3,(vp 2)),(12,(vi a.2.2.2.2.2.2)),(187,(vb I))]
 let L:=(TLa.b (⟨0,0,[],[],[],[],[],[],[],[]⟩:TLa))
 let M:=(eS 3 TBo.e c.2.2.2.2.2.1)
 let N:=(eS 7 TCo.e a.2.2.2.2.2.1)
 let O:=(eS 3 TBo.e c.2.2.2.2.2.2)
 let y:=(eS 4 TRu.e G.2.2.2.2.2.1)
 let z:=(eS 3 TEa.e j.2.2.2.2.2)
 let B:=(eS 3 TLi.e F.2.2.2.2.2)
.sh (H:=NoH) (A:=True) (.pf trivial) K K [(TTape.b a.1),L,(Ob.box J),B,M,N,O,y,z] [(TTape.b a.1),L,(Ob.box J),B,M,N,O,y,z,Ob.unb] (fun _=>z3j) (z2n _)<|
.call (@F_q2c_ok a.2.2.2.1 a.1) fun m n=>
.call (@F_q1_ok a.2.2.1 m.2) fun C q=>
.call (@F_q6_ok ([50,200]:List Int) C.2) fun s t=>
.call (@F_q1_ok 300 s.2) fun D u=>
.reg 33 [3,9,13,18,21,22] [(3,hc n [0] false),(9,hc q [0] false),(12,hv (vl ([50,200]:List Int))),(13,hc t [0] false),(18,hc u [0] false),(21,{ h:=.born 9 false })] [.cl 3 n [0] 10 false,.cl 3 n [0] 10 false,.cl 2 q [0] 10 false,.cl 2 q [0] 10 false,.pf (z5 (DV.i .i64) ([50,200]:List Int)),.pf (z5 (DV.i .i64) ([50,200]:List Int)),.pf (z5 (DV.i .i64) ([50,200]:List Int)),.pf (z5 (DV.i .i64) ([50,200]:List Int)),.pf (z5 (DV.i .i64) ([50,200]:List Int)),.pf (z5 (DV.i .i64) ([50,200]:List Int)),.cl 1 t [0] 10 false,.cl 1 t [0] 10 false,.cl 0 u [0] 10 false,.cl 0 u [0] 10 false]<|
.call (@F_q1_ok 2 D.2) fun v P=>
.k 34 1 P [0] 10 false<|
.cut none [0,2,3,12,13] (fun (_:TTape×TCo)=>[]) (fun f=>[(0,(TTape.b f.1)),(9,(TCo.b f.2))]) (
 let Q:=(i64.wrap (a.2.1+C.1))
.ite (v.1==0) (
.call (@F_q1_ok 1500 v.2) fun E R=>
.k 35 1 R [0] 10 false<|
.r (.next (E.2,(⟨m.1,Q,s.1,2,0,[57],E.1⟩:TCo)))) (
.r (.next (v.2,(⟨m.1,Q,s.1,1,(i64.wrap ((i64.wrap (360 * a.2.1))+D.1)),[],0⟩:TCo))))) fun f=>
.guard [(a.2.2.2.2.2.1.length+1) * (2 * 72)<=2 ^ 48]<|
 let g:=([f.2]:List TCo)
 let w:=(a.2.2.2.2.2.1++g)
.reg 36 [] [(3,hv (AV.d (eL TCo.e g))),(4,{ cast:=some (AV.ref 5 w.length 0 w.length),obs:=[(5,(eS 7 TCo.e w))] })] [.pf (z5 TCo.e g),.e a.2.2.2.2.2.1.length,.e a.2.2.2.2.2.1.length,.pf (p:=∀ k,k<1->(TCo.d (g.getD k dF)).wd=7) (fun _ _=>rfl),.ev 0,.pf (zh (o:=5) (l:=a.2.2.2.2.2.1) (x:=g)),.pf (zg (sz:=7) (e:=TCo.e) (l:=a.2.2.2.2.2.1) (x:=g))]<|
.r (.cont (f.1,a.2.1,a.2.2.1,a.2.2.2.1,a.2.2.2.2.1,w,(i64.wrap (a.2.2.2.2.2.2-1))))) (
.r (.brk (a.1,a.2.1,a.2.2.1,a.2.2.2.1,a.2.2.2.2.1,a.2.2.2.2.2.1,a.2.2.2.2.2.2)))
def S_q0 (p0:TTape):SC R_q0 R_q0 :=
 let D:=(TLa.b (⟨0,0,[],[],[],[],[],[],[],[]⟩:TLa))
.reg 0 [] [(0,{ obs:=[(1,D)] })] [.pf cz2]<|
.call (@F_q6_ok ([0,12]:List Int) p0) fun q Q=>
.call (@F_qx_ok 1 2 q.2) fun s R=>
.call (@F_q4_ok 5 s.2) fun E S=>
.reg 1 [] [(1,hv (vl ([0,12]:List Int))),(2,hc Q [0] false),(4,hc R [0] false),(6,hc S [0] false),(7,{ h:=.obj }),(8,{ h:=.obj })] [.pf (z5 (DV.i .i64) ([0,12]:List Int)),.cl 2 Q [0] 2 false,.cl 1 R [0] 2 false,.cl 0 S [0] 2 false]<|
 let n:=(AV.full 0 fun _=>DV.b false)
 let v:=[(0,(vp 0)),(2,(vp 1)),(3,(vp 2))]
 let z:=(AV.d (eL TAm.e ([]:List TAm)))
 let w:=(AV.d (eL THe.e E.1))
 let B:=(eS 3 TLi.e ([]:List TLi))
 let x:=(TTape.b E.2)
 let C:=(AV.ref 3 0 0 0)
 let ad:=[x,D,(Ob.box (AV.agg [(vi q.1),(vi s.1),w,C,n,n,n,n,n,z])),B]
.sh (A:=True) (.pf trivial) v v [x,D,(Ob.box (AV.agg [(vi q.1),(vi s.1),w,n,n,n,n,n,n,n]))] ad (fun _=>(z1o (sz:=3) (f:=fun j=>AV.d (TLi.e (([]:List TLi).getD j dF))) (.keep _ _ _ _ (ya rfl) (.keep _ _ _ _ (ya rfl) (.box _ _ _ _ _ (ya rfl) (TrV.agg (TrL.cons (TrV.keep _) (TrL.cons (TrV.keep _) (TrL.cons (TrV.keep _) (TrL.cons TrV.born (TrL.cons (TrV.keep _) (TrL.cons (TrV.keep _) (TrL.cons (TrV.keep _) (TrL.cons (TrV.keep _) (TrL.cons (TrV.keep _) (TrL.cons TrV.full TrL.nil))))))))))) (.nil _)))))) (z11 (k:=0) rfl (TrS.keep _) (z11 (k:=1) rfl (TrS.keep _) (z11 (k:=2) rfl (TrS.keep _) z22)))<|
 let u:=(eS 3 TBo.e ([]:List TBo))
 let y:=(AV.ref 4 0 0 0)
 let ae:=[x,D,(Ob.box (AV.agg [(vi q.1),(vi s.1),w,C,n,y,n,n,n,z])),B,u]
.sh (A:=True) (.pf trivial) v v ad ae (fun _=>(z1o (sz:=3) (f:=fun j=>AV.d (TBo.e (([]:List TBo).getD j dF))) (.keep _ _ _ _ (ya rfl) (.keep _ _ _ _ (ya rfl) (.box _ _ _ _ _ (ya rfl) (TrV.agg (TrL.cons (TrV.keep _) (TrL.cons (TrV.keep _) (TrL.cons (TrV.keep _) (TrL.cons (TrV.keep _) (TrL.cons (TrV.keep _) (TrL.cons TrV.born (TrL.cons (TrV.keep _) (TrL.cons (TrV.keep _) (TrL.cons (TrV.keep _) (TrL.cons (TrV.keep _) TrL.nil))))))))))) (.keep _ _ _ _ (ya rfl) (.nil _))))))) (z11 (k:=0) rfl (TrS.keep _) (z11 (k:=1) rfl (TrS.keep _) (z11 (k:=2) rfl (TrS.keep _) z22)))<|
 let t:=(AV.ref 5 0 0 0)
 let H:=(eS 7 TCo.e ([]:List TCo))
 let af:=[x,D,(Ob.box (AV.agg [(vi q.1),(vi s.1),w,C,n,y,n,t,n,z])),B,u,H]
.sh (A:=True) (.pf trivial) v v ae af (fun _=>(z1o (sz:=7) (f:=fun j=>AV.d (TCo.e (([]:List TCo).getD j dF))) (.keep _ _ _ _ (ya rfl) (.keep _ _ _ _ (ya rfl) (.box _ _ _ _ _ (ya rfl) (TrV.agg (TrL.cons (TrV.keep _) (TrL.cons (TrV.keep _) (TrL.cons (TrV.keep _) (TrL.cons (TrV.keep _) (TrL.cons (TrV.keep _) (TrL.cons (TrV.keep _) (TrL.cons (TrV.keep _) (TrL.cons TrV.born (TrL.cons (TrV.keep _) (TrL.cons (TrV.keep _) TrL.nil))))))))))) (.keep _ _ _ _ (ya rfl) (.keep _ _ _ _ (ya rfl) (.nil _)))))))) (z11 (k:=0) rfl (TrS.keep _) (z11 (k:=1) rfl (TrS.keep _) (z11 (k:=2) rfl (TrS.keep _) z22)))<|
 let F:=(AV.ref 6 0 0 0)
 let ag:=[x,D,(Ob.box (AV.agg [(vi q.1),(vi s.1),w,C,F,y,n,t,n,z])),B,u,H,u]
.sh (A:=True) (.pf trivial) v v af ag (fun _=>(z1o (sz:=3) (f:=fun j=>AV.d (TBo.e (([]:List TBo).getD j dF))) (.keep _ _ _ _ (ya rfl) (.keep _ _ _ _ (ya rfl) (.box _ _ _ _ _ (ya rfl) (TrV.agg (TrL.cons (TrV.keep _) (TrL.cons (TrV.keep _) (TrL.cons (TrV.keep _) (TrL.cons (TrV.keep _) (TrL.cons TrV.born (TrL.cons (TrV.keep _) (TrL.cons (TrV.keep _) (TrL.cons (TrV.keep _) (TrL.cons (TrV.keep _) (TrL.cons (TrV.keep _) TrL.nil))))))))))) (.keep _ _ _ _ (ya rfl) (.keep _ _ _ _ (ya rfl) (.keep _ _ _ _ (ya rfl) (.nil _))))))))) (z11 (k:=0) rfl (TrS.keep _) (z11 (k:=1) rfl (TrS.keep _) (z11 (k:=2) rfl (TrS.keep _) z22)))<|
 let J:=(AV.ref 7 0 0 0)
 let T:=(eS 4 TRu.e ([]:List TRu))
 let ah:=[x,D,(Ob.box (AV.agg [(vi q.1),(vi s.1),w,C,F,y,n,t,J,z])),B,u,H,u,T]
.sh (A:=True) (.pf trivial) v v ag ah (fun _=>(z1o (sz:=4) (f:=fun j=>AV.d (TRu.e (([]:List TRu).getD j dF))) (.keep _ _ _ _ (ya rfl) (.keep _ _ _ _ (ya rfl) (.box _ _ _ _ _ (ya rfl) (TrV.agg (TrL.cons (TrV.keep _) (TrL.cons (TrV.keep _) (TrL.cons (TrV.keep _) (TrL.cons (TrV.keep _) (TrL.cons (TrV.keep _) (TrL.cons (TrV.keep _) (TrL.cons (TrV.keep _) (TrL.cons (TrV.keep _) (TrL.cons TrV.born (TrL.cons (TrV.keep _) TrL.nil))))))))))) (.keep _ _ _ _ (ya rfl) (.keep _ _ _ _ (ya rfl) (.keep _ _ _ _ (ya rfl) (.keep _ _ _ _ (ya rfl) (.nil _)))))))))) (z11 (k:=0) rfl (TrS.keep _) (z11 (k:=1) rfl (TrS.keep _) (z11 (k:=2) rfl (TrS.keep _) z22)))<|
 let G:=(AV.ref 8 0 0 0)
.sh (A:=True) (.pf trivial) v v ah [x,D,(Ob.box (AV.agg [(vi q.1),(vi s.1),w,C,F,y,G,t,J,z])),B,u,H,u,T,(eS 3 TEa.e ([]:List TEa))] (fun _=>(z1o (sz:=3) (f:=fun j=>AV.d (TEa.e (([]:List TEa).getD j dF))) (.keep _ _ _ _ (ya rfl) (.keep _ _ _ _ (ya rfl) (.box _ _ _ _ _ (ya rfl) (TrV.agg (TrL.cons (TrV.keep _) (TrL.cons (TrV.keep _) (TrL.cons (TrV.keep _) (TrL.cons (TrV.keep _) (TrL.cons (TrV.keep _) (TrL.cons (TrV.keep _) (TrL.cons TrV.born (TrL.cons (TrV.keep _) (TrL.cons (TrV.keep _) (TrL.cons (TrV.keep _) TrL.nil))))))))))) (.keep _ _ _ _ (ya rfl) (.keep _ _ _ _ (ya rfl) (.keep _ _ _ _ (ya rfl) (.keep _ _ _ _ (ya rfl) (.keep _ _ _ _ (ya rfl) (.nil _))))))))))) (z11 (k:=0) rfl (TrS.keep _) (z11 (k:=1) rfl (TrS.keep _) (z11 (k:=2) rfl (TrS.keep _) z22)))<|
.a 2 2 9 (@F_q2_ok E.1 ([])) fun ab=>
.range (ab.length:Int) ab.length rfl (.slot 24) 26 [0,2,3,24,25] (fun (_:TTape×Int×Int×(List THe)×(List TAm)×(List TLi))=>[]) (fun o=>[(0,(TTape.b o.1)),(2,(Ob.box (AV.agg [(vi o.2.1),(vi o.2.2.1),(AV.d (eL THe.e o.2.2.2.1)),(AV.ref 3 o.2.2.2.2.2.length 0 o.2.2.2.2.2.length),F,y,G,t,J,(AV.d (eL TAm.e o.2.2.2.2.1))]))),(3,(eS 3 TLi.e o.2.2.2.2.2))]) (E.2,q.1,s.1,E.1,([]:List TAm),([]:List TLi)) (S_q0_b2 ab) (fun o => 
 let K:=(AV.ref 3 o.2.2.2.2.2.length 0 o.2.2.2.2.2.length)
.iter [0,2,3] (fun (m:TTape×Int×Int×(List THe)×(List TAm)×(List TRu)×Int)=>[(7,(vi m.2.2.2.2.2.2))]) (fun m=>[(0,(TTape.b m.1)),(2,(Ob.box (AV.agg [(vi m.2.1),(vi m.2.2.1),(AV.d (eL THe.e m.2.2.2.1)),K,F,y,G,t,(AV.ref 7 m.2.2.2.2.2.1.length 0 m.2.2.2.2.2.1.length),(AV.d (eL TAm.e m.2.2.2.2.1))]))),(7,(eS 4 TRu.e m.2.2.2.2.2.1))]) (o.1,o.2.1,o.2.2.1,o.2.2.2.1,o.2.2.2.2.1,([]:List TRu),1) S_q0_b3 (fun m =>
 let I:=(AV.ref 7 m.2.2.2.2.2.1.length 0 m.2.2.2.2.2.1.length)
.range (m.2.2.2.1.length:Int) m.2.2.2.1.length rfl (.slot 90) 92 [0,2,3,90,91] (fun (_:TTape×Int×Int×(List THe)×(List TAm)×(List TBo)×(List TBo))=>[]) (fun c=>[(0,(TTape.b c.1)),(2,(Ob.box (AV.agg [(vi c.2.1),(vi c.2.2.1),(AV.d (eL THe.e c.2.2.2.1)),K,(AV.ref 6 c.2.2.2.2.2.2.length 0 c.2.2.2.2.2.2.length),(AV.ref 4 c.2.2.2.2.2.1.length 0 c.2.2.2.2.2.1.length),G,t,I,(AV.d (eL TAm.e c.2.2.2.2.1))]))),(4,(eS 3 TBo.e c.2.2.2.2.2.1)),(6,(eS 3 TBo.e c.2.2.2.2.2.2))]) (m.1,m.2.1,m.2.2.1,m.2.2.2.1,m.2.2.2.2.1,([]:List TBo),([]:List TBo)) (S_q0_b4 o m) (fun c => 
.call (@F_q1_ok 2 c.1) fun L ai=>
.k 22 1 ai [0] 9 false<|
 let M:=(AV.ref 6 c.2.2.2.2.2.2.length 0 c.2.2.2.2.2.2.length)
 let N:=(AV.ref 4 c.2.2.2.2.2.1.length 0 c.2.2.2.2.2.1.length)
.cut none [0,2,3] (fun (_:TTape×Int×Int×(List THe)×(List TAm))=>[]) (fun p=>[(0,(TTape.b p.1)),(2,(Ob.box (AV.agg [(vi p.2.1),(vi p.2.2.1),(AV.d (eL THe.e p.2.2.2.1)),K,M,N,G,t,I,(AV.d (eL TAm.e p.2.2.2.2))])))]) (
.ite (L.1==0) (
.call (@F_q1_ok 200 L.2) fun U V=>
.call (@F_q2c_ok c.2.2.2.1 U.2) fun W X=>
.call (@F_q6_ok ([0,50,5000]:List Int) W.2) fun Y Z=>
 let O:=([(⟨1,W.1,c.2.1,Y.1⟩:TCh)]:List TCh)
 let ac:=([(⟨(i64.wrap ((i64.wrap (360 * c.2.1))+U.1)),1,O⟩:TAm)]:List TAm)
.reg 23 [4,9,14,20] [(4,hc V [0] false),(9,hc X [0] false),(13,hv (vl ([0,50,5000]:List Int))),(14,hc Z [0] false),(16,hv (AV.d (eL TCh.e O))),(18,hv (AV.d (eL TAm.e ac)))] [.cl 2 V [0] 9 false,.cl 1 X [0] 9 false,.pf (z5 (DV.i .i64) ([0,50,5000]:List Int)),.pf (z5 (DV.i .i64) ([0,50,5000]:List Int)),.pf (z5 (DV.i .i64) ([0,50,5000]:List Int)),.cl 0 Z [0] 9 false,.pf (z5 TCh.e O),.pf (z5 TAm.e ac)]<|
.r (.next (Y.2,c.2.1,c.2.2.1,c.2.2.2.1,ac))) (
.r (.next (L.2,c.2.1,c.2.2.1,c.2.2.2.1,c.2.2.2.2.1)))) fun p=>
.a 24 2 9 (@F_q2_ok p.2.2.2.1 ([57])) fun P=>
.range (P.length:Int) P.length rfl (.slot 160) 162 [0,2,3,160,161] (fun (_:TTape×Int×Int×(List THe)×(List TAm)×(List TEa))=>[]) (fun g=>[(0,(TTape.b g.1)),(2,(Ob.box (AV.agg [(vi g.2.1),(vi g.2.2.1),(AV.d (eL THe.e g.2.2.2.1)),K,M,N,(AV.ref 8 g.2.2.2.2.2.length 0 g.2.2.2.2.2.length),t,I,(AV.d (eL TAm.e g.2.2.2.2.1))]))),(8,(eS 3 TEa.e g.2.2.2.2.2))]) (p.1,p.2.1,p.2.2.1,p.2.2.2.1,p.2.2.2.2,([]:List TEa)) (S_q0_b5 P) (fun g => 
.call (@F_q1_ok 3 g.1) fun aa aj=>
.k 30 1 aj [0] 9 false<|
.iter [0,2,3] (fun (l:TTape×Int×Int×(List THe)×(List TAm)×(List TCo)×Int)=>[(12,(vi l.2.2.2.2.2.2))]) (fun l=>[(0,(TTape.b l.1)),(2,(Ob.box (AV.agg [(vi l.2.1),(vi l.2.2.1),(AV.d (eL THe.e l.2.2.2.1)),K,M,N,(AV.ref 8 g.2.2.2.2.2.length 0 g.2.2.2.2.2.length),(AV.ref 5 l.2.2.2.2.2.1.length 0 l.2.2.2.2.2.1.length),I,(AV.d (eL TAm.e l.2.2.2.2.1))]))),(5,(eS 7 TCo.e l.2.2.2.2.2.1))]) (aa.2,g.2.1,g.2.2.1,g.2.2.2.1,g.2.2.2.2.1,([]:List TCo),aa.1) (S_q0_b6 o m c g) (fun l =>
.guard [o.2.2.2.2.2.length<2 ^ 63]<|
.reg 37 [] [] []<|
.frz 3 (.ev 0) none [] [1,2]<|
.guard [c.2.2.2.2.2.2.length<2 ^ 63]<|
.frz 6 (.ev 0) none [] [1,2]<|
.guard [c.2.2.2.2.2.1.length<2 ^ 63]<|
.frz 4 (.ev 0) none [] [1,2]<|
.guard [g.2.2.2.2.2.length<2 ^ 63]<|
.frz 8 (.ev 0) none [] [1,2]<|
.guard [l.2.2.2.2.2.1.length<2 ^ 63]<|
.frz 5 (.ev 0) none [] [1,2]<|
.guard [m.2.2.2.2.2.1.length<2 ^ 63]<|
.frz 7 (.ev 0) none [] [1,2]<|
.r ((⟨l.2.1,l.2.2.1,l.2.2.2.1,o.2.2.2.2.2,c.2.2.2.2.2.2,c.2.2.2.2.2.1,g.2.2.2.2.2,l.2.2.2.2.2.1,m.2.2.2.2.2.1,l.2.2.2.2.1⟩:TLa),l.1)) id) id) id) id) id
def F_q0 (a:TTape):=(S_q0 a).den
theorem F_q0_ok {a:TTape}:FO (F_q0 a) 8 [(vp 0)] [(TTape.b a)] (fun x=>(TLa.d x.1)) (fun x=>[(TTape.b x.2)]):=fO (s:=S_q0 a) Tryz.func8
abbrev R_ql:=(List TTr)×TTape
def S_ql_b1 (W:TLa) (t:R_q2) (c:TTape×(List TTr)×Int×Int):SC R_ql (Step (TTape×(List TTr)×Int×Int) R_ql) :=
.ite (decide (c.2.2.2>0)) (
.call (@F_q1_ok 90 c.1) fun au av=>
 let N:=([0,1,au.1]:List Int)
.call (@F_q6_ok N au.2) fun X aw=>
.reg 7 [] [(3,hc av [0] false),(4,hv (vl N)),(5,hc aw [0] false)] [.cl 1 av [0] 3 false,.pf (z5 (DV.i .i64) N),.cl 0 aw [0] 3 false]<|
 let u:=(i64.wrap (c.2.2.1+X.1))
 let af:=(7,(AV.ref 2 c.2.1.length 0 c.2.1.length))
 let ag:=(9,(AV.d (eL DV.str t)))
 let ax:=[(0,(vp 0)),(4,(vp 1)),af,(8,(vi u)),ag,(10,(vi c.2.2.2))]
 let j:=(eS 7 TTr.e c.2.1)
 let m:=(TLa.b W)
.sh (H:=NoH) (A:=True) (.pf trivial) ax ax [(TTape.b X.2),m,j] [(TTape.b X.2),m,j,Ob.unb] (fun _=>z3j) (z2n _)<|
.call (@F_q1_ok W.J X.2) fun ay am=>
.call (@F_qx_ok 1 3 ay.2) fun an ao=>
.call (@F_q1_ok (t.length:Int) an.2) fun Y ap=>
.call (@F_q1_ok (t.length:Int) Y.2) fun Z aq=>
.call (@F_qx_ok 1 500 Z.2) fun az ar=>
.call (@F_qx_ok 1 100000 az.2) fun ah O=>
 let v:=([1,10,az.1,ah.1]:List Int)
.call (@F_q6_ok v ah.2) fun g P=>
.guard [(0:Int)<=Y.1,Y.1.toNat<t.length,(0:Int)<=Z.1,Z.1.toNat<t.length]<|
.reg 8 [9,12,17,24,29,31,33,35,36] [(9,hc am [0] false),(12,hc ao [0] false),(17,hc ap [0] false),(24,hc aq [0] false),(29,hc ar [0] false),(31,hc O [0] false),(32,hv (vl v)),(33,hc P [0] false),(35,{ h:=.born 3 false })] [.cl 10 am [0] 4 false,.cl 10 am [0] 4 false,.cl 9 ao [0] 4 false,.cl 9 ao [0] 4 false,.cl 8 ap [0] 4 false,.cl 8 ap [0] 4 false,.ev 0,.ev 1,.ev 0,.ev 1,.ev 0,.ev 1,.ev 0,.ev 1,.ev 0,.ev 1,.ev 0,.ev 1,.ev 0,.ev 1,.ev 0,.ev 1,.ev 0,.ev 1,.ev 0,.ev 1,.cl 7 aq [0] 4 false,.cl 7 aq [0] 4 false,.ev 2,.ev 3,.ev 2,.ev 3,.ev 2,.ev 3,.ev 2,.ev 3,.ev 2,.ev 3,.ev 2,.ev 3,.ev 2,.ev 3,.ev 2,.ev 3,.cl 6 ar [0] 4 false,.cl 6 ar [0] 4 false,.cl 5 O [0] 4 false,.cl 5 O [0] 4 false,.pf (z5 (DV.i .i64) v),.pf (z5 (DV.i .i64) v),.cl 4 P [0] 4 false,.cl 4 P [0] 4 false]<|
 let R:=(decide ((W.I.length:Int)>0))
.calld [R=true] (dF,g.2) (@F_q1_ok 5 g.2) fun n ai =>
 let aa:=(i64.wrap ((c.2.1.length:Int)+1))
 let ab:=(t.getD Z.1.toNat dF)
 let ac:=(i64.wrap (W.G+ay.1))
 let S:=(t.getD Y.1.toNat dF)
 let ad:=(bx (DV.agg [(DV.i .i64 aa),(DV.i .i64 u),(DV.i .i64 ac),(DV.i .i64 an.1),(DV.str S),(DV.str ab),(DV.i .i64 g.1)]))
 let T:=(TTape.b n.2)
.reg 9 [] [(6,hc ai [0] false)] [.clg 0 [R=true] ai [0] 4 false,.der (fun (h:¬ AllP [R=true]->(dF,g.2)=n) (hn:¬ AllP [R=true])=>(by obtain rfl:=h hn; rfl:[(TTape.b g.2),m,j,ad]=[T,m,j,ad])) 1]<|
.cut none [0,4,7,8,9,10,11] (fun (_:TTape×TTr)=>[]) (fun q=>[(0,(TTape.b q.1)),(3,(TTr.b q.2))]) (
 let aj:=(bif R then (decide (n.1>0)) else false)
.ite aj (
 let ba:=[(0,(vp 0)),(4,(vp 1)),af,(8,(vi u)),ag,(10,(vi c.2.2.2)),(11,(vp 3)),(79,(vb aj))]
.sh (H:=NoH) (A:=True) (.pf trivial) ba ba [T,m,j,ad] [T,m,j,ad,Ob.unb] (fun _=>z3j) (z2n _)<|
.call (@F_q1_ok (W.I.length:Int) n.2) fun s U=>
.guard [(0:Int)<=s.1,s.1.toNat<W.I.length]<|
.reg 10 [6,9,10] [(6,hc U [0] false),(9,{ h:=.born 4 false })] [.cl 2 U [0] 5 false,.cl 2 U [0] 5 false,.ev 0,.ev 1,.ev 0,.ev 1]<|
 let ae:=(W.I.getD s.1.toNat dF)
.a 12 4 5 (@F_q2_ok W.E ae.K) fun w=>
.cut none [0,4,7,8,9,10,11,12] (fun (_:TTape×TTr)=>[]) (fun f=>[(0,(TTape.b f.1)),(3,(TTr.b f.2))]) (
.ite (decide ((w.length:Int)>0)) (
.call (@F_q1_ok (w.length:Int) s.2) fun y ak=>
.guard [(0:Int)<=y.1,y.1.toNat<w.length]<|
.reg 14 [] [(4,hc ak [0] false)] [.cl 2 ak [0] 5 false,.ev 0,.ev 1]<|
.r (.next (y.2,(⟨aa,u,ac,ae.F,(w.getD y.1.toNat dF),ab,g.1⟩:TTr)))) (
.r (.next (s.2,(⟨aa,u,ac,ae.F,S,ab,g.1⟩:TTr))))) fun f=>
.a 15 4 5 (@F_q2_ok W.E ae.V) fun z=>
.ite (decide ((z.length:Int)>0)) (
.call (@F_q1_ok (z.length:Int) f.1) fun B al=>
.guard [(0:Int)<=B.1,B.1.toNat<z.length]<|
.reg 17 [] [(4,hc al [0] false)] [.cl 2 al [0] 5 false,.ev 0,.ev 1]<|
.r (.next (B.2,(⟨f.2.F,f.2.H,f.2.D,f.2.Q,f.2.K,(z.getD B.1.toNat dF),f.2.C⟩:TTr)))) (
.r (.next (f.1,f.2)))) (
.r (.next (n.2,(⟨aa,u,ac,an.1,S,ab,g.1⟩:TTr))))) fun q=>
.guard [(c.2.1.length+1) * (2 * 72)<=2 ^ 48]<|
 let M:=([q.2]:List TTr)
 let L:=(c.2.1++M)
.reg 18 [] [(2,hv (AV.d (eL TTr.e M))),(3,{ h:=.obj,cast:=some (AV.ref 2 L.length 0 L.length),obs:=[(2,(eS 7 TTr.e L))] })] [.pf (z5 TTr.e M),.e c.2.1.length,.e c.2.1.length,.pf (p:=∀ k,k<1->(TTr.d (M.getD k dF)).wd=7) (fun _ _=>rfl),.ev 0,.pf (zh (o:=2) (l:=c.2.1) (x:=M)),.pf (zg (sz:=7) (e:=TTr.e) (l:=c.2.1) (x:=M))]<|
.r (.cont (q.1,L,u,(i64.wrap (c.2.2.2-1))))) (
.r (.brk (c.1,c.2.1,c.2.2.1,c.2.2.2)))
def S_ql (h:TLa) (l:Int) (m:TTape):SC R_ql R_ql :=
.a 3 2 2 (@F_q2_ok h.E ([])) fun i=>
.call (@F_q1_ok (i64.wrap (l+1)) m) fun f g=>
.k 4 3 g [0] 2 false<|
.bor 7 (fun j=>AV.d (TTr.e (([]:List TTr).getD j dF))) [7]<|
.iter [0,4,9] (fun (c:TTape×(List TTr)×Int×Int)=>[(7,(AV.ref 2 c.2.1.length 0 c.2.1.length)),(8,(vi c.2.2.1)),(10,(vi c.2.2.2))]) (fun c=>[(0,(TTape.b c.1)),(2,(eS 7 TTr.e c.2.1))]) (f.2,([]:List TTr),(i64.wrap (360 * h.G)),f.1) (S_ql_b1 h i) (fun c =>
.guard [c.2.1.length<2 ^ 63]<|
.reg 19 [] [] []<|
.frz 2 (.ev 0) none [6] []<|
.r (c.2.1,c.1)) id
def F_ql (a:TLa) (b:Int) (c:TTape):=(S_ql a b c).den
theorem F_ql_ok {a:TLa} {c:Int} {f:TTape}:FO (F_ql a c f) 9 [(vp 0),(TLa.d a),(vi c)] [(TTape.b f)] (fun x=>(AV.d (eL TTr.e x.1))) (fun x=>[(TTape.b x.2)]):=fO (s:=S_ql a c f) Tryz.func9
def S_qz (a:Int) (b:Int) (c:Int):SC Bool Bool :=
.r (bif (decide (a>=b)) then (decide (a<=c)) else false)
def F_qz (a:Int) (b:Int) (c:Int):=(S_qz a b c).den
theorem F_qz_ok {a:Int} {b:Int} {c:Int}:FO (F_qz a b c) 118 [(vi a),(vi b),(vi c)] [] vb NL:=fO (s:=S_qz a b c) Tryz.func118
def S_q2s (c:Y8):SC Bool Bool :=
.a 1 1 0 (@F_q4s_ok c) fun b=>
.r (decide ((b.length:Int)>0))
def F_q2s (a:Y8):=(S_q2s a).den
theorem F_q2s_ok {a:Y8}:FO (F_q2s a) 68 [(AV.d (DV.str a))] [] vb NL:=fO (s:=S_q2s a) Tryz.func68
def S_q15_b1 (b:Y8) (c:Int) (a:Int):SC Int (Step Int Int) :=
.ite (decide (a>=0)) (
.guard [(0:Int)<=a,a.toNat<b.length]<|
.reg 4 [] [] [.ev 0,.ev 1]<|
.ite (((b.getD a.toNat 0).toNat:Int)==c) (
.r (.ret a)) (
.r (.cont (i64.wrap (a-1))))) (
.r (.brk a))
def S_q15 (b:Y8) (c:Int):SC Int Int :=
.iter [0,1] (fun (a:Int)=>[(5,(vi a))]) (fun _=>[]) (i64.wrap ((b.length:Int)-1)) (S_q15_b1 b c) (fun _ =>
.r (-1)) id
def F_q15 (a:Y8) (b:Int):=(S_q15 a b).den
theorem F_q15_ok {a:Y8} {b:Int}:FO (F_q15 a b) 139 [(AV.d (DV.str a)),(AV.d (DV.i .u8 b))] [] vi NL:=fO (s:=S_q15 a b) Tryz.func139
def S_q39 (c:Y8) (d:Int):SC Int Int :=
.a 1 2 0 (@F_q15_ok c d) fun b=>
.r b
def F_q39 (a:Y8) (b:Int):=(S_q39 a b).den
theorem F_q39_ok {a:Y8} {b:Int}:FO (F_q39 a b) 115 [(AV.d (DV.str a)),(AV.d (DV.i .u8 b))] [] vi NL:=fO (s:=S_q39 a b) Tryz.func115
end
end Go.Proofs.YtljnmhapbonmfaaGreatDoor
/- What the functions compute,and that their calls return it. No condition. -/
namespace Go.Proofs.YtljnmhapbonmfaaGreatDoor
open Go Go.TA
open Go.IntKind (i64)
noncomputable section
set_option maxRecDepth 100000
def S_q2z (e:Y8):SC Y8 Y8 :=
.a 1 1 0 (@F_q2s_ok e) fun f=>
.ite (!f) (
.r ([])) (
.call (@F_q39_ok e 46) fun c d=>
 let b:=(if 0>c then 0 else c)
.guard [(0:Int)<=b,b.toNat<=e.length]<|
.reg 3 [] [(2,hc d [] true)] [.cl 2 d [] 0 true,.ev 0,.ev 1]<|
.r (e.take b.toNat))
def F_q2z (a:Y8):=(S_q2z a).den
theorem F_q2z_ok {a:Y8}:FO (F_q2z a) 69 [(AV.d (DV.str a))] [] (fun x=>(AV.d (DV.str x))) NL:=fO (s:=S_q2z a) Tryz.func69
abbrev R_q16:=Y8
def S_q16_b1 (d:Int) (a:Y8):SC R_q16 (Step Y8 R_q16) :=
 let b:=(i64.wrap ((a.length:Int)-1))
 let c:=(decide ((a.length:Int)>0))
.guard [AllP [c=true]->((0:Int)<=b),AllP [c=true]->(b.toNat<a.length)]<|
.reg 1 [] [] [.ev 0,.ev 1]<|
.ite (bif c then (((a.getD b.toNat 0).toNat:Int)==d) else false) (
.guard [(0:Int)<=b,b.toNat<=a.length]<|
.reg 2 [] [] [.ev 0,.ev 1]<|
.r (.cont (a.take b.toNat))) (
.r (.brk a))
def S_q16 (b:Y8) (c:Int):SC R_q16 R_q16 :=
.iter [1] (fun (a:Y8)=>[(0,(AV.d (DV.str a)))]) (fun _=>[]) b (S_q16_b1 c) (fun a =>
.r a) id
def F_q16 (a:Y8) (b:Int):=(S_q16 a b).den
theorem F_q16_ok {a:Y8} {b:Int}:FO (F_q16 a b) 212 [(AV.d (DV.str a)),(AV.d (DV.i .u8 b))] [] (fun x=>(AV.d (DV.str x))) NL:=fO (s:=S_q16 a b) Tryz.func212
abbrev R_q17:=Y8
def S_q17_b1 (c:Int) (a:Y8):SC R_q17 (Step Y8 R_q17) :=
 let b:=(decide ((a.length:Int)>0))
.guard [AllP [b=true]->(0<a.length)]<|
.reg 1 [] [] [.pf (p:=AllP [b=true]->((0:Int)<=0)) (fun _=>dk),.ev 0]<|
.ite (bif b then (((a.getD 0 0).toNat:Int)==c) else false) (
.guard [1<=a.length]<|
.reg 2 [] [] [.pf (p:=(0:Int)<=1) dk,.ev 0]<|
.r (.cont ((a.drop 1).take (a.length-1)))) (
.r (.brk a))
def S_q17 (b:Y8) (c:Int):SC R_q17 R_q17 :=
.iter [1] (fun (a:Y8)=>[(0,(AV.d (DV.str a)))]) (fun _=>[]) b (S_q17_b1 c) (fun a =>
.r a) id
def F_q17 (a:Y8) (b:Int):=(S_q17 a b).den
theorem F_q17_ok {a:Y8} {b:Int}:FO (F_q17 a b) 211 [(AV.d (DV.str a)),(AV.d (DV.i .u8 b))] [] (fun x=>(AV.d (DV.str x))) NL:=fO (s:=S_q17 a b) Tryz.func211
def S_q3a (f:Y8) (c:Y8):SC Y8 Y8 :=
.ite (cO (f==([])) (c==([]))) (
.r f) (
 let a:=((c.length:Int)==1)
.guard [AllP [a=true]->(0<c.length)]<|
.reg 3 [] [] [.pf (p:=AllP [a=true]->((0:Int)<=0)) (fun _=>dk),.ev 0]<|
 let b:=((c.getD 0 0).toNat:Int)
.guard [(bif a then (decide (b<128)) else false)=true]<|
.br true (.ev 0)<|
.call (@F_q16_ok f b) fun g d=>
.call (@F_q17_ok g b) fun h e=>
.guard [0<c.length]<|
.reg 4 [] [(3,hc d [] true),(6,hc e [] true)] [.pf (p:=(0:Int)<=0) dk,.ev 0,.cl 2 d [] 0 true,.pf (p:=(0:Int)<=0) dk,.ev 0,.cl 1 e [] 0 true]<|
.r h)
def F_q3a (a:Y8) (b:Y8):=(S_q3a a b).den
theorem F_q3a_ok {a:Y8} {b:Y8}:FO (F_q3a a b) 202 [(AV.d (DV.str a)),(AV.d (DV.str b))] [] (fun x=>(AV.d (DV.str x))) NL:=fO (s:=S_q3a a b) Tryz.func202
def S_qr_b1 (b:Y8) (a:Nat):SC Bool (Step Nat Bool) :=
 let c:=(a<b.length)
.split (decide c) (
.reg 2 [] [(0,{ h:=.call (AV.tup [(vb true),(vi (a:Int)),(AV.d (DV.i .i32 (runeAt b a)))]) [(Ob.ex (.stringIter ⟨List.toArray b⟩ (a+widAt b a)))] })] [.der (fun (h:decide c=true)=>zgk (P:=Tryz.prog) (L:=[(Ob.ex (.stringIter ⟨List.toArray b⟩ a))]) (o:=0) (l:=b) (p:=a) rfl (y3a h)) 0]<|
.br true (.pf (p:=true=true) rfl)<|
.ite (cO (decide ((runeAt b a)<32)) (decide ((runeAt b a)>126))) (
.r (.ret false)) (
.r (.cont (a+widAt b a)))) (
.reg 2 [] [(0,{ h:=.call (AV.tup [(vb false)]) [(Ob.ex (.stringIter ⟨List.toArray b⟩ a))] })] [.der (fun (h:decide c=false)=>zgl (P:=Tryz.prog) (L:=[(Ob.ex (.stringIter ⟨List.toArray b⟩ a))]) (o:=0) (l:=b) (p:=a) rfl (of_decide_eq_false h)) 0]<|
.br false (.pf (p:=false=false) rfl)<|
.r (.brk a))
def S_qr (b:Y8):SC Bool Bool :=
.iter [0,6] (fun (_:Nat)=>[]) (fun d=>[(0,(Ob.ex (.stringIter ⟨List.toArray b⟩ d)))]) 0 (S_qr_b1 b) (fun _ =>
 let a:=(bif (decide ((b.length:Int)>=1)) then (decide ((b.length:Int)<=40)) else false)
.calld [a=true] dF (@F_q3a_ok b ([32])) fun e c =>
.reg 6 [] [(10,hc c [] true)] [.clg 0 [a=true] c [] 1 true]<|
.r (bif a then (e==b) else false)) id
def F_qr (a:Y8):=(S_qr a).den
theorem F_qr_ok {a:Y8}:FO (F_qr a) 189 [(AV.d (DV.str a))] [] vb NL:=fO (s:=S_qr a) Tryz.func189
def S_q3b (a:Y8):SC Bool Bool :=
.r (!(a==a))
def F_q3b (a:Y8):=(S_q3b a).den
theorem F_q3b_ok {a:Y8}:FO (F_q3b a) 167 [(AV.d (DV.str a))] [] vb NL:=fO (s:=S_q3b a) Tryz.func167
def S_q49 (c:Y8) (d:Y8):SC Int Int :=
.a 1 1 0 (@F_q3b_ok c) fun e=>
.a 2 1 0 (@F_q3b_ok d) fun b=>
.ite e (
.ite b (
.r 0) (
.r (-1))) (
.ite b (
.r 1) (
.ite (Op.bytesLess c d) (
.r (-1)) (
.ite (!(Op.bytesLess c d||c==d)) (
.r 1) (
.r 0))))
def F_q49 (a:Y8) (b:Y8):=(S_q49 a b).den
theorem F_q49_ok {a:Y8} {b:Y8}:FO (F_q49 a b) 143 [(AV.d (DV.str a)),(AV.d (DV.str b))] [] vi NL:=fO (s:=S_q49 a b) Tryz.func143
def S_q3c (a:Int):SC Bool Bool :=
.r (a != a)
def F_q3c (a:Int):=(S_q3c a).den
theorem F_q3c_ok {a:Int}:FO (F_q3c a) 93 [(vi a)] [] vb NL:=fO (s:=S_q3c a) Tryz.func93
def S_qm (c:Int) (d:Int):SC Int Int :=
.a 1 1 0 (@F_q3c_ok c) fun e=>
.a 2 1 0 (@F_q3c_ok d) fun b=>
.ite e (
.ite b (
.r 0) (
.r (-1))) (
.ite b (
.r 1) (
.ite (decide (c<d)) (
.r (-1)) (
.ite (decide (c>d)) (
.r 1) (
.r 0))))
def F_qm (a:Int) (b:Int):=(S_qm a b).den
theorem F_qm_ok {a:Int} {b:Int}:FO (F_qm a b) 49 [(vi a),(vi b)] [] vi NL:=fO (s:=S_qm a b) Tryz.func49
def S_q18_b1 (e:(List Int)) (d:(List Int)) (b:Nat) (_:Unit):SC Int (Step Unit Int) :=
.reg 3 [] [] [.w b,.ev 0]<|
.ite (decide ((b:Int)>=(d.length:Int))) (
.r (.ret 1)) (
.guard [b<d.length]<|
.reg 6 [] [] [.w b,.ev 0]<|
.a 7 2 0 (@F_qm_ok (e.getD b dF) (d.getD b dF)) fun c=>
.ite (c != 0) (
.r (.ret c)) (
.r (.cont ())))
def S_q18 (a:(List Int)) (b:(List Int)):SC Int Int :=
.range (a.length:Int) a.length rfl (.slot 0) 11 [0,1,9,10] (fun (_:Unit)=>[]) (fun _=>[]) () (S_q18_b1 a b) (fun _ => 
.ite (decide ((a.length:Int)<(b.length:Int))) (
.r (-1)) (
.r 0)) id
def F_q18 (a:(List Int)) (b:(List Int)):=(S_q18 a b).den
theorem F_q18_ok {a:(List Int)} {b:(List Int)}:FO (F_q18 a b) 144 [(vl a),(vl b)] [] vi NL:=fO (s:=S_q18 a b) Tryz.func144
def S_q10 (h:Y8) (i:Y8):SC Int Int :=
.call (@F_q4s_ok h) fun b c=>
.call (@F_q4s_ok i) fun d e=>
.reg 1 [] [(1,hc c [] true),(3,hc e [] true)] [.cl 1 c [] 0 true,.cl 0 e [] 0 true]<|
.ite (bif ((b.length:Int)==0) then ((d.length:Int)==0) else false) (
.a 3 2 0 (@F_q49_ok h i) fun f=>
.r f) (
.a 4 2 0 (@F_q18_ok b d) fun g=>
.r g)
def F_q10 (a:Y8) (b:Y8):=(S_q10 a b).den
theorem F_q10_ok {a:Y8} {b:Y8}:FO (F_q10 a b) 122 [(AV.d (DV.str a)),(AV.d (DV.str b))] [] vi NL:=fO (s:=S_q10 a b) Tryz.func122
def S_q4a (a:THe) (b:Y8):SC Bool Bool :=
.r (a.B==b)
def F_q4a (a:THe) (b:Y8):=(S_q4a a b).den
theorem F_q4a_ok {b:THe} {a:Y8}:FO (F_q4a b a) 169 [(THe.d b),(vp 0)] [(bx (DV.str a))] vb (fun _=>[(bx (DV.str a))]):=fO (s:=S_q4a b a) Tryz.func169
def S_q2d_b1 (d:(List THe)) (e:Y8) (a:Nat) (_:Unit):SC Int (Step Unit Int) :=
.call (@F_q4a_ok (d.getD a dF) e) fun c b=>
.reg 4 [] [(5,hc b [0] true)] [.w a,.ev 1,.cl 0 b [0] 1 true]<|
.ite c (
.r (.ret (a:Int))) (
.r (.cont ()))
def S_q2d (a:(List THe)) (b:Y8):SC Int Int :=
.range (a.length:Int) a.length rfl (.slot 0) 8 [0,1,7] (fun (_:Unit)=>[]) (fun _=>[]) () (S_q2d_b1 a b) (fun _ => 
.r (-1)) id
def F_q2d (a:(List THe)) (b:Y8):=(S_q2d a b).den
theorem F_q2d_ok {b:(List THe)} {a:Y8}:FO (F_q2d b a) 190 [(AV.d (eL THe.e b)),(AV.fn 169 [(vp 0)])] [(bx (DV.str a))] vi (fun _=>[(bx (DV.str a))]):=fO (s:=S_q2d b a) Tryz.func190
def S_q4b (c:(List THe)) (d:Y8):SC Bool Bool :=
.call (@F_q2d_ok c d) fun a b=>
.k 1 2 b [0] 1 true<|
.r (decide (a>=0))
def F_q4b (a:(List THe)) (b:Y8):=(S_q4b a b).den
theorem F_q4b_ok {b:(List THe)} {a:Y8}:FO (F_q4b b a) 168 [(AV.d (eL THe.e b)),(AV.fn 169 [(vp 0)])] [(bx (DV.str a))] vb (fun _=>[(bx (DV.str a))]):=fO (s:=S_q4b b a) Tryz.func168
def S_q30 (c:(List THe)) (d:Y8):SC Bool Bool :=
.call (@F_q4b_ok c d) fun a b=>
.k 1 2 b [0] 1 true<|
.r a
def F_q30 (a:(List THe)) (b:Y8):=(S_q30 a b).den
theorem F_q30_ok {a:(List THe)} {b:Y8}:FO (F_q30 a b) 145 [(AV.d (eL THe.e a)),(AV.d (DV.str b))] [] vb NL:=fO (s:=S_q30 a b) Tryz.func145
def S_q3d (f:(List THe)) (c:Int):SC Int Int :=
 let b:=(f.getD c.toNat dF)
.call (@F_q2z_ok b.B) fun g h=>
.guard [(0:Int)<=c,c.toNat<f.length]<|
.reg 1 [] [(5,hc h [] true)] [.ev 0,.ev 1,.cl 2 h [] 0 true]<|
.call (@F_q2s_ok b.B) fun m i=>
.reg 2 [] [(5,hc i [] true)] [.ev 1,.ev 2,.cl 0 i [] 0 true]<|
.ite (!m) (
.r 5) (
.call (@F_qr_ok b.X) fun n j=>
.reg 4 [] [(5,hc j [] true)] [.ev 3,.ev 4,.cl 0 j [] 0 true]<|
.ite (!n) (
.r 4) (
 let a:=(decide (c>0))
 let d:=(i64.wrap (c-1))
.calld [a=true] dF (@F_q10_ok ((f.getD d.toNat dF).B) b.B) fun o k =>
.guard [AllP [a=true]->((0:Int)<=d),AllP [a=true]->(d.toNat<f.length),AllP [a=true]->((0:Int)<=c),AllP [a=true]->(c.toNat<f.length)]<|
.reg 6 [] [(14,hc k [] true)] [.ev 0,.ev 1,.ev 2,.ev 3,.clg 4 [a=true] k [] 0 true]<|
.ite (bif a then (decide (o>=0)) else false) (
.r 8) (
 let e:=(!(g==([])))
.calld [e=true] dF (@F_q30_ok f g) fun p l =>
.reg 8 [] [(5,hc l [] true)] [.clg 0 [e=true] l [] 0 true]<|
.ite (bif e then (!p) else false) (
.r 6) (
.r 0))))
def F_q3d (a:(List THe)) (b:Int):=(S_q3d a b).den
theorem F_q3d_ok {a:(List THe)} {b:Int}:FO (F_q3d a b) 166 [(AV.d (eL THe.e a)),(vi b)] [] vi NL:=fO (s:=S_q3d a b) Tryz.func166
def S_q2e_b1 (d:(List THe)) (b:Nat) (_:Unit):SC (Int×Int) (Step Unit (Int×Int)) :=
.a 6 2 0 (@F_q3d_ok d (b:Int)) fun c=>
.ite (c != 0) (
.r (.ret ((i64.wrap ((b:Int)+1)),c))) (
.r (.cont ()))
def S_q2e (a:(List THe)):SC (Int×Int) (Int×Int) :=
.ite (decide ((a.length:Int)>60)) (
.r (0,3)) (
.range (a.length:Int) a.length rfl (.slot 0) 11 [0,10] (fun (_:Unit)=>[]) (fun _=>[]) () (S_q2e_b1 a) (fun _ => 
.r (0,0)) id)
def F_q2e (a:(List THe)):=(S_q2e a).den
theorem F_q2e_ok {a:(List THe)}:FO (F_q2e a) 142 [(AV.d (eL THe.e a))] [] (fun x=>(AV.tup [(vi x.1),(vi x.2)])) NL:=fO (s:=S_q2e a) Tryz.func142
def S_q3e (c:(List THe)):SC Int Int :=
.a 1 1 0 (@F_q2e_ok c) fun b=>
.r b.2
def F_q3e (a:(List THe)):=(S_q3e a).den
theorem F_q3e_ok {a:(List THe)}:FO (F_q3e a) 119 [(AV.d (eL THe.e a))] [] vi NL:=fO (s:=S_q3e a) Tryz.func119
def S_q4c (a:TAm):SC Bool Bool :=
.r (decide ((a.M.length:Int)>20))
def F_q4c (a:TAm):=(S_q4c a).den
theorem F_q4c_ok {a:TAm}:FO (F_q4c a) 120 [(TAm.d a)] [] vb NL:=fO (s:=S_q4c a) Tryz.func120
def S_q2f_b1 (d:(List TAm)) (a:Nat) (_:Unit):SC Int (Step Unit Int) :=
.call (@F_q4c_ok (d.getD a dF)) fun c b=>
.reg 4 [] [(5,hc b [] true)] [.w a,.ev 1,.cl 0 b [] 0 true]<|
.ite c (
.r (.ret (a:Int))) (
.r (.cont ()))
def S_q2f (a:(List TAm)):SC Int Int :=
.range (a.length:Int) a.length rfl (.slot 0) 8 [0,1,7] (fun (_:Unit)=>[]) (fun _=>[]) () (S_q2f_b1 a) (fun _ => 
.r (-1)) id
def F_q2f (a:(List TAm)):=(S_q2f a).den
theorem F_q2f_ok {a:(List TAm)}:FO (F_q2f a) 112 [(AV.d (eL TAm.e a)),(AV.fn 120 [])] [] vi NL:=fO (s:=S_q2f a) Tryz.func112
def S_q3f (c:(List TAm)):SC Bool Bool :=
.a 1 2 0 (@F_q2f_ok c) fun b=>
.r (decide (b>=0))
def F_q3f (a:(List TAm)):=(S_q3f a).den
theorem F_q3f_ok {a:(List TAm)}:FO (F_q3f a) 121 [(AV.d (eL TAm.e a)),(AV.fn 120 [])] [] vb NL:=fO (s:=S_q3f a) Tryz.func121
def S_q3g (c:TChe):SC Int Int :=
.reg 1 [] [(2,{ obs:=[(1,(TLa.b (⟨0,0,[],[],[],[],[],[],[],[]⟩:TLa)))] })] [.pf cz2]<|
.call (@F_qz_ok c.law.G 0 99) fun d f=>
.calld [(!d)=false] dF (@F_qz_ok c.law.J 1 4) fun j g =>
.reg 2 [] [(2,hc f [] true),(7,hc g [] true)] [.cl 2 f [] 2 true,.clg 0 [(!d)=false] g [] 2 true]<|
.ite (cO (cO (!d) (!j)) (decide ((i64.wrap (c.law.G+c.law.J))>100))) (
.r 2) (
.a 4 2 2 (@F_q3e_ok c.law.E) fun h=>
.ite (h != 0) (
.r h) (
 let e:=(cO (cO (cO (cO (cO (cO (decide ((c.law.P.length:Int)>120)) (decide ((c.law.S.length:Int)>60))) (decide ((c.law.U.length:Int)>60))) (decide ((c.law.L.length:Int)>20))) (decide ((c.law.O.length:Int)>20))) (decide ((c.law.I.length:Int)>20))) (decide ((c.law.A.length:Int)>20)))
.calld [e=false] dF (@F_q3f_ok c.law.A) fun k i =>
.reg 8 [] [(44,hc i [] true)] [.clg 0 [e=false] i [] 2 true]<|
.ite (cO e k) (
.r 3) (
.r 0)))
def F_q3g (a:TChe):=(S_q3g a).den
theorem F_q3g_ok {a:TChe}:FO (F_q3g a) 74 [(TChe.d a)] [] vi NL:=fO (s:=S_q3g a) Tryz.func74
def S_qq_b1 (c:(List Int)) (b:(List Int)) (a:Nat) (_:Unit):SC Bool (Step Unit Bool) :=
.guard [a<b.length]<|
.reg 6 [] [] [.w a,.ev 1,.w a,.ev 0]<|
.ite ((c.getD a dF) != (b.getD a dF)) (
.r (.ret false)) (
.r (.cont ()))
def S_qq (a:(List Int)) (b:(List Int)):SC Bool Bool :=
.ite ((a.length:Int) != (b.length:Int)) (
.r false) (
.range (a.length:Int) a.length rfl (.slot 0) 13 [0,1,12] (fun (_:Unit)=>[]) (fun _=>[]) () (S_qq_b1 a b) (fun _ => 
.r true) id)
def F_qq (a:(List Int)) (b:(List Int)):=(S_qq a b).den
theorem F_qq_ok {a:(List Int)} {b:(List Int)}:FO (F_qq a b) 100 [(vl a),(vl b)] [] vb NL:=fO (s:=S_qq a b) Tryz.func100
def S_qs (k:Y8) (l:Y8):SC Bool Bool :=
.call (@F_q4s_ok k) fun b e=>
.call (@F_q4s_ok l) fun c f=>
.reg 1 [] [(1,hc e [] true),(3,hc f [] true)] [.cl 1 e [] 0 true,.cl 0 f [] 0 true]<|
 let d:=(c.length:Int)
 let a:=(bif (decide (d>0)) then (decide ((b.length:Int)>=d)) else false)
.calld [a=true] dF (@F_qq_ok (b.take c.length) c) fun j g =>
 let h:=(c.length<=b.length)
.guard [AllP [a=true]->h]<|
.reg 2 [] [(14,hv (vl (b.take c.length))),(16,hc g [] true)] [.pf (p:=AllP [a=true]->((0:Int)<=d)) (fun _=>(y4m _)),.ev 0,.der (fun (h0:AllP [a=true]->h) (hg:AllP [a=true])=>lvT (DV.i .i64) b (h0 hg)) 0,.clg 1 [a=true] g [] 0 true]<|
.r (bif a then j else false)
def F_qs (a:Y8) (b:Y8):=(S_qs a b).den
theorem F_qs_ok {a:Y8} {b:Y8}:FO (F_qs a b) 53 [(AV.d (DV.str a)),(AV.d (DV.str b))] [] vb NL:=fO (s:=S_qs a b) Tryz.func53
abbrev R_q3:=(List Y8)
def S_q3_b1 (m:(List THe)) (i:Nat) (e:(List (Y8×Bool))):SC R_q3 (Step ((List (Y8×Bool))) R_q3) :=
.reg 4 [] [] [.w i,.ev 0]<|
 let a:=(m.getD i dF)
.call (@F_q2s_ok a.B) fun f j=>
 let g:=(THe.b a)
.reg 5 [6] [(5,hc j [] true),(6,{ h:=.call .bot [(eM DV.str DV.b (mupd e a.B f)),g] })] [.cl 0 j [] 2 true,.pf (p:=UpdOk Tryz.prog [(eM DV.str DV.b e),g] 115 (AV.map 0) (AV.d (DV.str a.B)) (vb f) [(eM DV.str DV.b (mupd e a.B f)),g]) (zl0 (kt:=9) (et:=4) (eK:=DV.str) (eV:=DV.b) (l:=e) (k:=a.B) (v:=f) kj rfl zd2 rfl)]<|
.c (mupd e a.B f)
def S_q3_b2 (j:(List THe)) (f:Nat) (a:(List (Y8×Bool))):SC R_q3 (Step ((List (Y8×Bool))) R_q3) :=
.reg 9 [] [] [.w f,.ev 0]<|
.call (@F_q2z_ok ((j.getD f dF).B)) fun e i=>
 let g:=(THe.b (j.getD f dF))
.reg 10 [] [(3,hc i [] true),(4,{ h:=.call (AV.tup []) [(eMd DV.str DV.b (mdel a e)),g] })] [.cl 0 i [] 2 true,.pf (p:=DelOk Tryz.prog [(eMd DV.str DV.b a),g] 115 (AV.map 0) (AV.d (DV.str e)) (AV.tup []) [(eMd DV.str DV.b (mdel a e)),g]) (zl5 (kt:=9) (et:=4) (eK:=DV.str) (eV:=DV.b) (l:=a) (x:=(eMd DV.str DV.b a)) (k:=e) kj rfl rfl zd2)]<|
.c (mdel a e)
def S_q3_b3 (t:(List THe)) (q:Y8) (i:(List (Y8×Bool))) (j:Nat) (a:(List Y8)):SC R_q3 (Step ((List Y8)) R_q3) :=
.reg 15 [] [] [.w j,.ev 0]<|
 let f:=(t.getD j dF)
.calld [(q==([]))=false,(mget i f.B false)=true] dF (@F_qs_ok f.B q) fun s m =>
 let n:=(vb (mget i f.B false))
.reg 16 [] [(3,{ h:=.callr n }),(11,hc m [] true)] [.pf (p:=LookOk Tryz.prog [(eMd DV.str DV.b i),(eS 1 DV.str a),(THe.b f)] 115 (AV.map 0) (AV.d (DV.str f.B)) false n) (zia (kt:=9) (et:=4) (eK:=DV.str) (eV:=DV.b) (l:=i) (k:=f.B) (z:=false) kj rfl zd2 kj),.clg 0 [(q==([]))=false,(mget i f.B false)=true] m [] 3 true]<|
.ite (bif (mget i f.B false) then (cO (q==([])) s) else false) (
.guard [(a.length+1) * (2 * 16)<=2 ^ 48]<|
 let g:=([f.B]:List Y8)
.reg 17 [] [(3,hv (AV.d (eL DV.str g))),(4,{ h:=.obj,cast:=some (AV.ref 1 ((a++g).length) 0 ((a++g).length)),obs:=[(1,(eS 1 DV.str (a++g)))] })] [.pf (z5 DV.str g),.e a.length,.e a.length,.pf (p:=∀ k,k<1->(AV.d (DV.str (g.getD k dF))).wd=1) (fun _ _=>rfl),.ev 0,.pf (zh (o:=1) (l:=a) (x:=g)),.pf (zg (sz:=1) (e:=DV.str) (l:=a) (x:=g))]<|
.r (.cont (a++g))) (
.c a)
def S_q3 (c:(List THe)) (i:Y8):SC R_q3 R_q3 :=
.range (c.length:Int) c.length rfl (.slot 0) 16 [0,1,5,14,15] (fun (_:(List (Y8×Bool)))=>[]) (fun f=>[(0,(eM DV.str DV.b f))]) ([]:(List (Y8×Bool))) (S_q3_b1 c) (fun f => 
.reg 7 [] [] []<|
 let h:=[(0,(AV.d (eL THe.e c))),(1,(AV.d (DV.str i))),(5,(AV.map 0)),(27,(AV.d (eL THe.e c))),(28,(vi (c.length:Int))),(29,(vi 0))]
.sh (H:=NoH) (A:=True) (.pf trivial) h h [(eM DV.str DV.b f)] [(eMd DV.str DV.b f)] (fun _=>zf9 (P:=[]) (D:=[])) (z2n _)<|
.range (c.length:Int) c.length rfl (.slot 0) 29 [0,1,5,27,28] (fun (_:(List (Y8×Bool)))=>[]) (fun g=>[(0,(eMd DV.str DV.b g))]) f (S_q3_b2 c) (fun g => 
.reg 13 [] [] []<|
.bor 1 (fun j=>AV.d (DV.str (([]:List Y8).getD j dF))) [10]<|
.range (c.length:Int) c.length rfl (.slot 38) 40 [1,5,38,39] (fun (a:(List Y8))=>[(10,(AV.ref 1 a.length 0 a.length))]) (fun a=>[(1,(eS 1 DV.str a))]) ([]:List Y8) (S_q3_b3 c i g) (fun a => 
.guard [a.length<2 ^ 63]<|
.reg 19 [] [] []<|
.frz 1 (.ev 0) none [4] []<|
.r a) id) id) id
def F_q3 (a:(List THe)) (b:Y8):=(S_q3 a b).den
theorem F_q3_ok {a:(List THe)} {b:Y8}:FO (F_q3 a b) 38 [(AV.d (eL THe.e a)),(AV.d (DV.str b))] [] (fun x=>(AV.d (eL DV.str x))) NL:=fO (s:=S_q3 a b) Tryz.func38
def S_q2g_b1 (b:(List Y8)) (c:Y8) (a:Nat) (_:Unit):SC Int (Step Unit Int) :=
.reg 4 [] [] [.w a,.ev 0]<|
.ite (c==(b.getD a dF)) (
.r (.ret (a:Int))) (
.r (.cont ()))
def S_q2g (a:(List Y8)) (b:Y8):SC Int Int :=
.range (a.length:Int) a.length rfl (.slot 0) 8 [0,1,7] (fun (_:Unit)=>[]) (fun _=>[]) () (S_q2g_b1 a b) (fun _ => 
.r (-1)) id
def F_q2g (a:(List Y8)) (b:Y8):=(S_q2g a b).den
theorem F_q2g_ok {a:(List Y8)} {b:Y8}:FO (F_q2g a b) 146 [(AV.d (eL DV.str a)),(AV.d (DV.str b))] [] vi NL:=fO (s:=S_q2g a b) Tryz.func146
def S_q31 (c:(List Y8)) (d:Y8):SC Bool Bool :=
.a 1 2 0 (@F_q2g_ok c d) fun b=>
.r (decide (b>=0))
def F_q31 (a:(List Y8)) (b:Y8):=(S_q31 a b).den
theorem F_q31_ok {a:(List Y8)} {b:Y8}:FO (F_q31 a b) 131 [(AV.d (eL DV.str a)),(AV.d (DV.str b))] [] vb NL:=fO (s:=S_q31 a b) Tryz.func131
def S_q2n (c:TChe) (d:Y8):SC Bool Bool :=
.a 1 3 1 (@F_q31_ok c.leaves d) fun b=>
.r b
def F_q2n (a:TChe) (b:Y8):=(S_q2n a b).den
theorem F_q2n_ok {a:TChe} {b:Y8}:FO (F_q2n a b) 123 [(TChe.d a),(AV.d (DV.str b))] [] vb NL:=fO (s:=S_q2n a b) Tryz.func123
def S_q2h (a:TLa) (b:Int):SC Bool Bool :=
.r (bif (decide (b>=a.G)) then (decide ((IntKind.u64.wrap ((IntKind.u64.wrap b)-(IntKind.u64.wrap a.G)))<(IntKind.u64.wrap (if 0>a.J then 0 else a.J)))) else false)
def F_q2h (a:TLa) (b:Int):=(S_q2h a b).den
theorem F_q2h_ok {a:TLa} {b:Int}:FO (F_q2h a b) 97 [(TLa.d a),(vi b)] [] vb NL:=fO (s:=S_q2h a b) Tryz.func97
def S_q19 (a:Int):SC Bool Bool :=
.r (bif (decide (a>=0)) then (decide (a<=1000000000000)) else false)
def F_q19 (a:Int):=(S_q19 a).den
theorem F_q19_ok {a:Int}:FO (F_q19 a) 95 [(vi a)] [] vb NL:=fO (s:=S_q19 a) Tryz.func95
def S_q3h (f:TChe) (b:TLi):SC Int Int :=
.a 1 3 2 (@F_q2n_ok f b.B) fun c=>
.ite (!c) (
.r 5) (
.a 3 4 2 (@F_q2h_ok f.law b.D) fun d=>
.ite (!d) (
.r 16) (
.a 5 2 2 (@F_q19_ok b.C) fun e=>
.ite (!e) (
.r 2) (
.r 0)))
def F_q3h (a:TChe) (b:TLi):=(S_q3h a b).den
theorem F_q3h_ok {a:TChe} {b:TLi}:FO (F_q3h a b) 79 [(TChe.d a),(TLi.d b)] [] vi NL:=fO (s:=S_q3h a b) Tryz.func79
def S_qi_b1 (b:(List Int)) (a:Nat) (_:Unit):SC Int (Step Unit Int) :=
.reg 4 [] [] [.w a,.ev 0]<|
.ite ((b.getD a dF) != 0) (
.r (.ret (b.getD a dF))) (
.r (.cont ()))
def S_qi (a:(List Int)):SC Int Int :=
.range (a.length:Int) a.length rfl (.slot 6) 8 [3,6,7] (fun (_:Unit)=>[]) (fun _=>[]) () (S_qi_b1 a) (fun _ => 
.r 0) id
def F_qi (a:(List Int)):=(S_qi a).den
theorem F_qi_ok {a:(List Int)}:FO (F_qi a) 48 [(vl a)] [] vi NL:=fO (s:=S_qi a) Tryz.func48
def S_q3i (h:TLi) (j:TLi):SC Int Int :=
.call (@F_q10_ok h.B j.B) fun e b=>
.call (@F_qm_ok h.D j.D) fun f c=>
 let a:=([e,f]:List Int)
.call (@F_qi_ok a) fun g d=>
.reg 1 [] [(4,hc b [] true),(9,hc c [] true),(10,hv (vl a)),(11,hc d [] true)] [.cl 2 b [] 2 true,.cl 1 c [] 2 true,.pf (z5 (DV.i .i64) a),.cl 0 d [] 2 true]<|
.r g
def F_q3i (a:TLi) (b:TLi):=(S_q3i a b).den
theorem F_q3i_ok {a:TLi} {b:TLi}:FO (F_q3i a b) 78 [(TLi.d a),(TLi.d b)] [] vi NL:=fO (s:=S_q3i a b) Tryz.func78
def S_q1a_b1 (g:(List TLi)) (a2_0:TChe) (b:Nat) (_:Unit):SC Int (Step Unit Int) :=
.reg 3 [] [] [.w b,.ev 0]<|
.a 4 2 1 (@F_q3h_ok a2_0 (g.getD b dF)) fun e=>
.ite (e != 0) (
.r (.ret e)) (
 let c:=(decide ((b:Int)>0))
 let d:=(i64.wrap ((b:Int)-1))
.calld [c=true] dF (@F_q3i_ok (g.getD d.toNat dF) (g.getD b dF)) fun h f =>
.guard [AllP [c=true]->((0:Int)<=d),AllP [c=true]->(d.toNat<g.length)]<|
.reg 7 [] [(10,hc f [] true)] [.ev 0,.ev 1,.clg 2 [c=true] f [] 1 true]<|
.ite (bif c then (decide (h>=0)) else false) (
.r (.ret 8)) (
.r (.cont ())))
def S_q1a (a:(List TLi)) (a2_0:TChe):SC Int Int :=
.range (a.length:Int) a.length rfl (.slot 0) 12 [0,1,2,10,11] (fun (_:Unit)=>[]) (fun _=>[]) () (S_q1a_b1 a a2_0) (fun _ => 
.r 0) id
def F_q1a (a:(List TLi)) (a2_0:TChe):=(S_q1a a a2_0).den
theorem F_q1a_ok {a:(List TLi)} {a2_0:TChe}:FO (F_q1a a a2_0) 77 [(AV.d (eL TLi.e a)),(AV.fn 78 []),(AV.bfn 79 [(TChe.d a2_0)])] [] vi NL:=fO (s:=S_q1a a a2_0) Tryz.func77
def S_q1u (c:TLa) (d:Y8):SC Bool Bool :=
.a 1 3 1 (@F_q30_ok c.E d) fun b=>
.r b
def F_q1u (a:TLa) (b:Y8):=(S_q1u a b).den
theorem F_q1u_ok {a:TLa} {b:Y8}:FO (F_q1u a b) 124 [(TLa.d a),(AV.d (DV.str b))] [] vb NL:=fO (s:=S_q1u a b) Tryz.func124
def S_q3j (h:TChe) (d:TBo):SC Int Int :=
.a 1 4 2 (@F_q1u_ok h.law d.B) fun e=>
.ite (!e) (
.r 5) (
 let b:=(d.D != (-1))
.calld [b=true] dF (@F_q2h_ok h.law d.D) fun f c =>
.reg 3 [] [(8,hc c [] true)] [.clg 0 [b=true] c [] 2 true]<|
.ite (bif b then (!f) else false) (
.r 16) (
.a 5 2 2 (@F_q19_ok d.C) fun g=>
.ite (!g) (
.r 2) (
.r 0)))
def F_q3j (a:TChe) (b:TBo):=(S_q3j a b).den
theorem F_q3j_ok {a:TChe} {b:TBo}:FO (F_q3j a b) 82 [(TChe.d a),(TBo.d b)] [] vi NL:=fO (s:=S_q3j a b) Tryz.func82
def S_q3k (h:TBo) (j:TBo):SC Int Int :=
.call (@F_q10_ok h.B j.B) fun e b=>
.call (@F_qm_ok h.D j.D) fun f c=>
 let a:=([e,f]:List Int)
.call (@F_qi_ok a) fun g d=>
.reg 1 [] [(4,hc b [] true),(9,hc c [] true),(10,hv (vl a)),(11,hc d [] true)] [.cl 2 b [] 2 true,.cl 1 c [] 2 true,.pf (z5 (DV.i .i64) a),.cl 0 d [] 2 true]<|
.r g
def F_q3k (a:TBo) (b:TBo):=(S_q3k a b).den
theorem F_q3k_ok {a:TBo} {b:TBo}:FO (F_q3k a b) 81 [(TBo.d a),(TBo.d b)] [] vi NL:=fO (s:=S_q3k a b) Tryz.func81
end
end Go.Proofs.YtljnmhapbonmfaaGreatDoor
/- What the functions compute,and that their calls return it. No condition. -/
namespace Go.Proofs.YtljnmhapbonmfaaGreatDoor
open Go Go.TA
open Go.IntKind (i64)
noncomputable section
set_option maxRecDepth 100000
def S_q11_b1 (g:(List TBo)) (a2_0:TChe) (b:Nat) (_:Unit):SC Int (Step Unit Int) :=
.reg 3 [] [] [.w b,.ev 0]<|
.a 4 2 1 (@F_q3j_ok a2_0 (g.getD b dF)) fun e=>
.ite (e != 0) (
.r (.ret e)) (
 let c:=(decide ((b:Int)>0))
 let d:=(i64.wrap ((b:Int)-1))
.calld [c=true] dF (@F_q3k_ok (g.getD d.toNat dF) (g.getD b dF)) fun h f =>
.guard [AllP [c=true]->((0:Int)<=d),AllP [c=true]->(d.toNat<g.length)]<|
.reg 7 [] [(10,hc f [] true)] [.ev 0,.ev 1,.clg 2 [c=true] f [] 1 true]<|
.ite (bif c then (decide (h>=0)) else false) (
.r (.ret 8)) (
.r (.cont ())))
def S_q11 (a:(List TBo)) (a2_0:TChe):SC Int Int :=
.range (a.length:Int) a.length rfl (.slot 0) 12 [0,1,2,10,11] (fun (_:Unit)=>[]) (fun _=>[]) () (S_q11_b1 a a2_0) (fun _ => 
.r 0) id
def F_q11 (a:(List TBo)) (a2_0:TChe):=(S_q11 a a2_0).den
theorem F_q11_ok {a:(List TBo)} {a2_0:TChe}:FO (F_q11 a a2_0) 80 [(AV.d (eL TBo.e a)),(AV.fn 81 []),(AV.bfn 82 [(TChe.d a2_0)])] [] vi NL:=fO (s:=S_q11 a a2_0) Tryz.func80
def S_q3l (h:TChe) (e:TEa):SC Int Int :=
.call (@F_q1u_ok h.law e.T) fun b c=>
.calld [(!b)=false] dF (@F_q2n_ok h e.B) fun f d =>
.reg 1 [] [(4,hc c [] true),(10,hc d [] true)] [.cl 2 c [] 2 true,.clg 0 [(!b)=false] d [] 2 true]<|
.ite (cO (!b) (!f)) (
.r 5) (
.a 3 2 2 (@F_qz_ok e.R 0 100) fun g=>
.ite (!g) (
.r 2) (
.r 0))
def F_q3l (a:TChe) (b:TEa):=(S_q3l a b).den
theorem F_q3l_ok {a:TChe} {b:TEa}:FO (F_q3l a b) 85 [(TChe.d a),(TEa.d b)] [] vi NL:=fO (s:=S_q3l a b) Tryz.func85
def S_q3m (h:TEa) (j:TEa):SC Int Int :=
.call (@F_q10_ok h.T j.T) fun e b=>
.call (@F_q10_ok h.B j.B) fun f c=>
 let a:=([e,f]:List Int)
.call (@F_qi_ok a) fun g d=>
.reg 1 [] [(4,hc b [] true),(9,hc c [] true),(10,hv (vl a)),(11,hc d [] true)] [.cl 2 b [] 2 true,.cl 1 c [] 2 true,.pf (z5 (DV.i .i64) a),.cl 0 d [] 2 true]<|
.r g
def F_q3m (a:TEa) (b:TEa):=(S_q3m a b).den
theorem F_q3m_ok {a:TEa} {b:TEa}:FO (F_q3m a b) 84 [(TEa.d a),(TEa.d b)] [] vi NL:=fO (s:=S_q3m a b) Tryz.func84
def S_q1b_b1 (g:(List TEa)) (a2_0:TChe) (b:Nat) (_:Unit):SC Int (Step Unit Int) :=
.reg 3 [] [] [.w b,.ev 0]<|
.a 4 2 1 (@F_q3l_ok a2_0 (g.getD b dF)) fun e=>
.ite (e != 0) (
.r (.ret e)) (
 let c:=(decide ((b:Int)>0))
 let d:=(i64.wrap ((b:Int)-1))
.calld [c=true] dF (@F_q3m_ok (g.getD d.toNat dF) (g.getD b dF)) fun h f =>
.guard [AllP [c=true]->((0:Int)<=d),AllP [c=true]->(d.toNat<g.length)]<|
.reg 7 [] [(10,hc f [] true)] [.ev 0,.ev 1,.clg 2 [c=true] f [] 1 true]<|
.ite (bif c then (decide (h>=0)) else false) (
.r (.ret 8)) (
.r (.cont ())))
def S_q1b (a:(List TEa)) (a2_0:TChe):SC Int Int :=
.range (a.length:Int) a.length rfl (.slot 0) 12 [0,1,2,10,11] (fun (_:Unit)=>[]) (fun _=>[]) () (S_q1b_b1 a a2_0) (fun _ => 
.r 0) id
def F_q1b (a:(List TEa)) (a2_0:TChe):=(S_q1b a a2_0).den
theorem F_q1b_ok {a:(List TEa)} {a2_0:TChe}:FO (F_q1b a a2_0) 83 [(AV.d (eL TEa.e a)),(AV.fn 84 []),(AV.bfn 85 [(TChe.d a2_0)])] [] vi NL:=fO (s:=S_q1b a a2_0) Tryz.func83
def S_qn_b1 (h:TChe) (f:Nat) (b:Nat) (d:Int):SC Int (Step Int Int) :=
.reg 7 [] [] [.w b,.ev 0]<|
 let e:=(h.law.L.getD b dF)
.a 8 3 2 (@F_qs_ok (h.leaves.getD f dF) e.T) fun g=>
.ite g (
.r (.cont (i64.wrap (d+e.R)))) (
.c d)
def S_qn_b2 (c:TChe) (b:Nat) (_:Unit):SC Int (Step Unit Int) :=
.reg 3 [] [] [.w b,.ev 0]<|
.range (c.law.L.length:Int) c.law.L.length rfl (.slot 17) 19 [1,4,9,10,11,17,18] (fun (a:Int)=>[(5,(vi a))]) (fun _=>[]) 0 (S_qn_b1 c b) (fun a => 
.ite (decide (a>100)) (
.r (.ret 13)) (
.r (.cont ()))) .ret
def S_qn (a:TChe):SC Int Int :=
.range (a.leaves.length:Int) a.leaves.length rfl (.slot 9) 11 [1,9,10] (fun (_:Unit)=>[]) (fun _=>[]) () (S_qn_b2 a) (fun _ => 
.r 0) id
def F_qn (a:TChe):=(S_qn a).den
theorem F_qn_ok {a:TChe}:FO (F_qn a) 86 [(TChe.d a)] [] vi NL:=fO (s:=S_qn a) Tryz.func86
def S_q32 (c:Int):SC Bool Bool :=
.a 1 1 0 (@F_qz_ok c 0 35990) fun b=>
.r b
def F_q32 (a:Int):=(S_q32 a).den
theorem F_q32_ok {a:Int}:FO (F_q32 a) 125 [(vi a)] [] vb NL:=fO (s:=S_q32 a) Tryz.func125
def S_q3n (n:TChe) (b:TCo):SC Int Int :=
.a 2 2 2 (@F_qz_ok b.N 1 2) fun g=>
.cut none [2,3,5] (fun (c:Bool)=>[(9,(vb c))]) (fun _=>[]) (
.ite (!g) (
.r (.next (!g))) (
 let h:=(bif (b.N==2) then (b.H != 0) else false)
.ite h (
.r (.next h)) (
.r (.next (bif (!(b.N==2)) then (cO (!(b.T==([]))) (b.W != 0)) else false))))) fun c=>
.ite c (
.r 1) (
.call (@F_q2n_ok n b.B) fun d i=>
.calld [(b.N==2)=true,(!d)=false] dF (@F_q1u_ok n.law b.T) fun o j =>
.reg 6 [] [(3,hc i [] true),(12,hc j [] true)] [.cl 2 i [] 2 true,.clg 0 [(b.N==2)=true,(!d)=false] j [] 2 true]<|
.ite (cO (!d) (bif (b.N==2) then (!o) else false)) (
.r 5) (
.a 8 4 2 (@F_q2h_ok n.law b.D) fun p=>
.ite (!p) (
.r 16) (
.call (@F_q19_ok b.C) fun e k=>
.calld [(!e)=false] dF (@F_q19_ok b.W) fun q l =>
 let f:=(cO (!e) (!q))
.calld [f=false] dF (@F_q32_ok b.H) fun s m =>
.reg 10 [] [(2,hc k [] true),(7,hc l [] true),(13,hc m [] true)] [.cl 4 k [] 2 true,.clg 2 [(!e)=false] l [] 2 true,.clg 0 [f=false] m [] 2 true]<|
.ite (cO f (!s)) (
.r 2) (
.r 0))))
def F_q3n (a:TChe) (b:TCo):=(S_q3n a b).den
theorem F_q3n_ok {a:TChe} {b:TCo}:FO (F_q3n a b) 88 [(TChe.d a),(TCo.d b)] [] vi NL:=fO (s:=S_q3n a b) Tryz.func88
def S_q4d (_:TCo) (_:TCo):SC Int Int :=
.r (-1)
def F_q4d (a:TCo) (b:TCo):=(S_q4d a b).den
theorem F_q4d_ok {a:TCo} {b:TCo}:FO (F_q4d a b) 75 [(TCo.d a),(TCo.d b)] [] vi NL:=fO (s:=S_q4d a b) Tryz.func75
def S_q1v_b1 (g:(List TCo)) (a2_0:TChe) (b:Nat) (_:Unit):SC Int (Step Unit Int) :=
.reg 3 [] [] [.w b,.ev 0]<|
.a 4 2 1 (@F_q3n_ok a2_0 (g.getD b dF)) fun e=>
.ite (e != 0) (
.r (.ret e)) (
 let c:=(decide ((b:Int)>0))
 let d:=(i64.wrap ((b:Int)-1))
.calld [c=true] dF (@F_q4d_ok (g.getD d.toNat dF) (g.getD b dF)) fun h f =>
.guard [AllP [c=true]->((0:Int)<=d),AllP [c=true]->(d.toNat<g.length)]<|
.reg 7 [] [(10,hc f [] true)] [.ev 0,.ev 1,.clg 2 [c=true] f [] 1 true]<|
.ite (bif c then (decide (h>=0)) else false) (
.r (.ret 8)) (
.r (.cont ())))
def S_q1v (a:(List TCo)) (a2_0:TChe):SC Int Int :=
.range (a.length:Int) a.length rfl (.slot 0) 12 [0,1,2,10,11] (fun (_:Unit)=>[]) (fun _=>[]) () (S_q1v_b1 a a2_0) (fun _ => 
.r 0) id
def F_q1v (a:(List TCo)) (a2_0:TChe):=(S_q1v a a2_0).den
theorem F_q1v_ok {a:(List TCo)} {a2_0:TChe}:FO (F_q1v a a2_0) 87 [(AV.d (eL TCo.e a)),(AV.fn 75 []),(AV.bfn 88 [(TChe.d a2_0)])] [] vi NL:=fO (s:=S_q1v a a2_0) Tryz.func87
def S_q33 (c:Int):SC Bool Bool :=
.a 1 1 0 (@F_qz_ok c 1 1000000) fun b=>
.r b
def F_q33 (a:Int):=(S_q33 a).den
theorem F_q33_ok {a:Int}:FO (F_q33 a) 126 [(vi a)] [] vb NL:=fO (s:=S_q33 a) Tryz.func126
def S_q3o (j:TChe) (g:TRu):SC Int Int :=
.call (@F_q33_ok g.F) fun a c=>
.calld [(!a)=false] dF (@F_qz_ok g.R 0 100) fun h d =>
.reg 1 [] [(2,hc c [] true),(7,hc d [] true)] [.cl 2 c [] 2 true,.clg 0 [(!a)=false] d [] 2 true]<|
.ite (cO (!a) (!h)) (
.r 2) (
.call (@F_q1u_ok j.law g.K) fun b e=>
.calld [(!b)=false] dF (@F_q1u_ok j.law g.V) fun i f =>
.reg 3 [] [(4,hc e [] true),(11,hc f [] true)] [.cl 2 e [] 2 true,.clg 0 [(!b)=false] f [] 2 true]<|
.ite (cO (!b) (!i)) (
.r 5) (
.r 0))
def F_q3o (a:TChe) (b:TRu):=(S_q3o a b).den
theorem F_q3o_ok {a:TChe} {b:TRu}:FO (F_q3o a b) 91 [(TChe.d a),(TRu.d b)] [] vi NL:=fO (s:=S_q3o a b) Tryz.func91
def S_q3p (c:TRu) (d:TRu):SC Int Int :=
.a 1 4 2 (@F_qm_ok c.F d.F) fun b=>
.r b
def F_q3p (a:TRu) (b:TRu):=(S_q3p a b).den
theorem F_q3p_ok {a:TRu} {b:TRu}:FO (F_q3p a b) 90 [(TRu.d a),(TRu.d b)] [] vi NL:=fO (s:=S_q3p a b) Tryz.func90
def S_q1c_b1 (g:(List TRu)) (a2_0:TChe) (b:Nat) (_:Unit):SC Int (Step Unit Int) :=
.reg 3 [] [] [.w b,.ev 0]<|
.a 4 2 1 (@F_q3o_ok a2_0 (g.getD b dF)) fun e=>
.ite (e != 0) (
.r (.ret e)) (
 let c:=(decide ((b:Int)>0))
 let d:=(i64.wrap ((b:Int)-1))
.calld [c=true] dF (@F_q3p_ok (g.getD d.toNat dF) (g.getD b dF)) fun h f =>
.guard [AllP [c=true]->((0:Int)<=d),AllP [c=true]->(d.toNat<g.length)]<|
.reg 7 [] [(10,hc f [] true)] [.ev 0,.ev 1,.clg 2 [c=true] f [] 1 true]<|
.ite (bif c then (decide (h>=0)) else false) (
.r (.ret 8)) (
.r (.cont ())))
def S_q1c (a:(List TRu)) (a2_0:TChe):SC Int Int :=
.range (a.length:Int) a.length rfl (.slot 0) 12 [0,1,2,10,11] (fun (_:Unit)=>[]) (fun _=>[]) () (S_q1c_b1 a a2_0) (fun _ => 
.r 0) id
def F_q1c (a:(List TRu)) (a2_0:TChe):=(S_q1c a a2_0).den
theorem F_q1c_ok {a:(List TRu)} {a2_0:TChe}:FO (F_q1c a a2_0) 89 [(AV.d (eL TRu.e a)),(AV.fn 90 []),(AV.bfn 91 [(TChe.d a2_0)])] [] vi NL:=fO (s:=S_q1c a a2_0) Tryz.func89
def S_q3q (h:TAm) (j:TAm):SC Int Int :=
.call (@F_qm_ok h.H j.H) fun e b=>
.call (@F_qm_ok h.F j.F) fun f c=>
 let a:=([e,f]:List Int)
.call (@F_qi_ok a) fun g d=>
.reg 1 [] [(4,hc b [] true),(9,hc c [] true),(10,hv (vl a)),(11,hc d [] true)] [.cl 2 b [] 2 true,.cl 1 c [] 2 true,.pf (z5 (DV.i .i64) a),.cl 0 d [] 2 true]<|
.r g
def F_q3q (a:TAm) (b:TAm):=(S_q3q a b).den
theorem F_q3q_ok {a:TAm} {b:TAm}:FO (F_q3q a b) 127 [(TAm.d a),(TAm.d b)] [] vi NL:=fO (s:=S_q3q a b) Tryz.func127
def S_q3r (f:TChe) (b:TCh):SC Int Int :=
.a 2 2 2 (@F_qz_ok b.N 1 3) fun g=>
.ite (!g) (
.r 1) (
.call (@F_q1u_ok f.law b.B) fun c d=>
.calld [(b.N==1)=true,(!c)=false] dF (@F_q2n_ok f b.B) fun h e =>
.reg 4 [] [(4,hc d [] true),(12,hc e [] true)] [.cl 2 d [] 2 true,.clg 0 [(b.N==1)=true,(!c)=false] e [] 2 true]<|
.ite (cO (!c) (bif (b.N==1) then (!h) else false)) (
.r 5) (
.a 6 4 2 (@F_q2h_ok f.law b.D) fun i=>
.ite (bif (!i) then (cO (b.N==1) (b.D != (-1))) else false) (
.r 16) (
.a 8 2 2 (@F_q19_ok b.C) fun j=>
.ite (bif (!j) then (cO (b.N != 2) (b.C != (-1))) else false) (
.r 2) (
.r 0))))
def F_q3r (a:TChe) (b:TCh):=(S_q3r a b).den
theorem F_q3r_ok {a:TChe} {b:TCh}:FO (F_q3r a b) 130 [(TChe.d a),(TCh.d b)] [] vi NL:=fO (s:=S_q3r a b) Tryz.func130
def S_q3s (f:TCh) (g:TCh):SC Int Int :=
.call (@F_qm_ok f.N g.N) fun h b=>
.call (@F_q10_ok f.B g.B) fun j c=>
.call (@F_qm_ok f.D g.D) fun k d=>
 let a:=([h,j,k]:List Int)
.call (@F_qi_ok a) fun l e=>
.reg 1 [] [(4,hc b [] true),(9,hc c [] true),(14,hc d [] true),(15,hv (vl a)),(16,hc e [] true)] [.cl 3 b [] 2 true,.cl 2 c [] 2 true,.cl 1 d [] 2 true,.pf (z5 (DV.i .i64) a),.cl 0 e [] 2 true]<|
.r l
def F_q3s (a:TCh) (b:TCh):=(S_q3s a b).den
theorem F_q3s_ok {a:TCh} {b:TCh}:FO (F_q3s a b) 129 [(TCh.d a),(TCh.d b)] [] vi NL:=fO (s:=S_q3s a b) Tryz.func129
def S_q1d_b1 (g:(List TCh)) (a2_0:TChe) (b:Nat) (_:Unit):SC Int (Step Unit Int) :=
.reg 3 [] [] [.w b,.ev 0]<|
.a 4 2 1 (@F_q3r_ok a2_0 (g.getD b dF)) fun e=>
.ite (e != 0) (
.r (.ret e)) (
 let c:=(decide ((b:Int)>0))
 let d:=(i64.wrap ((b:Int)-1))
.calld [c=true] dF (@F_q3s_ok (g.getD d.toNat dF) (g.getD b dF)) fun h f =>
.guard [AllP [c=true]->((0:Int)<=d),AllP [c=true]->(d.toNat<g.length)]<|
.reg 7 [] [(10,hc f [] true)] [.ev 0,.ev 1,.clg 2 [c=true] f [] 1 true]<|
.ite (bif c then (decide (h>=0)) else false) (
.r (.ret 8)) (
.r (.cont ())))
def S_q1d (a:(List TCh)) (a2_0:TChe):SC Int Int :=
.range (a.length:Int) a.length rfl (.slot 0) 12 [0,1,2,10,11] (fun (_:Unit)=>[]) (fun _=>[]) () (S_q1d_b1 a a2_0) (fun _ => 
.r 0) id
def F_q1d (a:(List TCh)) (a2_0:TChe):=(S_q1d a a2_0).den
theorem F_q1d_ok {a:(List TCh)} {a2_0:TChe}:FO (F_q1d a a2_0) 128 [(AV.d (eL TCh.e a)),(AV.fn 129 []),(AV.bfn 130 [(TChe.d a2_0)])] [] vi NL:=fO (s:=S_q1d a a2_0) Tryz.func128
theorem cz3:OLe (bx (DV.agg [(DV.i .i64 0),(DV.i .i64 0),Z0])) (TAm.b (⟨0,0,[]⟩:TAm)):=z7y (DLe.agg (DLeL.cons (DLe.refl _) (DLeL.cons (DLe.refl _) (DLeL.cons DLe.sl0 DLeL.nil))))
def S_q1w_b1 (l:TChe) (e:Nat) (_:Unit):SC Int (Step Unit Int) :=
.reg 3 [] [(3,{ obs:=[(1,(TAm.b (⟨0,0,[]⟩:TAm)))] })] [.w e,.ev 0,.pf cz3]<|
 let c:=(l.law.A.getD e dF)
.call (@F_q32_ok c.H) fun f h=>
.calld [(!f)=false] dF (@F_q33_ok c.F) fun m i =>
.reg 4 [] [(2,hc h [] true),(7,hc i [] true)] [.cl 2 h [] 2 true,.clg 0 [(!f)=false] i [] 2 true]<|
.ite (cO (!f) (!m)) (
.r (.ret 2)) (
 let d:=(decide ((e:Int)>0))
 let g:=(i64.wrap ((e:Int)-1))
.calld [d=true] dF (@F_q3q_ok (l.law.A.getD g.toNat dF) c) fun n j =>
.guard [AllP [d=true]->((0:Int)<=g),AllP [d=true]->(g.toNat<l.law.A.length)]<|
.reg 6 [] [(11,hc j [] true)] [.ev 0,.ev 1,.clg 2 [d=true] j [] 2 true]<|
.ite (bif d then (decide (n>=0)) else false) (
.r (.ret 8)) (
.ite ((c.M.length:Int)==0) (
.r (.ret 1)) (
.a 10 4 2 (@F_q1d_ok c.M l) fun k=>
.ite (k != 0) (
.r (.ret k)) (
.r (.cont ())))))
def S_q1w (a:TChe):SC Int Int :=
.range (a.law.A.length:Int) a.law.A.length rfl (.slot 8) 10 [1,8,9] (fun (_:Unit)=>[]) (fun _=>[]) () (S_q1w_b1 a) (fun _ => 
.r 0) id
def F_q1w (a:TChe):=(S_q1w a).den
theorem F_q1w_ok {a:TChe}:FO (F_q1w a) 92 [(TChe.d a)] [] vi NL:=fO (s:=S_q1w a) Tryz.func92
def S_q1x_b1 (b:(List Int)) (a:Nat) (_:Unit):SC Int (Step Unit Int) :=
.reg 4 [] [] [.w a,.ev 0]<|
.ite ((b.getD a dF) != 0) (
.r (.ret (b.getD a dF))) (
.r (.cont ()))
def S_q1x (a:(List Int)):SC Int Int :=
.range (a.length:Int) a.length rfl (.slot 6) 8 [3,6,7] (fun (_:Unit)=>[]) (fun _=>[]) () (S_q1x_b1 a) (fun _ => 
.r 0) id
def F_q1x (a:(List Int)):=(S_q1x a).den
theorem F_q1x_ok {a:(List Int)}:FO (F_q1x a) 76 [(vl a)] [] vi NL:=fO (s:=S_q1x a) Tryz.func76
theorem cz4:OLe (bx (DV.agg [(DV.agg [(DV.i .i64 0),(DV.i .i64 0),Z0,Z0,Z0,Z0,Z0,Z0,Z0,Z0]),Z0])) (TChe.b (⟨(⟨0,0,[],[],[],[],[],[],[],[]⟩:TLa),[]⟩:TChe)):=z7y (DLe.agg (DLeL.cons (DLe.agg (DLeL.cons (DLe.refl _) (DLeL.cons (DLe.refl _) (DLeL.cons DLe.sl0 (DLeL.cons DLe.sl0 (DLeL.cons DLe.sl0 (DLeL.cons DLe.sl0 (DLeL.cons DLe.sl0 (DLeL.cons DLe.sl0 (DLeL.cons DLe.sl0 (DLeL.cons DLe.sl0 DLeL.nil))))))))))) (DLeL.cons DLe.sl0 DLeL.nil)))
def S_q2i (f:TLa):SC Int Int :=
 let g:=(⟨f,[]⟩:TChe)
.reg 1 [] [(1,hv (TChe.d g)),(2,{ obs:=[(1,(TChe.b (⟨(⟨0,0,[],[],[],[],[],[],[],[]⟩:TLa),[]⟩:TChe)))] })] [.pf (p:=LeV (AV.d (DV.agg [(TLa.e f),Z0])) (TChe.d g)) (zaa rfl (DLe.agg (DLeL.cons (DLe.refl _) (DLeL.cons DLe.sl0 DLeL.nil)))),.pf cz4]<|
.a 2 1 2 (@F_q3g_ok g) fun l=>
.ite (l != 0) (
.r l) (
.a 5 2 2 (@F_q3_ok f.E ([])) fun x=>
 let c:=(⟨g.law,x⟩:TChe)
.call (@F_q1a_ok f.P c) fun y m=>
.call (@F_q11_ok f.S c) fun z n=>
.call (@F_q11_ok f.U c) fun A o=>
.call (@F_q1b_ok f.L c) fun B q=>
.call (@F_qn_ok c) fun C s=>
.call (@F_q1v_ok f.O c) fun D t=>
.call (@F_q1c_ok f.I c) fun F u=>
.call (@F_q1w_ok c) fun v h=>
 let k:=([y,z,A,B,C,D,F,v]:List Int)
.call (@F_q1x_ok k) fun w j=>
.reg 7 [] [(4,hc m [] true),(9,hc n [] true),(14,hc o [] true),(19,hc q [] true),(21,hc s [] true),(27,hc t [] true),(32,hc u [] true),(34,hc h [] true),(35,hv (vl k)),(36,hc j [] true)] [.cl 8 m [] 2 true,.cl 7 n [] 2 true,.cl 6 o [] 2 true,.cl 5 q [] 2 true,.cl 4 s [] 2 true,.cl 3 t [] 2 true,.cl 2 u [] 2 true,.cl 1 h [] 2 true,.pf (z5 (DV.i .i64) k),.cl 0 j [] 2 true]<|
.r w)
def F_q2i (a:TLa):=(S_q2i a).den
theorem F_q2i_ok {a:TLa}:FO (F_q2i a) 46 [(TLa.d a)] [] vi NL:=fO (s:=S_q2i a) Tryz.func46
abbrev R_q2j:=TLa×Bool×Int×TLa×Int×(List TTr)
def S_q2j (c:TLa):SC R_q2j R_q2j :=
.reg 1 [] [(1,{ h:=.obj })] []<|
 let a:=(AV.full 0 fun _=>DV.b false)
 let g:=(eL TBo.e ([]:List TBo))
.sh (A:=True) (.pf trivial) [(2,(vp 1))] [(2,(vp 1))] [(TLa.b c),(Ob.box (AV.agg [(TLa.d c),a,(vb false),(vi 0),(AV.agg [(vi 0),(vi 0),a,a,a,a,a,a,a,a]),(vi 0)]))] [(TLa.b c),(Ob.box (AV.agg [(TLa.d c),(AV.ref 2 0 0 0),(vb false),(vi 0),(AV.d (DV.agg [(DV.i .i64 0),(DV.i .i64 0),(eL THe.e ([]:List THe)),(eL TLi.e ([]:List TLi)),g,g,(eL TEa.e ([]:List TEa)),(eL TCo.e ([]:List TCo)),(eL TRu.e ([]:List TRu)),(eL TAm.e ([]:List TAm))])),(vi 0)])),(eS 7 TTr.e ([]:List TTr))] (fun _=>(z1o (sz:=7) (f:=fun j=>AV.d (TTr.e (([]:List TTr).getD j dF))) (.keep _ _ _ _ (ya rfl) (.box _ _ _ _ _ (ya rfl) (TrV.agg (TrL.cons (TrV.keep _) (TrL.cons TrV.born (TrL.cons (TrV.keep _) (TrL.cons (TrV.keep _) (TrL.cons (TrV.aggD (TrL.cons (TrV.keep _) (TrL.cons (TrV.keep _) (TrL.cons TrV.full (TrL.cons TrV.full (TrL.cons TrV.full (TrL.cons TrV.full (TrL.cons TrV.full (TrL.cons TrV.full (TrL.cons TrV.full (TrL.cons TrV.full TrL.nil))))))))))) (TrL.cons (TrV.keep _) TrL.nil))))))) (.nil _))))) (z11 (k:=0) rfl (TrS.keep _) z22)<|
.kill 0<|
.r (c,false,0,(⟨0,0,([]:List THe),([]:List TLi),([]:List TBo),([]:List TBo),([]:List TEa),([]:List TCo),([]:List TRu),([]:List TAm)⟩:TLa),0,([]:List TTr))
def F_q2j (a:TLa):=(S_q2j a).den
theorem F_q2j_ok {a:TLa}:FO (F_q2j a) 47 [(TLa.d a)] [] (fun _=>(vp 1)) (fun x=>[Ob.dead,(Ob.box (AV.agg [(TLa.d x.1),(AV.ref 2 x.2.2.2.2.2.length 0 x.2.2.2.2.2.length),(vb x.2.1),(vi x.2.2.1),(TLa.d x.2.2.2.1),(vi x.2.2.2.2.1)])),(eS 7 TTr.e x.2.2.2.2.2)]):=fO (s:=S_q2j a) Tryz.func47
def S_q2k (h:TTr) (j:TTr):SC Int Int :=
.call (@F_qm_ok h.H j.H) fun e b=>
.call (@F_qm_ok h.F j.F) fun f c=>
 let a:=([e,f]:List Int)
.call (@F_qi_ok a) fun g d=>
.reg 1 [] [(4,hc b [] true),(9,hc c [] true),(10,hv (vl a)),(11,hc d [] true)] [.cl 2 b [] 2 true,.cl 1 c [] 2 true,.pf (z5 (DV.i .i64) a),.cl 0 d [] 2 true]<|
.r g
def F_q2k (a:TTr) (b:TTr):=(S_q2k a b).den
theorem F_q2k_ok {a:TTr} {b:TTr}:FO (F_q2k a b) 29 [(TTr.d a),(TTr.d b)] [] vi NL:=fO (s:=S_q2k a b) Tryz.func29
def S_q34 (a:Int):SC Bool Bool :=
.r (bif (decide (a>=1)) then (decide (a<=1000000)) else false)
def F_q34 (a:Int):=(S_q34 a).den
theorem F_q34_ok {a:Int}:FO (F_q34 a) 94 [(vi a)] [] vb NL:=fO (s:=S_q34 a) Tryz.func94
def S_q35 (e:TLa) (f:Y8):SC Bool Bool :=
.call (@F_q3_ok e.E ([])) fun c a=>
.call (@F_q31_ok c f) fun d b=>
.reg 1 [] [(2,hc a [] true),(4,hc b [] true)] [.cl 1 a [] 1 true,.cl 0 b [] 1 true]<|
.r d
def F_q35 (a:TLa) (b:Y8):=(S_q35 a b).den
theorem F_q35_ok {a:TLa} {b:Y8}:FO (F_q35 a b) 96 [(TLa.d a),(AV.d (DV.str b))] [] vb NL:=fO (s:=S_q35 a b) Tryz.func96
def S_q4e (a:Int):SC Bool Bool :=
.r (bif (decide (a>=0)) then (decide (a<=36000)) else false)
def F_q4e (a:Int):=(S_q4e a).den
theorem F_q4e_ok {a:Int}:FO (F_q4e a) 132 [(vi a)] [] vb NL:=fO (s:=S_q4e a) Tryz.func132
def S_q3t (c:Int):SC Int Int :=
.a 1 1 0 (@F_q4e_ok c) fun b=>
.ite (!b) (
.r (-1)) (
.reg 3 [] [] [.pf (p:=(360:Int)≠0) dk]<|
.r (i64.wrap (c.tdiv 360)))
def F_q3t (a:Int):=(S_q3t a).den
theorem F_q3t_ok {a:Int}:FO (F_q3t a) 98 [(vi a)] [] vi NL:=fO (s:=S_q3t a) Tryz.func98
def S_q3u (a:TTr) (p0_0:TLa) (_:Bool) (_:Int) (_:TLa) (_:Int) (_:(List TTr)):SC Int Int :=
.call (@F_q34_ok a.F) fun b f=>
.calld [(!b)=false] dF (@F_q34_ok a.Q) fun m g =>
 let c:=(cO (cO (cO (!b) (!m)) (decide (a.H<0))) (decide (a.H>35990)))
.calld [c=false] dF (@F_q19_ok a.C) fun n h =>
.reg 2 [] [(3,hc f [] true),(9,hc g [] true),(25,hc h [] true)] [.cl 4 f [] 3 true,.clg 2 [(!b)=false] g [] 3 true,.clg 0 [c=false] h [] 3 true]<|
.ite (cO (cO c (!n)) (a.C==0)) (
.r 2) (
.call (@F_q35_ok p0_0 a.K) fun d i=>
.calld [(!d)=false] dF (@F_q35_ok p0_0 a.V) fun o j =>
.reg 4 [] [(6,hc i [] true),(15,hc j [] true)] [.cl 2 i [] 3 true,.clg 0 [(!d)=false] j [] 3 true]<|
.ite (cO (cO (!d) (!o)) (a.K==a.V)) (
.r 5) (
.call (@F_q2h_ok p0_0 a.D) fun e k=>
.calld [(!e)=false] dF (@F_q3t_ok a.H) fun p l =>
.reg 6 [] [(6,hc k [] true),(11,hc l [] true)] [.cl 2 k [] 3 true,.clg 0 [(!e)=false] l [] 3 true]<|
.ite (cO (!e) (decide (p>a.D))) (
.r 16) (
.r 0)))
def F_q3u (a:TTr) (p0_0:TLa) (p0_1:Bool) (p0_2:Int) (p0_3:TLa) (p0_4:Int) (b:(List TTr)):=(S_q3u a p0_0 p0_1 p0_2 p0_3 p0_4 b).den
theorem F_q3u_ok {b:TTr} {p0_0:TLa} {p0_1:Bool} {p0_2:Int} {p0_3:TLa} {p0_4:Int} {a:(List TTr)}:FO (F_q3u b p0_0 p0_1 p0_2 p0_3 p0_4 a) 50 [(vp 0),(TTr.d b)] [(Ob.box (AV.agg [(TLa.d p0_0),(AV.ref 1 a.length 0 a.length),(vb p0_1),(vi p0_2),(TLa.d p0_3),(vi p0_4)])),(eS 7 TTr.e a)] vi (fun _=>[(Ob.box (AV.agg [(TLa.d p0_0),(AV.ref 1 a.length 0 a.length),(vb p0_1),(vi p0_2),(TLa.d p0_3),(vi p0_4)])),(eS 7 TTr.e a)]):=fO (s:=S_q3u b p0_0 p0_1 p0_2 p0_3 p0_4 a) Tryz.func50
def S_q4f (a:TAm) (b:Int):SC Bool Bool :=
.r (decide (a.H>b))
def F_q4f (a:TAm) (b:Int):=(S_q4f a b).den
theorem F_q4f_ok {b:TAm} {a:Int}:FO (F_q4f b a) 113 [(TAm.d b),(vp 0)] [(Ob.box (vi a))] vb (fun _=>[(Ob.box (vi a))]):=fO (s:=S_q4f b a) Tryz.func113
def S_q1y_b1 (d:(List TAm)) (e:Int) (a:Nat) (_:Unit):SC Int (Step Unit Int) :=
.call (@F_q4f_ok (d.getD a dF) e) fun c b=>
.reg 4 [] [(5,hc b [0] true)] [.w a,.ev 1,.cl 0 b [0] 1 true]<|
.ite c (
.r (.ret (a:Int))) (
.r (.cont ()))
def S_q1y (a:(List TAm)) (b:Int):SC Int Int :=
.range (a.length:Int) a.length rfl (.slot 0) 8 [0,1,7] (fun (_:Unit)=>[]) (fun _=>[]) () (S_q1y_b1 a b) (fun _ => 
.r (-1)) id
def F_q1y (a:(List TAm)) (b:Int):=(S_q1y a b).den
theorem F_q1y_ok {b:(List TAm)} {a:Int}:FO (F_q1y b a) 112 [(AV.d (eL TAm.e b)),(AV.fn 113 [(vp 0)])] [(Ob.box (vi a))] vi (fun _=>[(Ob.box (vi a))]):=fO (s:=S_q1y b a) Tryz.func112
theorem cz5:∀ k,k<0->(DV.b false).wd=2:=fun _ h=>absurd h (y59 _)
def S_q4g (a:(List THe)):SC (List THe) (List THe) :=
.reg 0 [] [] []<|
 let b:=(AV.d (eL THe.e a))
.nils 0 (
.guard [(0+a.length) * (2 * 32)<=2 ^ 48]<|
.reg 1 [] [] []<|
.lev 0 b (.pf (lvQ true a.length fun j=>(THe.e (a.getD j dF))))<|
.br true (.pf (p:=true=true) rfl)<|
.reg 2 [] [] []<|
.lev 2 b (.der (fun (h:a.length=0)=>lvZ THe.e a h) 1)<|
.r a) (
.reg 1 [] [] []<|
.lev 0 b (.pf (lvQ false a.length fun j=>(THe.e (a.getD j dF))))<|
.br false (.pf (p:=false=false) rfl)<|
.guard [(0+a.length) * (2 * 32)<=2 ^ 48]<|
.reg 3 [] [(2,hv b)] [.pf (p:=∀ k,k<a.length->AV.d (THe.e (a.getD k dF))=AV.d (THe.e (a.getD k dF))/\(THe.e (a.getD k dF)).wd=2) (fun _ _=>⟨rfl,rfl⟩),.pf cz5,.ev 0,.pf (z3a (e:=THe.e) (x:=a))]<|
.r a)
def F_q4g (a:(List THe)):=(S_q4g a).den
theorem F_q4g_ok {a:(List THe)}:FO (F_q4g a) 150 [(AV.d (eL THe.e a))] [] (fun x=>(AV.d (eL THe.e x))) NL:=fO (s:=S_q4g a) Tryz.func150
theorem cz6:∀ k,k<0->(DV.b false).wd=3:=fun _ h=>absurd h (y59 _)
def S_q4h (a:(List TLi)):SC (List TLi) (List TLi) :=
.reg 0 [] [] []<|
 let b:=(AV.d (eL TLi.e a))
.nils 0 (
.guard [(0+a.length) * (2 * 32)<=2 ^ 48]<|
.reg 1 [] [] []<|
.lev 0 b (.pf (lvQ true a.length fun j=>(TLi.e (a.getD j dF))))<|
.br true (.pf (p:=true=true) rfl)<|
.reg 2 [] [] []<|
.lev 2 b (.der (fun (h:a.length=0)=>lvZ TLi.e a h) 1)<|
.r a) (
.reg 1 [] [] []<|
.lev 0 b (.pf (lvQ false a.length fun j=>(TLi.e (a.getD j dF))))<|
.br false (.pf (p:=false=false) rfl)<|
.guard [(0+a.length) * (2 * 32)<=2 ^ 48]<|
.reg 3 [] [(2,hv b)] [.pf (p:=∀ k,k<a.length->AV.d (TLi.e (a.getD k dF))=AV.d (TLi.e (a.getD k dF))/\(TLi.e (a.getD k dF)).wd=3) (fun _ _=>⟨rfl,rfl⟩),.pf cz6,.ev 0,.pf (z3a (e:=TLi.e) (x:=a))]<|
.r a)
def F_q4h (a:(List TLi)):=(S_q4h a).den
theorem F_q4h_ok {a:(List TLi)}:FO (F_q4h a) 151 [(AV.d (eL TLi.e a))] [] (fun x=>(AV.d (eL TLi.e x))) NL:=fO (s:=S_q4h a) Tryz.func151
def S_q3v (a:(List TBo)):SC (List TBo) (List TBo) :=
.reg 0 [] [] []<|
 let b:=(AV.d (eL TBo.e a))
.nils 0 (
.guard [(0+a.length) * (2 * 32)<=2 ^ 48]<|
.reg 1 [] [] []<|
.lev 0 b (.pf (lvQ true a.length fun j=>(TBo.e (a.getD j dF))))<|
.br true (.pf (p:=true=true) rfl)<|
.reg 2 [] [] []<|
.lev 2 b (.der (fun (h:a.length=0)=>lvZ TBo.e a h) 1)<|
.r a) (
.reg 1 [] [] []<|
.lev 0 b (.pf (lvQ false a.length fun j=>(TBo.e (a.getD j dF))))<|
.br false (.pf (p:=false=false) rfl)<|
.guard [(0+a.length) * (2 * 32)<=2 ^ 48]<|
.reg 3 [] [(2,hv b)] [.pf (p:=∀ k,k<a.length->AV.d (TBo.e (a.getD k dF))=AV.d (TBo.e (a.getD k dF))/\(TBo.e (a.getD k dF)).wd=3) (fun _ _=>⟨rfl,rfl⟩),.pf cz6,.ev 0,.pf (z3a (e:=TBo.e) (x:=a))]<|
.r a)
def F_q3v (a:(List TBo)):=(S_q3v a).den
theorem F_q3v_ok {a:(List TBo)}:FO (F_q3v a) 152 [(AV.d (eL TBo.e a))] [] (fun x=>(AV.d (eL TBo.e x))) NL:=fO (s:=S_q3v a) Tryz.func152
end
end Go.Proofs.YtljnmhapbonmfaaGreatDoor
