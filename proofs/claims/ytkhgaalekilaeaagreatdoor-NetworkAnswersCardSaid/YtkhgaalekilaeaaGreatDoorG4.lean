/- A part of the proof: what the functions compute, and that their calls return it. No condition. -/
import Derived.Test.YtkhgaalekilaeaaGreatDoorT8
import Derived.Lib.AppendZerosOnto
import Derived.Test.YtkhgaalekilaeaaGreatDoorProg
import Derived.Test.YtkhgaalekilaeaaGreatDoorT4
import Derived.Test.YtkhgaalekilaeaaGreatDoorG2
import Derived.Test.YtkhgaalekilaeaaGreatDoorG3
import Derived.Test.YtkhgaalekilaeaaGreatDoorP1
/- slices.Insert of one element, into rows of two kinds. No condition. -/
namespace Go.Proofs.YtkhgaalekilaeaaGreatDoor
namespace InsG
open Go Go.TA
open Go.IntKind (i64)
def cL:Code->Code
 | .seq x _=>x
 | _=>.skip
def cR:Code->Code
 | .seq _ y=>y
 | _=>.skip
def cT:Code->Code
 | .cond _ x _=>x
 | _=>.skip
noncomputable def regOps:Code->Array Oper
 | .region _ ops _=>ops
 | _=>#[]
noncomputable def opAt (ops : Array Oper) (i : Nat) : Oper := (ops[i]?).getD { dst := none, op := .move (.tmp 0), type := 0, pos := "", after := #[], guard := none }
noncomputable def ci (ff:Func):Code:=ff.body.getD .skip
section
variable (ff:Func)
noncomputable def R0:Code:=cL (ci ff)
noncomputable def R1:Code:=cL (cR (ci ff))
noncomputable def R2:Code:=cL (cR (cR (ci ff)))
noncomputable def X3:Code:=cL (cR (cR (cR (ci ff))))
noncomputable def R5:Code:=cL (cR (cR (cR (cR (ci ff)))))
noncomputable def X6:Code:=cL (cR (cR (cR (cR (cR (ci ff))))))
noncomputable def T8:Code:=cR (cR (cR (cR (cR (cR (ci ff))))))
noncomputable def R8:Code:=cL (cL (T8 ff))
noncomputable def B9:Code:=cT (cR (cL (T8 ff)))
noncomputable def R9:Code:=cL (B9 ff)
noncomputable def B10:Code:=cR (B9 ff)
noncomputable def C13:Code:=cR (T8 ff)
end
inductive PP:Func->Func->Nat->Nat->Nat->Nat->Nat->Nat->Prop
 | a:PP Tryz.f184 Tryz.f223 184 223 23 102 7 128
 | b:PP Tryz.f271 Tryz.f293 271 293 58 100 5 48
section
variable {ff fo:Func} {nf no tS tE sz bt:Nat}
theorem PP.fF (hp:PP ff fo nf no tS tE sz bt):Tryz.prog.funcs[nf]? = some ff:=by
 cases hp
 ·exact Tryz.func184
 ·exact Tryz.func271
theorem PP.fO (hp:PP ff fo nf no tS tE sz bt):Tryz.prog.funcs[no]? = some fo:=by
 cases hp
 ·exact Tryz.func223
 ·exact Tryz.func293
theorem PP.uS (hp:PP ff fo nf no tS tE sz bt):Tryz.prog.underlying tS=some (.slice tE):=by
 cases hp
 ·exact Tryz.underlying23
 ·exact Tryz.underlying58
theorem PP.zE (hp:PP ff fo nf no tS tE sz bt):∀ w,(Go.sizeOf tE).run Tryz.prog w = .ok sz w:=by
 cases hp
 ·exact Tryz.sizeOf102
 ·exact Tryz.sizeOf100
theorem zt2 (hp:PP ff fo nf no tS tE sz bt):ff.body=some (.seq (R0 ff) (.seq (R1 ff) (.seq (R2 ff) (.seq (.seq (cL (X3 ff)) (.cond (.tmp 16) (cT (cR (X3 ff))) .skip)) (.seq (R5 ff) (.seq (.seq (cL (X6 ff)) (.cond (.tmp 22) (cT (cR (X6 ff))) .skip)) (.seq (.seq (R8 ff) (.cond (.tmp 31) (.seq (R9 ff) (B10 ff)) .skip)) (C13 ff)))))))):=by cases hp <;> kernel_rfl
theorem zwf (hp:PP ff fo nf no tS tE sz bt):(R8 ff) = .region 8 (regOps (R8 ff)) false:=by cases hp <;> kernel_rfl
theorem zwg (hp:PP ff fo nf no tS tE sz bt):(R9 ff) = .region 9 (regOps (R9 ff)) false:=by cases hp <;> kernel_rfl
end
variable {i zn:Nat} {a:Act} {Q:Exit->Act->World->Prop} {X:Nat->Prop} {ms:Blocks} {w:World}
section
variable {α:Type} [Inhabited α] {e:α->DV} {ff fo:Func} {nf no tS tE sz bt:Nat}
def gB (sz:Nat) (e:α->DV) (l:List α) (i:Nat):Nat->AV:=fun j=>if j<i then .d (e (l.getD j dF)) else garb sz
noncomputable def sB (sz:Nat) (l:List α) (x:α) (i:Nat) (n1:(0:Int)<=i) (h1:i<=l.length+1) (w0:0<=i64.wrap ((i:Int)+1)) (w1:(i64.wrap ((i:Int)+1)).toNat<=l.length+1) (h2:i<=l.length)
  (hx:∀ k,k<1->(AV.d (e ([x].getD (0+k) dF))).wd=sz) (hl:∀ k,k<l.length-i->(AV.d (e (l.getD (0+i+k) dF))).wd=sz)
  (ho:OLe (.seq sz (l.length+1) fun j=>if 0+(i64.wrap ((i:Int)+1)).toNat<=j/\j<0+(i64.wrap ((i:Int)+1)).toNat+min (l.length-i) (l.length+1-(i64.wrap ((i:Int)+1)).toNat) then .d (e (l.getD (0+i+(j-(0+(i64.wrap ((i:Int)+1)).toNat))) dF))
   else if 0+i<=j/\j<0+i+min 1 (l.length+1-i) then .d (e ([x].getD (0+(j-(0+i))) dF)) else gB sz e l i j) (eS sz e (insL l i x))):SC Unit Unit :=
 .reg 10 [] [] [.pf n1,.pf h1,.pf (y2h (l.length+1)),.pf (y2h 1),.pf (y2h (l.length+1)),.pf hx] <|
 .reg 11 [8] [(8,{ obs:=[(2,eS sz e (insL l i x))] })] [.pf w0,.pf w1,.pf (y2h (l.length+1)),.pf n1,.pf h2,.pf (y2h l.length),.pf (y2h l.length),.pf (y2h (l.length+1)),.pf hl,.pf ho] <|
 .ret [] ()
def frI (n i:Nat) (s:AV):Fr:=[(7,.d (.i .i64 1)),(8,.d (.i .i64 (n:Int))),(2,.ref 1 1 0 1),(1,.d (.i .i64 (i:Int))),(0,s)]
theorem tailB (hp:PP ff fo nf no tS tE sz bt) (he:∀ x,(e x).wd=sz) {l:List α} {x:α} (hi:i<l.length) (hl:l.length<100000000000000) :
  AW none Tryz.prog ff.ntmps (B10 ff) (fun e1 fr L=>e1 = .ret/\FR Tryz.prog ff (.ref 2 (l.length+1) 0 (l.length+1)) [eS sz e l,eS sz e [x],eS sz e (insL l i x)] fr L)
   ((9,.ref 2 (l.length+1) 0 (l.length+1)) :: frI l.length i (.ref 0 l.length 0 l.length)) [eS sz e l,eS sz e [x],.seq sz (l.length+1) (gB sz e l i)]:=by
 have hw:i64.wrap ((i:Int)+1)=(i:Int)+1:=by rw[z3r] <;> omega
 exact pTailR (ρ:=Unit) (V:=fun _=>.ref 2 (l.length+1) 0 (l.length+1)) (Lr:=fun _=>[eS sz e l,eS sz e [x],eS sz e (insL l i x)]) (r:=())
  (s:=sB (e:=e) sz l x i om om (by rw[hw]; omega) (by rw[hw]; omega) om (fun k _=>he _) (fun k _=>he _) (by
   rw[hw]
   refine z3k zu.symm fun j hj=>?_
   rw[z1s om,show ((i:Int)+1).toNat=i+1 from om]
   by_cases h1:j<i
   ·rw[y7 om,y7 om,y8 h1,gB,y8 h1]
   ·by_cases h2:j=i
    ·subst h2
     rw[y7 om,y8 om,y7 h1,y8 rfl,show 0+(j-(0+j))=0 from om]
     rfl
    ·rw[y8 om,y7 h1,y7 h2]
     congr 3; omega)) (by cases hp <;> kernel_rfl) rfl
def gC (sz:Nat) (e:α->DV) (l:List α):Nat->AV:=fun j=>if j<l.length then .d (e (l.getD j dF)) else garb sz
noncomputable def sC (sz no:Nat) (l:List α) (x:α) (i:Nat) (a:(0:Int)<=i64.wrap ((l.length:Int)+1)) (c:(i64.wrap ((l.length:Int)+1)).toNat<=l.length+1) (f:(i64.wrap ((l.length:Int)+1)).toNat=l.length+1)
  (w0:(0:Int)<=i64.wrap ((i:Int)+1)) (w1:(i64.wrap ((i:Int)+1)).toNat<=l.length+1) (n1:(0:Int)<=i) (h1:i<=l.length+1)
  (hx:ExtOk Tryz.prog no [.ref 1 1 0 1,.ref 0 (l.length+1) (0+(i64.wrap ((i:Int)+1)).toNat) (l.length+1-(i64.wrap ((i:Int)+1)).toNat)] [.seq sz (l.length+1) (gC sz e l),eS sz e [x]] (.d (.b false)))
  (hg:∀ k,k<l.length+1-i->(gC sz e l (0+i+k)).wd=sz) (hy:∀ k,k<1->(AV.d (e ([x].getD (0+k) dF))).wd=sz)
  (ho:OLe (.seq sz (l.length+1) fun j=>if 0+i<=j/\j<0+i+min 1 (l.length+1-i) then .d (e ([x].getD (0+(j-(0+i))) dF))
   else if 0+(i64.wrap ((i:Int)+1)).toNat<=j/\j<0+(i64.wrap ((i:Int)+1)).toNat+min (l.length+1-i) (l.length+1-(i64.wrap ((i:Int)+1)).toNat) then gC sz e l (0+i+(j-(0+(i64.wrap ((i:Int)+1)).toNat)))
   else gC sz e l j) (eS sz e (insL l i x))):SC Unit Unit :=
 .reg 13 [] [] [.pf a,.pf c,.pf (y2h (l.length+1))] <|
 .cst (A:=(i64.wrap ((l.length:Int)+1)).toNat=l.length+1) (.pf f) [(0,.ref 0 (l.length+1) (0+0) ((i64.wrap ((l.length:Int)+1)).toNat-0)),(1,.d (.i .i64 (i:Int))),(2,.ref 1 1 0 1),(7,.d (.i .i64 1))]
  [(0,.ref 0 (l.length+1) 0 (l.length+1)),(1,.d (.i .i64 (i:Int))),(2,.ref 1 1 0 1),(7,.d (.i .i64 1))]
  [.seq sz (l.length+1) (gC sz e l),eS sz e [x]] [.seq sz (l.length+1) (gC sz e l),eS sz e [x]] (fun h=>⟨by rw[h]; rfl,rfl⟩) <|
 .reg 14 [] [(6,{ h:=.callr (.d (.b false)) })] [.pf w0,.pf w1,.pf (y2h (l.length+1)),.pf hx] <|
 .br true (.pf (p:=(!false)=true) rfl) <|
 .reg 15 [8] [] [.pf w0,.pf w1,.pf (y2h (l.length+1)),.pf n1,.pf h1,.pf (y2h (l.length+1)),.pf (y2h (l.length+1)),.pf (y2h (l.length+1)),.pf hg] <|
 .reg 16 [] [(4,{ obs:=[(0,eS sz e (insL l i x))] })] [.pf n1,.pf h1,.pf (y2h (l.length+1)),.pf (y2h 1),.pf (y2h (l.length+1)),.pf hy,.pf ho] <|
 .reg 17 [] [] [] <|
 .ret [] ()
theorem tailC (hp:PP ff fo nf no tS tE sz bt) (he:∀ x,(e x).wd=sz) {l:List α} {x:α} (hi:i<l.length) (hl:l.length<100000000000000) :
  AW none Tryz.prog ff.ntmps (C13 ff) (FQ Tryz.prog ff (.ref 0 (l.length+1) 0 (l.length+1)) [eS sz e (insL l i x),eS sz e [x]])
   (frI l.length i (.ref 0 (l.length+1) 0 l.length)) [.seq sz (l.length+1) (gC sz e l),eS sz e [x]]:=by
 have hw:i64.wrap ((i:Int)+1)=(i:Int)+1:=by rw[z3r] <;> omega
 have hw2:i64.wrap ((l.length:Int)+1)=(l.length:Int)+1:=by rw[z3r] <;> omega
 have hwd:∀ k,(gC sz e l k).wd=sz:=fun k=>by
  unfold gC
  split
  ·exact he _
  ·cases hp <;> rfl
 exact pTailG (ρ:=Unit) (V:=fun _=>.ref 0 (l.length+1) 0 (l.length+1)) (Lr:=fun _=>[eS sz e (insL l i x),eS sz e [x]]) (r:=())
  (s:=sC (e:=e) sz no l x i (by rw[hw2]; omega) (by rw[hw2]; omega) (by rw[hw2]; omega) (by rw[hw]; omega) (by rw[hw]; omega) om om
   (zkm (fn:=fo) (tR:=4) (te:=tE) (sz:=sz) (z1:=sz) (z2:=sz) hp.fO (by cases hp <;> kernel_rfl) (by cases hp <;> kernel_rfl) (by cases hp <;> kernel_rfl) (by cases hp <;> kernel_rfl) hp.uS hp.zE (by cases hp <;> decide) rfl rfl dk rfl (by rw[hw]; omega) (by rw[hw]; omega) (by cases hp <;> decide))
   (fun k _=>hwd _) (fun k _=>he _) (by
   rw[hw]
   refine z3k zu.symm fun j hj=>?_
   rw[z1s om,show ((i:Int)+1).toNat=i+1 from om]
   by_cases h2:j=i
   ·subst h2
    rw[y8 om,y7 om,y8 rfl,show 0+(j-(0+j))=0 from om]
    rfl
   ·rw[y7 om,y7 h2]
    by_cases h1:j<i
    ·rw[y7 om,y8 h1,gC,y8 om]
    ·rw[y8 om,y7 h1,gC,y8 om]
     congr 3; omega)) (by cases hp <;> kernel_rfl) rfl
theorem z5s {c:Cx} {G:GFr} {t:Nat} {v:AV} (hf:FrIs c G a.tmps) (h:(t,[],v)∈G):AV.IsV c v (a.tmps.getD t undef):=(hf _ h).2.1 (fun z hz=>by cases hz)
theorem zwh (hp:PP ff fo nf no tS tE sz bt) {l:List α} {x:α} (h0:0<l.length) (hr:Rel X ms [eS sz e l,eS sz e [x]] w) (hf:FrIs (cxOf X ms [eS sz e l,eS sz e [x]] w) (frI l.length i (.ref 0 l.length 0 l.length)).up a.tmps) (hN:a.tmps.size=ff.ntmps) (hQ:∀ a' ms' w' b tc,Rel X ms' [eS sz e l,eS sz e [x]] w'->Ext ms w ms' w'->(cxOf X ms [eS sz e l,eS sz e [x]] w).le (cxOf X ms' [eS sz e l,eS sz e [x]] w')->FrIs (cxOf X ms' [eS sz e l,eS sz e [x]] w') (frI l.length i (.ref 0 l.length 0 l.length)).up a'.tmps ->
   a'.tmps.size=ff.ntmps->a'.defers=a.defers->ms'[0]? = some (some (b,tc))->l.length<=tc->a'.eval (.tmp 0) = .slice (some ⟨b,0,none⟩) l.length tc->a'.eval (.tmp 31) = .bool (decide (i64.wrap ((l.length:Int)+1)>(tc:Int)))->Q .normal a' w') :
  (R8 ff).wpIn (fenceOf none) zn Tryz.prog Q a w:=by
 rw[zwf hp]
 refine y5o ?_
 rw[show List.range (regOps (R8 ff)).size=[0,1,2,3]++[4,5] by cases hp <;> kernel_rfl]
 refine zgr (hs:=[]) (C:=[]) (L1:=[eS sz e l,eS sz e [x]]) (G1:=[(29,[],.ref 0 l.length 0 l.length),(28,[],.d (.i .i64 (i64.wrap ((l.length:Int)+1)))),(27,[],.d (.i .i64 1)),(26,[],.d (.i .i64 (l.length:Int))),
  (7,[],.d (.i .i64 1)),(8,[],.d (.i .i64 (l.length:Int))),(2,[],.ref 1 1 0 1),(1,[],.d (.i .i64 (i:Int))),(0,[],.ref 0 l.length 0 l.length)]) (by cases hp <;> kernel_rfl) trivial hr hf hN fun f ms1 w1 r1 e1 c1 f1 n1 d1=>?_
 have k1:=IsV.is1 rfl sj sj (z5s f1 (t:=29) (v:=.ref 0 l.length 0 l.length) sj)
 have k0:=IsV.is1 rfl sj sj (z5s f1 (t:=0) (v:=.ref 0 l.length 0 l.length) sj)
 have at0:∀ {t:Nat} {v:Value},f.tmps.getD t undef=v->AV.Is (cxOf X ms1 [eS sz e l,eS sz e [x]] w1) (.ref 0 l.length 0 l.length) [v]->∃ b tc,ms1[0]? = some (some (b,tc))/\l.length<=tc/\v = .slice (some ⟨b,0,none⟩) l.length tc:=fun {t v} _ h=>by
  cases h with
  | ref _ _ _ _ _ h =>
  obtain⟨_,⟨_,_,rfl⟩,_,h⟩:=h
  obtain⟨_,h⟩:=h sz _ rfl
  rcases h with ⟨_,_,h⟩ | ⟨h,_⟩ | ⟨b,tc,m,h1,h2⟩
  ·simp only[y38] at h; omega
  ·exact absurd rfl h
  ·exact⟨b,tc,m,h1,by simpa using h2⟩
 obtain⟨b,tc,m1,hle,h29⟩:=at0 rfl k1
 obtain⟨b',tc',m1',_,h0'⟩:=at0 rfl k0
 have e1':=m1'.symm.trans m1
 cases e1'
 refine zlq (o:=opAt (regOps (R8 ff)) 4) (by cases hp <;> kernel_rfl) (by cases hp <;> kernel_rfl) (OpOk.value (ztw (x:=.tmp 29) (t:=tS) (by cases hp <;> kernel_rfl) hp.uS h29) ?_)
 rw[show (opAt (regOps (R8 ff)) 4).dst=some 30 by cases hp <;> kernel_rfl]
 obtain⟨g,j,k⟩:=z5o (dst:=some 30) (ch:=[]) (v:=.d (.i .i64 (tc:Int))) (u:=.int .i64 tc) (G:=[(29,[],.ref 0 l.length 0 l.length),(28,[],.d (.i .i64 (i64.wrap ((l.length:Int)+1)))),(27,[],.d (.i .i64 1)),(26,[],.d (.i .i64 (l.length:Int))),
  (7,[],.d (.i .i64 1)),(8,[],.d (.i .i64 (l.length:Int))),(2,[],.ref 1 1 0 1),(1,[],.d (.i .i64 (i:Int))),(0,[],.ref 0 l.length 0 l.length)]) (G1:=(30,[],.d (.i .i64 (tc:Int))) :: [(29,[],.ref 0 l.length 0 l.length),(28,[],.d (.i .i64 (i64.wrap ((l.length:Int)+1)))),(27,[],.d (.i .i64 1)),(26,[],.d (.i .i64 (l.length:Int))),
  (7,[],.d (.i .i64 1)),(8,[],.d (.i .i64 (l.length:Int))),(2,[],.ref 1 1 0 1),(1,[],.d (.i .i64 (i:Int))),(0,[],.ref 0 l.length 0 l.length)]) (N:=ff.ntmps) (by cases hp <;> kernel_rfl) n1 f1 (fun _=>.one _ _ rfl (.d _ _ (.i _ _))) (fun h=>absurd (fun z hz=>by cases hz) h)
 refine z2y (hs:=[]) none zn [5] _ _ ([(31,[],.d (.b (decide (i64.wrap ((l.length:Int)+1)>(tc:Int)))))]++(30,[],.d (.i .i64 (tc:Int))) :: [(29,[],.ref 0 l.length 0 l.length),(28,[],.d (.i .i64 (i64.wrap ((l.length:Int)+1)))),(27,[],.d (.i .i64 1)),(26,[],.d (.i .i64 (l.length:Int))),
  (7,[],.d (.i .i64 1)),(8,[],.d (.i .i64 (l.length:Int))),(2,[],.ref 1 1 0 1),(1,[],.d (.i .i64 (i:Int))),(0,[],.ref 0 l.length 0 l.length)]) [eS sz e l,eS sz e [x]] [] ms1 w1 _ (by cases hp <;> kernel_rfl) trivial r1 g j fun c ms2 w2 r2 e2 c2 f2 n2 d2=>?_
 have m2:ms2[0]? = some (some (b,tc)):=by
  obtain⟨_,h1,_,_,h2⟩:=c2.ob 0 (eS sz e l) (by simp[cxOf]) rfl (by simp[eS,Ob.stamp])
  obtain rfl:_=eS sz e l:=yz h1.symm
  exact (h2 rfl).trans m1
 have k0':=IsV.is1 rfl sj sj (z5s f2 (t:=0) (v:=.ref 0 l.length 0 l.length) sj)
 have h0'':c.tmps.getD 0 undef = .slice (some ⟨b,0,none⟩) l.length tc:=by
  generalize c.tmps.getD 0 undef=v at k0'
  cases k0' with
  | ref _ _ _ _ _ h =>
  obtain⟨_,⟨_,_,rfl⟩,_,h⟩:=h
  obtain⟨_,h⟩:=h sz _ rfl
  rcases h with ⟨_,_,h⟩ | ⟨h,_⟩ | ⟨b'',tc'',m,h1,h2⟩
  ·simp only[y38] at h; omega
  ·exact absurd rfl h
  ·have e:=m2.symm.trans m
   cases e
   simpa using h2
 exact hQ c ms2 w2 b tc r2 (e1.trans e2) (c1.trans c2) (fun q hq=>f2 q (by
  simp only[frI,Fr.up,y3d,List.map_nil,y16,y2u,y49] at hq
  rcases hq with rfl | rfl | rfl | rfl | rfl <;> simp)) n2 (d2.trans (k.trans d1)) m2 hle h0'' (IsV.b (z5s f2 (t:=31) (v:=.d (.b (decide (i64.wrap ((l.length:Int)+1)>(tc:Int))))) sj))
theorem zwi (hp:PP ff fo nf no tS tE sz bt) {l:List α} {x:α} (hi:i<l.length) (hl:(l.length+1) * (4 * bt)<=2 ^ 48) {b:Nat} (hr:Rel X ms [eS sz e l,eS sz e [x]] w) (hf:FrIs (cxOf X ms [eS sz e l,eS sz e [x]] w) (frI l.length i (.ref 0 l.length 0 l.length)).up a.tmps) (hN:a.tmps.size=ff.ntmps) (hm:ms[0]? = some (some (b,l.length))) (hQ:∀ a' ms' w',Rel X ms' [eS sz e l,eS sz e [x],.seq sz (l.length+1) (gB sz e l i)] w'->Ext ms w ms' w'->(cxOf X ms [eS sz e l,eS sz e [x]] w).le (cxOf X ms' [eS sz e l,eS sz e [x],.seq sz (l.length+1) (gB sz e l i)] w') ->
   FrIs (cxOf X ms' [eS sz e l,eS sz e [x],.seq sz (l.length+1) (gB sz e l i)] w') (Fr.up ((9,.ref 2 (l.length+1) 0 (l.length+1)) :: frI l.length i (.ref 0 l.length 0 l.length))) a'.tmps ->
   a'.tmps.size=ff.ntmps->a'.defers=a.defers->Q .normal a' w') :
  (R9 ff).wpIn (fenceOf none) zn Tryz.prog Q a w:=by
 have hn:l.length<100000000000000:=by cases hp <;> omega
 have hw2:i64.wrap ((l.length:Int)+1)=(l.length:Int)+1:=by rw[z3r] <;> omega
 have hw3:i64.wrap (i64.wrap ((l.length:Int)+1)-(i:Int))=((l.length+1-i:Nat):Int):=by rw[hw2,z3r] <;> omega
 rw[zwg hp]
 refine y5o ?_
 rw[show List.range (regOps (R9 ff)).size=[0,1,2,3,4,5,6,7]++[8,9] by cases hp <;> kernel_rfl]
 refine zgr (hs:=[]) (C:=[(0:Int)<=(i:Int),i<=l.length,l.length=l.length]) (L1:=[eS sz e l,eS sz e [x]]) (G1:=[(39,[],.d (.i .i64 (i64.wrap (i64.wrap ((l.length:Int)+1)-(i:Int))))),(38,[],.d (.i .i64 (i:Int))),(37,[],.d (.i .i64 (i64.wrap ((l.length:Int)+1)))),
  (36,[],.d (.i .i64 1)),(35,[],.d (.i .i64 (l.length:Int))),(34,[],.ref 0 l.length (0+0) (i-0)),(33,[],.d (.i .i64 (i:Int))),(32,[],.ref 0 l.length 0 l.length),
  (7,[],.d (.i .i64 1)),(8,[],.d (.i .i64 (l.length:Int))),(2,[],.ref 1 1 0 1),(1,[],.d (.i .i64 (i:Int))),(0,[],.ref 0 l.length 0 l.length)]) (by cases hp <;> kernel_rfl) ⟨om,om,rfl,trivial⟩ hr hf hN fun f ms1 w1 r1 e1 c1 f1 n1 d1=>?_
 have m1:ms1[0]? = some (some (b,l.length)):=by
  obtain⟨_,h1,_,_,h2⟩:=c1.ob 0 (eS sz e l) (by simp[cxOf]) rfl (by simp[eS,Ob.stamp])
  obtain rfl:_=eS sz e l:=yz h1.symm
  exact (h2 rfl).trans hm
 have k34:=IsV.is1 rfl sj sj (z5s f1 (t:=34) (v:=.ref 0 l.length (0+0) (i-0)) sj)
 have h34:f.eval (.tmp 34) = .slice (some ⟨b,0,none⟩) i l.length:=by
  show f.tmps.getD 34 undef=_
  generalize f.tmps.getD 34 undef=v at k34
  cases k34 with
  | ref _ _ _ _ _ h =>
  obtain⟨_,⟨_,_,rfl⟩,_,h⟩:=h
  obtain⟨_,h⟩:=h sz _ rfl
  rcases h with ⟨h,_⟩ | ⟨h,_⟩ | ⟨b'',tc'',m,h1,h2⟩
  ·have e:some (none:Option (Nat×Nat))=some (some (b,l.length)):=h.symm.trans m1
   cases e
  ·exact absurd rfl h
  ·have e:=m1.symm.trans m
   cases e
   simpa using h2
 have h39:f.eval (.tmp 39) = .int .i64 ((l.length+1-i:Nat):Int):=by
  have:=IsV.i (z5s f1 (t:=39) (v:=.d (.i .i64 (i64.wrap (i64.wrap ((l.length:Int)+1)-(i:Int))))) sj)
  rw[hw3] at this
  exact this
 obtain⟨arr,ty,cs,g1,g2,g3,g4,g5,g6⟩:=r1.seq (o:=0) rfl m1
 obtain⟨info,hinf⟩:∃ info,Tryz.prog.info? tE=some info:=⟨_,Option.eq_some_of_isSome (by cases hp <;> kernel_rfl)⟩
 have hsz:info.size=sz:=by
  have:(Tryz.prog.info? tE).map (·.size)=some sz:=by cases hp <;> kernel_rfl
  rw[hinf] at this; simpa using this
 have hby:info.bytes=bt:=by
  have:(Tryz.prog.info? tE).map (·.bytes)=some bt:=by cases hp <;> kernel_rfl
  rw[hinf] at this; simpa using this
 obtain⟨z,hz⟩:∃ z,info.zero=some z:=by
  have:((Tryz.prog.info? tE).bind (·.zero)).isSome=true:=by cases hp <;> kernel_rfl
  rw[hinf] at this
  exact y32.1 this
 have hzs:z.cells.size=sz:=by
  have:((Tryz.prog.info? tE).bind (·.zero)).map (fun z=>z.cells.size)=some sz:=by cases hp <;> kernel_rfl
  rw[hinf] at this
  simpa [hz] using this
 have hzone:∀ v∈z.cells.toList,v.oneCell'=true:=by
  have:((Tryz.prog.info? tE).bind (·.zero)).map (fun z=>z.cells.toList.all fun v=>v.oneCell')=some true:=by cases hp <;> kernel_rfl
  rw[hinf] at this
  have h:z.cells.toList.all (fun v=>v.oneCell')=true:=by simpa [hz] using this
  exact y1r.1 h
 have hcsi:∀ k,k<i->(cs k).length=sz:=fun k hk=>g5 k om
 have hold:(Builtin.firstCells info.size i (.slice (some ⟨b,0,none⟩) i l.length)).run Tryz.prog w1.drew = .ok ((List.range i).flatMap cs).toArray w1.drew:=by
  rw[hsz]
  exact z46 (w:=w1) (w1:=w1.drew) (off:=0) (cap:=l.length) rfl g1 hcsi (fun k hk j hj=>by simpa using g6 k om j hj) i
 have hfit:Builtin.nextslicecap (i+(l.length+1-i)) l.length * info.bytes<=281474976710656:=by
  have h1:=z7s (need:=i+(l.length+1-i)) (old:=l.length) om
  rw[hby]
  cases hp <;> omega
 have hap:=Lib.run_append_grow_zeros (P:=Tryz.prog) w1 tS 3 (opAt (regOps (R9 ff)) 8).type tE info z .i64 .i64 hp.uS Tryz.underlying3 hinf hz (some ⟨b,0,none⟩) i l.length ((List.range i).flatMap cs) hold (l.length+1-i) (by cases hp <;> omega) (by cases hp <;> omega) (by cases hp <;> omega) (by cases hp <;> omega) (by rw[hby]; cases hp <;> omega) hfit
 rw[show i+(l.length+1-i)=l.length+1 from om] at hap
 obtain⟨nc,hnc⟩:∃ nc,nc=grownCap w1 (l.length+1) l.length tE:=⟨_,rfl⟩
 have hge:=grownCap_ge w1 (l.length+1) l.length tE
 rw[<- hnc] at hap hge
 obtain⟨row,hrow⟩:∃ row:Array Value,row=((List.range i).flatMap cs).toArray++Builtin.zeroCells z.cells (l.length+1-i)++Builtin.zeroCells z.cells (nc-(l.length+1)):=⟨_,rfl⟩
 rw[<- hrow] at hap
 have hkl:=zg i sz cs hcsi
 have hrs:row.size=nc * sz:=by
  rw[hrow,y3u,y3u,y2f,hkl,y4r,y4r,hzs]
  cases hp <;> omega
 have hone:∀ v∈row.toList,v.oneCell'=true:=by
  rw[hrow]
  simp only[y3a,y1p]
  rintro v ((hv | hv) | hv)
  ·exact z3c (fun k (hk:k<i)=>g4 k om) v hv
  ·exact z4o hzone _ v hv
  ·exact z4o hzone _ v hv
 have hget:∀ k,k<i->∀ j,j<sz->row[k * sz+j]? = (cs k)[j]? := fun k hk j hj=>by
  rw[hrow,<- y1f]
  simp only[y3a,y2x]
  rw[yn (by rw[hkl]; cases hp <;> omega)]
  exact zk? i sz cs hcsi k j hk hj
 have hcl:∀ j,j<l.length+1->((row.toList.drop (j * sz)).take sz).length=sz:=fun j hj=>by
  simp only[y1k,y2v,y1z,hrs]
  cases hp <;> omega
 obtain⟨w2,hw⟩:∃ w2,w2=w1.drew.alloc (.cells row tE):=⟨_,rfl⟩
 rw[<- hw] at hap
 have hgrow:Grow w1 w2:=by rw[hw]; exact (Grow.drew w1).trans (Grow.alloc _ _)
 have hhp:w2.heap[w1.heap.size]? = some (.cells row tE (0,0)):=by rw[hw]; exact z2p w1.drew _
 have hsize:w1.heap.size<w2.heap.size:=zdr hhp
 obtain⟨q1,q2,q3⟩:=r1.push (m:=some (w1.heap.size,nc)) (obj:=.seq sz (l.length+1) (gB sz e l i)) hgrow (fun b tc e=>by cases e; exact⟨yf _,hsize⟩) (fun hcx=>by
  refine .inr ⟨w1.heap.size,nc,row,tE,fun j=>if j<i then cs j else (row.toList.drop (j * sz)).take sz,by simp[cxOf,<- r1.len],hhp,hge,⟨hrs,hone⟩,fun j hj=>?_,fun j hj=>?_,fun j hj q hq=>?_⟩
  ·by_cases hji:j<i
   ·simp only[gB,y8 hji]; exact (g4 j om).mono hcx
   ·simp only[gB,y7 hji,garb]
    have:=zfh (c:=cxOf X (ms1++[some (w1.heap.size,nc)]) ([eS sz e l,eS sz e [x]]++[.seq sz (l.length+1) (gB sz e l i)]) w2) (l:=(row.toList.drop (j * sz)).take sz) fun v hv=>hone v (y36 (y35 hv))
    rw[hcl j hj] at this
    exact .agg _ _ this
  ·by_cases hji:j<i
   ·simp only[y8 hji]; exact g5 j om
   ·simp only[y7 hji]; exact hcl j hj
  ·by_cases hji:j<i
   ·simp only[y8 hji]; exact hget j hji q hq
   ·simp only[y7 hji]
    rw[y20 hq,y2l,y1f])
 have hexec:(execOp f.eval (opAt (regOps (R9 ff)) 8)).run Tryz.prog w1 = .ok (.value (.slice (some ⟨w1.heap.size,0,none⟩) (l.length+1) nc)) w2:=by
  have hop:(opAt (regOps (R9 ff)) 8).op = .call ⟨.builtin .append,#[.tmp 34,.tmp 39],#[tS,3]⟩:=by cases hp <;> kernel_rfl
  generalize opAt (regOps (R9 ff)) 8=o at hop hap
  obtain⟨dst,op,ty,pos,after,guard⟩:=o
  subst hop
  refine z1b (s:=Builtin.append_ #[tS,3] ty (#[.tmp 34,.tmp 39].map f.eval)) ?_
  have ha:(#[.tmp 34,.tmp 39]:Array Operand).map f.eval = #[.slice (some ⟨b,0,none⟩) i l.length,.int .i64 ((l.length+1-i:Nat):Int)]:=by
   simp[h34,h39]
  rw[ha]
  exact hap
 refine zlq (o:=opAt (regOps (R9 ff)) 8) (by cases hp <;> kernel_rfl) (by cases hp <;> kernel_rfl) (OpOk.value hexec ?_)
 rw[show (opAt (regOps (R9 ff)) 8).dst=some 40 by cases hp <;> kernel_rfl]
 obtain⟨g,n,p⟩:=z5o (dst:=some 40) (ch:=[]) (v:=.ref 2 (l.length+1) 0 (l.length+1)) (u:=.slice (some ⟨w1.heap.size,0,none⟩) (l.length+1) nc) (G:=(frI l.length i (.ref 0 l.length 0 l.length)).up)
  (G1:=(40,[],.ref 2 (l.length+1) 0 (l.length+1)) :: (frI l.length i (.ref 0 l.length 0 l.length)).up) (N:=ff.ntmps) (by cases hp <;> kernel_rfl) n1 (fun q hq=>(f1.mono q3) q (by
  simp only[frI,Fr.up,y3d,List.map_nil,y16,y2u,y49] at hq
  rcases hq with rfl | rfl | rfl | rfl | rfl <;> simp)) (fun _=>z8m r1.len hge) (fun h=>absurd (fun z hz=>by cases hz) h)
 refine z2y (hs:=[]) none zn [9] _ _ ((9,[],.ref 2 (l.length+1) 0 (l.length+1)) :: (40,[],.ref 2 (l.length+1) 0 (l.length+1)) :: (frI l.length i (.ref 0 l.length 0 l.length)).up) [eS sz e l,eS sz e [x],.seq sz (l.length+1) (gB sz e l i)] [] _ w2 _ (by cases hp <;> kernel_rfl) trivial q1 g n fun r ms2 w3 r2 e2 c2 f2 n2 d2=>?_
 exact hQ r ms2 w3 r2 ((e1.trans q2).trans e2) ((c1.trans q3).trans c2) (fun q hq=>f2 q (by
  rcases y16.1 (show q∈(9,[],AV.ref 2 (l.length+1) 0 (l.length+1)) :: (frI l.length i (.ref 0 l.length 0 l.length)).up from hq) with hq | hq
  ·exact y16.2 (.inl hq)
  ·exact y16.2 (.inr (y16.2 (.inr hq))))) n2 (d2.trans (p.trans d1))
theorem regc {N:Nat} {Q:Post} {fr fr' fr2:Fr} {L L':List Ob} {id:Nat} {c:Code} {C:List Prop} (hq:c = .region id (regOps c) false) (h:regionRun Tryz.prog (regOps c) N [] fr L=some (fr',L',C)) (hc:AllP C)
  (hm:∀ q∈fr2,q∈fr') (k:Q .normal fr2 L'):AW none Tryz.prog N c Q fr L:=by
 have:=ztx (id:=id) (Q:=Q) h hc hm k
 rwa [<- hq] at this
theorem head (hp:PP ff fo nf no tS tE sz bt) (_he:∀ x,(e x).wd=sz) {l:List α} {x:α} (hi:i<l.length) (Q:Post) (h:AW none Tryz.prog ff.ntmps (.seq (.seq (R8 ff) (.cond (.tmp 31) (.seq (R9 ff) (B10 ff)) .skip)) (C13 ff)) Q (frI l.length i (.ref 0 l.length 0 l.length)) [eS sz e l,eS sz e [x]]) :
  AW none Tryz.prog ff.ntmps (.seq (R0 ff) (.seq (R1 ff) (.seq (R2 ff) (.seq (.seq (cL (X3 ff)) (.cond (.tmp 16) (cT (cR (X3 ff))) .skip)) (.seq (R5 ff) (.seq (.seq (cL (X6 ff)) (.cond (.tmp 22) (cT (cR (X6 ff))) .skip)) (.seq (.seq (R8 ff) (.cond (.tmp 31) (.seq (R9 ff) (B10 ff)) .skip)) (C13 ff)))))))) Q
   (argFr [.ref 0 l.length 0 l.length,.d (.i .i64 (i:Int)),.ref 1 1 0 1] 0) [eS sz e l,eS sz e [x]]:=by
 have hne:((i:Int)==(l.length:Int))=false:=sk
 refine z5a (regc (L':=[eS sz e l,eS sz e [x]]) (id:=0) (C:=[]) (fr':=(6,.full 0 fun _=>.b false) :: argFr [.ref 0 l.length 0 l.length,.d (.i .i64 (i:Int)),.ref 1 1 0 1] 0) (fr2:=argFr [.ref 0 l.length 0 l.length,.d (.i .i64 (i:Int)),.ref 1 1 0 1] 0)
  (by cases hp <;> kernel_rfl) (by cases hp <;> kernel_rfl) trivial (fun q hq=>y1d _ hq) ?_)
 refine z5a (regc (L':=[eS sz e l,eS sz e [x]]) (id:=1) (C:=[(0:Int)<=(i:Int),i<=l.length,l.length=l.length]) (fr':=(12,.ref 0 l.length (0+i) (l.length-i)) :: (11,.d (.i .i64 (i:Int))) :: (10,.ref 0 l.length 0 l.length) :: argFr [.ref 0 l.length 0 l.length,.d (.i .i64 (i:Int)),.ref 1 1 0 1] 0)
  (fr2:=argFr [.ref 0 l.length 0 l.length,.d (.i .i64 (i:Int)),.ref 1 1 0 1] 0)
  (by cases hp <;> kernel_rfl) (by cases hp <;> kernel_rfl) ⟨om,om,rfl,trivial⟩ (fun q hq=>y1d _ (y1d _ (y1d _ hq))) ?_)
 refine z5a (regc (L':=[eS sz e l,eS sz e [x]]) (id:=2) (C:=[]) (fr':=(7,.d (.i .i64 1)) :: (14,.d (.i .i64 1)) :: (13,.ref 1 1 0 1) :: argFr [.ref 0 l.length 0 l.length,.d (.i .i64 (i:Int)),.ref 1 1 0 1] 0)
  (fr2:=[(7,.d (.i .i64 1)),(2,.ref 1 1 0 1),(1,.d (.i .i64 (i:Int))),(0,.ref 0 l.length 0 l.length)])
  (by cases hp <;> kernel_rfl) (by cases hp <;> kernel_rfl) trivial (fun q hq=>by
   simp only[y16,y2u,y49] at hq
   simp only[argFr,y16,y2u,y49]
   rcases hq with rfl | rfl | rfl | rfl <;> simp) ?_)
 refine z5a (z5a (regc (L':=[eS sz e l,eS sz e [x]]) (id:=3) (C:=[]) (fr':=(16,.d (.b false)) :: (15,.d (.i .i64 1)) :: [(7,.d (.i .i64 1)),(2,.ref 1 1 0 1),(1,.d (.i .i64 (i:Int))),(0,.ref 0 l.length 0 l.length)])
  (fr2:=[(16,.d (.b false)),(7,.d (.i .i64 1)),(2,.ref 1 1 0 1),(1,.d (.i .i64 (i:Int))),(0,.ref 0 l.length 0 l.length)])
  (by cases hp <;> kernel_rfl) (by cases hp <;> kernel_rfl) trivial (fun q hq=>by
   simp only[y16,y2u,y49] at hq |-
   rcases hq with rfl | rfl | rfl | rfl | rfl <;> simp) ?_))
 refine zbm (b:=false) rfl (fun h=>by cases h) fun _=>zf7 ?_
 refine z5a (regc (L':=[eS sz e l,eS sz e [x]]) (id:=5) (C:=[]) (fr':=(8,.d (.i .i64 (l.length:Int))) :: (19,.d (.i .i64 (l.length:Int))) :: (18,.ref 0 l.length 0 l.length) :: [(16,.d (.b false)),(7,.d (.i .i64 1)),(2,.ref 1 1 0 1),(1,.d (.i .i64 (i:Int))),(0,.ref 0 l.length 0 l.length)])
  (fr2:=frI l.length i (.ref 0 l.length 0 l.length))
  (by cases hp <;> kernel_rfl) (by cases hp <;> kernel_rfl) trivial (fun q hq=>by
   simp only[frI,y16,y2u,y49] at hq |-
   rcases hq with rfl | rfl | rfl | rfl | rfl <;> simp) ?_)
 refine z5a (z5a (regc (L':=[eS sz e l,eS sz e [x]]) (id:=6) (C:=[]) (fr':=(22,.d (.b ((i:Int)==(l.length:Int)))) :: (21,.d (.i .i64 (l.length:Int))) :: (20,.d (.i .i64 (i:Int))) :: frI l.length i (.ref 0 l.length 0 l.length))
  (fr2:=(22,.d (.b ((i:Int)==(l.length:Int)))) :: frI l.length i (.ref 0 l.length 0 l.length))
  (by cases hp <;> kernel_rfl) (by cases hp <;> kernel_rfl) trivial (fun q hq=>by
   rcases y16.1 hq with rfl | hq
   ·exact y1y
   ·exact y1d _ (y1d _ (y1d _ hq))) ?_))
 refine zbm (b:=((i:Int)==(l.length:Int))) rfl (fun h=>by rw[hne] at h; cases h) fun _=>zf7 ?_
 exact zog h fun q hq=>⟨q.2,y1d _ hq,LeV.refl _⟩
theorem zwj (hp:PP ff fo nf no tS tE sz bt) (he:∀ x,(e x).wd=sz) {l:List α} {x:α} (hi:i<l.length) (hl:(l.length+1) * (4 * bt)<=2 ^ 48) :
  AW none Tryz.prog ff.ntmps (.seq (.seq (R8 ff) (.cond (.tmp 31) (.seq (R9 ff) (B10 ff)) .skip)) (C13 ff))
   (fun e1 fr L=>FQ Tryz.prog ff (.ref 0 (l.length+1) 0 (l.length+1)) [eS sz e (insL l i x),eS sz e [x]] e1 fr L \/
    FQ Tryz.prog ff (.ref 2 (l.length+1) 0 (l.length+1)) [eS sz e l,eS sz e [x],eS sz e (insL l i x)] e1 fr L)
   (frI l.length i (.ref 0 l.length 0 l.length)) [eS sz e l,eS sz e [x]]:=by
 have hn:l.length<100000000000000:=by cases hp <;> omega
 have hw2:i64.wrap ((l.length:Int)+1)=(l.length:Int)+1:=by rw[z3r] <;> omega
 intro zn df X ms w a hr hf hN hd
 refine y51 (y51 (zwh hp om hr hf hN fun c ms1 w1 b tc r1 e1 c1 f1 n1 d1 m1 hle h0e h31=>?_))
 by_cases hcap:l.length+1<=tc
 ·refine wpIn_cond_false (h31.trans (by rw[hw2]; simp; omega)) (wpIn_skip ?_)
  obtain⟨q1,q3⟩:=r1.room (o:=0) (n':=l.length+1) rfl m1 om hcap
  refine y2r (tailC hp he hi hn zn df X ms1 w1 c q1 (fun q hq=>?_) n1 (d1.trans hd)) ?_
  ·simp only[frI,Fr.up,y3d,List.map_nil,y16,y2u,y49] at hq
   have f1':=f1.mono q3
   rcases hq with rfl | rfl | rfl | rfl | rfl
   ·exact f1' _ (by simp[frI,Fr.up])
   ·exact f1' _ (by simp[frI,Fr.up])
   ·exact f1' _ (by simp[frI,Fr.up])
   ·exact f1' _ (by simp[frI,Fr.up])
   ·obtain⟨s1,s2,s3⟩:=f1 (0,[],.ref 0 l.length 0 l.length) (by simp[frI,Fr.up])
    refine⟨s1,fun _=>?_,s3⟩
    have h0e':c.tmps.getD 0 undef = .slice (some ⟨b,0,none⟩) l.length tc:=h0e
    rw[h0e']
    refine .one _ _ rfl (.ref _ _ _ _ _ ⟨by simp[cxOf],⟨_,_,rfl⟩,fun obj s ho hs=>?_,fun sz' f' hL'=>⟨om,.inr (.inr ⟨b,tc,m1,hcap,sj⟩)⟩⟩)
    obtain rfl:=yz ho
    simp[Ob.stamp] at hs; omega
  ·rintro e2 d w2 ⟨ms2,fr2,L2,hq,r2,e3,c3,f3,n3,d3⟩
   exact⟨ms2,fr2,L2,.inl hq,r2,e1.trans e3,(c1.trans q3).trans c3,f3,n3,d3⟩
 ·have htc:tc=l.length:=om
  subst htc
  refine wpIn_cond_true (h31.trans (by rw[hw2]; simp; omega)) (y51 (zwi hp hi hl r1 f1 n1 m1 fun d ms2 w2 r2 e2 c2 f2 n2 d2=>?_))
  refine y2r (tailB hp he hi hn zn df X ms2 w2 d r2 f2 n2 ((d2.trans d1).trans hd)) ?_
  rintro e3 f w3 ⟨ms3,fr3,L3,⟨rfl,hq⟩,r3,e3,c3,f3,n3,d3⟩
  exact⟨ms3,fr3,L3,.inr ⟨.inr rfl,hq⟩,r3,(e1.trans e2).trans e3,(c1.trans c2).trans c3,f3,n3,d3⟩
theorem zvh (hp:PP ff fo nf no tS tE sz bt) (he:∀ x,(e x).wd=sz) {l:List α} {x:α} (hi:i<l.length) (hl:(l.length+1) * (4 * bt)<=2 ^ 48) :
  CallOk Tryz.prog nf [.ref 0 l.length 0 l.length,.d (.i .i64 (i:Int)),.ref 1 1 0 1] [eS sz e l,eS sz e [x]] (.ref 0 (l.length+1) 0 (l.length+1)) [eS sz e (insL l i x),eS sz e [x]]:=by
 intro X ms w us hr hu
 have hlen:=zu (l:=l) (i:=i) (x:=x)
 refine (zrp (L:=[eS sz e l,eS sz e [x]]) (v:=.ref 0 (l.length+1) 0 (l.length+1)) (v3:=.ref 2 (l.length+1) 0 (l.length+1)) hp.fF (zt2 hp) (y30 (by cases hp <;> kernel_rfl)) sj rfl (lsOk (n:=2) (L:=[eS sz e (insL l i x),eS sz e [x]]) ⟨fun _ _=>rfl,fun _ _=>rfl,trivial⟩)
  sj rfl (lsOk (n:=3) (L:=[eS sz e l,eS sz e [x],eS sz e (insL l i x)]) ⟨fun _ _=>rfl,fun _ _=>rfl,fun _ _=>rfl,trivial⟩) (head hp (x:=x) he hi _ (zwj hp he hi hl)) hr hu).mono fun e1 w1 h=>?_
 rcases h with h | ⟨u,ms1,rfl,h1,h2,h3,h4⟩
 ·exact h
 ·rw[<- hlen] at h4 |-
  obtain⟨ms2,k1,k2,k3,k4⟩:=third hr hlen h1 h2 h3 h4
  exact⟨u,ms2,rfl,k1,k2,k3,k4⟩
noncomputable def sE (sz bt:Nat) (l:List α) (x:α) (a:(0:Int)<=(l.length:Int)) (b:l.length<=l.length) (c:((l.length:Int)==(l.length:Int))=true)
  (hx:∀ k,k<1->(AV.d (e ([x].getD k dF))).wd=sz) (hs:(l.length+1) * (2 * bt)<=2 ^ 48)
  (ho:OLe (.seq sz (l.length+1) (catF l.length (fun j=>.d (e (l.getD j dF))) (fun j=>.d (e ([x].getD j dF))))) (eS sz e (insL l l.length x))):SC Unit Unit :=
 .reg 0 [] [] [] <|
 .reg 1 [] [] [.pf a,.pf b,.pf (y2h l.length)] <|
 .reg 2 [] [] [] <|
 .reg 3 [] [] [] <|
 .br false (.pf (p:=((1:Int)==0)=false) dk) <|
 .reg 5 [] [] [] <|
 .reg 6 [] [] [] <|
 .br true (.pf c) <|
 .reg 7 [] [(2,{ obs:=[(0,eS sz e (insL l l.length x))] })] [.pf (y2h 1),.pf (y2h l.length),.pf (y2h l.length),.pf hx,.pf hs,.pf ho] <|
 .ret [] ()
set_option maxRecDepth 100000 in
theorem zvi (hp:PP ff fo nf no tS tE sz bt) (he:∀ x,(e x).wd=sz) {l:List α} {x:α} (hl:(l.length+1) * (4 * bt)<=2 ^ 48) :
  CallOk Tryz.prog nf [.ref 0 l.length 0 l.length,.d (.i .i64 (l.length:Int)),.ref 1 1 0 1] [eS sz e l,eS sz e [x]] (.ref 0 (l.length+1) 0 (l.length+1)) [eS sz e (insL l l.length x),eS sz e [x]] :=
 fOk (ρ:=Unit) (V:=fun _=>.ref 0 (l.length+1) 0 (l.length+1)) (Lr:=fun _=>[eS sz e (insL l l.length x),eS sz e [x]]) (r:=())
  (s:=sE (e:=e) sz bt l x om (yf _) sj (fun k _=>he _) (by cases hp <;> omega) (by
   refine z3k zu.symm fun j hj=>?_
   rw[z1s (yf _)]
   by_cases h1:j<l.length
   ·rw[z1u h1,y8 h1]
   ·have h2:j=l.length:=om
    subst h2
    rw[z2e om,y7 om,y8 rfl,Nat.sub_self]
    rfl)) hp.fF (zt2 hp) (by cases hp <;> kernel_rfl) rfl
theorem ins_ok (hp:PP ff fo nf no tS tE sz bt) (he:∀ x,(e x).wd=sz) {l:List α} {x:α} (hi:i<=l.length) (hl:(l.length+1) * (4 * bt)<=2 ^ 48) :
  CallOk Tryz.prog nf [.ref 0 l.length 0 l.length,.d (.i .i64 (i:Int)),.ref 1 1 0 1] [eS sz e l,eS sz e [x]] (.ref 0 (insL l i x).length 0 (insL l i x).length) [eS sz e (insL l i x),eS sz e [x]]:=by
 rw[zu]
 rcases y12 i l.length with h | h
 ·exact zvh hp he h hl
 ·obtain rfl:i=l.length:=om
  exact zvi hp he hl
end
end InsG
end Go.Proofs.YtkhgaalekilaeaaGreatDoor
/- The shapes of data. No condition. -/
namespace Go.Proofs.YtkhgaalekilaeaaGreatDoor
open Go Go.TA
open Go.IntKind (i64)
abbrev Z0:DV:=DV.sl 0 fun _=>DV.b false
structure TPo where
 B:Y8
 D:Int
 T:Int
 A:(List Int)
 H:(List Int)
 G:(List Int)
 P:(List Int)
 deriving Inhabited
def TPo.e (x:TPo):DV:=.agg [(DV.str x.B),(DV.i .i64 x.D),(DV.i .i64 x.T),(eL (DV.i .i64) x.A),(eL (DV.i .i64) x.H),(eL (DV.i .i64) x.G),(eL (DV.i .i64) x.P)]
abbrev TPo.d (x:TPo):AV:=AV.d (TPo.e x)
abbrev TPo.b (x:TPo):Ob:=bx (TPo.e x)
structure TTr where
 O:Int
 E:(List TPo)
 deriving Inhabited
def TTr.e (x:TTr):DV:=.agg [(DV.i .i64 x.O),(eL TPo.e x.E)]
abbrev TTr.d (x:TTr):AV:=AV.d (TTr.e x)
abbrev TTr.b (x:TTr):Ob:=bx (TTr.e x)
structure TOp where
 U:Int
 B:Y8
 D:Int
 Ab:Int
 Of:Int
 V:Int
 Ah:Int
 Aj:Int
 A:Int
 Ae:Int
 deriving Inhabited
def TOp.e (x:TOp):DV:=.agg [(DV.i .i64 x.U),(DV.str x.B),(DV.i .i64 x.D),(DV.i .i64 x.Ab),(DV.i .i64 x.Of),(DV.i .i64 x.V),(DV.i .i64 x.Ah),(DV.i .i64 x.Aj),(DV.i .i64 x.A),(DV.i .i64 x.Ae)]
abbrev TOp.d (x:TOp):AV:=AV.d (TOp.e x)
abbrev TOp.b (x:TOp):Ob:=bx (TOp.e x)
structure TJo where
 Z:Int
 M:(List TOp)
 Af:Int
 deriving Inhabited
def TJo.e (x:TJo):DV:=.agg [(DV.i .i64 x.Z),(eL TOp.e x.M),(DV.i .i64 x.Af)]
abbrev TJo.d (x:TJo):AV:=AV.d (TJo.e x)
abbrev TJo.b (x:TJo):Ob:=bx (TJo.e x)
structure TMe where
 Aa:Int
 To:Int
 B:Y8
 D:Int
 A:Int
 G:Int
 S:Int
 P:Int
 deriving Inhabited
def TMe.e (x:TMe):DV:=.agg [(DV.i .i64 x.Aa),(DV.i .i64 x.To),(DV.str x.B),(DV.i .i64 x.D),(DV.i .i64 x.A),(DV.i .i64 x.G),(DV.i .i64 x.S),(DV.i .i64 x.P)]
abbrev TMe.d (x:TMe):AV:=AV.d (TMe.e x)
abbrev TMe.b (x:TMe):Ob:=bx (TMe.e x)
structure TWo where
 K:TTr
 J:(List TJo)
 N:(List TMe)
 deriving Inhabited
def TWo.e (x:TWo):DV:=.agg [(TTr.e x.K),(eL TJo.e x.J),(eL TMe.e x.N)]
abbrev TWo.d (x:TWo):AV:=AV.d (TWo.e x)
abbrev TWo.b (x:TWo):Ob:=bx (TWo.e x)
structure TSt where
 U:Int
 Z:Int
 Op:TOp
 B:Y8
 D:Int
 V:Int
 Ai:Int
 deriving Inhabited
def TSt.e (x:TSt):DV:=.agg [(DV.i .i64 x.U),(DV.i .i64 x.Z),(TOp.e x.Op),(DV.str x.B),(DV.i .i64 x.D),(DV.i .i64 x.V),(DV.i .i64 x.Ai)]
abbrev TSt.d (x:TSt):AV:=AV.d (TSt.e x)
abbrev TSt.b (x:TSt):Ob:=bx (TSt.e x)
structure TRe where
 Q:Int
 B:Y8
 D:Int
 Ab:Int
 V:Int
 Ad:Int
 deriving Inhabited
def TRe.e (x:TRe):DV:=.agg [(DV.i .i64 x.Q),(DV.str x.B),(DV.i .i64 x.D),(DV.i .i64 x.Ab),(DV.i .i64 x.V),(DV.i .i64 x.Ad)]
abbrev TRe.d (x:TRe):AV:=AV.d (TRe.e x)
abbrev TRe.b (x:TRe):Ob:=bx (TRe.e x)
structure TCo where
 Q:Int
 Y:Int
 Ab:Int
 V:Int
 Ad:Int
 Ah:Int
 Aj:Int
 deriving Inhabited
def TCo.e (x:TCo):DV:=.agg [(DV.i .i64 x.Q),(DV.i .i64 x.Y),(DV.i .i64 x.Ab),(DV.i .i64 x.V),(DV.i .i64 x.Ad),(DV.i .i64 x.Ah),(DV.i .i64 x.Aj)]
abbrev TCo.d (x:TCo):AV:=AV.d (TCo.e x)
abbrev TCo.b (x:TCo):Ob:=bx (TCo.e x)
structure TVe where
 Q:Int
 Ac:Int
 Ab:Int
 V:Int
 deriving Inhabited
def TVe.e (x:TVe):DV:=.agg [(DV.i .i64 x.Q),(DV.i .i64 x.Ac),(DV.i .i64 x.Ab),(DV.i .i64 x.V)]
abbrev TVe.d (x:TVe):AV:=AV.d (TVe.e x)
abbrev TVe.b (x:TVe):Ob:=bx (TVe.e x)
structure TOr where
 Q:Int
 X:Int
 Ak:Int
 Ab:Int
 Al:Bool
 deriving Inhabited
def TOr.e (x:TOr):DV:=.agg [(DV.i .i64 x.Q),(DV.i .i64 x.X),(DV.i .i64 x.Ak),(DV.i .i64 x.Ab),(DV.b x.Al)]
abbrev TOr.d (x:TOr):AV:=AV.d (TOr.e x)
abbrev TOr.b (x:TOr):Ob:=bx (TOr.e x)
structure TBo where
 C:(List TRe)
 F:(List TCo)
 I:(List TVe)
 W:(List TOr)
 deriving Inhabited
def TBo.e (x:TBo):DV:=.agg [(eL TRe.e x.C),(eL TCo.e x.F),(eL TVe.e x.I),(eL TOr.e x.W)]
abbrev TBo.d (x:TBo):AV:=AV.d (TBo.e x)
abbrev TBo.b (x:TBo):Ob:=bx (TBo.e x)
structure TRi where
 B:Y8
 D:Int
 A:Int
 G:Int
 S:Int
 deriving Inhabited
def TRi.e (x:TRi):DV:=.agg [(DV.str x.B),(DV.i .i64 x.D),(DV.i .i64 x.A),(DV.i .i64 x.G),(DV.i .i64 x.S)]
abbrev TRi.d (x:TRi):AV:=AV.d (TRi.e x)
abbrev TRi.b (x:TRi):Ob:=bx (TRi.e x)
structure TOf where
 Q:Int
 L:(List TRi)
 Ag:TBo
 deriving Inhabited
def TOf.e (x:TOf):DV:=.agg [(DV.i .i64 x.Q),(eL TRi.e x.L),(TBo.e x.Ag)]
abbrev TOf.d (x:TOf):AV:=AV.d (TOf.e x)
abbrev TOf.b (x:TOf):Ob:=bx (TOf.e x)
structure TTape where
 l:(List Int)
 at_:Int
 deriving Inhabited
def TTape.e (x:TTape):DV:=.agg [(eL (DV.i .i64) x.l),(DV.i .i64 x.at_)]
abbrev TTape.d (x:TTape):AV:=AV.d (TTape.e x)
abbrev TTape.b (x:TTape):Ob:=bx (TTape.e x)
structure TCa where
 w:TWo
 deriving Inhabited
def TCa.e (x:TCa):DV:=.agg [(TWo.e x.w)]
abbrev TCa.d (x:TCa):AV:=AV.d (TCa.e x)
abbrev TCa.b (x:TCa):Ob:=bx (TCa.e x)
end Go.Proofs.YtkhgaalekilaeaaGreatDoor
/- What the functions compute,and that their calls return it. No condition. -/
namespace Go.Proofs.YtkhgaalekilaeaaGreatDoor
open Go Go.TA
open Go.IntKind (i64)
noncomputable section
set_option maxRecDepth 100000
def S_qc_b1 (a:TJo) (i4:Nat) (_:Unit):SC Bool (Step Unit Bool) :=
.reg 3 [] [] [.w i4,.ev 0]<|
.ite (decide ((((a.M.getD i4 dF).B).length:Int)>60)) (
.r (.ret false)) (
.r (.cont ()))
def S_qc (a:TJo):SC Bool Bool :=
.range (a.M.length:Int) a.M.length rfl (.slot 6) 8 [1,6,7] (fun (_:Unit)=>[]) (fun _=>[]) () (S_qc_b1 a) (fun _ => 
.r (decide ((a.M.length:Int)<=40))) id
def F_qc (a:TJo):=(S_qc a).den
theorem F_qc_ok {a:TJo}:FO (F_qc a) 32 [(TJo.d a)] [] vb NL:=fO (s:=S_qc a) Tryz.func32
theorem cz1:OLe (bx (DV.agg [(Rf ([])),(DV.i .i64 0),(DV.i .i64 0),Z0,Z0,Z0,Z0])) (TPo.b (⟨[],0,0,[],[],[],[]⟩:TPo)):=z4x (DLe.agg (Rh (DLe.refl _) (Rh (DLe.refl _) (Rh (DLe.refl _) (Rh DLe.sl0 (Rh DLe.sl0 (Rh DLe.sl0 (Rh DLe.sl0 DLeL.nil))))))))
def S_q1m_b1 (d:TTr) (c:Nat) (_:Unit):SC Bool (Step Unit Bool) :=
.reg 3 [] [(2,{ obs:=[(1,(TPo.b (⟨[],0,0,[],[],[],[]⟩:TPo)))] })] [.w c,.ev 0,.pf cz1]<|
 let a:=(d.E.getD c dF)
.ite (cO (cO (cO (cO (decide ((a.B.length:Int)>60)) (decide ((a.A.length:Int)>12))) (decide ((a.H.length:Int)>12))) (decide ((a.G.length:Int)>12))) (decide ((a.P.length:Int)>12))) (
.r (.ret false)) (
.r (.cont ()))
def S_q1m (a:TTr):SC Bool Bool :=
.range (a.E.length:Int) a.E.length rfl (.slot 6) 8 [1,6,7] (fun (_:Unit)=>[]) (fun _=>[]) () (S_q1m_b1 a) (fun _ => 
.r (decide ((a.E.length:Int)<=70))) id
def F_q1m (a:TTr):=(S_q1m a).den
theorem F_q1m_ok {a:TTr}:FO (F_q1m a) 33 [(TTr.d a)] [] vb NL:=fO (s:=S_q1m a) Tryz.func33
theorem cz2:OLe (bx (DV.agg [(DV.i .i64 0),Z0,(DV.i .i64 0)])) (TJo.b (⟨0,[],0⟩:TJo)):=z4x (DLe.agg (Rh (DLe.refl _) (Rh DLe.sl0 (Rh (DLe.refl _) DLeL.nil))))
def S_qf_b1 (e:TWo) (c:Nat) (_:Unit):SC Bool (Step Unit Bool) :=
.reg 3 [] [(2,{ obs:=[(1,(TJo.b (⟨0,[],0⟩:TJo)))] })] [.w c,.ev 0,.pf cz2]<|
.a 4 1 2 (@F_qc_ok (e.J.getD c dF)) fun d=>
.ite (!d) (
.r (.ret false)) (
.r (.cont ()))
def S_qf_b2 (b:TWo) (a:Nat) (_:Unit):SC Bool (Step Unit Bool) :=
.reg 9 [] [] [.w a,.ev 0]<|
.ite (decide ((((b.N.getD a dF).B).length:Int)>60)) (
.r (.ret false)) (
.r (.cont ()))
def S_qf (b:TWo):SC Bool Bool :=
.range (b.J.length:Int) b.J.length rfl (.slot 8) 10 [1,8,9] (fun (_:Unit)=>[]) (fun _=>[]) () (S_qf_b1 b) (fun _ => 
.range (b.N.length:Int) b.N.length rfl (.slot 19) 21 [1,19,20] (fun (_:Unit)=>[]) (fun _=>[]) () (S_qf_b2 b) (fun _ => 
.a 13 2 1 (@F_q1m_ok b.K) fun c=>
.r (bif (bif c then (decide ((b.J.length:Int)<=8)) else false) then (decide ((b.N.length:Int)<=30)) else false)) id) id
def F_qf (a:TWo):=(S_qf a).den
theorem F_qf_ok {a:TWo}:FO (F_qf a) 4 [(TWo.d a)] [] vb NL:=fO (s:=S_qf a) Tryz.func4
def S_q1c_b1 (b:(List TSt)) (a:Nat) (_:Unit):SC Bool (Step Unit Bool) :=
.reg 3 [] [] [.w a,.ev 0]<|
.ite (decide ((i64.wrap ((((b.getD a dF).B).length:Int)+((((b.getD a dF).Op).B).length:Int)))>100)) (
.r (.ret false)) (
.r (.cont ()))
def S_q1c (a:(List TSt)) (b:Int):SC Bool Bool :=
.range (a.length:Int) a.length rfl (.slot 0) 9 [0,1,7,8] (fun (_:Unit)=>[]) (fun _=>[]) () (S_q1c_b1 a) (fun _ => 
.r (decide ((a.length:Int)<=b))) id
def F_q1c (a:(List TSt)) (b:Int):=(S_q1c a b).den
theorem F_q1c_ok {a:(List TSt)} {b:Int}:FO (F_q1c a b) 5 [(AV.d (eL TSt.e a)),(vi b)] [] vb NL:=fO (s:=S_q1c a b) Tryz.func5
def S_q1d (a:Int) (b:Int) (c:Int):SC Bool Bool :=
.r (bif (decide (a>=b)) then (decide (a<=c)) else false)
def F_q1d (a:Int) (b:Int) (c:Int):=(S_q1d a b c).den
theorem F_q1d_ok {a:Int} {b:Int} {c:Int}:FO (F_q1d a b c) 78 [(vi a),(vi b),(vi c)] [] vb NL:=fO (s:=S_q1d a b c) Tryz.func78
theorem cz3:LeV (AV.d (DV.agg [(DV.i .i64 0),Z0,(DV.i .i64 0)])) (TJo.d (⟨0,[],0⟩:TJo)):=z2f rfl (DLe.agg (Rh (DLe.refl _) (Rh DLe.sl0 (Rh (DLe.refl _) DLeL.nil))))
def S_q77 (c:Int):SC (TJo×Int) (TJo×Int) :=
 let a:=(⟨0,[],0⟩:TJo)
.reg 0 [] [(0,{ obs:=[(0,(TJo.b a))] })] [.pf cz2]<|
.ite (cO (decide (c<1)) (decide (c>6))) (
.reg 2 [] [(0,hv (TJo.d a))] [.pf cz3]<|
.r (a,2)) (
 let e:=(TJo.d (⟨c,[],0⟩:TJo))
.reg 3 [] [(1,hv e)] [.pf (p:=LeV (AV.d (DV.agg [(DV.i .i64 c),Z0,(DV.i .i64 0)])) e) (z2f rfl (DLe.agg (Rh (DLe.refl _) (Rh DLe.sl0 (Rh (DLe.refl _) DLeL.nil)))))]<|
.r ((⟨c,[],0⟩:TJo),0))
def F_q77 (a:Int):=(S_q77 a).den
theorem F_q77_ok {a:Int}:FO (F_q77 a) 83 [(vi a)] [] (fun x=>(Rg [(TJo.d x.1),(vi x.2)])) NL:=fO (s:=S_q77 a) Tryz.func83
theorem cz4:OLe (bx (DV.agg [(DV.agg [(DV.i .i64 0),Z0]),Z0,Z0])) (TWo.b (⟨(⟨0,[]⟩:TTr),[],[]⟩:TWo)):=z4x (DLe.agg (Rh (DLe.agg (Rh (DLe.refl _) (Rh DLe.sl0 DLeL.nil))) (Rh DLe.sl0 (Rh DLe.sl0 DLeL.nil))))
theorem cz5:LeV (AV.d (DV.agg [(DV.agg [(DV.i .i64 0),Z0]),Z0,Z0])) (TWo.d (⟨(⟨0,[]⟩:TTr),[],[]⟩:TWo)):=z2f rfl (DLe.agg (Rh (DLe.agg (Rh (DLe.refl _) (Rh DLe.sl0 DLeL.nil))) (Rh DLe.sl0 (Rh DLe.sl0 DLeL.nil))))
def S_q13_b1 (i:Nat) (a:TTr×(List TMe)×(List TJo)):SC (TWo×Int) (Step (TTr×(List TMe)×(List TJo)) (TWo×Int)) :=
.call (@F_q77_ok (i64.wrap ((i:Int)+1))) fun j h=>
.reg 7 [] [(2,hc h [] true),(6,{ obs:=[(3,(TJo.b (⟨0,[],0⟩:TJo)))] })] [.cl 0 h [] 3 true,.pf cz2]<|
.guard [(a.2.2.length+1) * (2 * 40)<=2 ^ 48]<|
 let f:=([j.1]:List TJo)
 let g:=(a.2.2++f)
.reg 8 [] [(3,hv (AV.d (eL TJo.e f))),(4,{ cast:=some (Rb 2 g.length 0 g.length),obs:=[(2,(eS 3 TJo.e g))] })] [.pf (za TJo.e f),.e a.2.2.length,.e a.2.2.length,.pf (p:=∀ k,k<1->(TJo.d (f.getD k dF)).wd=3) (fun _ _=>rfl),.ev 0,.pf (zy (o:=2) (l:=a.2.2) (x:=f)),.pf (z12 (sz:=3) (e:=TJo.e) (l:=a.2.2) (x:=f))]<|
.c (a.1,a.2.1,g)
def S_q13 (l:Int):SC (TWo×Int) (TWo×Int) :=
 let m:=(⟨(⟨0,[]⟩:TTr),[],[]⟩:TWo)
 let n:=(TWo.b m)
.reg 0 [] [(0,{ obs:=[(0,n)] })] [.pf cz4]<|
.a 1 1 1 (@F_q1d_ok l 1 6) fun s=>
.ite (!s) (
.reg 2 [] [(0,hv (TWo.d m))] [.pf cz5]<|
.r (m,2)) (
 let g:=(TTr.d (⟨l,[]⟩:TTr))
.reg 3 [] [(1,hv g),(2,{ h:=.obj }),(3,{ h:=.obj })] [.pf (p:=LeV (AV.d (DV.agg [(DV.i .i64 l),Z0])) g) (z2f rfl (DLe.agg (Rh (DLe.refl _) (Rh DLe.sl0 DLeL.nil))))]<|
 let o:=[(0,(vi l)),(2,(vp 0)),(4,(vp 1))]
 let q:=(AV.full 0 fun _=>DV.b false)
.sh (A:=True) (.pf trivial) o o [n,(Rd (Rc [g,q,q]))] [n,(Rd (Rc [g,(Rb 2 0 0 0),(AV.d (eL TMe.e ([]:List TMe)))])),(eS 3 TJo.e ([]:List TJo))] (fun _=>(z1y (sz:=3) (f:=fun j=>AV.d (TJo.e (([]:List TJo).getD j dF))) (.keep _ _ _ _ (yw rfl) (.box _ _ _ _ _ (yw rfl) (TrV.agg (Rk (TrV.keep _) (Rk TrV.born (Rk TrV.full TrL.nil)))) (.nil _))))) (z1a (k:=0) rfl (Rj _) (z1a (k:=1) rfl (Rj _) (z1a (k:=2) rfl (Rj _) z2l)))<|
.guard [l.toNat<2 ^ 63]<|
.range l l.toNat rfl (.why (.ev 0)) 16 [2,4,15] (fun (_:TTr×(List TMe)×(List TJo))=>[]) (fun c=>[(1,(Rd (Rc [(TTr.d c.1),(Rb 2 c.2.2.length 0 c.2.2.length),(AV.d (eL TMe.e c.2.1))]))),(2,(eS 3 TJo.e c.2.2))]) ((⟨l,[]⟩:TTr),([]:List TMe),([]:List TJo)) S_q13_b1 (fun c => 
.guard [c.2.2.length<2 ^ 63]<|
.reg 10 [] [] []<|
.frz 2 (.ev 0) none [] [0,1]<|
.r ((⟨c.1,c.2.2,c.2.1⟩:TWo),0)) id)
def F_q13 (a:Int):=(S_q13 a).den
theorem F_q13_ok {a:Int}:FO (F_q13 a) 30 [(vi a)] [] (fun x=>(Rg [(TWo.d x.1),(vi x.2)])) NL:=fO (s:=S_q13 a) Tryz.func30
def S_qj (a:Int) (b:Int) (c:Int):SC Bool Bool :=
.r (bif (decide (a>=b)) then (decide (a<=c)) else false)
def F_qj (a:Int) (b:Int) (c:Int):=(S_qj a b c).den
theorem F_qj_ok {a:Int} {b:Int} {c:Int}:FO (F_qj a b c) 93 [(vi a),(vi b),(vi c)] [] vb NL:=fO (s:=S_qj a b c) Tryz.func93
def S_q3b (f:Y8) (g:Int):SC Bool Bool :=
.call (@F_q7w_ok f) fun d b=>
 let a:=(decide ((d.length:Int)>0))
.calld [a=true] dF (@F_qj_ok g 0 99) fun e c =>
.reg 1 [] [(1,hc b [] true),(6,hc c [] true)] [.cl 2 b [] 0 true,.clg 0 [a=true] c [] 0 true]<|
.r (bif a then e else false)
def F_q3b (a:Y8) (b:Int):=(S_q3b a b).den
theorem F_q3b_ok {a:Y8} {b:Int}:FO (F_q3b a b) 144 [(AV.d (Rf a)),(vi b)] [] vb NL:=fO (s:=S_q3b a b) Tryz.func144
def S_q1w (c:Int):SC Bool Bool :=
.a 1 1 0 (@F_qj_ok c 0 1000000000000000) fun b=>
.r b
def F_q1w (a:Int):=(S_q1w a).den
theorem F_q1w_ok {a:Int}:FO (F_q1w a) 146 [(vi a)] [] vb NL:=fO (s:=S_q1w a) Tryz.func146
def S_q78 (c:Int):SC Bool Bool :=
.a 1 1 0 (@F_q1w_ok c) fun b=>
.r (!b)
def F_q78 (a:Int):=(S_q78 a).den
theorem F_q78_ok {a:Int}:FO (F_q78 a) 145 [(vi a)] [] vb NL:=fO (s:=S_q78 a) Tryz.func145
def S_q33_b1 (d:(List Int)) (a:Nat) (_:Unit):SC Int (Step Unit Int) :=
.call (@F_q78_ok (d.getD a dF)) fun c b=>
.reg 4 [] [(5,hc b [] true)] [.w a,.ev 1,.cl 0 b [] 0 true]<|
.ite c (
.r (.ret (a:Int))) (
.r (.cont ()))
def S_q33 (a:(List Int)):SC Int Int :=
.range (a.length:Int) a.length rfl (.slot 0) 8 [0,1,7] (fun (_:Unit)=>[]) (fun _=>[]) () (S_q33_b1 a) (fun _ => 
.r (-1)) id
def F_q33 (a:(List Int)):=(S_q33 a).den
theorem F_q33_ok {a:(List Int)}:FO (F_q33 a) 194 [(vl a),(AV.fn 145 [])] [] vi NL:=fO (s:=S_q33 a) Tryz.func194
def S_q5a (c:(List Int)):SC Bool Bool :=
.a 1 2 0 (@F_q33_ok c) fun b=>
.r (decide (b>=0))
def F_q5a (a:(List Int)):=(S_q5a a).den
theorem F_q5a_ok {a:(List Int)}:FO (F_q5a a) 147 [(vl a),(AV.fn 145 [])] [] vb NL:=fO (s:=S_q5a a) Tryz.func147
def S_q14_b1 (d:(List Int)) (a:Nat) (b:Int):SC Int (Step Int Int) :=
.reg 4 [] [] [.w a,.ev 0]<|
.c (i64.wrap (b+(d.getD a dF)))
def S_q14 (b:(List Int)):SC Int Int :=
.range (b.length:Int) b.length rfl (.slot 6) 8 [6,7] (fun (a:Int)=>[(3,(vi a))]) (fun _=>[]) 0 (S_q14_b1 b) (fun a => 
.r a) id
def F_q14 (a:(List Int)):=(S_q14 a).den
theorem F_q14_ok {a:(List Int)}:FO (F_q14 a) 148 [(vl a)] [] vi NL:=fO (s:=S_q14 a) Tryz.func148
def S_qo_b1 (e:TPo) (g:Int) (b:Nat) (_:Unit):SC Bool (Step Unit Bool) :=
.reg 6 [] [] [.w b,.ev 0]<|
 let c:=(([e.A,e.H,e.G,e.P]:List (List Int)).getD b dF)
 let a:=((c.length:Int) != g)
.calld [a=false] dF (@F_q5a_ok c) fun f d =>
.reg 7 [] [(7,hc d [] true)] [.clg 0 [a=false] d [] 1 true]<|
.ite (cO a f) (
.r (.ret false)) (
.r (.cont ()))
def S_qo_b2 (c:TPo) (a:Nat) (_:Unit):SC Bool (Step Unit Bool) :=
.reg 12 [] [] [.w a,.ev 0]<|
 let d:=(c.A.getD a dF)
 let b:=(decide ((c.H.getD a dF)>d))
.guard [a<c.H.length,AllP [b=false]->(a<c.G.length)]<|
.reg 13 [] [] [.w a,.ev 0,.pf (p:=AllP [b=false]->((0:Int)<=(a:Int))) (fun _=>(y21 _)),.ev 1]<|
.ite (cO b (decide ((c.G.getD a dF)>d))) (
.r (.ret false)) (
.r (.cont ()))
def S_qo (b:TPo) (k:Int):SC Bool Bool :=
.call (@F_q3b_ok b.B b.D) fun c e=>
.calld [(!c)=false] dF (@F_qj_ok b.T (-1000000000000000) 1000000000000000) fun h f =>
.reg 1 [] [(4,hc e [] true),(9,hc f [] true)] [.cl 2 e [] 1 true,.clg 0 [(!c)=false] f [] 1 true]<|
.ite (cO (!c) (!h)) (
.r false) (
 let g:=([b.A,b.H,b.G,b.P]:List (List Int))
.reg 4 [] [(8,hv (AV.d (eL (eL Ra) g)))] [.pf (za (eL Ra) g)]<|
.range 4 4 rfl (.why (.pf (p:=4<2 ^ 63) dk)) 32 [1,2,5,30,31] (fun (_:Unit)=>[]) (fun _=>[]) () (S_qo_b1 b k) (fun _ => 
.range (b.A.length:Int) b.A.length rfl (.slot 47) 49 [2,47,48] (fun (_:Unit)=>[]) (fun _=>[]) () (S_qo_b2 b) (fun _ => 
.a 16 2 1 (@F_q14_ok b.A) fun j=>
.r (decide (j<=1000000000000000))) id) id)
def F_qo (a:TPo) (b:Int):=(S_qo a b).den
theorem F_qo_ok {a:TPo} {b:Int}:FO (F_qo a b) 94 [(TPo.d a),(vi b)] [] vb NL:=fO (s:=S_qo a b) Tryz.func94
def S_q5b (a:Y8):SC Bool Bool :=
.r (!(a==a))
def F_q5b (a:Y8):=(S_q5b a).den
theorem F_q5b_ok {a:Y8}:FO (F_q5b a) 227 [(AV.d (Rf a))] [] vb NL:=fO (s:=S_q5b a) Tryz.func227
def S_q79 (c:Y8) (d:Y8):SC Int Int :=
.a 1 1 0 (@F_q5b_ok c) fun e=>
.a 2 1 0 (@F_q5b_ok d) fun b=>
.ite e (
.ite b (
.r 0) (
.r (-1))) (
.ite b (
.r 1) (
.ite (Op.bytesLess c d) (
.r (-1)) (
.ite (!(Op.bytesLess c d||c==d)) (
.r 1) (
.r 0))))
def F_q79 (a:Y8) (b:Y8):=(S_q79 a b).den
theorem F_q79_ok {a:Y8} {b:Y8}:FO (F_q79 a b) 195 [(AV.d (Rf a)),(AV.d (Rf b))] [] vi NL:=fO (s:=S_q79 a b) Tryz.func195
def S_q5c (a:Int):SC Bool Bool :=
.r (a != a)
def F_q5c (a:Int):=(S_q5c a).den
theorem F_q5c_ok {a:Int}:FO (F_q5c a) 197 [(vi a)] [] vb NL:=fO (s:=S_q5c a) Tryz.func197
def S_q43 (c:Int) (d:Int):SC Int Int :=
.a 1 1 0 (@F_q5c_ok c) fun e=>
.a 2 1 0 (@F_q5c_ok d) fun b=>
.ite e (
.ite b (
.r 0) (
.r (-1))) (
.ite b (
.r 1) (
.ite (decide (c<d)) (
.r (-1)) (
.ite (decide (c>d)) (
.r 1) (
.r 0))))
def F_q43 (a:Int) (b:Int):=(S_q43 a b).den
theorem F_q43_ok {a:Int} {b:Int}:FO (F_q43 a b) 151 [(vi a),(vi b)] [] vi NL:=fO (s:=S_q43 a b) Tryz.func151
def S_q2m_b1 (e:(List Int)) (d:(List Int)) (b:Nat) (_:Unit):SC Int (Step Unit Int) :=
.reg 3 [] [] [.w b,.ev 0]<|
.ite (decide ((b:Int)>=(d.length:Int))) (
.r (.ret 1)) (
.guard [b<d.length]<|
.reg 6 [] [] [.w b,.ev 0]<|
.a 7 2 0 (@F_q43_ok (e.getD b dF) (d.getD b dF)) fun c=>
.ite (c != 0) (
.r (.ret c)) (
.r (.cont ())))
def S_q2m (a:(List Int)) (b:(List Int)):SC Int Int :=
.range (a.length:Int) a.length rfl (.slot 0) 11 [0,1,9,10] (fun (_:Unit)=>[]) (fun _=>[]) () (S_q2m_b1 a b) (fun _ => 
.ite (decide ((a.length:Int)<(b.length:Int))) (
.r (-1)) (
.r 0)) id
def F_q2m (a:(List Int)) (b:(List Int)):=(S_q2m a b).den
theorem F_q2m_ok {a:(List Int)} {b:(List Int)}:FO (F_q2m a b) 196 [(vl a),(vl b)] [] vi NL:=fO (s:=S_q2m a b) Tryz.func196
def S_q4l (h:Y8) (i:Y8):SC Int Int :=
.call (@F_q7w_ok h) fun b c=>
.call (@F_q7w_ok i) fun d e=>
.reg 1 [] [(1,hc c [] true),(3,hc e [] true)] [.cl 1 c [] 0 true,.cl 0 e [] 0 true]<|
.ite (bif ((b.length:Int)==0) then ((d.length:Int)==0) else false) (
.a 3 2 0 (@F_q79_ok h i) fun f=>
.r f) (
.a 4 2 0 (@F_q2m_ok b d) fun g=>
.r g)
def F_q4l (a:Y8) (b:Y8):=(S_q4l a b).den
theorem F_q4l_ok {a:Y8} {b:Y8}:FO (F_q4l a b) 150 [(AV.d (Rf a)),(AV.d (Rf b))] [] vi NL:=fO (s:=S_q4l a b) Tryz.func150
def S_q1n_b1 (b:(List Int)) (a:Nat) (_:Unit):SC Int (Step Unit Int) :=
.reg 4 [] [] [.w a,.ev 0]<|
.ite ((b.getD a dF) != 0) (
.r (.ret (b.getD a dF))) (
.r (.cont ()))
def S_q1n (a:(List Int)):SC Int Int :=
.range (a.length:Int) a.length rfl (.slot 6) 8 [3,6,7] (fun (_:Unit)=>[]) (fun _=>[]) () (S_q1n_b1 a) (fun _ => 
.r 0) id
def F_q1n (a:(List Int)):=(S_q1n a).den
theorem F_q1n_ok {a:(List Int)}:FO (F_q1n a) 149 [(vl a)] [] vi NL:=fO (s:=S_q1n a) Tryz.func149
def S_q3i (h:TPo) (j:TPo):SC Int Int :=
.call (@F_q4l_ok h.B j.B) fun e b=>
.call (@F_q43_ok h.D j.D) fun f c=>
 let a:=([e,f]:List Int)
.call (@F_q1n_ok a) fun g d=>
.reg 1 [] [(4,hc b [] true),(9,hc c [] true),(10,hv (vl a)),(11,hc d [] true)] [.cl 2 b [] 2 true,.cl 1 c [] 2 true,.pf (za Ra a),.cl 0 d [] 2 true]<|
.r g
def F_q3i (a:TPo) (b:TPo):=(S_q3i a b).den
theorem F_q3i_ok {a:TPo} {b:TPo}:FO (F_q3i a b) 95 [(TPo.d a),(TPo.d b)] [] vi NL:=fO (s:=S_q3i a b) Tryz.func95
def S_qx_b1 (i:TTr) (d:Nat) (_:Unit):SC Bool (Step Unit Bool) :=
.reg 5 [] [(3,{ obs:=[(1,(TPo.b (⟨[],0,0,[],[],[],[]⟩:TPo)))] })] [.w d,.ev 0,.pf cz1]<|
 let f:=(i.E.getD d dF)
.call (@F_qo_ok f i.O) fun a g=>
 let c:=(decide ((d:Int)>0))
 let e:=(i64.wrap ((d:Int)-1))
.calld [c=true,(!a)=false] dF (@F_q3i_ok (i.E.getD e.toNat dF) f) fun j h =>
.guard [AllP [c=true,(!a)=false]->((0:Int)<=e),AllP [c=true,(!a)=false]->(e.toNat<i.E.length)]<|
.reg 6 [] [(3,hc g [] true),(16,hc h [] true)] [.cl 4 g [] 2 true,.ev 0,.ev 1,.clg 2 [c=true,(!a)=false] h [] 2 true]<|
.ite (cO (!a) (bif c then (decide (j>=0)) else false)) (
.r (.ret false)) (
.r (.cont ()))
def S_qx (b:TTr):SC Bool Bool :=
.a 1 2 1 (@F_qj_ok b.O 1 6) fun c=>
.ite (cO (!c) (decide ((b.E.length:Int)>60))) (
.r false) (
.range (b.E.length:Int) b.E.length rfl (.slot 16) 18 [1,16,17] (fun (_:Unit)=>[]) (fun _=>[]) () (S_qx_b1 b) (fun _ => 
.r true) id)
def F_qx (a:TTr):=(S_qx a).den
theorem F_qx_ok {a:TTr}:FO (F_qx a) 44 [(TTr.d a)] [] vb NL:=fO (s:=S_qx a) Tryz.func44
theorem cz6:∀ k,k<0->(DV.b false).wd=1:=fun _ h=>absurd h (y3k _)
def S_q1x (a:(List Int)):SC (List Int) (List Int) :=
.reg 0 [] [] []<|
.nils 0 (
.guard [(0+a.length) * (2 * 8)<=2 ^ 48]<|
.reg 1 [] [] []<|
.lev 0 (vl a) (.pf (lvQ true a.length fun j=>(DV.i .i64 (a.getD j dF))))<|
.br true (.pf (p:=true=true) rfl)<|
.reg 2 [] [] []<|
.lev 2 (vl a) (.der (fun (h:a.length=0)=>lvZ Ra a h) 1)<|
.r a) (
.reg 1 [] [] []<|
.lev 0 (vl a) (.pf (lvQ false a.length fun j=>(DV.i .i64 (a.getD j dF))))<|
.br false (.pf (p:=false=false) rfl)<|
.guard [(0+a.length) * (2 * 8)<=2 ^ 48]<|
.reg 3 [] [(2,hv (vl a))] [.pf (p:=∀ k,k<a.length->AV.d (Ra (a.getD k dF))=AV.d (Ra (a.getD k dF))/\(Ra (a.getD k dF)).wd=1) (fun _ _=>⟨rfl,rfl⟩),.pf cz6,.ev 0,.pf (z3s (e:=Ra) (x:=a))]<|
.r a)
def F_q1x (a:(List Int)):=(S_q1x a).den
theorem F_q1x_ok {a:(List Int)}:FO (F_q1x a) 89 [(vl a)] [] vl NL:=fO (s:=S_q1x a) Tryz.func89
def S_q3j (a:TPo):SC TPo TPo :=
.reg 0 [] [(1,{ obs:=[(1,(TPo.b (⟨[],0,0,[],[],[],[]⟩:TPo)))] })] [.pf cz1]<|
.call (@F_q1x_ok a.A) fun g c=>
.call (@F_q1x_ok a.H) fun h d=>
.call (@F_q1x_ok a.G) fun i e=>
.call (@F_q1x_ok a.P) fun j f=>
.reg 1 [13,15,17,19] [(2,hc c [] true),(5,hc d [] true),(8,hc e [] true),(11,hc f [] true)] [.cl 3 c [] 2 true,.cl 2 d [] 2 true,.cl 1 e [] 2 true,.cl 0 f [] 2 true]<|
.r (⟨a.B,a.D,a.T,g,h,i,j⟩:TPo)
def F_q3j (a:TPo):=(S_q3j a).den
theorem F_q3j_ok {a:TPo}:FO (F_q3j a) 111 [(TPo.d a)] [] (fun x=>(TPo.d x)) NL:=fO (s:=S_q3j a) Tryz.func111
theorem cz7:OLe (bx (DV.agg [(DV.i .i64 0),Z0])) (TTr.b (⟨0,[]⟩:TTr)):=z4x (DLe.agg (Rh (DLe.refl _) (Rh DLe.sl0 DLeL.nil)))
abbrev R_q34:=Int×(List TPo)
def S_q34_b1 (m:TTr) (g:Nat) (f:Int×(List TPo)):SC R_q34 (Step (Int×(List TPo)) R_q34) :=
.reg 5 [] [(2,{ obs:=[(3,(TPo.b (⟨[],0,0,[],[],[],[]⟩:TPo)))] })] [.w g,.ev 0,.pf cz1]<|
.call (@F_q3j_ok (m.E.getD g dF)) fun j i=>
 let a:=([j]:List TPo)
.guard [(f.2.length+a.length) * (2 * 128)<=2 ^ 48]<|
.reg 6 [4,5,7] [(3,hc i [] true),(4,{ h:=.obj,obs:=[(4,(eS 7 TPo.e a))] }),(5,{ h:=.obj,cast:=some (Rb 2 ((f.2++a).length) 0 ((f.2++a).length)),obs:=[(2,(eS 7 TPo.e (f.2++a)))] })] [.cl 1 i [] 4 true,.pf (z70 (sz:=7) (e:=TPo.e) (l:=a)),.e a.length,.e f.2.length,.e f.2.length,.pf (p:=∀ k,k<a.length->(TPo.d (a.getD k dF)).wd=7) (fun _ _=>rfl),.ev 0,.pf (zy (o:=2) (l:=f.2) (x:=a)),.pf (z12 (sz:=7) (e:=TPo.e) (l:=f.2) (x:=a))]<|
.c (f.1,(f.2++a))
def S_q34 (c:TTr):SC R_q34 R_q34 :=
 let g:=(TTr.b (⟨0,[]⟩:TTr))
.reg 0 [] [(1,{ obs:=[(1,g)] })] [.pf cz7]<|
.reg 2 [] [] []<|
 let h:=[(1,(vp 0)),(2,(vp 1)),(3,(AV.d (eL TPo.e c.E)))]
.sh (A:=True) (.pf trivial) h h [(Rd (Rc [(vi c.O),(AV.full 0 fun _=>DV.b false)])),g] [(Rd (Rc [(vi c.O),(Rb 2 0 0 0)])),g,(eS 7 TPo.e ([]:List TPo))] (fun _=>(z1y (sz:=7) (f:=fun j=>AV.d (TPo.e (([]:List TPo).getD j dF))) (.box _ _ _ _ _ (yw rfl) (TrV.agg (Rk (TrV.keep _) (Rk TrV.born TrL.nil))) (.keep _ _ _ _ (yw rfl) (.nil _))))) (z1a (k:=0) rfl (Rj _) (z1a (k:=1) rfl (Rj _) (z1a (k:=2) rfl (Rj _) z2l)))<|
.range (c.E.length:Int) c.E.length rfl (.slot 9) 11 [1,2,9,10] (fun (_:Int×(List TPo))=>[]) (fun a=>[(0,(Rd (Rc [(vi a.1),(Rb 2 a.2.length 0 a.2.length)]))),(2,(eS 7 TPo.e a.2))]) (c.O,([]:List TPo)) (S_q34_b1 c) (fun a => 
.reg 8 [] [] []<|
.kill 0<|
.r (a.1,a.2)) id
def F_q34 (a:TTr):=(S_q34 a).den
theorem F_q34_ok {a:TTr}:FO (F_q34 a) 182 [(TTr.d a)] [] (fun x=>(Rc [(vi x.1),(Rb 2 x.2.length 0 x.2.length)])) (fun x=>[Re,(Rd (Rc [(vi x.1),(Rb 2 x.2.length 0 x.2.length)])),(eS 7 TPo.e x.2)]):=fO (s:=S_q34 a) Tryz.func182
abbrev R_q2n:=Int×Bool
def S_q2n_b1 (g:TPo) (c:(List TPo)) (a:Int×Int):SC R_q2n (Step (Int×Int) R_q2n) :=
.ite (decide (a.1<a.2)) (
.reg 4 [] [] [.pf (p:=(0:Int)<=1) dk]<|
 let b:=(i64.wrap ((IntKind.u64.wrap (i64.wrap (a.1+a.2))).fdiv (2 ^ (min (1:Int).toNat IntKind.u64.bits))))
.call (@F_q3i_ok (c.getD (0+b.toNat) dF) g) fun f d=>
.guard [(0:Int)<=b,b.toNat<c.length,(0+b.toNat)<c.length]<|
.reg 5 [] [(6,hc d [] true)] [.e c.length,.ev 0,.ev 1,.e c.length,.ev 2,.cl 3 d [] 2 true]<|
.ite (decide (f<0)) (
.r (.cont ((i64.wrap (b+1)),a.2))) (
.r (.cont (a.1,b)))) (
.r (.brk (a.1,a.2)))
def S_q2n (f:TPo) (c:(List TPo)):SC R_q2n R_q2n :=
.iter [0,2,4,8] (fun (a:Int×Int)=>[(9,(vi a.1)),(10,(vi a.2))]) (fun _=>[]) (0,(c.length:Int)) (S_q2n_b1 f c) (fun a =>
 let b:=(decide (a.1<(c.length:Int)))
.calld [b=true] dF (@F_q3i_ok (c.getD (0+a.1.toNat) dF) f) fun e d =>
.guard [AllP [b=true]->((0:Int)<=a.1),AllP [b=true]->(a.1.toNat<c.length),AllP [b=true]->((0+a.1.toNat)<c.length)]<|
.reg 8 [] [(11,hc d [] true)] [.pf (p:=AllP [b=true]->(c.length=c.length)) (fun _=>rfl),.ev 0,.ev 1,.pf (p:=AllP [b=true]->(c.length=c.length)) (fun _=>rfl),.ev 2,.clg 3 [b=true] d [] 2 true]<|
.r (a.1,(bif b then (e==0) else false))) id
def F_q2n (a:TPo) (b:(List TPo)):=(S_q2n a b).den
theorem F_q2n_ok {b:TPo} {a:(List TPo)}:FO (F_q2n b a) 183 [(Rb 0 a.length 0 a.length),(TPo.d b),(AV.fn 95 [])] [(eS 7 TPo.e a)] (fun x=>(Rg [(vi x.1),(vb x.2)])) (fun _=>[(eS 7 TPo.e a)]):=fO (s:=S_q2n b a) Tryz.func183
def V_q7u (x:(List TPo)):AV:=.ref 0 x.length 0 x.length
def L_q7u (a:List TPo) (x:(List TPo)):List Ob:=[eS 7 TPo.e x,eS 7 TPo.e a]
def F_q7u (a:Int) (b c:List TPo):Option (List TPo):=match c with
 | [y]=>guardP (0<=a/\a.toNat<=b.length/\(b.length+1) * (4 * 128)<=2 ^ 48) (some (insL b a.toNat y))
 | _=>none
theorem F_q7u_ok {c:Int} {f b:List TPo} (r:(List TPo)) (h:F_q7u c f b=some r):CallOk Tryz.prog 184 [(Rb 0 f.length 0 f.length),(AV.d (.i .i64 c)),(Rb 1 b.length 0 b.length)] [(eS 7 TPo.e f),(eS 7 TPo.e b)] (V_q7u r) (L_q7u b r):=by
 unfold F_q7u at h
 split at h
 ·rename_i y
  obtain⟨⟨h1,h2,h3⟩,h⟩:=z1w h
  obtain rfl:=yz h
  obtain⟨i,rfl⟩:∃ i:Nat,c=(i:Int):=⟨c.toNat,(y5j h1).symm⟩
  exact InsG.ins_ok .a (fun _=>rfl) h2 h3
 ·cases h
theorem cz8:LeV (AV.d (DV.agg [(DV.i .i64 0),Z0])) (TTr.d (⟨0,[]⟩:TTr)):=z2f rfl (DLe.agg (Rh (DLe.refl _) (Rh DLe.sl0 DLeL.nil)))
def S_q5d (X:TTr) (M:Y8) (N:Int) (Y:Int):SC (TTr×Int) (TTr×Int) :=
 let v:=(TTr.b (⟨0,[]⟩:TTr))
.reg 0 [] [(1,{ obs:=[(1,v)] })] [.pf cz7]<|
.a 1 1 2 (@F_qx_ok X) fun O=>
 let s:=(TTr.d (⟨0,[]⟩:TTr))
.ite (!O) (
.reg 2 [] [(0,hv s)] [.pf cz8]<|
.r ((⟨0,[]⟩:TTr),1)) (
.a 3 1 2 (@F_q7w_ok M) fun Q=>
.ite ((Q.length:Int)==0) (
.reg 4 [] [(0,hv s)] [.pf cz8]<|
.r ((⟨0,[]⟩:TTr),5)) (
.call (@F_q3b_ok M N) fun w C=>
.calld [(!w)=false] dF (@F_qj_ok Y (-1000000000000000) 1000000000000000) fun R E =>
.reg 5 [] [(2,hc C [] true),(6,hc E [] true)] [.cl 2 C [] 2 true,.clg 0 [(!w)=false] E [] 2 true]<|
.ite (cO (!w) (!R)) (
.reg 6 [] [(0,hv s)] [.pf cz8]<|
.r ((⟨0,[]⟩:TTr),2)) (
.call (@F_q34_ok X) fun f S=>
.k 7 1 S [] 2 false<|
.kill 3<|
 let g:=(⟨M,N,0,[],[],[],[]⟩:TPo)
.reg 8 [] [(2,hv (TPo.d g)),(3,{ obs:=[(5,(TPo.b (⟨[],0,0,[],[],[],[]⟩:TPo)))] })] [.pf (p:=LeV (AV.d (DV.agg [(Rf M),(DV.i .i64 N),(DV.i .i64 0),Z0,Z0,Z0,Z0])) (TPo.d g)) (z2f rfl (DLe.agg (Rh (DLe.refl _) (Rh (DLe.refl _) (Rh (DLe.refl _) (Rh DLe.sl0 (Rh DLe.sl0 (Rh DLe.sl0 (Rh DLe.sl0 DLeL.nil))))))))),.pf cz1]<|
.call (@F_q2n_ok g f.2) fun m U=>
.k 9 3 U [4] 6 true<|
.cut none [3,4,8,11] (fun (_:Int×(List TPo)×TPo)=>[]) (fun c=>[(0,(Rd (Rc [(vi c.1),(Rb 4 c.2.1.length 0 c.2.1.length)]))),(4,(eS 7 TPo.e c.2.1)),(5,(TPo.b c.2.2))]) (
.ite (!m.2) (
.ite ((f.2.length:Int)==60) (
.reg 12 [] [(0,hv s)] [.pf cz8]<|
.r (.ret ((⟨0,[]⟩:TTr),3))) (
.guard [(0:Int)<=f.1,f.1 * 8<=2 ^ 47]<|
 let F:=((List.replicate f.1.toNat (0:Int)).length)
.reg 13 [] [(2,{ cast:=some (Rb 6 F 0 F),obs:=[(6,(eQ (List.replicate f.1.toNat (0:Int))))] })] [.ev 0,.pf (p:=f.1<=f.1) (y1h _),.ev 1,.pf (zbs (o:=6) (k:=f.1.toNat) (z:=(0:Int))),.pf (zbt (sz:=1) (k:=f.1.toNat) (e:=Ra) (z:=(0:Int)))]<|
.guard [(List.replicate f.1.toNat (0:Int)).length<2 ^ 63]<|
.frz 6 (.ev 0) none [13] []<|
 let I:=(⟨g.B,g.D,g.T,(List.replicate f.1.toNat (0:Int)),(List.replicate f.1.toNat (0:Int)),(List.replicate f.1.toNat (0:Int)),(List.replicate f.1.toNat (0:Int))⟩:TPo)
.call (@F_q3j_ok I) fun V J=>
 let y:=([V]:List TPo)
.call (@F_q7u_ok m.1 f.2 y) fun W K=>
.reg 15 [5,6,8] [(4,hc J [] true),(5,{ h:=.obj,obs:=[(7,(eS 7 TPo.e y))] }),(6,hc K [4,7] false)] [.cl 1 J [] 7 true,.pf (z70 (sz:=7) (e:=TPo.e) (l:=y)),.cl 0 K [4,7] 8 false]<|
.r (.next (f.1,W,I)))) (
.r (.next (f.1,f.2,g)))) fun c=>
 let t:=(0+m.1.toNat)
.guard [(0:Int)<=m.1,m.1.toNat<c.2.1.length,t<c.2.1.length]<|
 let j:=(c.2.1.getD t dF)
 let L:=(⟨j.B,j.D,Y,j.A,j.H,j.G,j.P⟩:TPo)
 let n:=(c.2.1.set t L)
 let q:=(eS 7 TPo.e n)
.reg 16 [] [(6,{ obs:=[(4,q)] })] [.e c.2.1.length,.ev 0,.ev 1,.e c.2.1.length,.e c.2.1.length,.ev 2,.pf (zo (sz:=7) (e:=TPo.e) (l:=c.2.1) (i:=t) (x:=L) (fun _=>rfl))]<|
 let u:=[(4,(vp 0)),(8,(vp 1))]
.cst (A:=True) (.pf trivial) u u [(Rd (Rc [(vi c.1),(Rb 4 c.2.1.length 0 c.2.1.length)])),v,Re,Re,q,(TPo.b c.2.2)] [(Rd (Rc [(vi c.1),(Rb 4 n.length 0 n.length)])),v,Re,Re,q,(TPo.b c.2.2)] (fun _=>⟨Zd,Zb⟩)<|
.guard [n.length<2 ^ 63]<|
.reg 17 [] [] []<|
.frz 4 (.ev 0) none [] [0,1]<|
.r ((⟨c.1,n⟩:TTr),0))))
def F_q5d (a:TTr) (b:Y8) (c:Int) (d:Int):=(S_q5d a b c d).den
theorem F_q5d_ok {a:TTr} {b:Y8} {c:Int} {e:Int}:FO (F_q5d a b c e) 131 [(TTr.d a),(AV.d (Rf b)),(vi c),(vi e)] [] (fun x=>(Rg [(TTr.d x.1),(vi x.2)])) NL:=fO (s:=S_q5d a b c e) Tryz.func131
end
end Go.Proofs.YtkhgaalekilaeaaGreatDoor
/- What the functions compute,and that their calls return it. No condition. -/
namespace Go.Proofs.YtkhgaalekilaeaaGreatDoor
open Go Go.TA
open Go.IntKind (i64)
noncomputable section
set_option maxRecDepth 100000
def S_q7a (a:TPo) (b:Y8) (c:Int):SC Bool Bool :=
.r (bif (a.B==b) then (a.D==c) else false)
def F_q7a (a:TPo) (b:Y8) (c:Int):=(S_q7a a b c).den
theorem F_q7a_ok {c:TPo} {a:Y8} {b:Int}:FO (F_q7a c a b) 170 [(TPo.d c),(vp 0),(vp 1)] [(bx (Rf a)),(Rd (vi b))] vb (fun _=>[(bx (Rf a)),(Rd (vi b))]):=fO (s:=S_q7a c a b) Tryz.func170
def S_q3c_b1 (d:(List TPo)) (e:Y8) (f:Int) (a:Nat) (_:Unit):SC Int (Step Unit Int) :=
.call (@F_q7a_ok (d.getD a dF) e f) fun c b=>
.reg 4 [] [(5,hc b [0,1] true)] [.w a,.ev 1,.cl 0 b [0,1] 2 true]<|
.ite c (
.r (.ret (a:Int))) (
.r (.cont ()))
def S_q3c (a:(List TPo)) (b:Y8) (c:Int):SC Int Int :=
.range (a.length:Int) a.length rfl (.slot 0) 8 [0,1,7] (fun (_:Unit)=>[]) (fun _=>[]) () (S_q3c_b1 a b c) (fun _ => 
.r (-1)) id
def F_q3c (a:(List TPo)) (b:Y8) (c:Int):=(S_q3c a b c).den
theorem F_q3c_ok {c:(List TPo)} {a:Y8} {b:Int}:FO (F_q3c c a b) 169 [(AV.d (eL TPo.e c)),(AV.fn 170 [(vp 0),(vp 1)])] [(bx (Rf a)),(Rd (vi b))] vi (fun _=>[(bx (Rf a)),(Rd (vi b))]):=fO (s:=S_q3c c a b) Tryz.func169
def S_q3k (c:TTr) (d:Y8) (e:Int):SC Int Int :=
.call (@F_q3c_ok c.E d e) fun a b=>
.k 1 3 b [1,2] 3 true<|
.r a
def F_q3k (a:TTr) (b:Y8) (c:Int):=(S_q3k a b c).den
theorem F_q3k_ok {a:TTr} {b:Y8} {c:Int}:FO (F_q3k a b c) 110 [(TTr.d a),(AV.d (Rf b)),(vi c)] [] vi NL:=fO (s:=S_q3k a b c) Tryz.func110
def oTApiPot:Opn TPo where
 sz:=7
 T:=fun a b c d x=>.agg [.d (.str x.B),vi x.D,vi x.T,a,b,c,d]
 e:=TPo.e
 g1:=TPo.A
 g2:=TPo.H
 g3:=TPo.G
 g4:=TPo.P
 tr:=fun _ h1 h2 h3 h4=>TrV.agg (.cons (.keep _) (.cons (.keep _) (.cons (.keep _) (.cons h1 (.cons h2 (.cons h3 (.cons h4 .nil)))))))
 cl:=fun x=>TrV.aggD (ys:=[.str x.B,.i .i64 x.D,.i .i64 x.T,eL (.i .i64) x.A,eL (.i .i64) x.H,eL (.i .i64) x.G,eL (.i .i64) x.P])
  (.cons (.keep _) (.cons (.keep _) (.cons (.keep _) (.cons (.keep _) (.cons (.keep _) (.cons (.keep _) (.cons (.keep _) .nil)))))))
 wd:=fun _ h1 h2 h3 h4=>by simp[AV.wd,AV.wdL,DV.wd,h1,h2,h3,h4]
def S_q3l (a:(List Int)):SC (List Int) (List Int) :=
.reg 0 [] [] []<|
.nils 0 (
.guard [a.length * (2 * 8)<=2 ^ 48]<|
.reg 1 [] [] []<|
.lev 0 (vl a) (.pf (lvQ true a.length fun j=>(DV.i .i64 (a.getD j dF))))<|
.br true (.pf (p:=true=true) rfl)<|
.reg 2 [] [] []<|
.bor 1 (fun j=>AV.d (Ra (a.getD j dF))) [2]<|
.cst (A:=a.length=0) (.ev 1) [(2,Rb 0 0 0 0)] [(2,(Rb 0 a.length 0 a.length))] [(Ob.seq 1 0 fun j=>AV.d (Ra (a.getD j dF)))] [(eS 1 Ra a)] (fun h=>⟨by rw[h],by unfold eS; rw[h]⟩)<|
.r a) (
.reg 1 [] [] []<|
.lev 0 (vl a) (.pf (lvQ false a.length fun j=>(DV.i .i64 (a.getD j dF))))<|
.br false (.pf (p:=false=false) rfl)<|
.guard [a.length * (2 * 8)<=2 ^ 48]<|
.reg 3 [] [(2,{ h:=.obj })] [.pf (p:=∀ k,k<a.length->(AV.d (Ra (a.getD k dF))).wd=1) (fun _ _=>rfl),.ev 0]<|
.r a)
def F_q3l (a:(List Int)):=(S_q3l a).den
theorem F_q3l_ok {a:(List Int)}:FO (F_q3l a) 89 [(vl a)] [] (fun x=>(Rb 0 x.length 0 x.length)) (fun x=>[(eQ x)]):=fO (s:=S_q3l a) Tryz.func89
abbrev R_q5e:=Y8×Int×Int×(List Int)×(List Int)×(List Int)×(List Int)
def S_q5e (a:TPo):SC R_q5e R_q5e :=
.reg 0 [] [(1,{ obs:=[(1,(TPo.b (⟨[],0,0,[],[],[],[]⟩:TPo)))] })] [.pf cz1]<|
.call (@F_q3l_ok a.A) fun g c=>
.call (@F_q3l_ok a.H) fun h d=>
.call (@F_q3l_ok a.G) fun i e=>
.call (@F_q3l_ok a.P) fun j f=>
.reg 1 [2,5,8,11,13,15,17,19] [(2,hc c [] false),(5,hc d [] false),(8,hc e [] false),(11,hc f [] false)] [.cl 3 c [] 2 false,.cl 2 d [] 3 false,.cl 1 e [] 4 false,.cl 0 f [] 5 false]<|
.reg 2 [] [] []<|
.kill 0<|
.r (a.B,a.D,a.T,g,h,i,j)
def F_q5e (a:TPo):=(S_q5e a).den
theorem F_q5e_ok {a:TPo}:FO (F_q5e a) 111 [(TPo.d a)] [] (fun x=>(Rc [(AV.d (Rf x.1)),(vi x.2.1),(vi x.2.2.1),(Rb 2 x.2.2.2.1.length 0 x.2.2.2.1.length),(Rb 3 x.2.2.2.2.1.length 0 x.2.2.2.2.1.length),(Rb 4 x.2.2.2.2.2.1.length 0 x.2.2.2.2.2.1.length),(Rb 5 x.2.2.2.2.2.2.length 0 x.2.2.2.2.2.2.length)])) (fun x=>[Re,(Rd (Rc [(AV.d (Rf x.1)),(vi x.2.1),(vi x.2.2.1),(Rb 2 x.2.2.2.1.length 0 x.2.2.2.1.length),(Rb 3 x.2.2.2.2.1.length 0 x.2.2.2.2.1.length),(Rb 4 x.2.2.2.2.2.1.length 0 x.2.2.2.2.2.1.length),(Rb 5 x.2.2.2.2.2.2.length 0 x.2.2.2.2.2.2.length)])),(eQ x.2.2.2.1),(eQ x.2.2.2.2.1),(eQ x.2.2.2.2.2.1),(eQ x.2.2.2.2.2.2)]):=fO (s:=S_q5e a) Tryz.func111
abbrev R_q1y:=Int×(List TPo)
def S_q1y_b1 (J:TTr) (i0:Nat) (u:Nat) (a:Int×(List TPo)):SC R_q1y (Step (Int×(List TPo)) R_q1y) :=
.reg 5 [] [(2,{ obs:=[(7,(TPo.b (⟨[],0,0,[],[],[],[]⟩:TPo)))] })] [.w u,.ev 0,.pf cz1]<|
 let t:=(J.E.getD u dF)
.call (@F_q5e_ok t) fun g z=>
.guard [(a.2.length+1) * (2 * 128)<=2 ^ 48]<|
 let f:=(⟨g.1,g.2.1,g.2.2.1,g.2.2.2.1,g.2.2.2.2.1,g.2.2.2.2.2.1,g.2.2.2.2.2.2⟩:TPo)
 let m:=(Rc [(AV.d (Rf g.1)),(vi g.2.1),(vi g.2.2.1),(rr 10 g.2.2.2.1),(rr 11 g.2.2.2.2.1),(rr 12 g.2.2.2.2.2.1),(rr 13 g.2.2.2.2.2.2)])
 let q:=(a.2.getD i0 dF)
 let s:=(Rc [(AV.d (Rf q.B)),(vi q.D),(vi q.T),(rr 3 q.A),(rr 4 q.H),(rr 5 q.G),(rr 6 q.P)])
 let n:=(a.2++[f])
 let C:=(Rb 2 n.length 0 n.length)
.reg 6 [3,4,5,7] [(3,hc z [] false),(4,{ h:=.obj }),(5,{ h:=.obj,cast:=some C,obs:=[(2,(Ob.seq 7 n.length (catF a.2.length (fun j=>AV.sel (decide (j=i0)) 7 s (TPo.d (a.2.getD j dF))) (listF AV.bot [m]))))] })] [.cl 1 z [] 8 false,.e 1,.e a.2.length,.e a.2.length,.pf (p:=∀ k,k<1->(listF AV.bot [m] k).wd=7) (fun k hk=>by obtain rfl:k=0:=om; rfl),.ev 0,.pf (zy (o:=2) (l:=a.2) (x:=[f])),.pf (p:=OLe (Ob.seq 7 (a.2.length+1) (catF a.2.length (fun j=>AV.sel (decide (j=i0)) 7 s (TPo.d (a.2.getD j dF))) (listF AV.bot [m]))) (Ob.seq 7 n.length (catF a.2.length (fun j=>AV.sel (decide (j=i0)) 7 s (TPo.d (a.2.getD j dF))) (listF AV.bot [m])))) (zfe zd8)]<|
 let F:=((a.2.length=i0->0<f.A.length/\0<f.H.length/\0<f.G.length/\0<f.P.length)/\(f.A.length<2 ^ 63/\f.H.length<2 ^ 63/\f.G.length<2 ^ 63/\f.P.length<2 ^ 63))
.guard [F]<|
 let I:=[(1,(vp 0)),(2,(vp 1)),(9,(AV.d (eL TPo.e J.E))),(10,(vi (J.E.length:Int))),(11,(vi (u:Int)))]
 let v:=(TPo.b t)
 let y:=(TTr.b (⟨0,[]⟩:TTr))
 let r:=(Rc [(vi a.1),C])
.sh (A:=F) (.ev 0) I I [(Rd r),y,(Ob.seq 7 n.length (catF a.2.length (fun j=>AV.sel (decide (j=i0)) 7 s (TPo.d (a.2.getD j dF))) (listF AV.bot [m]))),(eQ (opQ TPo.A i0 a.2)),(eQ (opQ TPo.H i0 a.2)),(eQ (opQ TPo.G i0 a.2)),(eQ (opQ TPo.P i0 a.2)),v,Re,(Rd m),(eQ f.A),(eQ f.H),(eQ f.G),(eQ f.P),(Ob.seq 7 1 (listF AV.bot [m]))] [(Rd r),y,(oTApiPot.R 3 i0 n),(eQ (opQ TPo.A i0 n)),(eQ (opQ TPo.H i0 n)),(eQ (opQ TPo.G i0 n)),(eQ (opQ TPo.P i0 n)),v,Re,(Rd m),Re,Re,Re,Re,(Ob.seq 7 1 (listF AV.bot [m]))] (fun h=>z7c oTApiPot (P:=[(Rd r),y]) (D:=[v,Re,(Rd m)]) (E:=[(Ob.seq 7 1 (listF AV.bot [m]))]) (i:=i0) (l:=a.2) (x:=f) rfl rfl (fun j hj=>z1u hj) ziw h.1 h.2) (z17 _)<|
.c (a.1,a.2++[f])
def S_q1y (m:TTr) (i0:Nat):SC R_q1y R_q1y :=
 let g:=(TTr.b (⟨0,[]⟩:TTr))
.reg 0 [] [(1,{ obs:=[(1,g)] })] [.pf cz7]<|
.reg 2 [] [] []<|
 let c:=(([]:List TPo).getD i0 dF)
 let i:=[(1,(vp 0)),(2,(vp 1)),(3,(AV.d (eL TPo.e m.E)))]
 let n:=(Rc [(vi m.O),(Rb 2 0 0 0)])
 let o:=[(Rd n),g,(oTApiPot.R 3 i0 [])]
.sh (A:=True) (.pf trivial) i i [(Rd (Rc [(vi m.O),(AV.full 0 fun _=>DV.b false)])),g] o (fun _=>(z1y (sz:=7) (f:=(fun j=>AV.sel (decide (j=i0)) 7 (Rc [(AV.d (Rf c.B)),(vi c.D),(vi c.T),(rr 3 c.A),(rr 4 c.H),(rr 5 c.G),(rr 6 c.P)]) (TPo.d (([]:List TPo).getD j dF)))) (.box _ _ _ _ _ (yw rfl) (TrV.agg (Rk (TrV.keep _) (Rk TrV.born TrL.nil))) (.keep _ _ _ _ (yw rfl) (.nil _))))) (z1a (k:=0) rfl (Rj _) (z1a (k:=1) rfl (Rj _) (z1a (k:=2) rfl (Rj _) z2l)))<|
.sh (A:=True) (.pf trivial) i i o [(Rd n),g,(oTApiPot.R 3 i0 []),(eQ (opQ TPo.A i0 ([]:List TPo))),(eQ (opQ TPo.H i0 ([]:List TPo))),(eQ (opQ TPo.G i0 ([]:List TPo))),(eQ (opQ TPo.P i0 ([]:List TPo)))] (fun _=>z8d) (z17 _)<|
.range (m.E.length:Int) m.E.length rfl (.slot 9) 11 [1,2,9,10] (fun (_:Int×(List TPo))=>[]) (fun a=>[(0,(Rd (Rc [(vi a.1),(Rb 2 a.2.length 0 a.2.length)]))),(2,(oTApiPot.R 3 i0 a.2)),(3,(eQ (opQ TPo.A i0 a.2))),(4,(eQ (opQ TPo.H i0 a.2))),(5,(eQ (opQ TPo.G i0 a.2))),(6,(eQ (opQ TPo.P i0 a.2)))]) (m.O,([]:List TPo)) (S_q1y_b1 m i0) (fun a => 
.reg 8 [] [] []<|
.kill 0<|
.guard [i0<a.2.length]<|
 let p:=(Rc [(vi a.1),(Rb 2 a.2.length 0 a.2.length)])
 let l:=(a.2.getD i0 dF)
.cst (A:=i0<a.2.length) (.ev 0) [(2,(vp 1))] [(2,(vp 1))] [Re,(Rd p),(oTApiPot.R 3 i0 a.2),(eQ (opQ TPo.A i0 a.2)),(eQ (opQ TPo.H i0 a.2)),(eQ (opQ TPo.G i0 a.2)),(eQ (opQ TPo.P i0 a.2))] [Re,(Rd p),(oTApiPot.R 3 i0 a.2),(eQ l.A),(eQ l.H),(eQ l.G),(eQ l.P)] (fun h=>⟨rfl,by simp +zetaDelta only[zix h]⟩)<|
.r (a.1,a.2)) id
def F_q1y (a:TTr) (i0:Nat):=(S_q1y a i0).den
theorem F_q1y_ok {a:TTr} {i0:Nat}:FO (F_q1y a i0) 182 [(TTr.d a)] [] (fun x=>(Rc [(vi x.1),(Rb 2 x.2.length 0 x.2.length)])) (fun x=>[Re,(Rd (Rc [(vi x.1),(Rb 2 x.2.length 0 x.2.length)])),(opS 7 TPo.e i0 (Rc [(AV.d (Rf (x.2.getD i0 dF).B)),(vi (x.2.getD i0 dF).D),(vi (x.2.getD i0 dF).T),(rr 3 (x.2.getD i0 dF).A),(rr 4 (x.2.getD i0 dF).H),(rr 5 (x.2.getD i0 dF).G),(rr 6 (x.2.getD i0 dF).P)]) x.2),(eQ (x.2.getD i0 dF).A),(eQ (x.2.getD i0 dF).H),(eQ (x.2.getD i0 dF).G),(eQ (x.2.getD i0 dF).P)]):=fO (s:=S_q1y a i0) Tryz.func182
def S_q3d (a:TPo):SC Int Int :=
 let b:=(if (a.H.length:Int)<(a.A.length:Int) then (a.H.length:Int) else (a.A.length:Int))
 let c:=b.toNat
.call (@F_q14_ok (a.A.take c)) fun f d=>
.call (@F_q14_ok (a.H.take c)) fun g e=>
.guard [(0:Int)<=b,b.toNat<=a.A.length,b.toNat<=a.H.length]<|
.reg 2 [] [(3,hv (vl (a.A.take c))),(4,hc d [] true),(8,hv (vl (a.H.take c))),(9,hc e [] true)] [.ev 0,.ev 1,.der (fun (h0:b.toNat<=a.A.length)=>lvT Ra a.A h0) 1,.cl 4 d [] 1 true,.ev 0,.ev 2,.der (fun (h0:b.toNat<=a.H.length)=>lvT Ra a.H h0) 2,.cl 3 e [] 1 true]<|
.r (i64.wrap (f-g))
def F_q3d (a:TPo):=(S_q3d a).den
theorem F_q3d_ok {a:TPo}:FO (F_q3d a) 106 [(TPo.d a)] [] vi NL:=fO (s:=S_q3d a) Tryz.func106
def S_q5f (c:TPo):SC Int Int :=
.a 1 3 1 (@F_q3d_ok c) fun b=>
.r (i64.wrap (c.T-b))
def F_q5f (a:TPo):=(S_q5f a).den
theorem F_q5f_ok {a:TPo}:FO (F_q5f a) 225 [(TPo.d a)] [] vi NL:=fO (s:=S_q5f a) Tryz.func225
abbrev R_q1o:=Int×(List Int)
def S_q1o_b1 (g:(List Int)) (p0_0:Nat) (p0_1:(List TPo)) (f:(List Int)) (a:Nat) (b:(List Int)):SC R_q1o (Step ((List Int)) R_q1o) :=
.reg 8 [] [] [.w a,.ev 0]<|
.guard [b.length=f.length,a<f.length,(0+a)<b.length]<|
 let d:=(i64.wrap ((b.getD (0+a) dF)+(g.getD a dF)))
.reg 9 [] [(10,{ obs:=[(1,(eQ (b.set (0+a) d)))] })] [.e p0_1.length,.e p0_1.length,.ev 8,.pf (p:=decide (p0_0=p0_0)=true) (yb rfl),.ev 0,.w a,.ev 1,.ev 0,.ev 2,.ev 0,.w a,.ev 1,.ev 0,.ev 2,.pf (zo (sz:=1) (e:=Ra) (l:=b) (i:=(0+a)) (x:=d) (fun _=>rfl))]<|
.c (b.set (0+a) d)
def S_q1o (q:(List Int)) (p0_0:Nat) (p0_1:(List TPo)) (p0_2:Y8) (p0_3:Int) (p0_4:Int) (b:(List Int)) (c:(List Int)) (f:(List Int)) (h:(List Int)):SC R_q1o R_q1o :=
.a 1 1 5 (@F_q14_ok q) fun l=>
 let m:=(Rb 0 b.length 0 b.length)
.call (lendOk (xs:=[(Rc [(AV.d (Rf p0_2)),(vi p0_3),(vi p0_4),m,(Rb 1 c.length 0 c.length),(Rb 2 f.length 0 f.length),(Rb 3 h.length 0 h.length)])]) (L:=[(eQ b),(eQ c),(eQ f),(eQ h)]) (g:=b.length<2 ^ 63/\c.length<2 ^ 63/\f.length<2 ^ 63/\h.length<2 ^ 63) (@F_q5f_ok (⟨p0_2,p0_3,p0_4,b,c,f,h⟩:TPo)) (fun _=>rfl) (fun hg=>(LendVs.cons (LendS.agg (ys:=[(Rf p0_2),(DV.i .i64 p0_3),(DV.i .i64 p0_4),(eL Ra b),(eL Ra c),(eL Ra f),(eL Ra h)]) (LendL.cons LendV.d (LendL.cons LendV.d (LendL.cons LendV.d (LendL.cons (LendV.ref (sz:=1) (g:=fun j=>Ra (b.getD j dF)) rfl hg.1) (LendL.cons (LendV.ref (sz:=1) (g:=fun j=>Ra (c.getD j dF)) rfl hg.2.1) (LendL.cons (LendV.ref (sz:=1) (g:=fun j=>Ra (f.getD j dF)) rfl hg.2.2.1) (LendL.cons (LendV.ref (sz:=1) (g:=fun j=>Ra (h.getD j dF)) rfl hg.2.2.2) LendL.nil)))))))) LendVs.nil)) (fun _=>FlatV.i)) fun s n=>
.guard [p0_0<p0_1.length]<|
.reg 2 [] [(4,hc n [1,2,3,4] true)] [.e p0_1.length,.ev 0,.pf (p:=decide (p0_0=p0_0)=true) (yb rfl),.cl 1 n [1,2,3,4] 5 true]<|
.ite (decide (l>s)) (
.r (15,b)) (
.call (lendOk (xs:=[m]) (L:=[(eQ b)]) (g:=b.length<2 ^ 63) (@F_q14_ok b) (fun _=>rfl) (fun hg=>(LendVs.cons (LendS.one rfl rfl rfl (LendV.ref (sz:=1) (g:=fun j=>Ra (b.getD j dF)) rfl hg)) LendVs.nil)) (fun _=>FlatV.i)) fun t o=>
.reg 4 [] [(4,hc o [1] true)] [.e p0_1.length,.e p0_1.length,.ev 2,.pf (p:=decide (p0_0=p0_0)=true) (yb rfl),.cl 0 o [1] 5 true]<|
.ite (decide ((i64.wrap (t+l))>1000000000000000)) (
.r (3,b)) (
.range (q.length:Int) q.length rfl (.slot 26) 28 [0,26,27] (fun (_:(List Int))=>[]) (fun k=>[(1,(eQ k))]) b (S_q1o_b1 q p0_0 p0_1 b) (fun k => 
.r (0,k)) id))
def F_q1o (a:(List Int)) (p0_0:Nat) (p0_1:(List TPo)) (p0_2:Y8) (p0_3:Int) (p0_4:Int) (b:(List Int)) (c:(List Int)) (d:(List Int)) (e:(List Int)):=(S_q1o a p0_0 p0_1 p0_2 p0_3 p0_4 b c d e).den
theorem F_q1o_ok {g:(List Int)} {p0_0:Nat} {p0_1:(List TPo)} {p0_2:Y8} {p0_3:Int} {p0_4:Int} {f:(List Int)} {a:(List Int)} {b:(List Int)} {c:(List Int)}:FO (F_q1o g p0_0 p0_1 p0_2 p0_3 p0_4 f a b c) 187 [(Ri 0 p0_1.length [.x p0_0 7]),(vl g)] [(opS 7 TPo.e p0_0 (Rc [(AV.d (Rf p0_2)),(vi p0_3),(vi p0_4),(Rb 1 f.length 0 f.length),(Rb 2 a.length 0 a.length),(Rb 3 b.length 0 b.length),(Rb 4 c.length 0 c.length)]) p0_1),(eQ f),(eQ a),(eQ b),(eQ c)] (fun x=>(vi x.1)) (fun x=>[(opS 7 TPo.e p0_0 (Rc [(AV.d (Rf p0_2)),(vi p0_3),(vi p0_4),(Rb 1 f.length 0 f.length),(Rb 2 a.length 0 a.length),(Rb 3 b.length 0 b.length),(Rb 4 c.length 0 c.length)]) p0_1),(eQ x.2),(eQ a),(eQ b),(eQ c)]):=fO (s:=S_q1o g p0_0 p0_1 p0_2 p0_3 p0_4 f a b c) Tryz.func187
abbrev R_q4m:=Int×(List Int)
def S_q4m (p0_0:Nat) (p0_1:(List TPo)) (p0_2:Y8) (p0_3:Int) (p0_4:Int) (B:Int) (n:Int) (g:(List Int)) (q:(List Int)) (s:(List Int)) (t:(List Int)):SC R_q4m R_q4m :=
 let b:=(g.length:Int)
.call (@F_qj_ok B 1 b) fun C u=>
.guard [p0_0<p0_1.length]<|
.reg 1 [] [(6,hc u [] true)] [.e p0_1.length,.e p0_1.length,.ev 0,.pf (p:=decide (p0_0=p0_0)=true) (yb rfl),.cl 1 u [] 7 true]<|
.ite (!C) (
.r (6,g)) (
.a 3 1 7 (@F_qj_ok n 1 1000000000000000) fun D=>
.ite (!D) (
.r (2,g)) (
.guard [b * 8<=2 ^ 47]<|
 let c:=((List.replicate b.toNat (0:Int)).length)
.reg 5 [] [(5,{ cast:=some (Rb 7 c 0 c),obs:=[(7,(eQ (List.replicate b.toNat (0:Int))))] })] [.e p0_1.length,.e p0_1.length,.ev 4,.pf (p:=decide (p0_0=p0_0)=true) (yb rfl),.pf (nn g.length),.pf (p:=b<=b) (y1h _),.ev 0,.pf (zbs (o:=7) (k:=b.toNat) (z:=(0:Int))),.pf (zbt (sz:=1) (k:=b.toNat) (e:=Ra) (z:=(0:Int)))]<|
 let h:=(i64.wrap (B-1))
 let j:=(0+h.toNat)
.guard [(0:Int)<=h,h.toNat<(List.replicate b.toNat (0:Int)).length,j<(List.replicate b.toNat (0:Int)).length]<|
 let f:=((List.replicate b.toNat (0:Int)).set j n)
 let m:=(eQ f)
.reg 6 [] [(5,{ obs:=[(7,m)] })] [.e c,.ev 0,.ev 1,.e c,.ev 2,.pf (zo (sz:=1) (e:=Ra) (l:=(List.replicate b.toNat (0:Int))) (i:=j) (x:=n) (fun _=>rfl))]<|
 let v:=(Rc [(AV.d (Rf p0_2)),(vi p0_3),(vi p0_4),(Rb 3 g.length 0 g.length),(Rb 4 q.length 0 q.length),(Rb 5 s.length 0 s.length),(Rb 6 t.length 0 t.length)])
 let w:=(0,(Ri 0 p0_1.length [.x p0_0 7]))
.cst (A:=True) (.pf trivial) [w,(5,(Rb 7 c 0 c))] [w,(5,(Rb 7 f.length 0 f.length))] [(opS 7 TPo.e p0_0 v p0_1),(Rd (vi B)),(Rd (vi n)),(eQ g),(eQ q),(eQ s),(eQ t),m] [(opS 7 TPo.e p0_0 v p0_1),(Rd (vi B)),(Rd (vi n)),(eQ g),(eQ q),(eQ s),(eQ t),m] (fun _=>⟨Zb,by rfl⟩)<|
.guard [f.length<2 ^ 63]<|
.frz 7 (.ev 0) none [5] []<|
.call (@F_q1o_ok f p0_0 p0_1 p0_2 p0_3 p0_4 g q s t) fun y E=>
.k 7 2 E [0,3,4,5,6] 8 false<|
.r (y.1,y.2)))
def F_q4m (p0_0:Nat) (p0_1:(List TPo)) (p0_2:Y8) (p0_3:Int) (p0_4:Int) (a:Int) (b:Int) (c:(List Int)) (d:(List Int)) (e:(List Int)) (f:(List Int)):=(S_q4m p0_0 p0_1 p0_2 p0_3 p0_4 a b c d e f).den
theorem F_q4m_ok {p0_0:Nat} {p0_1:(List TPo)} {p0_2:Y8} {p0_3:Int} {p0_4:Int} {g:Int} {h:Int} {f:(List Int)} {a:(List Int)} {b:(List Int)} {c:(List Int)}:FO (F_q4m p0_0 p0_1 p0_2 p0_3 p0_4 g h f a b c) 186 [(Ri 0 p0_1.length [.x p0_0 7]),(vp 1),(vp 2)] [(opS 7 TPo.e p0_0 (Rc [(AV.d (Rf p0_2)),(vi p0_3),(vi p0_4),(Rb 3 f.length 0 f.length),(Rb 4 a.length 0 a.length),(Rb 5 b.length 0 b.length),(Rb 6 c.length 0 c.length)]) p0_1),(Rd (vi g)),(Rd (vi h)),(eQ f),(eQ a),(eQ b),(eQ c)] (fun x=>(vi x.1)) (fun x=>[(opS 7 TPo.e p0_0 (Rc [(AV.d (Rf p0_2)),(vi p0_3),(vi p0_4),(Rb 3 f.length 0 f.length),(Rb 4 a.length 0 a.length),(Rb 5 b.length 0 b.length),(Rb 6 c.length 0 c.length)]) p0_1),(Rd (vi g)),(Rd (vi h)),(eQ x.2),(eQ a),(eQ b),(eQ c)]):=fO (s:=S_q4m p0_0 p0_1 p0_2 p0_3 p0_4 g h f a b c) Tryz.func186
def S_q7b (K:TTr) (N:Y8) (O:Int) (w:Int) (y:Int):SC (TTr×Int) (TTr×Int) :=
.reg 0 [] [(1,{ obs:=[(3,(TTr.b (⟨0,[]⟩:TTr)))] })] [.pf cz7]<|
.a 1 1 4 (@F_qx_ok K) fun L=>
 let z:=(TTr.d (⟨0,[]⟩:TTr))
.ite (!L) (
.reg 2 [] [(0,hv z)] [.pf cz8]<|
.r ((⟨0,[]⟩:TTr),1)) (
.a 3 3 4 (@F_q3k_ok K N O) fun t=>
.ite (decide (t<0)) (
.reg 5 [] [(0,hv z)] [.pf cz8]<|
.r ((⟨0,[]⟩:TTr),6)) (
 let j:=t.toNat
.call (@F_q1y_ok K j) fun f M=>
.k 6 1 M [] 4 false<|
.kill 5<|
 let c:=(f.2.getD j dF)
.call (@F_q4m_ok j f.2 c.B c.D c.T w y c.A c.H c.G c.P) fun g E=>
.guard [(0:Int)<=t,t.toNat<f.2.length]<|
 let v:=(Ri 6 f.2.length [.x j 7])
.reg 7 [] [(4,hv v),(5,hc E [6,0,1,7,8,9,10] false)] [.e f.2.length,.ev 0,.ev 1,.pf (p:=LeV (Ri 6 f.2.length [.x (0+j) 7]) v) z5c,.cl 2 E [6,0,1,7,8,9,10] 11 false]<|
.ite (g.1 != 0) (
.reg 9 [] [(0,hv z)] [.pf cz8]<|
.r ((⟨0,[]⟩:TTr),g.1)) (
.reg 10 [] [] []<|
.guard [g.2.length=c.A.length]<|
 let C:=(eQ c.H)
 let n:=(eQ c.G)
 let o:=(eQ c.P)
 let q:=(eQ g.2)
 let s:=(AV.d (Rf c.B))
.cst (A:=g.2.length=c.A.length) (.ev 0) [(8,(vp 3)),(9,(vi 0))] [(8,(vp 3)),(9,(vi 0))] [(Rd (vi w)),(Rd (vi y)),(Rd (Rc [(vi f.1),(Rb 6 f.2.length 0 f.2.length)])),(Rd (Rc [(vi f.1),(Rb 6 f.2.length 0 f.2.length)])),Re,Re,(opS 7 TPo.e j (Rc [s,(vi c.D),(vi c.T),(Rb 7 c.A.length 0 c.A.length),(Rb 8 c.H.length 0 c.H.length),(Rb 9 c.G.length 0 c.G.length),(Rb 10 c.P.length 0 c.P.length)]) f.2),q,C,n,o] [(Rd (vi w)),(Rd (vi y)),(Rd (Rc [(vi f.1),(Rb 6 f.2.length 0 f.2.length)])),(Rd (Rc [(vi f.1),(Rb 6 f.2.length 0 f.2.length)])),Re,Re,(opS 7 TPo.e j (Rc [s,(vi c.D),(vi c.T),(Rb 7 g.2.length 0 g.2.length),(Rb 8 c.H.length 0 c.H.length),(Rb 9 c.G.length 0 c.G.length),(Rb 10 c.P.length 0 c.P.length)]) f.2),q,C,n,o] (fun h=>⟨rfl,by rw[h]⟩)<|
.guard [g.2.length<2 ^ 63/\c.H.length<2 ^ 63/\c.G.length<2 ^ 63/\c.P.length<2 ^ 63]<|
 let F:=(⟨c.B,c.D,c.T,g.2,c.H,c.G,c.P⟩:TPo)
 let l:=(f.2.set j F)
 let m:=(Rc [(vi f.1),(Rb 6 f.2.length 0 f.2.length)])
 let I:=[(Rd (vi w)),(Rd (vi y)),(Rd m),(Rd m),Re,Re,(eS 7 TPo.e l),Re,Re,Re,Re]
 let u:=[(8,(vp 3)),(9,(vi 0))]
.sh (A:=g.2.length<2 ^ 63/\c.H.length<2 ^ 63/\c.G.length<2 ^ 63/\c.P.length<2 ^ 63) (.ev 0) u u [(Rd (vi w)),(Rd (vi y)),(Rd m),(Rd m),Re,Re,(opS 7 TPo.e j (Rc [s,(vi c.D),(vi c.T),(Rb 7 g.2.length 0 g.2.length),(Rb 8 c.H.length 0 c.H.length),(Rb 9 c.G.length 0 c.G.length),(Rb 10 c.P.length 0 c.P.length)]) f.2),q,C,n,o] I (fun h=>z1k oTApiPot (P:=[(Rd (vi w)),(Rd (vi y)),(Rd m),(Rd m),Re,Re]) (D:=[]) rfl (⟨c.B,c.D,c.T,[],[],[],[]⟩:TPo) F h rfl) (z17 _)<|
 let J:=(Rc [(vi f.1),(Rb 6 l.length 0 l.length)])
.cst (A:=True) (.pf trivial) u u I [(Rd (vi w)),(Rd (vi y)),(Rd J),(Rd J),Re,Re,(eS 7 TPo.e l),Re,Re,Re,Re] (fun _=>⟨Zd,Zb⟩)<|
.guard [l.length<2 ^ 63]<|
.frz 6 (.ev 0) none [] [2,3]<|
.r ((⟨f.1,l⟩:TTr),0))))
def F_q7b (a:TTr) (b:Y8) (c:Int) (d:Int) (e:Int):=(S_q7b a b c d e).den
theorem F_q7b_ok {c:TTr} {e:Y8} {f:Int} {a:Int} {b:Int}:FO (F_q7b c e f a b) 185 [(TTr.d c),(AV.d (Rf e)),(vi f),(AV.fn 186 [(vp 0),(vp 1)])] [(Rd (vi a)),(Rd (vi b))] (fun x=>(Rg [(TTr.d x.1),(vi x.2)])) (fun _=>[(Rd (vi a)),(Rd (vi b))]):=fO (s:=S_q7b c e f a b) Tryz.func185
def S_q5g (d:TTr) (e:Int) (f:Y8) (g:Int) (h:Int):SC (TTr×Int) (TTr×Int) :=
.reg 0 [] [(3,{ obs:=[(3,(TTr.b (⟨0,[]⟩:TTr)))] })] [.pf cz7]<|
.call (@F_q7b_ok d f g e h) fun a c=>
.k 1 4 c [1,2] 4 true<|
.r (a.1,a.2)
def F_q5g (a:TTr) (b:Int) (c:Y8) (d:Int) (e:Int):=(S_q5g a b c d e).den
theorem F_q5g_ok {a:TTr} {b:Int} {c:Y8} {e:Int} {f:Int}:FO (F_q5g a b c e f) 132 [(TTr.d a),(vi b),(AV.d (Rf c)),(vi e),(vi f)] [] (fun x=>(Rg [(TTr.d x.1),(vi x.2)])) NL:=fO (s:=S_q5g a b c e f) Tryz.func132
abbrev R_q4n:=Int×(List Int)
def S_q4n (p0_0:Nat) (p0_1:(List TPo)) (_:Y8) (_:Int) (_:Int) (m:Int) (n:Int) (g:(List Int)) (_:(List Int)) (b:(List Int)) (_:(List Int)):SC R_q4n R_q4n :=
.call (@F_qj_ok m 1 (b.length:Int)) fun j h=>
.guard [p0_0<p0_1.length]<|
.reg 1 [] [(6,hc h [] true)] [.e p0_1.length,.e p0_1.length,.ev 0,.pf (p:=decide (p0_0=p0_0)=true) (yb rfl),.cl 1 h [] 7 true]<|
.ite (!j) (
.r (6,b)) (
.a 3 1 7 (@F_qj_ok n 1 1000000000000000) fun k=>
.ite (!k) (
.r (2,b)) (
 let d:=(i64.wrap (m-1))
 let c:=(0+d.toNat)
.guard [(0:Int)<=d,d.toNat<b.length,c<b.length,d.toNat<g.length,c<g.length]<|
.reg 5 [] [] [.e p0_1.length,.e p0_1.length,.ev 8,.pf (p:=decide (p0_0=p0_0)=true) (yb rfl),.e b.length,.ev 0,.ev 1,.e b.length,.ev 2,.e p0_1.length,.e p0_1.length,.ev 8,.pf (p:=decide (p0_0=p0_0)=true) (yb rfl),.e g.length,.ev 0,.ev 3,.e g.length,.ev 4]<|
 let f:=(i64.wrap ((b.getD c dF)+n))
.ite (decide (f>(g.getD c dF))) (
.r (15,b)) (
.reg 7 [11] [(11,{ obs:=[(5,(eQ (b.set c f)))] })] [.e p0_1.length,.e p0_1.length,.ev 9,.pf (p:=decide (p0_0=p0_0)=true) (yb rfl),.e b.length,.ev 1,.ev 2,.e b.length,.ev 3,.e b.length,.ev 1,.ev 2,.e b.length,.ev 3,.pf (zo (sz:=1) (e:=Ra) (l:=b) (i:=c) (x:=f) (fun _=>rfl))]<|
.r (0,(b.set c f)))))
def F_q4n (p0_0:Nat) (p0_1:(List TPo)) (p0_2:Y8) (p0_3:Int) (p0_4:Int) (a:Int) (b:Int) (c:(List Int)) (d:(List Int)) (e:(List Int)) (f:(List Int)):=(S_q4n p0_0 p0_1 p0_2 p0_3 p0_4 a b c d e f).den
theorem F_q4n_ok {p0_0:Nat} {p0_1:(List TPo)} {p0_2:Y8} {p0_3:Int} {p0_4:Int} {g:Int} {h:Int} {a:(List Int)} {b:(List Int)} {f:(List Int)} {c:(List Int)}:FO (F_q4n p0_0 p0_1 p0_2 p0_3 p0_4 g h a b f c) 188 [(Ri 0 p0_1.length [.x p0_0 7]),(vp 1),(vp 2)] [(opS 7 TPo.e p0_0 (Rc [(AV.d (Rf p0_2)),(vi p0_3),(vi p0_4),(Rb 3 a.length 0 a.length),(Rb 4 b.length 0 b.length),(Rb 5 f.length 0 f.length),(Rb 6 c.length 0 c.length)]) p0_1),(Rd (vi g)),(Rd (vi h)),(eQ a),(eQ b),(eQ f),(eQ c)] (fun x=>(vi x.1)) (fun x=>[(opS 7 TPo.e p0_0 (Rc [(AV.d (Rf p0_2)),(vi p0_3),(vi p0_4),(Rb 3 a.length 0 a.length),(Rb 4 b.length 0 b.length),(Rb 5 f.length 0 f.length),(Rb 6 c.length 0 c.length)]) p0_1),(Rd (vi g)),(Rd (vi h)),(eQ a),(eQ b),(eQ x.2),(eQ c)]):=fO (s:=S_q4n p0_0 p0_1 p0_2 p0_3 p0_4 g h a b f c) Tryz.func188
end
end Go.Proofs.YtkhgaalekilaeaaGreatDoor
/- What the functions compute,and that their calls return it. No condition. -/
namespace Go.Proofs.YtkhgaalekilaeaaGreatDoor
open Go Go.TA
open Go.IntKind (i64)
noncomputable section
set_option maxRecDepth 100000
def S_q7c (K:TTr) (N:Y8) (O:Int) (w:Int) (y:Int):SC (TTr×Int) (TTr×Int) :=
.reg 0 [] [(1,{ obs:=[(3,(TTr.b (⟨0,[]⟩:TTr)))] })] [.pf cz7]<|
.a 1 1 4 (@F_qx_ok K) fun L=>
 let z:=(TTr.d (⟨0,[]⟩:TTr))
.ite (!L) (
.reg 2 [] [(0,hv z)] [.pf cz8]<|
.r ((⟨0,[]⟩:TTr),1)) (
.a 3 3 4 (@F_q3k_ok K N O) fun t=>
.ite (decide (t<0)) (
.reg 5 [] [(0,hv z)] [.pf cz8]<|
.r ((⟨0,[]⟩:TTr),6)) (
 let j:=t.toNat
.call (@F_q1y_ok K j) fun f M=>
.k 6 1 M [] 4 false<|
.kill 5<|
 let c:=(f.2.getD j dF)
.call (@F_q4n_ok j f.2 c.B c.D c.T w y c.A c.H c.G c.P) fun g E=>
.guard [(0:Int)<=t,t.toNat<f.2.length]<|
 let v:=(Ri 6 f.2.length [.x j 7])
.reg 7 [] [(4,hv v),(5,hc E [6,0,1,7,8,9,10] false)] [.e f.2.length,.ev 0,.ev 1,.pf (p:=LeV (Ri 6 f.2.length [.x (0+j) 7]) v) z5c,.cl 2 E [6,0,1,7,8,9,10] 11 false]<|
.ite (g.1 != 0) (
.reg 9 [] [(0,hv z)] [.pf cz8]<|
.r ((⟨0,[]⟩:TTr),g.1)) (
.reg 10 [] [] []<|
.guard [g.2.length=c.G.length]<|
 let C:=(eQ c.A)
 let n:=(eQ c.H)
 let o:=(eQ c.P)
 let q:=(eQ g.2)
 let s:=(AV.d (Rf c.B))
.cst (A:=g.2.length=c.G.length) (.ev 0) [(8,(vp 3)),(9,(vi 0))] [(8,(vp 3)),(9,(vi 0))] [(Rd (vi w)),(Rd (vi y)),(Rd (Rc [(vi f.1),(Rb 6 f.2.length 0 f.2.length)])),(Rd (Rc [(vi f.1),(Rb 6 f.2.length 0 f.2.length)])),Re,Re,(opS 7 TPo.e j (Rc [s,(vi c.D),(vi c.T),(Rb 7 c.A.length 0 c.A.length),(Rb 8 c.H.length 0 c.H.length),(Rb 9 c.G.length 0 c.G.length),(Rb 10 c.P.length 0 c.P.length)]) f.2),C,n,q,o] [(Rd (vi w)),(Rd (vi y)),(Rd (Rc [(vi f.1),(Rb 6 f.2.length 0 f.2.length)])),(Rd (Rc [(vi f.1),(Rb 6 f.2.length 0 f.2.length)])),Re,Re,(opS 7 TPo.e j (Rc [s,(vi c.D),(vi c.T),(Rb 7 c.A.length 0 c.A.length),(Rb 8 c.H.length 0 c.H.length),(Rb 9 g.2.length 0 g.2.length),(Rb 10 c.P.length 0 c.P.length)]) f.2),C,n,q,o] (fun h=>⟨rfl,by rw[h]⟩)<|
.guard [c.A.length<2 ^ 63/\c.H.length<2 ^ 63/\g.2.length<2 ^ 63/\c.P.length<2 ^ 63]<|
 let F:=(⟨c.B,c.D,c.T,c.A,c.H,g.2,c.P⟩:TPo)
 let l:=(f.2.set j F)
 let m:=(Rc [(vi f.1),(Rb 6 f.2.length 0 f.2.length)])
 let I:=[(Rd (vi w)),(Rd (vi y)),(Rd m),(Rd m),Re,Re,(eS 7 TPo.e l),Re,Re,Re,Re]
 let u:=[(8,(vp 3)),(9,(vi 0))]
.sh (A:=c.A.length<2 ^ 63/\c.H.length<2 ^ 63/\g.2.length<2 ^ 63/\c.P.length<2 ^ 63) (.ev 0) u u [(Rd (vi w)),(Rd (vi y)),(Rd m),(Rd m),Re,Re,(opS 7 TPo.e j (Rc [s,(vi c.D),(vi c.T),(Rb 7 c.A.length 0 c.A.length),(Rb 8 c.H.length 0 c.H.length),(Rb 9 g.2.length 0 g.2.length),(Rb 10 c.P.length 0 c.P.length)]) f.2),C,n,q,o] I (fun h=>z1k oTApiPot (P:=[(Rd (vi w)),(Rd (vi y)),(Rd m),(Rd m),Re,Re]) (D:=[]) rfl (⟨c.B,c.D,c.T,[],[],[],[]⟩:TPo) F h rfl) (z17 _)<|
 let J:=(Rc [(vi f.1),(Rb 6 l.length 0 l.length)])
.cst (A:=True) (.pf trivial) u u I [(Rd (vi w)),(Rd (vi y)),(Rd J),(Rd J),Re,Re,(eS 7 TPo.e l),Re,Re,Re,Re] (fun _=>⟨Zd,Zb⟩)<|
.guard [l.length<2 ^ 63]<|
.frz 6 (.ev 0) none [] [2,3]<|
.r ((⟨f.1,l⟩:TTr),0))))
def F_q7c (a:TTr) (b:Y8) (c:Int) (d:Int) (e:Int):=(S_q7c a b c d e).den
theorem F_q7c_ok {c:TTr} {e:Y8} {f:Int} {a:Int} {b:Int}:FO (F_q7c c e f a b) 185 [(TTr.d c),(AV.d (Rf e)),(vi f),(AV.fn 188 [(vp 0),(vp 1)])] [(Rd (vi a)),(Rd (vi b))] (fun x=>(Rg [(TTr.d x.1),(vi x.2)])) (fun _=>[(Rd (vi a)),(Rd (vi b))]):=fO (s:=S_q7c c e f a b) Tryz.func185
def S_q5h (d:TTr) (e:Int) (f:Y8) (g:Int) (h:Int):SC (TTr×Int) (TTr×Int) :=
.reg 0 [] [(3,{ obs:=[(3,(TTr.b (⟨0,[]⟩:TTr)))] })] [.pf cz7]<|
.call (@F_q7c_ok d f g e h) fun a c=>
.k 1 4 c [1,2] 4 true<|
.r (a.1,a.2)
def F_q5h (a:TTr) (b:Int) (c:Y8) (d:Int) (e:Int):=(S_q5h a b c d e).den
theorem F_q5h_ok {a:TTr} {b:Int} {c:Y8} {e:Int} {f:Int}:FO (F_q5h a b c e f) 133 [(TTr.d a),(vi b),(AV.d (Rf c)),(vi e),(vi f)] [] (fun x=>(Rg [(TTr.d x.1),(vi x.2)])) NL:=fO (s:=S_q5h a b c e f) Tryz.func133
theorem cz9:LeV (AV.d (DV.agg [(Rf ([])),(DV.i .i64 0),(DV.i .i64 0),Z0,Z0,Z0,Z0])) (TPo.d (⟨[],0,0,[],[],[],[]⟩:TPo)):=z2f rfl (DLe.agg (Rh (DLe.refl _) (Rh (DLe.refl _) (Rh (DLe.refl _) (Rh DLe.sl0 (Rh DLe.sl0 (Rh DLe.sl0 (Rh DLe.sl0 DLeL.nil))))))))
def S_q3m (g:TTr) (i:Y8) (j:Int):SC (TPo×Bool) (TPo×Bool) :=
 let e:=(⟨[],0,0,[],[],[],[]⟩:TPo)
.reg 0 [] [(1,{ obs:=[(1,(TPo.b e))] })] [.pf cz1]<|
.a 1 3 2 (@F_q3k_ok g i j) fun c=>
.ite (decide (c<0)) (
.reg 3 [] [(0,hv (TPo.d e))] [.pf cz9]<|
.r (e,false)) (
.call (@F_q3j_ok (g.E.getD c.toNat dF)) fun h f=>
.guard [(0:Int)<=c,c.toNat<g.E.length]<|
.reg 4 [] [(5,hc f [] true)] [.ev 0,.ev 1,.cl 2 f [] 2 true]<|
.r (h,true))
def F_q3m (a:TTr) (b:Y8) (c:Int):=(S_q3m a b c).den
theorem F_q3m_ok {a:TTr} {b:Y8} {c:Int}:FO (F_q3m a b c) 65 [(TTr.d a),(AV.d (Rf b)),(vi c)] [] (fun x=>(Rg [(TPo.d x.1),(vb x.2)])) NL:=fO (s:=S_q3m a b c) Tryz.func65
def S_q5i (h:TTr) (i:Int) (l:Y8) (m:Int):SC (TMe×Int) (TMe×Int) :=
.a 1 1 2 (@F_qx_ok h) fun j=>
 let e:=(⟨0,0,[],0,0,0,0,0⟩:TMe)
.ite (!j) (
.r (e,1)) (
.call (@F_q3m_ok h l m) fun c f=>
.reg 3 [] [(3,hc f [] true),(7,{ obs:=[(2,(TPo.b (⟨[],0,0,[],[],[],[]⟩:TPo)))] })] [.cl 0 f [] 2 true,.pf cz1]<|
.calld [(!c.2)=false] dF (@F_qj_ok i 1 h.O) fun k g =>
.reg 4 [] [(6,hc g [] true)] [.clg 0 [(!c.2)=false] g [] 3 true]<|
.ite (cO (!c.2) (!k)) (
.r (e,6)) (
 let d:=(i64.wrap (i-1))
.guard [(0:Int)<=d,d.toNat<c.1.A.length,d.toNat<c.1.G.length]<|
.reg 6 [16] [] [.ev 0,.ev 1,.ev 0,.ev 2]<|
.r ((⟨0,i,l,m,(c.1.A.getD d.toNat dF),(c.1.G.getD d.toNat dF),0,0⟩:TMe),0)))
def F_q5i (a:TTr) (b:Int) (c:Y8) (d:Int):=(S_q5i a b c d).den
theorem F_q5i_ok {a:TTr} {b:Int} {c:Y8} {e:Int}:FO (F_q5i a b c e) 134 [(TTr.d a),(vi b),(AV.d (Rf c)),(vi e)] [] (fun x=>(Rg [(TMe.d x.1),(vi x.2)])) NL:=fO (s:=S_q5i a b c e) Tryz.func134
def S_q44 (a:TWo) (j:TMe) (t:Int):SC (TWo×Int) (TWo×Int) :=
 let m:=(⟨(⟨0,[]⟩:TTr),[],[]⟩:TWo)
 let n:=(TWo.b m)
.reg 0 [] [(2,{ obs:=[(2,n)] })] [.pf cz4]<|
 let q:=(0,hv (TWo.d m))
.ite (t != 0) (
.reg 2 [] [q] [.pf cz5]<|
.r (m,t)) (
.ite ((a.N.length:Int)==200) (
.reg 4 [] [q] [.pf cz5]<|
.r (m,3)) (
 let c:=(i64.wrap ((a.N.length:Int)+1))
.guard [(0:Int)<=c,c * 72<=2 ^ 47]<|
 let g:=(⟨0,0,[],0,0,0,0,0⟩:TMe)
 let f:=((List.replicate c.toNat (g:TMe)).length)
.reg 5 [] [(4,{ cast:=some (Rb 3 f 0 f),obs:=[(3,(eS 8 TMe.e (List.replicate c.toNat (g:TMe))))] })] [.ev 0,.pf (p:=c<=c) (y1h _),.ev 1,.pf (zbs (o:=3) (k:=c.toNat) (z:=(g:TMe))),.pf (zbt (sz:=8) (k:=c.toNat) (e:=TMe.e) (z:=(g:TMe)))]<|
 let h:=(0+(min a.N.length f))
.guard [(min a.N.length f)<(List.replicate c.toNat (g:TMe)).length,h<(copyL (List.replicate c.toNat (g:TMe)) 0 (min a.N.length f) (fun i=>(a.N.getD i dF))).length]<|
.reg 6 [4,7] [(4,{ obs:=[(3,(eS 8 TMe.e (copyL (List.replicate ((i64.wrap ((a.N.length:Int)+1)).toNat) ((⟨0,0,[],0,0,0,0,0⟩:TMe):TMe)) 0 (min a.N.length ((List.replicate ((i64.wrap ((a.N.length:Int)+1)).toNat) ((⟨0,0,[],0,0,0,0,0⟩:TMe):TMe)).length)) (fun i=>(a.N.getD i dF)))))] }),(7,{ obs:=[(3,(eS 8 TMe.e ((copyL (List.replicate ((i64.wrap ((a.N.length:Int)+1)).toNat) ((⟨0,0,[],0,0,0,0,0⟩:TMe):TMe)) 0 (min a.N.length ((List.replicate ((i64.wrap ((a.N.length:Int)+1)).toNat) ((⟨0,0,[],0,0,0,0,0⟩:TMe):TMe)).length)) (fun i=>(a.N.getD i dF))).set (0+(min a.N.length ((List.replicate ((i64.wrap ((a.N.length:Int)+1)).toNat) ((⟨0,0,[],0,0,0,0,0⟩:TMe):TMe)).length))) j)))] })] [.pf (y2h ((List.replicate ((i64.wrap ((a.N.length:Int)+1)).toNat) ((⟨0,0,[],0,0,0,0,0⟩:TMe):TMe)).length)),.pf (p:=∀ k,k<a.N.length->(TMe.d (a.N.getD k dF)).wd=8) (fun _ _=>rfl),.pf (z9e (sz:=8) (e:=TMe.e) (l:=(List.replicate ((i64.wrap ((a.N.length:Int)+1)).toNat) ((⟨0,0,[],0,0,0,0,0⟩:TMe):TMe))) (off:=0) (k:=(min a.N.length ((List.replicate ((i64.wrap ((a.N.length:Int)+1)).toNat) ((⟨0,0,[],0,0,0,0,0⟩:TMe):TMe)).length))) (s:=(fun i=>(a.N.getD i dF)))),.pf (p:=(copyL (List.replicate ((i64.wrap ((a.N.length:Int)+1)).toNat) ((⟨0,0,[],0,0,0,0,0⟩:TMe):TMe)) 0 (min a.N.length ((List.replicate ((i64.wrap ((a.N.length:Int)+1)).toNat) ((⟨0,0,[],0,0,0,0,0⟩:TMe):TMe)).length)) (fun i=>(a.N.getD i dF))).length=(List.replicate ((i64.wrap ((a.N.length:Int)+1)).toNat) ((⟨0,0,[],0,0,0,0,0⟩:TMe):TMe)).length) (by simp only[zt]),.pf (nn (min a.N.length ((List.replicate ((i64.wrap ((a.N.length:Int)+1)).toNat) ((⟨0,0,[],0,0,0,0,0⟩:TMe):TMe)).length))),.ev 0,.pf (p:=(copyL (List.replicate ((i64.wrap ((a.N.length:Int)+1)).toNat) ((⟨0,0,[],0,0,0,0,0⟩:TMe):TMe)) 0 (min a.N.length ((List.replicate ((i64.wrap ((a.N.length:Int)+1)).toNat) ((⟨0,0,[],0,0,0,0,0⟩:TMe):TMe)).length)) (fun i=>(a.N.getD i dF))).length=(List.replicate ((i64.wrap ((a.N.length:Int)+1)).toNat) ((⟨0,0,[],0,0,0,0,0⟩:TMe):TMe)).length) (by simp only[zt]),.ev 1,.pf (zo (sz:=8) (e:=TMe.e) (l:=(copyL (List.replicate ((i64.wrap ((a.N.length:Int)+1)).toNat) ((⟨0,0,[],0,0,0,0,0⟩:TMe):TMe)) 0 (min a.N.length ((List.replicate ((i64.wrap ((a.N.length:Int)+1)).toNat) ((⟨0,0,[],0,0,0,0,0⟩:TMe):TMe)).length)) (fun i=>(a.N.getD i dF)))) (i:=(0+(min a.N.length ((List.replicate ((i64.wrap ((a.N.length:Int)+1)).toNat) ((⟨0,0,[],0,0,0,0,0⟩:TMe):TMe)).length)))) (x:=j) (fun _=>rfl))]<|
.cst (A:=True) (.pf trivial) [(3,(vp 0)),(6,(vp 2)),(8,(Rb 3 f 0 f))] [(3,(vp 0)),(6,(vp 2)),(8,(Rb 3 (((copyL (List.replicate c.toNat (g:TMe)) 0 (min a.N.length f) (fun i=>(a.N.getD i dF))).set h j).length) 0 (((copyL (List.replicate c.toNat (g:TMe)) 0 (min a.N.length f) (fun i=>(a.N.getD i dF))).set h j).length)))] [(TWo.b a),(TMe.b j),n,(eS 8 TMe.e ((copyL (List.replicate c.toNat (g:TMe)) 0 (min a.N.length f) (fun i=>(a.N.getD i dF))).set h j))] [(TWo.b a),(TMe.b j),n,(eS 8 TMe.e ((copyL (List.replicate c.toNat (g:TMe)) 0 (min a.N.length f) (fun i=>(a.N.getD i dF))).set h j))] (fun _=>⟨by simp +zetaDelta only[yl,zt],by rfl⟩)<|
.guard [((copyL (List.replicate c.toNat (g:TMe)) 0 (min a.N.length f) (fun i=>(a.N.getD i dF))).set h j).length<2 ^ 63]<|
.reg 8 [] [] []<|
.frz 3 (.ev 0) none [] [0,2]<|
.r ((⟨a.K,a.J,((copyL (List.replicate c.toNat (g:TMe)) 0 (min a.N.length f) (fun i=>(a.N.getD i dF))).set h j)⟩:TWo),0)))
def F_q44 (a:TWo) (b:TMe) (c:Int):=(S_q44 a b c).den
theorem F_q44_ok {a:TWo} {b:TMe} {c:Int}:FO (F_q44 a b c) 135 [(TWo.d a),(TMe.d b),(vi c)] [] (fun x=>(Rg [(TWo.d x.1),(vi x.2)])) NL:=fO (s:=S_q44 a b c) Tryz.func135
def S_q5j (f:TWo) (c:TSt):SC (TWo×Int) (TWo×Int) :=
 let g:=(⟨(⟨0,[]⟩:TTr),[],[]⟩:TWo)
.reg 0 [] [(2,{ obs:=[(2,(TWo.b g))] })] [.pf cz4]<|
.cut (some 0) [2,4] (fun (e:TWo×Int)=>[(6,(vi e.2))]) (fun e=>[(0,(TWo.b e.1))]) (
.ite (c.U==1) (
.a 6 8 3 (@F_q5d_ok f.K c.B c.D c.V) fun h=>
.r (.next ((⟨h.1,f.J,f.N⟩:TWo),h.2))) (
.ite (c.U==2) (
.a 8 10 3 (@F_q5g_ok f.K c.Z c.B c.D c.V) fun i=>
.r (.next ((⟨i.1,f.J,f.N⟩:TWo),i.2))) (
.ite (c.U==3) (
.a 10 10 3 (@F_q5h_ok f.K c.Z c.B c.D c.V) fun j=>
.r (.next ((⟨j.1,f.J,f.N⟩:TWo),j.2))) (
.a 3 8 3 (@F_q5i_ok f.K c.Z c.B c.D) fun k=>
.a 4 3 4 (@F_q44_ok f k.1 k.2) fun l=>
.r (.ret (l.1,l.2)))))) fun e=>
.ite (e.2 != 0) (
.reg 12 [] [(0,hv (TWo.d g))] [.pf cz5]<|
.r (g,e.2)) (
.r (e.1,0))
def F_q5j (a:TWo) (b:TSt):=(S_q5j a b).den
theorem F_q5j_ok {a:TWo} {b:TSt}:FO (F_q5j a b) 86 [(TWo.d a),(TSt.d b)] [] (fun x=>(Rg [(TWo.d x.1),(vi x.2)])) NL:=fO (s:=S_q5j a b) Tryz.func86
def S_q4o (a:TJo):SC Bool Bool :=
.r (bif (bif (bif (bif (decide (a.Z>=1)) then (decide (a.Z<=6)) else false) then (decide ((a.M.length:Int)<=400)) else false) then (decide (a.Af>=0)) else false) then (decide (a.Af<=(a.M.length:Int))) else false)
def F_q4o (a:TJo):=(S_q4o a).den
theorem F_q4o_ok {a:TJo}:FO (F_q4o a) 128 [(TJo.d a)] [] vb NL:=fO (s:=S_q4o a) Tryz.func128
def S_q4p (a:Int):SC Y8 Y8 :=
.ite (a==1) (
.r ([114,101,115,101,114,118,101,32,67,79,68,69,32,89,69,65,82,32,68,65,89,32,65,77,79,85,78,84])) (
.ite (a==2) (
.r ([99,111,109,109,105,116,32,79,70,32,68,65,89,32,65,77,79,85,78,84,32,80,65,89,69,69,32,68,85,69])) (
.ite (a==3) (
.r ([118,101,114,105,102,121,32,79,70,32,68,65,89,32,65,77,79,85,78,84])) (
.ite (a==4) (
.r ([111,114,100,101,114,32,79,70,32,68,65,89])) (
.ite (a==5) (
.r ([114,101,108,101,97,115,101,32,79,70,32,65,77,79,85,78,84])) (
.ite (a==6) (
.r ([100,114,111,112,32,79,70,32,65,77,79,85,78,84])) (
.ite (a==7) (
.r ([114,101,116,117,114,110,32,67,79,68,69,32,89,69,65,82,32,65,77,79,85,78,84])) (
.ite (a==8) (
.r ([104,101,97,114,32,67,79,68,69,32,89,69,65,82,32,71,82,65,78,84,69,68,32,65,83,75,69,68,66,65,67,75])) (
.ite (a==9) (
.r ([114,101,116,117,114,110,101,100,32,79,70])) (
.r ([]))))))))))
def F_q4p (a:Int):=(S_q4p a).den
theorem F_q4p_ok {a:Int}:FO (F_q4p a) 235 [(vi a)] [] (fun x=>(AV.d (Rf x))) NL:=fO (s:=S_q4p a) Tryz.func235
def S_q7d (a:Y8) (_:TOp):SC Unit Unit :=
.guard [(a==([89,69,65,82]))=true]<|
.br true (.ev 0)<|
.r ()
def F_q7d (a:Y8) (b:TOp):=(S_q7d a b).den
theorem F_q7d_ok {c:Y8} {a:TOp}:FO (F_q7d c a) 236 [(vp 0),(AV.d (Rf c))] [(TOp.b a)] (fun _=>(Ri 0 1 [.f 2 2])) (fun _=>[(TOp.b a)]):=fO (s:=S_q7d c a) Tryz.func236
def S_q1z (a:Y8):SC Int Int :=
.ite (a==([89,69,65,82])) (
.r 99) (
.r 1000000000000000)
def F_q1z (a:Y8):=(S_q1z a).den
theorem F_q1z_ok {a:Y8}:FO (F_q1z a) 237 [(AV.d (Rf a))] [] vi NL:=fO (s:=S_q1z a) Tryz.func237
def S_q7e (a:Y8) (_:TOp):SC Unit Unit :=
.guard [(a==([89,69,65,82]))=false]<|
.br false (.ev 0)<|
.guard [(a==([68,65,89]))=true]<|
.br true (.ev 0)<|
.r ()
def F_q7e (a:Y8) (b:TOp):=(S_q7e a b).den
theorem F_q7e_ok {c:Y8} {a:TOp}:FO (F_q7e c a) 236 [(vp 0),(AV.d (Rf c))] [(TOp.b a)] (fun _=>(Ri 0 1 [.f 3 3])) (fun _=>[(TOp.b a)]):=fO (s:=S_q7e c a) Tryz.func236
def S_q7f (a:Y8) (_:TOp):SC Unit Unit :=
.guard [(a==([89,69,65,82]))=false]<|
.br false (.ev 0)<|
.guard [(a==([68,65,89]))=false]<|
.br false (.ev 0)<|
.guard [(a==([65,77,79,85,78,84]))=true]<|
.br true (.ev 0)<|
.r ()
def F_q7f (a:Y8) (b:TOp):=(S_q7f a b).den
theorem F_q7f_ok {c:Y8} {a:TOp}:FO (F_q7f c a) 236 [(vp 0),(AV.d (Rf c))] [(TOp.b a)] (fun _=>(Ri 0 1 [.f 5 5])) (fun _=>[(TOp.b a)]):=fO (s:=S_q7f c a) Tryz.func236
def S_q7g (a:Y8) (_:TOp):SC Unit Unit :=
.guard [(a==([89,69,65,82]))=false]<|
.br false (.ev 0)<|
.guard [(a==([68,65,89]))=false]<|
.br false (.ev 0)<|
.guard [(a==([65,77,79,85,78,84]))=false]<|
.br false (.ev 0)<|
.guard [(a==([79,70]))=true]<|
.br true (.ev 0)<|
.r ()
def F_q7g (a:Y8) (b:TOp):=(S_q7g a b).den
theorem F_q7g_ok {c:Y8} {a:TOp}:FO (F_q7g c a) 236 [(vp 0),(AV.d (Rf c))] [(TOp.b a)] (fun _=>(Ri 0 1 [.f 4 4])) (fun _=>[(TOp.b a)]):=fO (s:=S_q7g c a) Tryz.func236
def S_q7h (a:Y8) (_:TOp):SC Unit Unit :=
.guard [(a==([89,69,65,82]))=false]<|
.br false (.ev 0)<|
.guard [(a==([68,65,89]))=false]<|
.br false (.ev 0)<|
.guard [(a==([65,77,79,85,78,84]))=false]<|
.br false (.ev 0)<|
.guard [(a==([79,70]))=false]<|
.br false (.ev 0)<|
.guard [(a==([80,65,89,69,69]))=true]<|
.br true (.ev 0)<|
.r ()
def F_q7h (a:Y8) (b:TOp):=(S_q7h a b).den
theorem F_q7h_ok {c:Y8} {a:TOp}:FO (F_q7h c a) 236 [(vp 0),(AV.d (Rf c))] [(TOp.b a)] (fun _=>(Ri 0 1 [.f 6 6])) (fun _=>[(TOp.b a)]):=fO (s:=S_q7h c a) Tryz.func236
def S_q7i (a:Y8) (_:TOp):SC Unit Unit :=
.guard [(a==([89,69,65,82]))=false]<|
.br false (.ev 0)<|
.guard [(a==([68,65,89]))=false]<|
.br false (.ev 0)<|
.guard [(a==([65,77,79,85,78,84]))=false]<|
.br false (.ev 0)<|
.guard [(a==([79,70]))=false]<|
.br false (.ev 0)<|
.guard [(a==([80,65,89,69,69]))=false]<|
.br false (.ev 0)<|
.guard [(a==([68,85,69]))=true]<|
.br true (.ev 0)<|
.r ()
def F_q7i (a:Y8) (b:TOp):=(S_q7i a b).den
theorem F_q7i_ok {c:Y8} {a:TOp}:FO (F_q7i c a) 236 [(vp 0),(AV.d (Rf c))] [(TOp.b a)] (fun _=>(Ri 0 1 [.f 7 7])) (fun _=>[(TOp.b a)]):=fO (s:=S_q7i c a) Tryz.func236
def S_q7j (a:Y8) (_:TOp):SC Unit Unit :=
.guard [(a==([89,69,65,82]))=false]<|
.br false (.ev 0)<|
.guard [(a==([68,65,89]))=false]<|
.br false (.ev 0)<|
.guard [(a==([65,77,79,85,78,84]))=false]<|
.br false (.ev 0)<|
.guard [(a==([79,70]))=false]<|
.br false (.ev 0)<|
.guard [(a==([80,65,89,69,69]))=false]<|
.br false (.ev 0)<|
.guard [(a==([68,85,69]))=false]<|
.br false (.ev 0)<|
.guard [(a==([71,82,65,78,84,69,68]))=true]<|
.br true (.ev 0)<|
.r ()
def F_q7j (a:Y8) (b:TOp):=(S_q7j a b).den
theorem F_q7j_ok {c:Y8} {a:TOp}:FO (F_q7j c a) 236 [(vp 0),(AV.d (Rf c))] [(TOp.b a)] (fun _=>(Ri 0 1 [.f 8 8])) (fun _=>[(TOp.b a)]):=fO (s:=S_q7j c a) Tryz.func236
def S_q7k (a:Y8) (_:TOp):SC Unit Unit :=
.guard [(a==([89,69,65,82]))=false]<|
.br false (.ev 0)<|
.guard [(a==([68,65,89]))=false]<|
.br false (.ev 0)<|
.guard [(a==([65,77,79,85,78,84]))=false]<|
.br false (.ev 0)<|
.guard [(a==([79,70]))=false]<|
.br false (.ev 0)<|
.guard [(a==([80,65,89,69,69]))=false]<|
.br false (.ev 0)<|
.guard [(a==([68,85,69]))=false]<|
.br false (.ev 0)<|
.guard [(a==([71,82,65,78,84,69,68]))=false]<|
.br false (.ev 0)<|
.guard [(a==([65,83,75,69,68,66,65,67,75]))=true]<|
.br true (.ev 0)<|
.r ()
def F_q7k (a:Y8) (b:TOp):=(S_q7k a b).den
theorem F_q7k_ok {c:Y8} {a:TOp}:FO (F_q7k c a) 236 [(vp 0),(AV.d (Rf c))] [(TOp.b a)] (fun _=>(Ri 0 1 [.f 9 9])) (fun _=>[(TOp.b a)]):=fO (s:=S_q7k c a) Tryz.func236
end
end Go.Proofs.YtkhgaalekilaeaaGreatDoor
