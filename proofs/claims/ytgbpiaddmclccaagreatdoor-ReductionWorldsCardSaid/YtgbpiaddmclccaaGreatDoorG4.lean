/- A part of the proof: what the functions compute, and that their calls return it. No condition. -/
import Derived.Test.YtgbpiaddmclccaaGreatDoorT7
import Derived.Lib.AppendZerosOnto
import Derived.Test.YtgbpiaddmclccaaGreatDoorProg
import Derived.Test.YtgbpiaddmclccaaGreatDoorT3
import Derived.Test.YtgbpiaddmclccaaGreatDoorG2
import Derived.Test.YtgbpiaddmclccaaGreatDoorG3
import Derived.Test.YtgbpiaddmclccaaGreatDoorP1
/- slices.Insert of one element, into rows of two kinds. No condition. -/
namespace Go.Proofs.YtgbpiaddmclccaaGreatDoor
namespace InsG
open Go Go.TA
open Go.IntKind (i64)
def cL:Code->Code
 | .seq x _=>x
 | _=>.skip
def cR:Code->Code
 | .seq _ y=>y
 | _=>.skip
def cT:Code->Code
 | .cond _ x _=>x
 | _=>.skip
noncomputable def regOps:Code->Array Oper
 | .region _ ops _=>ops
 | _=>#[]
noncomputable def opAt (ops : Array Oper) (i : Nat) : Oper := (ops[i]?).getD { dst := none, op := .move (.tmp 0), type := 0, pos := "", after := #[], guard := none }
noncomputable def ci (ff:Func):Code:=ff.body.getD .skip
section
variable (ff:Func)
noncomputable def R0:Code:=cL (ci ff)
noncomputable def R1:Code:=cL (cR (ci ff))
noncomputable def R2:Code:=cL (cR (cR (ci ff)))
noncomputable def X3:Code:=cL (cR (cR (cR (ci ff))))
noncomputable def R5:Code:=cL (cR (cR (cR (cR (ci ff)))))
noncomputable def X6:Code:=cL (cR (cR (cR (cR (cR (ci ff))))))
noncomputable def T8:Code:=cR (cR (cR (cR (cR (cR (ci ff))))))
noncomputable def R8:Code:=cL (cL (T8 ff))
noncomputable def B9:Code:=cT (cR (cL (T8 ff)))
noncomputable def R9:Code:=cL (B9 ff)
noncomputable def B10:Code:=cR (B9 ff)
noncomputable def C13:Code:=cR (T8 ff)
end
inductive PP:Func->Func->Nat->Nat->Nat->Nat->Nat->Nat->Prop
 | a:PP Tryz.f84 Tryz.f141 84 141 23 53 7 128
 | b:PP Tryz.f298 Tryz.f314 298 314 99 115 5 48
section
variable {ff fo:Func} {nf no tS tE sz bt:Nat}
theorem PP.fF (hp:PP ff fo nf no tS tE sz bt):Tryz.prog.funcs[nf]? = some ff:=by
 cases hp
 ·exact Tryz.func84
 ·exact Tryz.func298
theorem PP.fO (hp:PP ff fo nf no tS tE sz bt):Tryz.prog.funcs[no]? = some fo:=by
 cases hp
 ·exact Tryz.func141
 ·exact Tryz.func314
theorem PP.uS (hp:PP ff fo nf no tS tE sz bt):Tryz.prog.underlying tS=some (.slice tE):=by
 cases hp
 ·exact Tryz.underlying23
 ·exact Tryz.underlying99
theorem PP.zE (hp:PP ff fo nf no tS tE sz bt):∀ w,(Go.sizeOf tE).run Tryz.prog w = .ok sz w:=by
 cases hp
 ·exact Tryz.sizeOf53
 ·exact Tryz.sizeOf115
theorem zst (hp:PP ff fo nf no tS tE sz bt):ff.body=some (.seq (R0 ff) (.seq (R1 ff) (.seq (R2 ff) (.seq (.seq (cL (X3 ff)) (.cond (.tmp 16) (cT (cR (X3 ff))) .skip)) (.seq (R5 ff) (.seq (.seq (cL (X6 ff)) (.cond (.tmp 22) (cT (cR (X6 ff))) .skip)) (.seq (.seq (R8 ff) (.cond (.tmp 31) (.seq (R9 ff) (B10 ff)) .skip)) (C13 ff)))))))):=by cases hp <;> kernel_rfl
theorem zwd (hp:PP ff fo nf no tS tE sz bt):(R8 ff) = .region 8 (regOps (R8 ff)) false:=by cases hp <;> kernel_rfl
theorem zwe (hp:PP ff fo nf no tS tE sz bt):(R9 ff) = .region 9 (regOps (R9 ff)) false:=by cases hp <;> kernel_rfl
end
variable {i zn:Nat} {a:Act} {Q:Exit->Act->World->Prop} {X:Nat->Prop} {ms:Blocks} {w:World}
section
variable {α:Type} [Inhabited α] {e:α->DV} {ff fo:Func} {nf no tS tE sz bt:Nat}
def gB (sz:Nat) (e:α->DV) (l:List α) (i:Nat):Nat->AV:=fun j=>if j<i then .d (e (l.getD j dF)) else garb sz
noncomputable def sB (sz:Nat) (l:List α) (x:α) (i:Nat) (n1:(0:Int)<=i) (h1:i<=l.length+1) (w0:0<=i64.wrap ((i:Int)+1)) (w1:(i64.wrap ((i:Int)+1)).toNat<=l.length+1) (h2:i<=l.length)
  (hx:∀ k,k<1->(AV.d (e ([x].getD (0+k) dF))).wd=sz) (hl:∀ k,k<l.length-i->(AV.d (e (l.getD (0+i+k) dF))).wd=sz)
  (ho:OLe (.seq sz (l.length+1) fun j=>if 0+(i64.wrap ((i:Int)+1)).toNat<=j/\j<0+(i64.wrap ((i:Int)+1)).toNat+min (l.length-i) (l.length+1-(i64.wrap ((i:Int)+1)).toNat) then .d (e (l.getD (0+i+(j-(0+(i64.wrap ((i:Int)+1)).toNat))) dF))
   else if 0+i<=j/\j<0+i+min 1 (l.length+1-i) then .d (e ([x].getD (0+(j-(0+i))) dF)) else gB sz e l i j) (eS sz e (insL l i x))):SC Unit Unit :=
 .reg 10 [] [] [.pf n1,.pf h1,.pf (y2d (l.length+1)),.pf (y2d 1),.pf (y2d (l.length+1)),.pf hx] <|
 .reg 11 [8] [(8,{ obs:=[(2,eS sz e (insL l i x))] })] [.pf w0,.pf w1,.pf (y2d (l.length+1)),.pf n1,.pf h2,.pf (y2d l.length),.pf (y2d l.length),.pf (y2d (l.length+1)),.pf hl,.pf ho] <|
 .ret [] ()
def frI (n i:Nat) (s:AV):Fr:=[(7,.d (.i .i64 1)),(8,.d (.i .i64 (n:Int))),(2,.ref 1 1 0 1),(1,.d (.i .i64 (i:Int))),(0,s)]
theorem tailB (hp:PP ff fo nf no tS tE sz bt) (he:∀ x,(e x).wd=sz) {l:List α} {x:α} (hi:i<l.length) (hl:l.length<100000000000000) :
  AW none Tryz.prog ff.ntmps (B10 ff) (fun e1 fr L=>e1 = .ret/\FR Tryz.prog ff (.ref 2 (l.length+1) 0 (l.length+1)) [eS sz e l,eS sz e [x],eS sz e (insL l i x)] fr L)
   ((9,.ref 2 (l.length+1) 0 (l.length+1)) :: frI l.length i (.ref 0 l.length 0 l.length)) [eS sz e l,eS sz e [x],.seq sz (l.length+1) (gB sz e l i)]:=by
 have hw:i64.wrap ((i:Int)+1)=(i:Int)+1:=by rw[z3n] <;> omega
 exact pTailR (ρ:=Unit) (V:=fun _=>.ref 2 (l.length+1) 0 (l.length+1)) (Lr:=fun _=>[eS sz e l,eS sz e [x],eS sz e (insL l i x)]) (r:=())
  (s:=sB (e:=e) sz l x i om om (by rw[hw]; omega) (by rw[hw]; omega) om (fun k _=>he _) (fun k _=>he _) (by
   rw[hw]
   refine z3g zq.symm fun j hj=>?_
   rw[z1s om,show ((i:Int)+1).toNat=i+1 from om]
   by_cases h1:j<i
   ·rw[y5 om,y5 om,y6 h1,gB,y6 h1]
   ·by_cases h2:j=i
    ·subst h2
     rw[y5 om,y6 om,y5 h1,y6 rfl,show 0+(j-(0+j))=0 from om]
     rfl
    ·rw[y6 om,y5 h1,y5 h2]
     congr 3; omega)) (by cases hp <;> kernel_rfl) rfl
def gC (sz:Nat) (e:α->DV) (l:List α):Nat->AV:=fun j=>if j<l.length then .d (e (l.getD j dF)) else garb sz
noncomputable def sC (sz no:Nat) (l:List α) (x:α) (i:Nat) (a:(0:Int)<=i64.wrap ((l.length:Int)+1)) (c:(i64.wrap ((l.length:Int)+1)).toNat<=l.length+1) (f:(i64.wrap ((l.length:Int)+1)).toNat=l.length+1)
  (w0:(0:Int)<=i64.wrap ((i:Int)+1)) (w1:(i64.wrap ((i:Int)+1)).toNat<=l.length+1) (n1:(0:Int)<=i) (h1:i<=l.length+1)
  (hx:ExtOk Tryz.prog no [.ref 1 1 0 1,.ref 0 (l.length+1) (0+(i64.wrap ((i:Int)+1)).toNat) (l.length+1-(i64.wrap ((i:Int)+1)).toNat)] [.seq sz (l.length+1) (gC sz e l),eS sz e [x]] (.d (.b false)))
  (hg:∀ k,k<l.length+1-i->(gC sz e l (0+i+k)).wd=sz) (hy:∀ k,k<1->(AV.d (e ([x].getD (0+k) dF))).wd=sz)
  (ho:OLe (.seq sz (l.length+1) fun j=>if 0+i<=j/\j<0+i+min 1 (l.length+1-i) then .d (e ([x].getD (0+(j-(0+i))) dF))
   else if 0+(i64.wrap ((i:Int)+1)).toNat<=j/\j<0+(i64.wrap ((i:Int)+1)).toNat+min (l.length+1-i) (l.length+1-(i64.wrap ((i:Int)+1)).toNat) then gC sz e l (0+i+(j-(0+(i64.wrap ((i:Int)+1)).toNat)))
   else gC sz e l j) (eS sz e (insL l i x))):SC Unit Unit :=
 .reg 13 [] [] [.pf a,.pf c,.pf (y2d (l.length+1))] <|
 .cst (A:=(i64.wrap ((l.length:Int)+1)).toNat=l.length+1) (.pf f) [(0,.ref 0 (l.length+1) (0+0) ((i64.wrap ((l.length:Int)+1)).toNat-0)),(1,.d (.i .i64 (i:Int))),(2,.ref 1 1 0 1),(7,.d (.i .i64 1))]
  [(0,.ref 0 (l.length+1) 0 (l.length+1)),(1,.d (.i .i64 (i:Int))),(2,.ref 1 1 0 1),(7,.d (.i .i64 1))]
  [.seq sz (l.length+1) (gC sz e l),eS sz e [x]] [.seq sz (l.length+1) (gC sz e l),eS sz e [x]] (fun h=>⟨by rw[h]; rfl,rfl⟩) <|
 .reg 14 [] [(6,{ h:=.callr (.d (.b false)) })] [.pf w0,.pf w1,.pf (y2d (l.length+1)),.pf hx] <|
 .br true (.pf (p:=(!false)=true) rfl) <|
 .reg 15 [8] [] [.pf w0,.pf w1,.pf (y2d (l.length+1)),.pf n1,.pf h1,.pf (y2d (l.length+1)),.pf (y2d (l.length+1)),.pf (y2d (l.length+1)),.pf hg] <|
 .reg 16 [] [(4,{ obs:=[(0,eS sz e (insL l i x))] })] [.pf n1,.pf h1,.pf (y2d (l.length+1)),.pf (y2d 1),.pf (y2d (l.length+1)),.pf hy,.pf ho] <|
 .reg 17 [] [] [] <|
 .ret [] ()
theorem tailC (hp:PP ff fo nf no tS tE sz bt) (he:∀ x,(e x).wd=sz) {l:List α} {x:α} (hi:i<l.length) (hl:l.length<100000000000000) :
  AW none Tryz.prog ff.ntmps (C13 ff) (FQ Tryz.prog ff (.ref 0 (l.length+1) 0 (l.length+1)) [eS sz e (insL l i x),eS sz e [x]])
   (frI l.length i (.ref 0 (l.length+1) 0 l.length)) [.seq sz (l.length+1) (gC sz e l),eS sz e [x]]:=by
 have hw:i64.wrap ((i:Int)+1)=(i:Int)+1:=by rw[z3n] <;> omega
 have hw2:i64.wrap ((l.length:Int)+1)=(l.length:Int)+1:=by rw[z3n] <;> omega
 have hwd:∀ k,(gC sz e l k).wd=sz:=fun k=>by
  unfold gC
  split
  ·exact he _
  ·cases hp <;> rfl
 exact pTailG (ρ:=Unit) (V:=fun _=>.ref 0 (l.length+1) 0 (l.length+1)) (Lr:=fun _=>[eS sz e (insL l i x),eS sz e [x]]) (r:=())
  (s:=sC (e:=e) sz no l x i (by rw[hw2]; omega) (by rw[hw2]; omega) (by rw[hw2]; omega) (by rw[hw]; omega) (by rw[hw]; omega) om om
   (zkj (fn:=fo) (tR:=4) (te:=tE) (sz:=sz) (z1:=sz) (z2:=sz) hp.fO (by cases hp <;> kernel_rfl) (by cases hp <;> kernel_rfl) (by cases hp <;> kernel_rfl) (by cases hp <;> kernel_rfl) hp.uS hp.zE (by cases hp <;> decide) rfl rfl dk rfl (by rw[hw]; omega) (by rw[hw]; omega) (by cases hp <;> decide))
   (fun k _=>hwd _) (fun k _=>he _) (by
   rw[hw]
   refine z3g zq.symm fun j hj=>?_
   rw[z1s om,show ((i:Int)+1).toNat=i+1 from om]
   by_cases h2:j=i
   ·subst h2
    rw[y6 om,y5 om,y6 rfl,show 0+(j-(0+j))=0 from om]
    rfl
   ·rw[y5 om,y5 h2]
    by_cases h1:j<i
    ·rw[y5 om,y6 h1,gC,y6 om]
    ·rw[y6 om,y5 h1,gC,y6 om]
     congr 3; omega)) (by cases hp <;> kernel_rfl) rfl
theorem z5o {c:Cx} {G:GFr} {t:Nat} {v:AV} (hf:FrIs c G a.tmps) (h:(t,[],v)∈G):AV.IsV c v (a.tmps.getD t undef):=(hf _ h).2.1 (fun z hz=>by cases hz)
theorem zwf (hp:PP ff fo nf no tS tE sz bt) {l:List α} {x:α} (h0:0<l.length) (hr:Rel X ms [eS sz e l,eS sz e [x]] w) (hf:FrIs (cxOf X ms [eS sz e l,eS sz e [x]] w) (frI l.length i (.ref 0 l.length 0 l.length)).up a.tmps) (hN:a.tmps.size=ff.ntmps) (hQ:∀ a' ms' w' b tc,Rel X ms' [eS sz e l,eS sz e [x]] w'->Ext ms w ms' w'->(cxOf X ms [eS sz e l,eS sz e [x]] w).le (cxOf X ms' [eS sz e l,eS sz e [x]] w')->FrIs (cxOf X ms' [eS sz e l,eS sz e [x]] w') (frI l.length i (.ref 0 l.length 0 l.length)).up a'.tmps ->
   a'.tmps.size=ff.ntmps->a'.defers=a.defers->ms'[0]? = some (some (b,tc))->l.length<=tc->a'.eval (.tmp 0) = .slice (some ⟨b,0,none⟩) l.length tc->a'.eval (.tmp 31) = .bool (decide (i64.wrap ((l.length:Int)+1)>(tc:Int)))->Q .normal a' w') :
  (R8 ff).wpIn (fenceOf none) zn Tryz.prog Q a w:=by
 rw[zwd hp]
 refine y5n ?_
 rw[show List.range (regOps (R8 ff)).size=[0,1,2,3]++[4,5] by cases hp <;> kernel_rfl]
 refine zgl (hs:=[]) (C:=[]) (L1:=[eS sz e l,eS sz e [x]]) (G1:=[(29,[],.ref 0 l.length 0 l.length),(28,[],.d (.i .i64 (i64.wrap ((l.length:Int)+1)))),(27,[],.d (.i .i64 1)),(26,[],.d (.i .i64 (l.length:Int))),
  (7,[],.d (.i .i64 1)),(8,[],.d (.i .i64 (l.length:Int))),(2,[],.ref 1 1 0 1),(1,[],.d (.i .i64 (i:Int))),(0,[],.ref 0 l.length 0 l.length)]) (by cases hp <;> kernel_rfl) trivial hr hf hN fun f ms1 w1 r1 e1 c1 f1 n1 d1=>?_
 have k1:=IsV.is1 rfl sj sj (z5o f1 (t:=29) (v:=.ref 0 l.length 0 l.length) sj)
 have k0:=IsV.is1 rfl sj sj (z5o f1 (t:=0) (v:=.ref 0 l.length 0 l.length) sj)
 have at0:∀ {t:Nat} {v:Value},f.tmps.getD t undef=v->AV.Is (cxOf X ms1 [eS sz e l,eS sz e [x]] w1) (.ref 0 l.length 0 l.length) [v]->∃ b tc,ms1[0]? = some (some (b,tc))/\l.length<=tc/\v = .slice (some ⟨b,0,none⟩) l.length tc:=fun {t v} _ h=>by
  cases h with
  | ref _ _ _ _ _ h =>
  obtain⟨_,⟨_,_,rfl⟩,_,h⟩:=h
  obtain⟨_,h⟩:=h sz _ rfl
  rcases h with ⟨_,_,h⟩ | ⟨h,_⟩ | ⟨b,tc,m,h1,h2⟩
  ·simp only[y38] at h; omega
  ·exact absurd rfl h
  ·exact⟨b,tc,m,h1,by simpa using h2⟩
 obtain⟨b,tc,m1,hle,h29⟩:=at0 rfl k1
 obtain⟨b',tc',m1',_,h0'⟩:=at0 rfl k0
 have e1':=m1'.symm.trans m1
 cases e1'
 refine zlo (o:=opAt (regOps (R8 ff)) 4) (by cases hp <;> kernel_rfl) (by cases hp <;> kernel_rfl) (OpOk.value (ztn (x:=.tmp 29) (t:=tS) (by cases hp <;> kernel_rfl) hp.uS h29) ?_)
 rw[show (opAt (regOps (R8 ff)) 4).dst=some 30 by cases hp <;> kernel_rfl]
 obtain⟨g,j,k⟩:=z5k (dst:=some 30) (ch:=[]) (v:=.d (.i .i64 (tc:Int))) (u:=.int .i64 tc) (G:=[(29,[],.ref 0 l.length 0 l.length),(28,[],.d (.i .i64 (i64.wrap ((l.length:Int)+1)))),(27,[],.d (.i .i64 1)),(26,[],.d (.i .i64 (l.length:Int))),
  (7,[],.d (.i .i64 1)),(8,[],.d (.i .i64 (l.length:Int))),(2,[],.ref 1 1 0 1),(1,[],.d (.i .i64 (i:Int))),(0,[],.ref 0 l.length 0 l.length)]) (G1:=(30,[],.d (.i .i64 (tc:Int))) :: [(29,[],.ref 0 l.length 0 l.length),(28,[],.d (.i .i64 (i64.wrap ((l.length:Int)+1)))),(27,[],.d (.i .i64 1)),(26,[],.d (.i .i64 (l.length:Int))),
  (7,[],.d (.i .i64 1)),(8,[],.d (.i .i64 (l.length:Int))),(2,[],.ref 1 1 0 1),(1,[],.d (.i .i64 (i:Int))),(0,[],.ref 0 l.length 0 l.length)]) (N:=ff.ntmps) (by cases hp <;> kernel_rfl) n1 f1 (fun _=>.one _ _ rfl (.d _ _ (.i _ _))) (fun h=>absurd (fun z hz=>by cases hz) h)
 refine z2r (hs:=[]) none zn [5] _ _ ([(31,[],.d (.b (decide (i64.wrap ((l.length:Int)+1)>(tc:Int)))))]++(30,[],.d (.i .i64 (tc:Int))) :: [(29,[],.ref 0 l.length 0 l.length),(28,[],.d (.i .i64 (i64.wrap ((l.length:Int)+1)))),(27,[],.d (.i .i64 1)),(26,[],.d (.i .i64 (l.length:Int))),
  (7,[],.d (.i .i64 1)),(8,[],.d (.i .i64 (l.length:Int))),(2,[],.ref 1 1 0 1),(1,[],.d (.i .i64 (i:Int))),(0,[],.ref 0 l.length 0 l.length)]) [eS sz e l,eS sz e [x]] [] ms1 w1 _ (by cases hp <;> kernel_rfl) trivial r1 g j fun c ms2 w2 r2 e2 c2 f2 n2 d2=>?_
 have m2:ms2[0]? = some (some (b,tc)):=by
  obtain⟨_,h1,_,_,h2⟩:=c2.ob 0 (eS sz e l) (by simp[cxOf]) rfl (by simp[eS,Ob.stamp])
  obtain rfl:_=eS sz e l:=yw h1.symm
  exact (h2 rfl).trans m1
 have k0':=IsV.is1 rfl sj sj (z5o f2 (t:=0) (v:=.ref 0 l.length 0 l.length) sj)
 have h0'':c.tmps.getD 0 undef = .slice (some ⟨b,0,none⟩) l.length tc:=by
  generalize c.tmps.getD 0 undef=v at k0'
  cases k0' with
  | ref _ _ _ _ _ h =>
  obtain⟨_,⟨_,_,rfl⟩,_,h⟩:=h
  obtain⟨_,h⟩:=h sz _ rfl
  rcases h with ⟨_,_,h⟩ | ⟨h,_⟩ | ⟨b'',tc'',m,h1,h2⟩
  ·simp only[y38] at h; omega
  ·exact absurd rfl h
  ·have e:=m2.symm.trans m
   cases e
   simpa using h2
 exact hQ c ms2 w2 b tc r2 (e1.trans e2) (c1.trans c2) (fun q hq=>f2 q (by
  simp only[frI,Fr.up,y3m,List.map_nil,y14,y2s,y4h] at hq
  rcases hq with rfl | rfl | rfl | rfl | rfl <;> simp)) n2 (d2.trans (k.trans d1)) m2 hle h0'' (IsV.b (z5o f2 (t:=31) (v:=.d (.b (decide (i64.wrap ((l.length:Int)+1)>(tc:Int))))) sj))
theorem zwg (hp:PP ff fo nf no tS tE sz bt) {l:List α} {x:α} (hi:i<l.length) (hl:(l.length+1) * (4 * bt)<=2 ^ 48) {b:Nat} (hr:Rel X ms [eS sz e l,eS sz e [x]] w) (hf:FrIs (cxOf X ms [eS sz e l,eS sz e [x]] w) (frI l.length i (.ref 0 l.length 0 l.length)).up a.tmps) (hN:a.tmps.size=ff.ntmps) (hm:ms[0]? = some (some (b,l.length))) (hQ:∀ a' ms' w',Rel X ms' [eS sz e l,eS sz e [x],.seq sz (l.length+1) (gB sz e l i)] w'->Ext ms w ms' w'->(cxOf X ms [eS sz e l,eS sz e [x]] w).le (cxOf X ms' [eS sz e l,eS sz e [x],.seq sz (l.length+1) (gB sz e l i)] w') ->
   FrIs (cxOf X ms' [eS sz e l,eS sz e [x],.seq sz (l.length+1) (gB sz e l i)] w') (Fr.up ((9,.ref 2 (l.length+1) 0 (l.length+1)) :: frI l.length i (.ref 0 l.length 0 l.length))) a'.tmps ->
   a'.tmps.size=ff.ntmps->a'.defers=a.defers->Q .normal a' w') :
  (R9 ff).wpIn (fenceOf none) zn Tryz.prog Q a w:=by
 have hn:l.length<100000000000000:=by cases hp <;> omega
 have hw2:i64.wrap ((l.length:Int)+1)=(l.length:Int)+1:=by rw[z3n] <;> omega
 have hw3:i64.wrap (i64.wrap ((l.length:Int)+1)-(i:Int))=((l.length+1-i:Nat):Int):=by rw[hw2,z3n] <;> omega
 rw[zwe hp]
 refine y5n ?_
 rw[show List.range (regOps (R9 ff)).size=[0,1,2,3,4,5,6,7]++[8,9] by cases hp <;> kernel_rfl]
 refine zgl (hs:=[]) (C:=[(0:Int)<=(i:Int),i<=l.length,l.length=l.length]) (L1:=[eS sz e l,eS sz e [x]]) (G1:=[(39,[],.d (.i .i64 (i64.wrap (i64.wrap ((l.length:Int)+1)-(i:Int))))),(38,[],.d (.i .i64 (i:Int))),(37,[],.d (.i .i64 (i64.wrap ((l.length:Int)+1)))),
  (36,[],.d (.i .i64 1)),(35,[],.d (.i .i64 (l.length:Int))),(34,[],.ref 0 l.length (0+0) (i-0)),(33,[],.d (.i .i64 (i:Int))),(32,[],.ref 0 l.length 0 l.length),
  (7,[],.d (.i .i64 1)),(8,[],.d (.i .i64 (l.length:Int))),(2,[],.ref 1 1 0 1),(1,[],.d (.i .i64 (i:Int))),(0,[],.ref 0 l.length 0 l.length)]) (by cases hp <;> kernel_rfl) ⟨om,om,rfl,trivial⟩ hr hf hN fun f ms1 w1 r1 e1 c1 f1 n1 d1=>?_
 have m1:ms1[0]? = some (some (b,l.length)):=by
  obtain⟨_,h1,_,_,h2⟩:=c1.ob 0 (eS sz e l) (by simp[cxOf]) rfl (by simp[eS,Ob.stamp])
  obtain rfl:_=eS sz e l:=yw h1.symm
  exact (h2 rfl).trans hm
 have k34:=IsV.is1 rfl sj sj (z5o f1 (t:=34) (v:=.ref 0 l.length (0+0) (i-0)) sj)
 have h34:f.eval (.tmp 34) = .slice (some ⟨b,0,none⟩) i l.length:=by
  show f.tmps.getD 34 undef=_
  generalize f.tmps.getD 34 undef=v at k34
  cases k34 with
  | ref _ _ _ _ _ h =>
  obtain⟨_,⟨_,_,rfl⟩,_,h⟩:=h
  obtain⟨_,h⟩:=h sz _ rfl
  rcases h with ⟨h,_⟩ | ⟨h,_⟩ | ⟨b'',tc'',m,h1,h2⟩
  ·have e:some (none:Option (Nat×Nat))=some (some (b,l.length)):=h.symm.trans m1
   cases e
  ·exact absurd rfl h
  ·have e:=m1.symm.trans m
   cases e
   simpa using h2
 have h39:f.eval (.tmp 39) = .int .i64 ((l.length+1-i:Nat):Int):=by
  have:=IsV.i (z5o f1 (t:=39) (v:=.d (.i .i64 (i64.wrap (i64.wrap ((l.length:Int)+1)-(i:Int))))) sj)
  rw[hw3] at this
  exact this
 obtain⟨arr,ty,cs,g1,g2,g3,g4,g5,g6⟩:=r1.seq (o:=0) rfl m1
 obtain⟨info,hinf⟩:∃ info,Tryz.prog.info? tE=some info:=⟨_,Option.eq_some_of_isSome (by cases hp <;> kernel_rfl)⟩
 have hsz:info.size=sz:=by
  have:(Tryz.prog.info? tE).map (·.size)=some sz:=by cases hp <;> kernel_rfl
  rw[hinf] at this; simpa using this
 have hby:info.bytes=bt:=by
  have:(Tryz.prog.info? tE).map (·.bytes)=some bt:=by cases hp <;> kernel_rfl
  rw[hinf] at this; simpa using this
 obtain⟨z,hz⟩:∃ z,info.zero=some z:=by
  have:((Tryz.prog.info? tE).bind (·.zero)).isSome=true:=by cases hp <;> kernel_rfl
  rw[hinf] at this
  exact y31.1 this
 have hzs:z.cells.size=sz:=by
  have:((Tryz.prog.info? tE).bind (·.zero)).map (fun z=>z.cells.size)=some sz:=by cases hp <;> kernel_rfl
  rw[hinf] at this
  simpa [hz] using this
 have hzone:∀ v∈z.cells.toList,v.oneCell'=true:=by
  have:((Tryz.prog.info? tE).bind (·.zero)).map (fun z=>z.cells.toList.all fun v=>v.oneCell')=some true:=by cases hp <;> kernel_rfl
  rw[hinf] at this
  have h:z.cells.toList.all (fun v=>v.oneCell')=true:=by simpa [hz] using this
  exact y1p.1 h
 have hcsi:∀ k,k<i->(cs k).length=sz:=fun k hk=>g5 k om
 have hold:(Builtin.firstCells info.size i (.slice (some ⟨b,0,none⟩) i l.length)).run Tryz.prog w1.drew = .ok ((List.range i).flatMap cs).toArray w1.drew:=by
  rw[hsz]
  exact z40 (w:=w1) (w1:=w1.drew) (off:=0) (cap:=l.length) rfl g1 hcsi (fun k hk j hj=>by simpa using g6 k om j hj) i
 have hfit:Builtin.nextslicecap (i+(l.length+1-i)) l.length * info.bytes<=281474976710656:=by
  have h1:=z7q (need:=i+(l.length+1-i)) (old:=l.length) om
  rw[hby]
  cases hp <;> omega
 have hap:=Lib.run_append_grow_zeros (P:=Tryz.prog) w1 tS 3 (opAt (regOps (R9 ff)) 8).type tE info z .i64 .i64 hp.uS Tryz.underlying3 hinf hz (some ⟨b,0,none⟩) i l.length ((List.range i).flatMap cs) hold (l.length+1-i) (by cases hp <;> omega) (by cases hp <;> omega) (by cases hp <;> omega) (by cases hp <;> omega) (by rw[hby]; cases hp <;> omega) hfit
 rw[show i+(l.length+1-i)=l.length+1 from om] at hap
 obtain⟨nc,hnc⟩:∃ nc,nc=grownCap w1 (l.length+1) l.length tE:=⟨_,rfl⟩
 have hge:=grownCap_ge w1 (l.length+1) l.length tE
 rw[<- hnc] at hap hge
 obtain⟨row,hrow⟩:∃ row:Array Value,row=((List.range i).flatMap cs).toArray++Builtin.zeroCells z.cells (l.length+1-i)++Builtin.zeroCells z.cells (nc-(l.length+1)):=⟨_,rfl⟩
 rw[<- hrow] at hap
 have hkl:=ze i sz cs hcsi
 have hrs:row.size=nc * sz:=by
  rw[hrow,y3y,y3y,y2b,hkl,y4v,y4v,hzs]
  cases hp <;> omega
 have hone:∀ v∈row.toList,v.oneCell'=true:=by
  rw[hrow]
  simp only[y3b,y1n]
  rintro v ((hv | hv) | hv)
  ·exact z37 (fun k (hk:k<i)=>g4 k om) v hv
  ·exact z4f hzone _ v hv
  ·exact z4f hzone _ v hv
 have hget:∀ k,k<i->∀ j,j<sz->row[k * sz+j]? = (cs k)[j]? := fun k hk j hj=>by
  rw[hrow,<- y1f]
  simp only[y3b,y2w]
  rw[ym (by rw[hkl]; cases hp <;> omega)]
  exact zh? i sz cs hcsi k j hk hj
 have hcl:∀ j,j<l.length+1->((row.toList.drop (j * sz)).take sz).length=sz:=fun j hj=>by
  simp only[y1h,y2t,y1v,hrs]
  cases hp <;> omega
 obtain⟨w2,hw⟩:∃ w2,w2=w1.drew.alloc (.cells row tE):=⟨_,rfl⟩
 rw[<- hw] at hap
 have hgrow:Grow w1 w2:=by rw[hw]; exact (Grow.drew w1).trans (Grow.alloc _ _)
 have hhp:w2.heap[w1.heap.size]? = some (.cells row tE (0,0)):=by rw[hw]; exact z2i w1.drew _
 have hsize:w1.heap.size<w2.heap.size:=zdp hhp
 obtain⟨q1,q2,q3⟩:=r1.push (m:=some (w1.heap.size,nc)) (obj:=.seq sz (l.length+1) (gB sz e l i)) hgrow (fun b tc e=>by cases e; exact⟨ye _,hsize⟩) (fun hcx=>by
  refine .inr ⟨w1.heap.size,nc,row,tE,fun j=>if j<i then cs j else (row.toList.drop (j * sz)).take sz,by simp[cxOf,<- r1.len],hhp,hge,⟨hrs,hone⟩,fun j hj=>?_,fun j hj=>?_,fun j hj q hq=>?_⟩
  ·by_cases hji:j<i
   ·simp only[gB,y6 hji]; exact (g4 j om).mono hcx
   ·simp only[gB,y5 hji,garb]
    have:=zfc (c:=cxOf X (ms1++[some (w1.heap.size,nc)]) ([eS sz e l,eS sz e [x]]++[.seq sz (l.length+1) (gB sz e l i)]) w2) (l:=(row.toList.drop (j * sz)).take sz) fun v hv=>hone v (y36 (y35 hv))
    rw[hcl j hj] at this
    exact .agg _ _ this
  ·by_cases hji:j<i
   ·simp only[y6 hji]; exact g5 j om
   ·simp only[y5 hji]; exact hcl j hj
  ·by_cases hji:j<i
   ·simp only[y6 hji]; exact hget j hji q hq
   ·simp only[y5 hji]
    rw[y1w hq,y2i,y1f])
 have hexec:(execOp f.eval (opAt (regOps (R9 ff)) 8)).run Tryz.prog w1 = .ok (.value (.slice (some ⟨w1.heap.size,0,none⟩) (l.length+1) nc)) w2:=by
  have hop:(opAt (regOps (R9 ff)) 8).op = .call ⟨.builtin .append,#[.tmp 34,.tmp 39],#[tS,3]⟩:=by cases hp <;> kernel_rfl
  generalize opAt (regOps (R9 ff)) 8=o at hop hap
  obtain⟨dst,op,ty,pos,after,guard⟩:=o
  subst hop
  refine z17 (s:=Builtin.append_ #[tS,3] ty (#[.tmp 34,.tmp 39].map f.eval)) ?_
  have ha:(#[.tmp 34,.tmp 39]:Array Operand).map f.eval = #[.slice (some ⟨b,0,none⟩) i l.length,.int .i64 ((l.length+1-i:Nat):Int)]:=by
   simp[h34,h39]
  rw[ha]
  exact hap
 refine zlo (o:=opAt (regOps (R9 ff)) 8) (by cases hp <;> kernel_rfl) (by cases hp <;> kernel_rfl) (OpOk.value hexec ?_)
 rw[show (opAt (regOps (R9 ff)) 8).dst=some 40 by cases hp <;> kernel_rfl]
 obtain⟨g,n,p⟩:=z5k (dst:=some 40) (ch:=[]) (v:=.ref 2 (l.length+1) 0 (l.length+1)) (u:=.slice (some ⟨w1.heap.size,0,none⟩) (l.length+1) nc) (G:=(frI l.length i (.ref 0 l.length 0 l.length)).up)
  (G1:=(40,[],.ref 2 (l.length+1) 0 (l.length+1)) :: (frI l.length i (.ref 0 l.length 0 l.length)).up) (N:=ff.ntmps) (by cases hp <;> kernel_rfl) n1 (fun q hq=>(f1.mono q3) q (by
  simp only[frI,Fr.up,y3m,List.map_nil,y14,y2s,y4h] at hq
  rcases hq with rfl | rfl | rfl | rfl | rfl <;> simp)) (fun _=>z8j r1.len hge) (fun h=>absurd (fun z hz=>by cases hz) h)
 refine z2r (hs:=[]) none zn [9] _ _ ((9,[],.ref 2 (l.length+1) 0 (l.length+1)) :: (40,[],.ref 2 (l.length+1) 0 (l.length+1)) :: (frI l.length i (.ref 0 l.length 0 l.length)).up) [eS sz e l,eS sz e [x],.seq sz (l.length+1) (gB sz e l i)] [] _ w2 _ (by cases hp <;> kernel_rfl) trivial q1 g n fun r ms2 w3 r2 e2 c2 f2 n2 d2=>?_
 exact hQ r ms2 w3 r2 ((e1.trans q2).trans e2) ((c1.trans q3).trans c2) (fun q hq=>f2 q (by
  rcases y14.1 (show q∈(9,[],AV.ref 2 (l.length+1) 0 (l.length+1)) :: (frI l.length i (.ref 0 l.length 0 l.length)).up from hq) with hq | hq
  ·exact y14.2 (.inl hq)
  ·exact y14.2 (.inr (y14.2 (.inr hq))))) n2 (d2.trans (p.trans d1))
theorem regc {N:Nat} {Q:Post} {fr fr' fr2:Fr} {L L':List Ob} {id:Nat} {c:Code} {C:List Prop} (hq:c = .region id (regOps c) false) (h:regionRun Tryz.prog (regOps c) N [] fr L=some (fr',L',C)) (hc:AllP C)
  (hm:∀ q∈fr2,q∈fr') (k:Q .normal fr2 L'):AW none Tryz.prog N c Q fr L:=by
 have:=zto (id:=id) (Q:=Q) h hc hm k
 rwa [<- hq] at this
theorem head (hp:PP ff fo nf no tS tE sz bt) (_he:∀ x,(e x).wd=sz) {l:List α} {x:α} (hi:i<l.length) (Q:Post) (h:AW none Tryz.prog ff.ntmps (.seq (.seq (R8 ff) (.cond (.tmp 31) (.seq (R9 ff) (B10 ff)) .skip)) (C13 ff)) Q (frI l.length i (.ref 0 l.length 0 l.length)) [eS sz e l,eS sz e [x]]) :
  AW none Tryz.prog ff.ntmps (.seq (R0 ff) (.seq (R1 ff) (.seq (R2 ff) (.seq (.seq (cL (X3 ff)) (.cond (.tmp 16) (cT (cR (X3 ff))) .skip)) (.seq (R5 ff) (.seq (.seq (cL (X6 ff)) (.cond (.tmp 22) (cT (cR (X6 ff))) .skip)) (.seq (.seq (R8 ff) (.cond (.tmp 31) (.seq (R9 ff) (B10 ff)) .skip)) (C13 ff)))))))) Q
   (argFr [.ref 0 l.length 0 l.length,.d (.i .i64 (i:Int)),.ref 1 1 0 1] 0) [eS sz e l,eS sz e [x]]:=by
 have hne:((i:Int)==(l.length:Int))=false:=sk
 refine z52 (regc (L':=[eS sz e l,eS sz e [x]]) (id:=0) (C:=[]) (fr':=(6,.full 0 fun _=>.b false) :: argFr [.ref 0 l.length 0 l.length,.d (.i .i64 (i:Int)),.ref 1 1 0 1] 0) (fr2:=argFr [.ref 0 l.length 0 l.length,.d (.i .i64 (i:Int)),.ref 1 1 0 1] 0)
  (by cases hp <;> kernel_rfl) (by cases hp <;> kernel_rfl) trivial (fun q hq=>y1c _ hq) ?_)
 refine z52 (regc (L':=[eS sz e l,eS sz e [x]]) (id:=1) (C:=[(0:Int)<=(i:Int),i<=l.length,l.length=l.length]) (fr':=(12,.ref 0 l.length (0+i) (l.length-i)) :: (11,.d (.i .i64 (i:Int))) :: (10,.ref 0 l.length 0 l.length) :: argFr [.ref 0 l.length 0 l.length,.d (.i .i64 (i:Int)),.ref 1 1 0 1] 0)
  (fr2:=argFr [.ref 0 l.length 0 l.length,.d (.i .i64 (i:Int)),.ref 1 1 0 1] 0)
  (by cases hp <;> kernel_rfl) (by cases hp <;> kernel_rfl) ⟨om,om,rfl,trivial⟩ (fun q hq=>y1c _ (y1c _ (y1c _ hq))) ?_)
 refine z52 (regc (L':=[eS sz e l,eS sz e [x]]) (id:=2) (C:=[]) (fr':=(7,.d (.i .i64 1)) :: (14,.d (.i .i64 1)) :: (13,.ref 1 1 0 1) :: argFr [.ref 0 l.length 0 l.length,.d (.i .i64 (i:Int)),.ref 1 1 0 1] 0)
  (fr2:=[(7,.d (.i .i64 1)),(2,.ref 1 1 0 1),(1,.d (.i .i64 (i:Int))),(0,.ref 0 l.length 0 l.length)])
  (by cases hp <;> kernel_rfl) (by cases hp <;> kernel_rfl) trivial (fun q hq=>by
   simp only[y14,y2s,y4h] at hq
   simp only[argFr,y14,y2s,y4h]
   rcases hq with rfl | rfl | rfl | rfl <;> simp) ?_)
 refine z52 (z52 (regc (L':=[eS sz e l,eS sz e [x]]) (id:=3) (C:=[]) (fr':=(16,.d (.b false)) :: (15,.d (.i .i64 1)) :: [(7,.d (.i .i64 1)),(2,.ref 1 1 0 1),(1,.d (.i .i64 (i:Int))),(0,.ref 0 l.length 0 l.length)])
  (fr2:=[(16,.d (.b false)),(7,.d (.i .i64 1)),(2,.ref 1 1 0 1),(1,.d (.i .i64 (i:Int))),(0,.ref 0 l.length 0 l.length)])
  (by cases hp <;> kernel_rfl) (by cases hp <;> kernel_rfl) trivial (fun q hq=>by
   simp only[y14,y2s,y4h] at hq |-
   rcases hq with rfl | rfl | rfl | rfl | rfl <;> simp) ?_))
 refine zbo (b:=false) rfl (fun h=>by cases h) fun _=>zf2 ?_
 refine z52 (regc (L':=[eS sz e l,eS sz e [x]]) (id:=5) (C:=[]) (fr':=(8,.d (.i .i64 (l.length:Int))) :: (19,.d (.i .i64 (l.length:Int))) :: (18,.ref 0 l.length 0 l.length) :: [(16,.d (.b false)),(7,.d (.i .i64 1)),(2,.ref 1 1 0 1),(1,.d (.i .i64 (i:Int))),(0,.ref 0 l.length 0 l.length)])
  (fr2:=frI l.length i (.ref 0 l.length 0 l.length))
  (by cases hp <;> kernel_rfl) (by cases hp <;> kernel_rfl) trivial (fun q hq=>by
   simp only[frI,y14,y2s,y4h] at hq |-
   rcases hq with rfl | rfl | rfl | rfl | rfl <;> simp) ?_)
 refine z52 (z52 (regc (L':=[eS sz e l,eS sz e [x]]) (id:=6) (C:=[]) (fr':=(22,.d (.b ((i:Int)==(l.length:Int)))) :: (21,.d (.i .i64 (l.length:Int))) :: (20,.d (.i .i64 (i:Int))) :: frI l.length i (.ref 0 l.length 0 l.length))
  (fr2:=(22,.d (.b ((i:Int)==(l.length:Int)))) :: frI l.length i (.ref 0 l.length 0 l.length))
  (by cases hp <;> kernel_rfl) (by cases hp <;> kernel_rfl) trivial (fun q hq=>by
   rcases y14.1 hq with rfl | hq
   ·exact y1u
   ·exact y1c _ (y1c _ (y1c _ hq))) ?_))
 refine zbo (b:=((i:Int)==(l.length:Int))) rfl (fun h=>by rw[hne] at h; cases h) fun _=>zf2 ?_
 exact zoc h fun q hq=>⟨q.2,y1c _ hq,LeV.refl _⟩
theorem zwh (hp:PP ff fo nf no tS tE sz bt) (he:∀ x,(e x).wd=sz) {l:List α} {x:α} (hi:i<l.length) (hl:(l.length+1) * (4 * bt)<=2 ^ 48) :
  AW none Tryz.prog ff.ntmps (.seq (.seq (R8 ff) (.cond (.tmp 31) (.seq (R9 ff) (B10 ff)) .skip)) (C13 ff))
   (fun e1 fr L=>FQ Tryz.prog ff (.ref 0 (l.length+1) 0 (l.length+1)) [eS sz e (insL l i x),eS sz e [x]] e1 fr L \/
    FQ Tryz.prog ff (.ref 2 (l.length+1) 0 (l.length+1)) [eS sz e l,eS sz e [x],eS sz e (insL l i x)] e1 fr L)
   (frI l.length i (.ref 0 l.length 0 l.length)) [eS sz e l,eS sz e [x]]:=by
 have hn:l.length<100000000000000:=by cases hp <;> omega
 have hw2:i64.wrap ((l.length:Int)+1)=(l.length:Int)+1:=by rw[z3n] <;> omega
 intro zn df X ms w a hr hf hN hd
 refine y54 (y54 (zwf hp om hr hf hN fun c ms1 w1 b tc r1 e1 c1 f1 n1 d1 m1 hle h0e h31=>?_))
 by_cases hcap:l.length+1<=tc
 ·refine wpIn_cond_false (h31.trans (by rw[hw2]; simp; omega)) (wpIn_skip ?_)
  obtain⟨q1,q3⟩:=r1.room (o:=0) (n':=l.length+1) rfl m1 om hcap
  refine y2p (tailC hp he hi hn zn df X ms1 w1 c q1 (fun q hq=>?_) n1 (d1.trans hd)) ?_
  ·simp only[frI,Fr.up,y3m,List.map_nil,y14,y2s,y4h] at hq
   have f1':=f1.mono q3
   rcases hq with rfl | rfl | rfl | rfl | rfl
   ·exact f1' _ (by simp[frI,Fr.up])
   ·exact f1' _ (by simp[frI,Fr.up])
   ·exact f1' _ (by simp[frI,Fr.up])
   ·exact f1' _ (by simp[frI,Fr.up])
   ·obtain⟨s1,s2,s3⟩:=f1 (0,[],.ref 0 l.length 0 l.length) (by simp[frI,Fr.up])
    refine⟨s1,fun _=>?_,s3⟩
    have h0e':c.tmps.getD 0 undef = .slice (some ⟨b,0,none⟩) l.length tc:=h0e
    rw[h0e']
    refine .one _ _ rfl (.ref _ _ _ _ _ ⟨by simp[cxOf],⟨_,_,rfl⟩,fun obj s ho hs=>?_,fun sz' f' hL'=>⟨om,.inr (.inr ⟨b,tc,m1,hcap,sj⟩)⟩⟩)
    obtain rfl:=yw ho
    simp[Ob.stamp] at hs; omega
  ·rintro e2 d w2 ⟨ms2,fr2,L2,hq,r2,e3,c3,f3,n3,d3⟩
   exact⟨ms2,fr2,L2,.inl hq,r2,e1.trans e3,(c1.trans q3).trans c3,f3,n3,d3⟩
 ·have htc:tc=l.length:=om
  subst htc
  refine wpIn_cond_true (h31.trans (by rw[hw2]; simp; omega)) (y54 (zwg hp hi hl r1 f1 n1 m1 fun d ms2 w2 r2 e2 c2 f2 n2 d2=>?_))
  refine y2p (tailB hp he hi hn zn df X ms2 w2 d r2 f2 n2 ((d2.trans d1).trans hd)) ?_
  rintro e3 f w3 ⟨ms3,fr3,L3,⟨rfl,hq⟩,r3,e3,c3,f3,n3,d3⟩
  exact⟨ms3,fr3,L3,.inr ⟨.inr rfl,hq⟩,r3,(e1.trans e2).trans e3,(c1.trans c2).trans c3,f3,n3,d3⟩
theorem zvi (hp:PP ff fo nf no tS tE sz bt) (he:∀ x,(e x).wd=sz) {l:List α} {x:α} (hi:i<l.length) (hl:(l.length+1) * (4 * bt)<=2 ^ 48) :
  CallOk Tryz.prog nf [.ref 0 l.length 0 l.length,.d (.i .i64 (i:Int)),.ref 1 1 0 1] [eS sz e l,eS sz e [x]] (.ref 0 (l.length+1) 0 (l.length+1)) [eS sz e (insL l i x),eS sz e [x]]:=by
 intro X ms w us hr hu
 have hlen:=zq (l:=l) (i:=i) (x:=x)
 refine (zrg (L:=[eS sz e l,eS sz e [x]]) (v:=.ref 0 (l.length+1) 0 (l.length+1)) (v3:=.ref 2 (l.length+1) 0 (l.length+1)) hp.fF (zst hp) (y2z (by cases hp <;> kernel_rfl)) sj rfl (lsOk (n:=2) (L:=[eS sz e (insL l i x),eS sz e [x]]) ⟨fun _ _=>rfl,fun _ _=>rfl,trivial⟩)
  sj rfl (lsOk (n:=3) (L:=[eS sz e l,eS sz e [x],eS sz e (insL l i x)]) ⟨fun _ _=>rfl,fun _ _=>rfl,fun _ _=>rfl,trivial⟩) (head hp (x:=x) he hi _ (zwh hp he hi hl)) hr hu).mono fun e1 w1 h=>?_
 rcases h with h | ⟨u,ms1,rfl,h1,h2,h3,h4⟩
 ·exact h
 ·rw[<- hlen] at h4 |-
  obtain⟨ms2,k1,k2,k3,k4⟩:=third hr hlen h1 h2 h3 h4
  exact⟨u,ms2,rfl,k1,k2,k3,k4⟩
noncomputable def sE (sz bt:Nat) (l:List α) (x:α) (a:(0:Int)<=(l.length:Int)) (b:l.length<=l.length) (c:((l.length:Int)==(l.length:Int))=true)
  (hx:∀ k,k<1->(AV.d (e ([x].getD k dF))).wd=sz) (hs:(l.length+1) * (2 * bt)<=2 ^ 48)
  (ho:OLe (.seq sz (l.length+1) (catF l.length (fun j=>.d (e (l.getD j dF))) (fun j=>.d (e ([x].getD j dF))))) (eS sz e (insL l l.length x))):SC Unit Unit :=
 .reg 0 [] [] [] <|
 .reg 1 [] [] [.pf a,.pf b,.pf (y2d l.length)] <|
 .reg 2 [] [] [] <|
 .reg 3 [] [] [] <|
 .br false (.pf (p:=((1:Int)==0)=false) dk) <|
 .reg 5 [] [] [] <|
 .reg 6 [] [] [] <|
 .br true (.pf c) <|
 .reg 7 [] [(2,{ obs:=[(0,eS sz e (insL l l.length x))] })] [.pf (y2d 1),.pf (y2d l.length),.pf (y2d l.length),.pf hx,.pf hs,.pf ho] <|
 .ret [] ()
set_option maxRecDepth 100000 in
theorem zvj (hp:PP ff fo nf no tS tE sz bt) (he:∀ x,(e x).wd=sz) {l:List α} {x:α} (hl:(l.length+1) * (4 * bt)<=2 ^ 48) :
  CallOk Tryz.prog nf [.ref 0 l.length 0 l.length,.d (.i .i64 (l.length:Int)),.ref 1 1 0 1] [eS sz e l,eS sz e [x]] (.ref 0 (l.length+1) 0 (l.length+1)) [eS sz e (insL l l.length x),eS sz e [x]] :=
 fOk (ρ:=Unit) (V:=fun _=>.ref 0 (l.length+1) 0 (l.length+1)) (Lr:=fun _=>[eS sz e (insL l l.length x),eS sz e [x]]) (r:=())
  (s:=sE (e:=e) sz bt l x om (ye _) sj (fun k _=>he _) (by cases hp <;> omega) (by
   refine z3g zq.symm fun j hj=>?_
   rw[z1s (ye _)]
   by_cases h1:j<l.length
   ·rw[z1t h1,y6 h1]
   ·have h2:j=l.length:=om
    subst h2
    rw[z2d om,y5 om,y6 rfl,Nat.sub_self]
    rfl)) hp.fF (zst hp) (by cases hp <;> kernel_rfl) rfl
theorem ins_ok (hp:PP ff fo nf no tS tE sz bt) (he:∀ x,(e x).wd=sz) {l:List α} {x:α} (hi:i<=l.length) (hl:(l.length+1) * (4 * bt)<=2 ^ 48) :
  CallOk Tryz.prog nf [.ref 0 l.length 0 l.length,.d (.i .i64 (i:Int)),.ref 1 1 0 1] [eS sz e l,eS sz e [x]] (.ref 0 (insL l i x).length 0 (insL l i x).length) [eS sz e (insL l i x),eS sz e [x]]:=by
 rw[zq]
 rcases y10 i l.length with h | h
 ·exact zvi hp he h hl
 ·obtain rfl:i=l.length:=om
  exact zvj hp he hl
end
end InsG
end Go.Proofs.YtgbpiaddmclccaaGreatDoor
/- The shapes of data. No condition. -/
namespace Go.Proofs.YtgbpiaddmclccaaGreatDoor
open Go Go.TA
open Go.IntKind (i64)
abbrev Z0:DV:=DV.sl 0 fun _=>DV.b false
structure TPo where
 B:Y8
 D:Int
 T:Int
 A:(List Int)
 G:(List Int)
 F:(List Int)
 M:(List Int)
 deriving Inhabited
def TPo.e (x:TPo):DV:=.agg [(DV.str x.B),(DV.i .i64 x.D),(DV.i .i64 x.T),(eL (DV.i .i64) x.A),(eL (DV.i .i64) x.G),(eL (DV.i .i64) x.F),(eL (DV.i .i64) x.M)]
abbrev TPo.d (x:TPo):AV:=AV.d (TPo.e x)
abbrev TPo.b (x:TPo):Ob:=bx (TPo.e x)
structure TTr where
 P:Int
 E:(List TPo)
 deriving Inhabited
def TTr.e (x:TTr):DV:=.agg [(DV.i .i64 x.P),(eL TPo.e x.E)]
abbrev TTr.d (x:TTr):AV:=AV.d (TTr.e x)
abbrev TTr.b (x:TTr):Ob:=bx (TTr.e x)
structure TOp where
 U:Int
 B:Y8
 D:Int
 Ab:Int
 Of:Int
 V:Int
 Ah:Int
 Ai:Int
 A:Int
 Ae:Int
 deriving Inhabited
def TOp.e (x:TOp):DV:=.agg [(DV.i .i64 x.U),(DV.str x.B),(DV.i .i64 x.D),(DV.i .i64 x.Ab),(DV.i .i64 x.Of),(DV.i .i64 x.V),(DV.i .i64 x.Ah),(DV.i .i64 x.Ai),(DV.i .i64 x.A),(DV.i .i64 x.Ae)]
abbrev TOp.d (x:TOp):AV:=AV.d (TOp.e x)
abbrev TOp.b (x:TOp):Ob:=bx (TOp.e x)
structure TJo where
 Z:Int
 N:(List TOp)
 Af:Int
 deriving Inhabited
def TJo.e (x:TJo):DV:=.agg [(DV.i .i64 x.Z),(eL TOp.e x.N),(DV.i .i64 x.Af)]
abbrev TJo.d (x:TJo):AV:=AV.d (TJo.e x)
abbrev TJo.b (x:TJo):Ob:=bx (TJo.e x)
structure TMe where
 Aa:Int
 To:Int
 B:Y8
 D:Int
 A:Int
 F:Int
 Q:Int
 M:Int
 deriving Inhabited
def TMe.e (x:TMe):DV:=.agg [(DV.i .i64 x.Aa),(DV.i .i64 x.To),(DV.str x.B),(DV.i .i64 x.D),(DV.i .i64 x.A),(DV.i .i64 x.F),(DV.i .i64 x.Q),(DV.i .i64 x.M)]
abbrev TMe.d (x:TMe):AV:=AV.d (TMe.e x)
abbrev TMe.b (x:TMe):Ob:=bx (TMe.e x)
structure TWo where
 I:TTr
 K:(List TJo)
 O:(List TMe)
 deriving Inhabited
def TWo.e (x:TWo):DV:=.agg [(TTr.e x.I),(eL TJo.e x.K),(eL TMe.e x.O)]
abbrev TWo.d (x:TWo):AV:=AV.d (TWo.e x)
abbrev TWo.b (x:TWo):Ob:=bx (TWo.e x)
structure TLi where
 B:Y8
 D:Int
 V:Int
 deriving Inhabited
def TLi.e (x:TLi):DV:=.agg [(DV.str x.B),(DV.i .i64 x.D),(DV.i .i64 x.V)]
abbrev TLi.d (x:TLi):AV:=AV.d (TLi.e x)
abbrev TLi.b (x:TLi):Ob:=bx (TLi.e x)
structure TTape where
 l:(List Int)
 at_:Int
 deriving Inhabited
def TTape.e (x:TTape):DV:=.agg [(eL (DV.i .i64) x.l),(DV.i .i64 x.at_)]
abbrev TTape.d (x:TTape):AV:=AV.d (TTape.e x)
abbrev TTape.b (x:TTape):Ob:=bx (TTape.e x)
structure TSt where
 U:Int
 Z:Int
 Op:TOp
 B:Y8
 D:Int
 V:Int
 Aj:Int
 deriving Inhabited
def TSt.e (x:TSt):DV:=.agg [(DV.i .i64 x.U),(DV.i .i64 x.Z),(TOp.e x.Op),(DV.str x.B),(DV.i .i64 x.D),(DV.i .i64 x.V),(DV.i .i64 x.Aj)]
abbrev TSt.d (x:TSt):AV:=AV.d (TSt.e x)
abbrev TSt.b (x:TSt):Ob:=bx (TSt.e x)
structure TRe where
 S:Int
 B:Y8
 D:Int
 Ab:Int
 V:Int
 Ad:Int
 deriving Inhabited
def TRe.e (x:TRe):DV:=.agg [(DV.i .i64 x.S),(DV.str x.B),(DV.i .i64 x.D),(DV.i .i64 x.Ab),(DV.i .i64 x.V),(DV.i .i64 x.Ad)]
abbrev TRe.d (x:TRe):AV:=AV.d (TRe.e x)
abbrev TRe.b (x:TRe):Ob:=bx (TRe.e x)
structure TCo where
 S:Int
 Y:Int
 Ab:Int
 V:Int
 Ad:Int
 Ah:Int
 Ai:Int
 deriving Inhabited
def TCo.e (x:TCo):DV:=.agg [(DV.i .i64 x.S),(DV.i .i64 x.Y),(DV.i .i64 x.Ab),(DV.i .i64 x.V),(DV.i .i64 x.Ad),(DV.i .i64 x.Ah),(DV.i .i64 x.Ai)]
abbrev TCo.d (x:TCo):AV:=AV.d (TCo.e x)
abbrev TCo.b (x:TCo):Ob:=bx (TCo.e x)
structure TVe where
 S:Int
 Ac:Int
 Ab:Int
 V:Int
 deriving Inhabited
def TVe.e (x:TVe):DV:=.agg [(DV.i .i64 x.S),(DV.i .i64 x.Ac),(DV.i .i64 x.Ab),(DV.i .i64 x.V)]
abbrev TVe.d (x:TVe):AV:=AV.d (TVe.e x)
abbrev TVe.b (x:TVe):Ob:=bx (TVe.e x)
structure TOr where
 S:Int
 X:Int
 Ak:Int
 Ab:Int
 Al:Bool
 deriving Inhabited
def TOr.e (x:TOr):DV:=.agg [(DV.i .i64 x.S),(DV.i .i64 x.X),(DV.i .i64 x.Ak),(DV.i .i64 x.Ab),(DV.b x.Al)]
abbrev TOr.d (x:TOr):AV:=AV.d (TOr.e x)
abbrev TOr.b (x:TOr):Ob:=bx (TOr.e x)
structure TBo where
 C:(List TRe)
 H:(List TCo)
 J:(List TVe)
 W:(List TOr)
 deriving Inhabited
def TBo.e (x:TBo):DV:=.agg [(eL TRe.e x.C),(eL TCo.e x.H),(eL TVe.e x.J),(eL TOr.e x.W)]
abbrev TBo.d (x:TBo):AV:=AV.d (TBo.e x)
abbrev TBo.b (x:TBo):Ob:=bx (TBo.e x)
structure TRi where
 B:Y8
 D:Int
 A:Int
 F:Int
 Q:Int
 deriving Inhabited
def TRi.e (x:TRi):DV:=.agg [(DV.str x.B),(DV.i .i64 x.D),(DV.i .i64 x.A),(DV.i .i64 x.F),(DV.i .i64 x.Q)]
abbrev TRi.d (x:TRi):AV:=AV.d (TRi.e x)
abbrev TRi.b (x:TRi):Ob:=bx (TRi.e x)
structure TOf where
 S:Int
 L:(List TRi)
 Ag:TBo
 deriving Inhabited
def TOf.e (x:TOf):DV:=.agg [(DV.i .i64 x.S),(eL TRi.e x.L),(TBo.e x.Ag)]
abbrev TOf.d (x:TOf):AV:=AV.d (TOf.e x)
abbrev TOf.b (x:TOf):Ob:=bx (TOf.e x)
structure TCa where
 w:TWo
 deriving Inhabited
def TCa.e (x:TCa):DV:=.agg [(TWo.e x.w)]
abbrev TCa.d (x:TCa):AV:=AV.d (TCa.e x)
abbrev TCa.b (x:TCa):Ob:=bx (TCa.e x)
end Go.Proofs.YtgbpiaddmclccaaGreatDoor
/- What the functions compute,and that their calls return it. No condition. -/
namespace Go.Proofs.YtgbpiaddmclccaaGreatDoor
open Go Go.TA
open Go.IntKind (i64)
noncomputable section
set_option maxRecDepth 100000
def S_qb_b1 (a:TJo) (i4:Nat) (_:Unit):SC Bool (Step Unit Bool) :=
.reg 3 [] [] [.w i4,.ev 0]<|
.ite (decide ((((a.N.getD i4 dF).B).length:Int)>60)) (
.r (.ret false)) (
.r (.cont ()))
def S_qb (a:TJo):SC Bool Bool :=
.range (a.N.length:Int) a.N.length rfl (.slot 6) 8 [1,6,7] (fun (_:Unit)=>[]) (fun _=>[]) () (S_qb_b1 a) (fun _ => 
.r (decide ((a.N.length:Int)<=40))) id
def F_qb (a:TJo):=(S_qb a).den
theorem F_qb_ok {a:TJo}:FO (F_qb a) 14 [(TJo.d a)] [] vb NL:=fO (s:=S_qb a) Tryz.func14
theorem cz1:OLe (bx (DV.agg [(Rf ([])),(DV.i .i64 0),(DV.i .i64 0),Z0,Z0,Z0,Z0])) (TPo.b (⟨[],0,0,[],[],[],[]⟩:TPo)):=z4o (DLe.agg (Rh (DLe.refl _) (Rh (DLe.refl _) (Rh (DLe.refl _) (Rh DLe.sl0 (Rh DLe.sl0 (Rh DLe.sl0 (Rh DLe.sl0 DLeL.nil))))))))
def S_q1e_b1 (d:TTr) (c:Nat) (_:Unit):SC Bool (Step Unit Bool) :=
.reg 3 [] [(2,{ obs:=[(1,(TPo.b (⟨[],0,0,[],[],[],[]⟩:TPo)))] })] [.w c,.ev 0,.pf cz1]<|
 let a:=(d.E.getD c dF)
.ite (cO (cO (cO (cO (decide ((a.B.length:Int)>60)) (decide ((a.A.length:Int)>12))) (decide ((a.G.length:Int)>12))) (decide ((a.F.length:Int)>12))) (decide ((a.M.length:Int)>12))) (
.r (.ret false)) (
.r (.cont ()))
def S_q1e (a:TTr):SC Bool Bool :=
.range (a.E.length:Int) a.E.length rfl (.slot 6) 8 [1,6,7] (fun (_:Unit)=>[]) (fun _=>[]) () (S_q1e_b1 a) (fun _ => 
.r (decide ((a.E.length:Int)<=70))) id
def F_q1e (a:TTr):=(S_q1e a).den
theorem F_q1e_ok {a:TTr}:FO (F_q1e a) 15 [(TTr.d a)] [] vb NL:=fO (s:=S_q1e a) Tryz.func15
theorem cz2:OLe (bx (DV.agg [(DV.i .i64 0),Z0,(DV.i .i64 0)])) (TJo.b (⟨0,[],0⟩:TJo)):=z4o (DLe.agg (Rh (DLe.refl _) (Rh DLe.sl0 (Rh (DLe.refl _) DLeL.nil))))
def S_qd_b1 (e:TWo) (c:Nat) (_:Unit):SC Bool (Step Unit Bool) :=
.reg 3 [] [(2,{ obs:=[(1,(TJo.b (⟨0,[],0⟩:TJo)))] })] [.w c,.ev 0,.pf cz2]<|
.a 4 1 2 (@F_qb_ok (e.K.getD c dF)) fun d=>
.ite (!d) (
.r (.ret false)) (
.r (.cont ()))
def S_qd_b2 (b:TWo) (a:Nat) (_:Unit):SC Bool (Step Unit Bool) :=
.reg 9 [] [] [.w a,.ev 0]<|
.ite (decide ((((b.O.getD a dF).B).length:Int)>60)) (
.r (.ret false)) (
.r (.cont ()))
def S_qd (b:TWo):SC Bool Bool :=
.range (b.K.length:Int) b.K.length rfl (.slot 8) 10 [1,8,9] (fun (_:Unit)=>[]) (fun _=>[]) () (S_qd_b1 b) (fun _ => 
.range (b.O.length:Int) b.O.length rfl (.slot 19) 21 [1,19,20] (fun (_:Unit)=>[]) (fun _=>[]) () (S_qd_b2 b) (fun _ => 
.a 13 2 1 (@F_q1e_ok b.I) fun c=>
.r (bif (bif c then (decide ((b.K.length:Int)<=8)) else false) then (decide ((b.O.length:Int)<=30)) else false)) id) id
def F_qd (a:TWo):=(S_qd a).den
theorem F_qd_ok {a:TWo}:FO (F_qd a) 4 [(TWo.d a)] [] vb NL:=fO (s:=S_qd a) Tryz.func4
def S_qh (a:Int) (b:Int) (c:Int):SC Bool Bool :=
.r (bif (decide (a>=b)) then (decide (a<=c)) else false)
def F_qh (a:Int) (b:Int) (c:Int):=(S_qh a b c).den
theorem F_qh_ok {a:Int} {b:Int} {c:Int}:FO (F_qh a b c) 80 [(vi a),(vi b),(vi c)] [] vb NL:=fO (s:=S_qh a b c) Tryz.func80
def S_q37 (f:Y8) (g:Int):SC Bool Bool :=
.call (@F_q7v_ok f) fun d b=>
 let a:=(decide ((d.length:Int)>0))
.calld [a=true] dF (@F_qh_ok g 0 99) fun e c =>
.reg 1 [] [(1,hc b [] true),(6,hc c [] true)] [.cl 2 b [] 0 true,.clg 0 [a=true] c [] 0 true]<|
.r (bif a then e else false)
def F_q37 (a:Y8) (b:Int):=(S_q37 a b).den
theorem F_q37_ok {a:Y8} {b:Int}:FO (F_q37 a b) 79 [(AV.d (Rf a)),(vi b)] [] vb NL:=fO (s:=S_q37 a b) Tryz.func79
def S_q1n (c:Int):SC Bool Bool :=
.a 1 1 0 (@F_qh_ok c 0 1000000000000000) fun b=>
.r b
def F_q1n (a:Int):=(S_q1n a).den
theorem F_q1n_ok {a:Int}:FO (F_q1n a) 146 [(vi a)] [] vb NL:=fO (s:=S_q1n a) Tryz.func146
def S_q77 (c:Int):SC Bool Bool :=
.a 1 1 0 (@F_q1n_ok c) fun b=>
.r (!b)
def F_q77 (a:Int):=(S_q77 a).den
theorem F_q77_ok {a:Int}:FO (F_q77 a) 145 [(vi a)] [] vb NL:=fO (s:=S_q77 a) Tryz.func145
def S_q2v_b1 (d:(List Int)) (a:Nat) (_:Unit):SC Int (Step Unit Int) :=
.call (@F_q77_ok (d.getD a dF)) fun c b=>
.reg 4 [] [(5,hc b [] true)] [.w a,.ev 1,.cl 0 b [] 0 true]<|
.ite c (
.r (.ret (a:Int))) (
.r (.cont ()))
def S_q2v (a:(List Int)):SC Int Int :=
.range (a.length:Int) a.length rfl (.slot 0) 8 [0,1,7] (fun (_:Unit)=>[]) (fun _=>[]) () (S_q2v_b1 a) (fun _ => 
.r (-1)) id
def F_q2v (a:(List Int)):=(S_q2v a).den
theorem F_q2v_ok {a:(List Int)}:FO (F_q2v a) 185 [(vl a),(AV.fn 145 [])] [] vi NL:=fO (s:=S_q2v a) Tryz.func185
def S_q5b (c:(List Int)):SC Bool Bool :=
.a 1 2 0 (@F_q2v_ok c) fun b=>
.r (decide (b>=0))
def F_q5b (a:(List Int)):=(S_q5b a).den
theorem F_q5b_ok {a:(List Int)}:FO (F_q5b a) 144 [(vl a),(AV.fn 145 [])] [] vb NL:=fO (s:=S_q5b a) Tryz.func144
def S_q13_b1 (d:(List Int)) (a:Nat) (b:Int):SC Int (Step Int Int) :=
.reg 4 [] [] [.w a,.ev 0]<|
.c (i64.wrap (b+(d.getD a dF)))
def S_q13 (b:(List Int)):SC Int Int :=
.range (b.length:Int) b.length rfl (.slot 6) 8 [6,7] (fun (a:Int)=>[(3,(vi a))]) (fun _=>[]) 0 (S_q13_b1 b) (fun a => 
.r a) id
def F_q13 (a:(List Int)):=(S_q13 a).den
theorem F_q13_ok {a:(List Int)}:FO (F_q13 a) 117 [(vl a)] [] vi NL:=fO (s:=S_q13 a) Tryz.func117
def S_qn_b1 (e:TPo) (g:Int) (b:Nat) (_:Unit):SC Bool (Step Unit Bool) :=
.reg 6 [] [] [.w b,.ev 0]<|
 let c:=(([e.A,e.G,e.F,e.M]:List (List Int)).getD b dF)
 let a:=((c.length:Int) != g)
.calld [a=false] dF (@F_q5b_ok c) fun f d =>
.reg 7 [] [(7,hc d [] true)] [.clg 0 [a=false] d [] 1 true]<|
.ite (cO a f) (
.r (.ret false)) (
.r (.cont ()))
def S_qn_b2 (c:TPo) (a:Nat) (_:Unit):SC Bool (Step Unit Bool) :=
.reg 12 [] [] [.w a,.ev 0]<|
 let d:=(c.A.getD a dF)
 let b:=(decide ((c.G.getD a dF)>d))
.guard [a<c.G.length,AllP [b=false]->(a<c.F.length)]<|
.reg 13 [] [] [.w a,.ev 0,.pf (p:=AllP [b=false]->((0:Int)<=(a:Int))) (fun _=>(y1z _)),.ev 1]<|
.ite (cO b (decide ((c.F.getD a dF)>d))) (
.r (.ret false)) (
.r (.cont ()))
def S_qn (b:TPo) (k:Int):SC Bool Bool :=
.call (@F_q37_ok b.B b.D) fun c e=>
.calld [(!c)=false] dF (@F_qh_ok b.T (-1000000000000000) 1000000000000000) fun h f =>
.reg 1 [] [(4,hc e [] true),(9,hc f [] true)] [.cl 2 e [] 1 true,.clg 0 [(!c)=false] f [] 1 true]<|
.ite (cO (!c) (!h)) (
.r false) (
 let g:=([b.A,b.G,b.F,b.M]:List (List Int))
.reg 4 [] [(8,hv (AV.d (eL (eL Ra) g)))] [.pf (z9 (eL Ra) g)]<|
.range 4 4 rfl (.why (.pf (p:=4<2 ^ 63) dk)) 32 [1,2,5,30,31] (fun (_:Unit)=>[]) (fun _=>[]) () (S_qn_b1 b k) (fun _ => 
.range (b.A.length:Int) b.A.length rfl (.slot 47) 49 [2,47,48] (fun (_:Unit)=>[]) (fun _=>[]) () (S_qn_b2 b) (fun _ => 
.a 16 2 1 (@F_q13_ok b.A) fun j=>
.r (decide (j<=1000000000000000))) id) id)
def F_qn (a:TPo) (b:Int):=(S_qn a b).den
theorem F_qn_ok {a:TPo} {b:Int}:FO (F_qn a b) 91 [(TPo.d a),(vi b)] [] vb NL:=fO (s:=S_qn a b) Tryz.func91
def S_q5c (a:Y8):SC Bool Bool :=
.r (!(a==a))
def F_q5c (a:Y8):=(S_q5c a).den
theorem F_q5c_ok {a:Y8}:FO (F_q5c a) 226 [(AV.d (Rf a))] [] vb NL:=fO (s:=S_q5c a) Tryz.func226
def S_q78 (c:Y8) (d:Y8):SC Int Int :=
.a 1 1 0 (@F_q5c_ok c) fun e=>
.a 2 1 0 (@F_q5c_ok d) fun b=>
.ite e (
.ite b (
.r 0) (
.r (-1))) (
.ite b (
.r 1) (
.ite (Op.bytesLess c d) (
.r (-1)) (
.ite (!(Op.bytesLess c d||c==d)) (
.r 1) (
.r 0))))
def F_q78 (a:Y8) (b:Y8):=(S_q78 a b).den
theorem F_q78_ok {a:Y8} {b:Y8}:FO (F_q78 a b) 181 [(AV.d (Rf a)),(AV.d (Rf b))] [] vi NL:=fO (s:=S_q78 a b) Tryz.func181
def S_q5d (a:Int):SC Bool Bool :=
.r (a != a)
def F_q5d (a:Int):=(S_q5d a).den
theorem F_q5d_ok {a:Int}:FO (F_q5d a) 183 [(vi a)] [] vb NL:=fO (s:=S_q5d a) Tryz.func183
def S_q41 (c:Int) (d:Int):SC Int Int :=
.a 1 1 0 (@F_q5d_ok c) fun e=>
.a 2 1 0 (@F_q5d_ok d) fun b=>
.ite e (
.ite b (
.r 0) (
.r (-1))) (
.ite b (
.r 1) (
.ite (decide (c<d)) (
.r (-1)) (
.ite (decide (c>d)) (
.r 1) (
.r 0))))
def F_q41 (a:Int) (b:Int):=(S_q41 a b).den
theorem F_q41_ok {a:Int} {b:Int}:FO (F_q41 a b) 140 [(vi a),(vi b)] [] vi NL:=fO (s:=S_q41 a b) Tryz.func140
def S_q2c_b1 (e:(List Int)) (d:(List Int)) (b:Nat) (_:Unit):SC Int (Step Unit Int) :=
.reg 3 [] [] [.w b,.ev 0]<|
.ite (decide ((b:Int)>=(d.length:Int))) (
.r (.ret 1)) (
.guard [b<d.length]<|
.reg 6 [] [] [.w b,.ev 0]<|
.a 7 2 0 (@F_q41_ok (e.getD b dF) (d.getD b dF)) fun c=>
.ite (c != 0) (
.r (.ret c)) (
.r (.cont ())))
def S_q2c (a:(List Int)) (b:(List Int)):SC Int Int :=
.range (a.length:Int) a.length rfl (.slot 0) 11 [0,1,9,10] (fun (_:Unit)=>[]) (fun _=>[]) () (S_q2c_b1 a b) (fun _ => 
.ite (decide ((a.length:Int)<(b.length:Int))) (
.r (-1)) (
.r 0)) id
def F_q2c (a:(List Int)) (b:(List Int)):=(S_q2c a b).den
theorem F_q2c_ok {a:(List Int)} {b:(List Int)}:FO (F_q2c a b) 182 [(vl a),(vl b)] [] vi NL:=fO (s:=S_q2c a b) Tryz.func182
def S_q4f (h:Y8) (i:Y8):SC Int Int :=
.call (@F_q7v_ok h) fun b c=>
.call (@F_q7v_ok i) fun d e=>
.reg 1 [] [(1,hc c [] true),(3,hc e [] true)] [.cl 1 c [] 0 true,.cl 0 e [] 0 true]<|
.ite (bif ((b.length:Int)==0) then ((d.length:Int)==0) else false) (
.a 3 2 0 (@F_q78_ok h i) fun f=>
.r f) (
.a 4 2 0 (@F_q2c_ok b d) fun g=>
.r g)
def F_q4f (a:Y8) (b:Y8):=(S_q4f a b).den
theorem F_q4f_ok {a:Y8} {b:Y8}:FO (F_q4f a b) 139 [(AV.d (Rf a)),(AV.d (Rf b))] [] vi NL:=fO (s:=S_q4f a b) Tryz.func139
def S_q1f_b1 (b:(List Int)) (a:Nat) (_:Unit):SC Int (Step Unit Int) :=
.reg 4 [] [] [.w a,.ev 0]<|
.ite ((b.getD a dF) != 0) (
.r (.ret (b.getD a dF))) (
.r (.cont ()))
def S_q1f (a:(List Int)):SC Int Int :=
.range (a.length:Int) a.length rfl (.slot 6) 8 [3,6,7] (fun (_:Unit)=>[]) (fun _=>[]) () (S_q1f_b1 a) (fun _ => 
.r 0) id
def F_q1f (a:(List Int)):=(S_q1f a).den
theorem F_q1f_ok {a:(List Int)}:FO (F_q1f a) 138 [(vl a)] [] vi NL:=fO (s:=S_q1f a) Tryz.func138
def S_q3h (h:TPo) (j:TPo):SC Int Int :=
.call (@F_q4f_ok h.B j.B) fun e b=>
.call (@F_q41_ok h.D j.D) fun f c=>
 let a:=([e,f]:List Int)
.call (@F_q1f_ok a) fun g d=>
.reg 1 [] [(4,hc b [] true),(9,hc c [] true),(10,hv (vl a)),(11,hc d [] true)] [.cl 2 b [] 2 true,.cl 1 c [] 2 true,.pf (z9 Ra a),.cl 0 d [] 2 true]<|
.r g
def F_q3h (a:TPo) (b:TPo):=(S_q3h a b).den
theorem F_q3h_ok {a:TPo} {b:TPo}:FO (F_q3h a b) 83 [(TPo.d a),(TPo.d b)] [] vi NL:=fO (s:=S_q3h a b) Tryz.func83
def S_qs_b1 (i:TTr) (d:Nat) (_:Unit):SC Bool (Step Unit Bool) :=
.reg 5 [] [(3,{ obs:=[(1,(TPo.b (⟨[],0,0,[],[],[],[]⟩:TPo)))] })] [.w d,.ev 0,.pf cz1]<|
 let f:=(i.E.getD d dF)
.call (@F_qn_ok f i.P) fun a g=>
 let c:=(decide ((d:Int)>0))
 let e:=(i64.wrap ((d:Int)-1))
.calld [c=true,(!a)=false] dF (@F_q3h_ok (i.E.getD e.toNat dF) f) fun j h =>
.guard [AllP [c=true,(!a)=false]->((0:Int)<=e),AllP [c=true,(!a)=false]->(e.toNat<i.E.length)]<|
.reg 6 [] [(3,hc g [] true),(16,hc h [] true)] [.cl 4 g [] 2 true,.ev 0,.ev 1,.clg 2 [c=true,(!a)=false] h [] 2 true]<|
.ite (cO (!a) (bif c then (decide (j>=0)) else false)) (
.r (.ret false)) (
.r (.cont ()))
def S_qs (b:TTr):SC Bool Bool :=
.a 1 2 1 (@F_qh_ok b.P 1 6) fun c=>
.ite (cO (!c) (decide ((b.E.length:Int)>60))) (
.r false) (
.range (b.E.length:Int) b.E.length rfl (.slot 16) 18 [1,16,17] (fun (_:Unit)=>[]) (fun _=>[]) () (S_qs_b1 b) (fun _ => 
.r true) id)
def F_qs (a:TTr):=(S_qs a).den
theorem F_qs_ok {a:TTr}:FO (F_qs a) 42 [(TTr.d a)] [] vb NL:=fO (s:=S_qs a) Tryz.func42
theorem cz3:∀ k,k<0->(DV.b false).wd=1:=fun _ h=>absurd h (y3a _)
def S_q1o (a:(List Int)):SC (List Int) (List Int) :=
.reg 0 [] [] []<|
.nils 0 (
.guard [(0+a.length) * (2 * 8)<=2 ^ 48]<|
.reg 1 [] [] []<|
.lev 0 (vl a) (.pf (lvQ true a.length fun j=>(DV.i .i64 (a.getD j dF))))<|
.br true (.pf (p:=true=true) rfl)<|
.reg 2 [] [] []<|
.lev 2 (vl a) (.der (fun (h:a.length=0)=>lvZ Ra a h) 1)<|
.r a) (
.reg 1 [] [] []<|
.lev 0 (vl a) (.pf (lvQ false a.length fun j=>(DV.i .i64 (a.getD j dF))))<|
.br false (.pf (p:=false=false) rfl)<|
.guard [(0+a.length) * (2 * 8)<=2 ^ 48]<|
.reg 3 [] [(2,hv (vl a))] [.pf (p:=∀ k,k<a.length->AV.d (Ra (a.getD k dF))=AV.d (Ra (a.getD k dF))/\(Ra (a.getD k dF)).wd=1) (fun _ _=>⟨rfl,rfl⟩),.pf cz3,.ev 0,.pf (z3o (e:=Ra) (x:=a))]<|
.r a)
def F_q1o (a:(List Int)):=(S_q1o a).den
theorem F_q1o_ok {a:(List Int)}:FO (F_q1o a) 110 [(vl a)] [] vl NL:=fO (s:=S_q1o a) Tryz.func110
def S_q3i (a:TPo):SC TPo TPo :=
.reg 0 [] [(1,{ obs:=[(1,(TPo.b (⟨[],0,0,[],[],[],[]⟩:TPo)))] })] [.pf cz1]<|
.call (@F_q1o_ok a.A) fun g c=>
.call (@F_q1o_ok a.G) fun h d=>
.call (@F_q1o_ok a.F) fun i e=>
.call (@F_q1o_ok a.M) fun j f=>
.reg 1 [13,15,17,19] [(2,hc c [] true),(5,hc d [] true),(8,hc e [] true),(11,hc f [] true)] [.cl 3 c [] 2 true,.cl 2 d [] 2 true,.cl 1 e [] 2 true,.cl 0 f [] 2 true]<|
.r (⟨a.B,a.D,a.T,g,h,i,j⟩:TPo)
def F_q3i (a:TPo):=(S_q3i a).den
theorem F_q3i_ok {a:TPo}:FO (F_q3i a) 54 [(TPo.d a)] [] (fun x=>(TPo.d x)) NL:=fO (s:=S_q3i a) Tryz.func54
theorem cz4:OLe (bx (DV.agg [(DV.i .i64 0),Z0])) (TTr.b (⟨0,[]⟩:TTr)):=z4o (DLe.agg (Rh (DLe.refl _) (Rh DLe.sl0 DLeL.nil)))
abbrev R_q2w:=Int×(List TPo)
def S_q2w_b1 (m:TTr) (g:Nat) (f:Int×(List TPo)):SC R_q2w (Step (Int×(List TPo)) R_q2w) :=
.reg 5 [] [(2,{ obs:=[(3,(TPo.b (⟨[],0,0,[],[],[],[]⟩:TPo)))] })] [.w g,.ev 0,.pf cz1]<|
.call (@F_q3i_ok (m.E.getD g dF)) fun j i=>
 let a:=([j]:List TPo)
.guard [(f.2.length+a.length) * (2 * 128)<=2 ^ 48]<|
.reg 6 [4,5,7] [(3,hc i [] true),(4,{ h:=.obj,obs:=[(4,(eS 7 TPo.e a))] }),(5,{ h:=.obj,cast:=some (Rb 2 ((f.2++a).length) 0 ((f.2++a).length)),obs:=[(2,(eS 7 TPo.e (f.2++a)))] })] [.cl 1 i [] 4 true,.pf (z8m (sz:=7) (e:=TPo.e) (l:=a)),.e a.length,.e f.2.length,.e f.2.length,.pf (p:=∀ k,k<a.length->(TPo.d (a.getD k dF)).wd=7) (fun _ _=>rfl),.ev 0,.pf (zw (o:=2) (l:=f.2) (x:=a)),.pf (zy (sz:=7) (e:=TPo.e) (l:=f.2) (x:=a))]<|
.c (f.1,(f.2++a))
def S_q2w (c:TTr):SC R_q2w R_q2w :=
 let g:=(TTr.b (⟨0,[]⟩:TTr))
.reg 0 [] [(1,{ obs:=[(1,g)] })] [.pf cz4]<|
.reg 2 [] [] []<|
 let h:=[(1,(vp 0)),(2,(vp 1)),(3,(AV.d (eL TPo.e c.E)))]
.sh (A:=True) (.pf trivial) h h [(Rd (Rc [(vi c.P),(AV.full 0 fun _=>DV.b false)])),g] [(Rd (Rc [(vi c.P),(Rb 2 0 0 0)])),g,(eS 7 TPo.e ([]:List TPo))] (fun _=>(z28 (sz:=7) (f:=fun j=>AV.d (TPo.e (([]:List TPo).getD j dF))) (.box _ _ _ _ _ (yv rfl) (TrV.agg (Rk (TrV.keep _) (Rk TrV.born TrL.nil))) (.keep _ _ _ _ (yv rfl) (.nil _))))) (z1a (k:=0) rfl (Rj _) (z1a (k:=1) rfl (Rj _) (z1a (k:=2) rfl (Rj _) z2n)))<|
.range (c.E.length:Int) c.E.length rfl (.slot 9) 11 [1,2,9,10] (fun (_:Int×(List TPo))=>[]) (fun a=>[(0,(Rd (Rc [(vi a.1),(Rb 2 a.2.length 0 a.2.length)]))),(2,(eS 7 TPo.e a.2))]) (c.P,([]:List TPo)) (S_q2w_b1 c) (fun a => 
.reg 8 [] [] []<|
.kill 0<|
.r (a.1,a.2)) id
def F_q2w (a:TTr):=(S_q2w a).den
theorem F_q2w_ok {a:TTr}:FO (F_q2w a) 81 [(TTr.d a)] [] (fun x=>(Rc [(vi x.1),(Rb 2 x.2.length 0 x.2.length)])) (fun x=>[Re,(Rd (Rc [(vi x.1),(Rb 2 x.2.length 0 x.2.length)])),(eS 7 TPo.e x.2)]):=fO (s:=S_q2w a) Tryz.func81
abbrev R_q2d:=Int×Bool
def S_q2d_b1 (g:TPo) (c:(List TPo)) (a:Int×Int):SC R_q2d (Step (Int×Int) R_q2d) :=
.ite (decide (a.1<a.2)) (
.reg 4 [] [] [.pf (p:=(0:Int)<=1) dk]<|
 let b:=(i64.wrap ((IntKind.u64.wrap (i64.wrap (a.1+a.2))).fdiv (2 ^ (min (1:Int).toNat IntKind.u64.bits))))
.call (@F_q3h_ok (c.getD (0+b.toNat) dF) g) fun f d=>
.guard [(0:Int)<=b,b.toNat<c.length,(0+b.toNat)<c.length]<|
.reg 5 [] [(6,hc d [] true)] [.e c.length,.ev 0,.ev 1,.e c.length,.ev 2,.cl 3 d [] 2 true]<|
.ite (decide (f<0)) (
.r (.cont ((i64.wrap (b+1)),a.2))) (
.r (.cont (a.1,b)))) (
.r (.brk (a.1,a.2)))
def S_q2d (f:TPo) (c:(List TPo)):SC R_q2d R_q2d :=
.iter [0,2,4,8] (fun (a:Int×Int)=>[(9,(vi a.1)),(10,(vi a.2))]) (fun _=>[]) (0,(c.length:Int)) (S_q2d_b1 f c) (fun a =>
 let b:=(decide (a.1<(c.length:Int)))
.calld [b=true] dF (@F_q3h_ok (c.getD (0+a.1.toNat) dF) f) fun e d =>
.guard [AllP [b=true]->((0:Int)<=a.1),AllP [b=true]->(a.1.toNat<c.length),AllP [b=true]->((0+a.1.toNat)<c.length)]<|
.reg 8 [] [(11,hc d [] true)] [.pf (p:=AllP [b=true]->(c.length=c.length)) (fun _=>rfl),.ev 0,.ev 1,.pf (p:=AllP [b=true]->(c.length=c.length)) (fun _=>rfl),.ev 2,.clg 3 [b=true] d [] 2 true]<|
.r (a.1,(bif b then (e==0) else false))) id
def F_q2d (a:TPo) (b:(List TPo)):=(S_q2d a b).den
theorem F_q2d_ok {b:TPo} {a:(List TPo)}:FO (F_q2d b a) 82 [(Rb 0 a.length 0 a.length),(TPo.d b),(AV.fn 83 [])] [(eS 7 TPo.e a)] (fun x=>(Rg [(vi x.1),(vb x.2)])) (fun _=>[(eS 7 TPo.e a)]):=fO (s:=S_q2d b a) Tryz.func82
def V_q7t (x:(List TPo)):AV:=.ref 0 x.length 0 x.length
def L_q7t (a:List TPo) (x:(List TPo)):List Ob:=[eS 7 TPo.e x,eS 7 TPo.e a]
def F_q7t (a:Int) (b c:List TPo):Option (List TPo):=match c with
 | [y]=>guardP (0<=a/\a.toNat<=b.length/\(b.length+1) * (4 * 128)<=2 ^ 48) (some (insL b a.toNat y))
 | _=>none
theorem F_q7t_ok {c:Int} {f b:List TPo} (r:(List TPo)) (h:F_q7t c f b=some r):CallOk Tryz.prog 84 [(Rb 0 f.length 0 f.length),(AV.d (.i .i64 c)),(Rb 1 b.length 0 b.length)] [(eS 7 TPo.e f),(eS 7 TPo.e b)] (V_q7t r) (L_q7t b r):=by
 unfold F_q7t at h
 split at h
 ·rename_i y
  obtain⟨⟨h1,h2,h3⟩,h⟩:=z1w h
  obtain rfl:=yw h
  obtain⟨i,rfl⟩:∃ i:Nat,c=(i:Int):=⟨c.toNat,(y5j h1).symm⟩
  exact InsG.ins_ok .a (fun _=>rfl) h2 h3
 ·cases h
theorem cz5:LeV (AV.d (DV.agg [(DV.i .i64 0),Z0])) (TTr.d (⟨0,[]⟩:TTr)):=z2o rfl (DLe.agg (Rh (DLe.refl _) (Rh DLe.sl0 DLeL.nil)))
def S_q4g (X:TTr) (N:Y8) (O:Int) (Y:Int):SC (TTr×Int) (TTr×Int) :=
 let v:=(TTr.b (⟨0,[]⟩:TTr))
.reg 0 [] [(1,{ obs:=[(1,v)] })] [.pf cz4]<|
.a 1 1 2 (@F_qs_ok X) fun P=>
 let s:=(TTr.d (⟨0,[]⟩:TTr))
.ite (!P) (
.reg 2 [] [(0,hv s)] [.pf cz5]<|
.r ((⟨0,[]⟩:TTr),1)) (
.a 3 1 2 (@F_q7v_ok N) fun Q=>
.ite ((Q.length:Int)==0) (
.reg 4 [] [(0,hv s)] [.pf cz5]<|
.r ((⟨0,[]⟩:TTr),5)) (
.call (@F_q37_ok N O) fun w C=>
.calld [(!w)=false] dF (@F_qh_ok Y (-1000000000000000) 1000000000000000) fun R E =>
.reg 5 [] [(2,hc C [] true),(6,hc E [] true)] [.cl 2 C [] 2 true,.clg 0 [(!w)=false] E [] 2 true]<|
.ite (cO (!w) (!R)) (
.reg 6 [] [(0,hv s)] [.pf cz5]<|
.r ((⟨0,[]⟩:TTr),2)) (
.call (@F_q2w_ok X) fun f S=>
.k 7 1 S [] 2 false<|
.kill 3<|
 let g:=(⟨N,O,0,[],[],[],[]⟩:TPo)
.reg 8 [] [(2,hv (TPo.d g)),(3,{ obs:=[(5,(TPo.b (⟨[],0,0,[],[],[],[]⟩:TPo)))] })] [.pf (p:=LeV (AV.d (DV.agg [(Rf N),(DV.i .i64 O),(DV.i .i64 0),Z0,Z0,Z0,Z0])) (TPo.d g)) (z2o rfl (DLe.agg (Rh (DLe.refl _) (Rh (DLe.refl _) (Rh (DLe.refl _) (Rh DLe.sl0 (Rh DLe.sl0 (Rh DLe.sl0 (Rh DLe.sl0 DLeL.nil))))))))),.pf cz1]<|
.call (@F_q2d_ok g f.2) fun m U=>
.k 9 3 U [4] 6 true<|
.cut none [3,4,8,11] (fun (_:Int×(List TPo)×TPo)=>[]) (fun c=>[(0,(Rd (Rc [(vi c.1),(Rb 4 c.2.1.length 0 c.2.1.length)]))),(4,(eS 7 TPo.e c.2.1)),(5,(TPo.b c.2.2))]) (
.ite (!m.2) (
.ite ((f.2.length:Int)==60) (
.reg 12 [] [(0,hv s)] [.pf cz5]<|
.r (.ret ((⟨0,[]⟩:TTr),3))) (
.guard [(0:Int)<=f.1,f.1 * 8<=2 ^ 47]<|
 let H:=((List.replicate f.1.toNat (0:Int)).length)
.reg 13 [] [(2,{ cast:=some (Rb 6 H 0 H),obs:=[(6,(eQ (List.replicate f.1.toNat (0:Int))))] })] [.ev 0,.pf (p:=f.1<=f.1) (y18 _),.ev 1,.pf (z8n (o:=6) (k:=f.1.toNat) (z:=(0:Int))),.pf (z8o (sz:=1) (k:=f.1.toNat) (e:=Ra) (z:=(0:Int)))]<|
.guard [(List.replicate f.1.toNat (0:Int)).length<2 ^ 63]<|
.frz 6 (.ev 0) none [13] []<|
 let I:=(⟨g.B,g.D,g.T,(List.replicate f.1.toNat (0:Int)),(List.replicate f.1.toNat (0:Int)),(List.replicate f.1.toNat (0:Int)),(List.replicate f.1.toNat (0:Int))⟩:TPo)
.call (@F_q3i_ok I) fun V J=>
 let y:=([V]:List TPo)
.call (@F_q7t_ok m.1 f.2 y) fun W K=>
.reg 15 [5,6,8] [(4,hc J [] true),(5,{ h:=.obj,obs:=[(7,(eS 7 TPo.e y))] }),(6,hc K [4,7] false)] [.cl 1 J [] 7 true,.pf (z8m (sz:=7) (e:=TPo.e) (l:=y)),.cl 0 K [4,7] 8 false]<|
.r (.next (f.1,W,I)))) (
.r (.next (f.1,f.2,g)))) fun c=>
 let t:=(0+m.1.toNat)
.guard [(0:Int)<=m.1,m.1.toNat<c.2.1.length,t<c.2.1.length]<|
 let j:=(c.2.1.getD t dF)
 let L:=(⟨j.B,j.D,Y,j.A,j.G,j.F,j.M⟩:TPo)
 let n:=(c.2.1.set t L)
 let q:=(eS 7 TPo.e n)
.reg 16 [] [(6,{ obs:=[(4,q)] })] [.e c.2.1.length,.ev 0,.ev 1,.e c.2.1.length,.e c.2.1.length,.ev 2,.pf (zk (sz:=7) (e:=TPo.e) (l:=c.2.1) (i:=t) (x:=L) (fun _=>rfl))]<|
 let u:=[(4,(vp 0)),(8,(vp 1))]
.cst (A:=True) (.pf trivial) u u [(Rd (Rc [(vi c.1),(Rb 4 c.2.1.length 0 c.2.1.length)])),v,Re,Re,q,(TPo.b c.2.2)] [(Rd (Rc [(vi c.1),(Rb 4 n.length 0 n.length)])),v,Re,Re,q,(TPo.b c.2.2)] (fun _=>⟨Zd,Zb⟩)<|
.guard [n.length<2 ^ 63]<|
.reg 17 [] [] []<|
.frz 4 (.ev 0) none [] [0,1]<|
.r ((⟨c.1,n⟩:TTr),0))))
def F_q4g (a:TTr) (b:Y8) (c:Int) (d:Int):=(S_q4g a b c d).den
theorem F_q4g_ok {a:TTr} {b:Y8} {c:Int} {e:Int}:FO (F_q4g a b c e) 38 [(TTr.d a),(AV.d (Rf b)),(vi c),(vi e)] [] (fun x=>(Rg [(TTr.d x.1),(vi x.2)])) NL:=fO (s:=S_q4g a b c e) Tryz.func38
def S_q79 (a:TPo) (b:Y8) (c:Int):SC Bool Bool :=
.r (bif (a.B==b) then (a.D==c) else false)
def F_q79 (a:TPo) (b:Y8) (c:Int):=(S_q79 a b c).den
theorem F_q79_ok {c:TPo} {a:Y8} {b:Int}:FO (F_q79 c a b) 109 [(TPo.d c),(vp 0),(vp 1)] [(bx (Rf a)),(Rd (vi b))] vb (fun _=>[(bx (Rf a)),(Rd (vi b))]):=fO (s:=S_q79 c a b) Tryz.func109
def S_q38_b1 (d:(List TPo)) (e:Y8) (f:Int) (a:Nat) (_:Unit):SC Int (Step Unit Int) :=
.call (@F_q79_ok (d.getD a dF) e f) fun c b=>
.reg 4 [] [(5,hc b [0,1] true)] [.w a,.ev 1,.cl 0 b [0,1] 2 true]<|
.ite c (
.r (.ret (a:Int))) (
.r (.cont ()))
def S_q38 (a:(List TPo)) (b:Y8) (c:Int):SC Int Int :=
.range (a.length:Int) a.length rfl (.slot 0) 8 [0,1,7] (fun (_:Unit)=>[]) (fun _=>[]) () (S_q38_b1 a b c) (fun _ => 
.r (-1)) id
def F_q38 (a:(List TPo)) (b:Y8) (c:Int):=(S_q38 a b c).den
theorem F_q38_ok {c:(List TPo)} {a:Y8} {b:Int}:FO (F_q38 c a b) 108 [(AV.d (eL TPo.e c)),(AV.fn 109 [(vp 0),(vp 1)])] [(bx (Rf a)),(Rd (vi b))] vi (fun _=>[(bx (Rf a)),(Rd (vi b))]):=fO (s:=S_q38 c a b) Tryz.func108
def S_q3j (c:TTr) (d:Y8) (e:Int):SC Int Int :=
.call (@F_q38_ok c.E d e) fun a b=>
.k 1 3 b [1,2] 3 true<|
.r a
def F_q3j (a:TTr) (b:Y8) (c:Int):=(S_q3j a b c).den
theorem F_q3j_ok {a:TTr} {b:Y8} {c:Int}:FO (F_q3j a b c) 53 [(TTr.d a),(AV.d (Rf b)),(vi c)] [] vi NL:=fO (s:=S_q3j a b c) Tryz.func53
theorem cz6:LeV (AV.d (DV.agg [(Rf ([])),(DV.i .i64 0),(DV.i .i64 0),Z0,Z0,Z0,Z0])) (TPo.d (⟨[],0,0,[],[],[],[]⟩:TPo)):=z2o rfl (DLe.agg (Rh (DLe.refl _) (Rh (DLe.refl _) (Rh (DLe.refl _) (Rh DLe.sl0 (Rh DLe.sl0 (Rh DLe.sl0 (Rh DLe.sl0 DLeL.nil))))))))
def S_q2e (g:TTr) (i:Y8) (j:Int):SC (TPo×Bool) (TPo×Bool) :=
 let e:=(⟨[],0,0,[],[],[],[]⟩:TPo)
.reg 0 [] [(1,{ obs:=[(1,(TPo.b e))] })] [.pf cz1]<|
.a 1 3 2 (@F_q3j_ok g i j) fun c=>
.ite (decide (c<0)) (
.reg 3 [] [(0,hv (TPo.d e))] [.pf cz6]<|
.r (e,false)) (
.call (@F_q3i_ok (g.E.getD c.toNat dF)) fun h f=>
.guard [(0:Int)<=c,c.toNat<g.E.length]<|
.reg 4 [] [(5,hc f [] true)] [.ev 0,.ev 1,.cl 2 f [] 2 true]<|
.r (h,true))
def F_q2e (a:TTr) (b:Y8) (c:Int):=(S_q2e a b c).den
theorem F_q2e_ok {a:TTr} {b:Y8} {c:Int}:FO (F_q2e a b c) 25 [(TTr.d a),(AV.d (Rf b)),(vi c)] [] (fun x=>(Rg [(TPo.d x.1),(vb x.2)])) NL:=fO (s:=S_q2e a b c) Tryz.func25
def S_q5e (a:Int):SC Bool Bool :=
.r (cO (decide (a<0)) (decide (a>1000000000000000)))
def F_q5e (a:Int):=(S_q5e a).den
theorem F_q5e_ok {a:Int}:FO (F_q5e a) 143 [(vi a)] [] vb NL:=fO (s:=S_q5e a) Tryz.func143
def S_q2x_b1 (d:(List Int)) (a:Nat) (_:Unit):SC Int (Step Unit Int) :=
.call (@F_q5e_ok (d.getD a dF)) fun c b=>
.reg 4 [] [(5,hc b [] true)] [.w a,.ev 1,.cl 0 b [] 0 true]<|
.ite c (
.r (.ret (a:Int))) (
.r (.cont ()))
def S_q2x (a:(List Int)):SC Int Int :=
.range (a.length:Int) a.length rfl (.slot 0) 8 [0,1,7] (fun (_:Unit)=>[]) (fun _=>[]) () (S_q2x_b1 a) (fun _ => 
.r (-1)) id
def F_q2x (a:(List Int)):=(S_q2x a).den
theorem F_q2x_ok {a:(List Int)}:FO (F_q2x a) 185 [(vl a),(AV.fn 143 [])] [] vi NL:=fO (s:=S_q2x a) Tryz.func185
end
end Go.Proofs.YtgbpiaddmclccaaGreatDoor
/- What the functions compute,and that their calls return it. No condition. -/
namespace Go.Proofs.YtgbpiaddmclccaaGreatDoor
open Go Go.TA
open Go.IntKind (i64)
noncomputable section
set_option maxRecDepth 100000
def S_q5f (c:(List Int)):SC Bool Bool :=
.a 1 2 0 (@F_q2x_ok c) fun b=>
.r (decide (b>=0))
def F_q5f (a:(List Int)):=(S_q5f a).den
theorem F_q5f_ok {a:(List Int)}:FO (F_q5f a) 144 [(vl a),(AV.fn 143 [])] [] vb NL:=fO (s:=S_q5f a) Tryz.func144
def S_q2f_b1 (b:TPo) (c:Nat) (_:Unit):SC Bool (Step Unit Bool) :=
.reg 4 [] [] [.w c,.ev 0]<|
 let d:=(([b.A,b.G,b.F,b.M]:List (List Int)).getD c dF)
 let a:=((d.length:Int) != (b.A.length:Int))
.calld [a=false] dF (@F_q5f_ok d) fun f e =>
.reg 5 [] [(9,hc e [] true)] [.clg 0 [a=false] e [] 1 true]<|
.ite (cO a f) (
.r (.ret false)) (
.r (.cont ()))
def S_q2f (a:TPo):SC Bool Bool :=
 let b:=([a.A,a.G,a.F,a.M]:List (List Int))
.reg 2 [] [(8,hv (AV.d (eL (eL Ra) b)))] [.pf (z9 (eL Ra) b)]<|
.range 4 4 rfl (.why (.pf (p:=4<2 ^ 63) dk)) 16 [1,3,14,15] (fun (_:Unit)=>[]) (fun _=>[]) () (S_q2f_b1 a) (fun _ => 
.r (bif (decide (a.T>=(-1000000000000000))) then (decide (a.T<=1000000000000000)) else false)) id
def F_q2f (a:TPo):=(S_q2f a).den
theorem F_q2f_ok {a:TPo}:FO (F_q2f a) 85 [(TPo.d a)] [] vb NL:=fO (s:=S_q2f a) Tryz.func85
def S_q39 (a:TPo):SC Int Int :=
 let b:=(if (a.G.length:Int)<(a.A.length:Int) then (a.G.length:Int) else (a.A.length:Int))
 let c:=b.toNat
.call (@F_q13_ok (a.A.take c)) fun f d=>
.call (@F_q13_ok (a.G.take c)) fun g e=>
.guard [(0:Int)<=b,b.toNat<=a.A.length,b.toNat<=a.G.length]<|
.reg 2 [] [(3,hv (vl (a.A.take c))),(4,hc d [] true),(8,hv (vl (a.G.take c))),(9,hc e [] true)] [.ev 0,.ev 1,.der (fun (h0:b.toNat<=a.A.length)=>lvT Ra a.A h0) 1,.cl 4 d [] 1 true,.ev 0,.ev 2,.der (fun (h0:b.toNat<=a.G.length)=>lvT Ra a.G h0) 2,.cl 3 e [] 1 true]<|
.r (i64.wrap (f-g))
def F_q39 (a:TPo):=(S_q39 a).den
theorem F_q39_ok {a:TPo}:FO (F_q39 a) 61 [(TPo.d a)] [] vi NL:=fO (s:=S_q39 a) Tryz.func61
def S_q3a (d:TPo):SC Int Int :=
.a 1 1 1 (@F_q39_ok d) fun c=>
 let b:=(i64.wrap (c-d.T))
.r (if 0>b then 0 else b)
def F_q3a (a:TPo):=(S_q3a a).den
theorem F_q3a_ok {a:TPo}:FO (F_q3a a) 28 [(TPo.d a)] [] vi NL:=fO (s:=S_q3a a) Tryz.func28
def S_q5g (b:TPo) (a:Int):SC (Int×Int) (Int×Int) :=
.guard [(0:Int)<=a,a.toNat<b.A.length,a.toNat<b.G.length,a.toNat<b.M.length]<|
.reg 1 [] [] [.ev 0,.ev 1,.ev 0,.ev 2,.ev 0,.ev 3]<|
.guard [a.toNat<b.F.length]<|
.reg 2 [] [] [.ev 1,.ev 0,.ev 1,.ev 3]<|
 let d:=(b.G.getD a.toNat dF)
 let e:=(i64.wrap ((i64.wrap ((b.A.getD a.toNat dF)-d))-(b.M.getD a.toNat dF)))
 let c:=(if 0>e then 0 else e)
 let f:=(i64.wrap ((b.F.getD a.toNat dF)-d))
 let g:=(if f<c then f else c)
 let h:=(if 0>g then 0 else g)
.r (h,(i64.wrap (c-h)))
def F_q5g (a:TPo) (b:Int):=(S_q5g a b).den
theorem F_q5g_ok {a:TPo} {b:Int}:FO (F_q5g a b) 86 [(TPo.d a),(vi b)] [] (fun x=>(Rg [(vi x.1),(vi x.2)])) NL:=fO (s:=S_q5g a b) Tryz.func86
def S_q2g_b1 (b:(List Int)) (a:Int×Int):SC Int (Step (Int×Int) Int) :=
.ite (decide (a.2<(b.length:Int))) (
.guard [(0:Int)<=a.2,a.2.toNat<b.length,(0+a.2.toNat)<b.length]<|
.reg 7 [] [] [.e b.length,.ev 0,.ev 1,.e b.length,.ev 2]<|
 let c:=(b.getD (0+a.2.toNat) dF)
.r (.cont ((if c>a.1 then c else a.1),(i64.wrap (a.2+1))))) (
.r (.brk (a.1,a.2)))
def S_q2g (b:(List Int)):SC Int Int :=
.guard [(decide ((b.length:Int)<1))=false]<|
.br false (.ev 0)<|
.guard [0<b.length,(0+0)<b.length]<|
.reg 3 [] [] [.e b.length,.pf (p:=(0:Int)<=0) dk,.ev 0,.e b.length,.ev 1]<|
.iter [0] (fun (a:Int×Int)=>[(3,(vi a.1)),(4,(vi a.2))]) (fun _=>[]) ((b.getD (0+0) dF),1) (S_q2g_b1 b) (fun a =>
.r a.1) id
def F_q2g (a:(List Int)):=(S_q2g a).den
theorem F_q2g_ok {a:(List Int)}:FO (F_q2g a) 87 [(Rb 0 a.length 0 a.length)] [(eQ a)] vi (fun _=>[(eQ a)]):=fO (s:=S_q2g a) Tryz.func87
def S_q17_b1 (c:Int) (b:(List Int)) (a:Nat) (_:Unit):SC Int (Step Unit Int) :=
.guard [(0+a)<b.length]<|
.reg 4 [] [] [.e b.length,.w a,.ev 1,.e b.length,.ev 0]<|
.ite (c==(b.getD (0+a) dF)) (
.r (.ret (a:Int))) (
.r (.cont ()))
def S_q17 (b:Int) (a:(List Int)):SC Int Int :=
.guard [a.length<2 ^ 63]<|
.range (a.length:Int) a.length rfl (.why (.ev 0)) 8 [0,1,7] (fun (_:Unit)=>[]) (fun _=>[]) () (S_q17_b1 b a) (fun _ => 
.r (-1)) id
def F_q17 (a:Int) (b:(List Int)):=(S_q17 a b).den
theorem F_q17_ok {b:Int} {a:(List Int)}:FO (F_q17 b a) 88 [(Rb 0 a.length 0 a.length),(vi b)] [(eQ a)] vi (fun _=>[(eQ a)]):=fO (s:=S_q17 b a) Tryz.func88
theorem cz7:LeV (AV.full 0 fun _=>DV.b false) (vl ([])):=lvN Ra
abbrev R_q6:=(List Int)
def S_q6_b1 (m:TPo) (j:Nat) (b:(List Int)×Int):SC R_q6 (Step ((List Int)×Int) R_q6) :=
.a 8 2 2 (@F_q5g_ok m (j:Int)) fun g=>
.guard [(b.1.length+1) * (2 * 8)<=2 ^ 48]<|
 let f:=([g.2]:List Int)
.reg 9 [] [(5,hv (vl f)),(6,{ h:=.obj,cast:=some (Rb 1 ((b.1++f).length) 0 ((b.1++f).length)),obs:=[(1,(eQ (b.1++f)))] })] [.pf (z9 Ra f),.e b.1.length,.e b.1.length,.pf (p:=∀ k,k<1->(AV.d (Ra (f.getD k dF))).wd=1) (fun _ _=>rfl),.ev 0,.pf (zw (o:=1) (l:=b.1) (x:=f)),.pf (zy (sz:=1) (e:=Ra) (l:=b.1) (x:=f))]<|
.c ((b.1++f),(i64.wrap (b.2-g.1)))
def S_q6_b2 (q:TPo) (a:(List Int)×(List Int)×Int):SC R_q6 (Step ((List Int)×(List Int)×Int) R_q6) :=
 let j:=(a.1,a.2.1,a.2.2)
.ite (bif (decide (a.2.2>0)) then (decide ((a.1.length:Int)>0)) else false) (
.call (@F_q2g_ok a.1) fun h o=>
.k 13 1 o [1] 3 true<|
.ite (h==0) (
.r (.brk j)) (
.call (@F_q17_ok h a.1) fun f p=>
.k 15 2 p [1] 3 true<|
 let d:=(0+f.toNat)
.guard [(0:Int)<=f,f.toNat<a.2.1.length,d<a.2.1.length,f.toNat<a.1.length,d<a.1.length]<|
 let m:=(if a.2.2<h then a.2.2 else h)
 let c:=(a.2.1.set d m)
 let g:=(a.1.set d 0)
.reg 16 [] [(8,{ obs:=[(2,(eQ c))] }),(10,{ obs:=[(1,(eQ g))] })] [.e a.2.1.length,.ev 0,.ev 1,.e a.2.1.length,.ev 2,.pf (zk (sz:=1) (e:=Ra) (l:=a.2.1) (i:=d) (x:=m) (fun _=>rfl)),.e a.1.length,.ev 0,.ev 3,.e a.1.length,.ev 4,.pf (zk (sz:=1) (e:=Ra) (l:=a.1) (i:=d) (x:=0) (fun _=>rfl))]<|
 let n:=[(TPo.b q),(eQ g),(eQ c)]
.cst (A:=True) (.pf trivial) [(3,(vi a.2.2)),(4,(Rb 1 a.1.length 0 a.1.length)),(8,(Rb 2 a.2.1.length 0 a.2.1.length)),(10,(vi f))] [(3,(vi a.2.2)),(4,(Rb 1 g.length 0 g.length)),(8,(Rb 2 c.length 0 c.length)),(10,(vi f))] n n (fun _=>⟨Zb,by rfl⟩)<|
.guard [f.toNat<c.length,d<c.length]<|
.reg 17 [] [] [.e c.length,.ev 2,.ev 0,.e c.length,.ev 1]<|
.r (.cont (g,c,(i64.wrap (a.2.2-(c.getD d dF))))))) (
.r (.brk j))
def S_q6 (g:TPo):SC R_q6 R_q6 :=
.a 1 1 1 (@F_q2f_ok g) fun l=>
.ite (!l) (
.ret [.pf cz7] ([])) (
.a 3 1 1 (@F_q3a_ok g) fun m=>
.reg 5 [] [] []<|
.bor 1 (fun j=>AV.d (Ra (([]:List Int).getD j dF))) [4]<|
.guard [g.A.length<2 ^ 63]<|
.range (g.A.length:Int) g.A.length rfl (.why (.ev 0)) 19 [1,18] (fun (c:(List Int)×Int)=>[(3,(vi c.2)),(4,(Rb 1 c.1.length 0 c.1.length))]) (fun c=>[(1,(eQ c.1))]) (([]:List Int),m) (S_q6_b1 g) (fun c => 
 let f:=(c.1.length:Int)
.guard [f * 8<=2 ^ 47]<|
 let h:=((List.replicate f.toNat (0:Int)).length)
.reg 11 [] [(2,{ cast:=some (Rb 2 h 0 h),obs:=[(2,(eQ (List.replicate f.toNat (0:Int))))] })] [.pf (nn c.1.length),.pf (p:=f<=f) (y18 _),.ev 0,.pf (z8n (o:=2) (k:=f.toNat) (z:=(0:Int))),.pf (z8o (sz:=1) (k:=f.toNat) (e:=Ra) (z:=(0:Int)))]<|
.iter [] (fun (b:(List Int)×(List Int)×Int)=>[(3,(vi b.2.2)),(4,(Rb 1 b.1.length 0 b.1.length)),(8,(Rb 2 b.2.1.length 0 b.2.1.length))]) (fun b=>[(1,(eQ b.1)),(2,(eQ b.2.1))]) (c.1,(List.replicate f.toNat (0:Int)),c.2) (S_q6_b2 g) (fun b =>
.guard [b.2.1.length<2 ^ 63]<|
.reg 18 [] [] []<|
.frz 2 (.ev 0) none [2] []<|
.r b.2.1) id) id)
def F_q6 (a:TPo):=(S_q6 a).den
theorem F_q6_ok {a:TPo}:FO (F_q6 a) 39 [(TPo.d a)] [] vl NL:=fO (s:=S_q6 a) Tryz.func39
def oTApiPot:Opn TPo where
 sz:=7
 T:=fun a b c d x=>.agg [.d (.str x.B),vi x.D,vi x.T,a,b,c,d]
 e:=TPo.e
 g1:=TPo.A
 g2:=TPo.G
 g3:=TPo.F
 g4:=TPo.M
 tr:=fun _ h1 h2 h3 h4=>TrV.agg (.cons (.keep _) (.cons (.keep _) (.cons (.keep _) (.cons h1 (.cons h2 (.cons h3 (.cons h4 .nil)))))))
 cl:=fun x=>TrV.aggD (ys:=[.str x.B,.i .i64 x.D,.i .i64 x.T,eL (.i .i64) x.A,eL (.i .i64) x.G,eL (.i .i64) x.F,eL (.i .i64) x.M])
  (.cons (.keep _) (.cons (.keep _) (.cons (.keep _) (.cons (.keep _) (.cons (.keep _) (.cons (.keep _) (.cons (.keep _) .nil)))))))
 wd:=fun _ h1 h2 h3 h4=>by simp[AV.wd,AV.wdL,DV.wd,h1,h2,h3,h4]
def S_q3k (a:(List Int)):SC (List Int) (List Int) :=
.reg 0 [] [] []<|
.nils 0 (
.guard [a.length * (2 * 8)<=2 ^ 48]<|
.reg 1 [] [] []<|
.lev 0 (vl a) (.pf (lvQ true a.length fun j=>(DV.i .i64 (a.getD j dF))))<|
.br true (.pf (p:=true=true) rfl)<|
.reg 2 [] [] []<|
.bor 1 (fun j=>AV.d (Ra (a.getD j dF))) [2]<|
.cst (A:=a.length=0) (.ev 1) [(2,Rb 0 0 0 0)] [(2,(Rb 0 a.length 0 a.length))] [(Ob.seq 1 0 fun j=>AV.d (Ra (a.getD j dF)))] [(eS 1 Ra a)] (fun h=>⟨by rw[h],by unfold eS; rw[h]⟩)<|
.r a) (
.reg 1 [] [] []<|
.lev 0 (vl a) (.pf (lvQ false a.length fun j=>(DV.i .i64 (a.getD j dF))))<|
.br false (.pf (p:=false=false) rfl)<|
.guard [a.length * (2 * 8)<=2 ^ 48]<|
.reg 3 [] [(2,{ h:=.obj })] [.pf (p:=∀ k,k<a.length->(AV.d (Ra (a.getD k dF))).wd=1) (fun _ _=>rfl),.ev 0]<|
.r a)
def F_q3k (a:(List Int)):=(S_q3k a).den
theorem F_q3k_ok {a:(List Int)}:FO (F_q3k a) 110 [(vl a)] [] (fun x=>(Rb 0 x.length 0 x.length)) (fun x=>[(eQ x)]):=fO (s:=S_q3k a) Tryz.func110
abbrev R_q5h:=Y8×Int×Int×(List Int)×(List Int)×(List Int)×(List Int)
def S_q5h (a:TPo):SC R_q5h R_q5h :=
.reg 0 [] [(1,{ obs:=[(1,(TPo.b (⟨[],0,0,[],[],[],[]⟩:TPo)))] })] [.pf cz1]<|
.call (@F_q3k_ok a.A) fun g c=>
.call (@F_q3k_ok a.G) fun h d=>
.call (@F_q3k_ok a.F) fun i e=>
.call (@F_q3k_ok a.M) fun j f=>
.reg 1 [2,5,8,11,13,15,17,19] [(2,hc c [] false),(5,hc d [] false),(8,hc e [] false),(11,hc f [] false)] [.cl 3 c [] 2 false,.cl 2 d [] 3 false,.cl 1 e [] 4 false,.cl 0 f [] 5 false]<|
.reg 2 [] [] []<|
.kill 0<|
.r (a.B,a.D,a.T,g,h,i,j)
def F_q5h (a:TPo):=(S_q5h a).den
theorem F_q5h_ok {a:TPo}:FO (F_q5h a) 54 [(TPo.d a)] [] (fun x=>(Rc [(AV.d (Rf x.1)),(vi x.2.1),(vi x.2.2.1),(Rb 2 x.2.2.2.1.length 0 x.2.2.2.1.length),(Rb 3 x.2.2.2.2.1.length 0 x.2.2.2.2.1.length),(Rb 4 x.2.2.2.2.2.1.length 0 x.2.2.2.2.2.1.length),(Rb 5 x.2.2.2.2.2.2.length 0 x.2.2.2.2.2.2.length)])) (fun x=>[Re,(Rd (Rc [(AV.d (Rf x.1)),(vi x.2.1),(vi x.2.2.1),(Rb 2 x.2.2.2.1.length 0 x.2.2.2.1.length),(Rb 3 x.2.2.2.2.1.length 0 x.2.2.2.2.1.length),(Rb 4 x.2.2.2.2.2.1.length 0 x.2.2.2.2.2.1.length),(Rb 5 x.2.2.2.2.2.2.length 0 x.2.2.2.2.2.2.length)])),(eQ x.2.2.2.1),(eQ x.2.2.2.2.1),(eQ x.2.2.2.2.2.1),(eQ x.2.2.2.2.2.2)]):=fO (s:=S_q5h a) Tryz.func54
abbrev R_q1p:=Int×(List TPo)
def S_q1p_b1 (J:TTr) (i0:Nat) (u:Nat) (a:Int×(List TPo)):SC R_q1p (Step (Int×(List TPo)) R_q1p) :=
.reg 5 [] [(2,{ obs:=[(7,(TPo.b (⟨[],0,0,[],[],[],[]⟩:TPo)))] })] [.w u,.ev 0,.pf cz1]<|
 let t:=(J.E.getD u dF)
.call (@F_q5h_ok t) fun g z=>
.guard [(a.2.length+1) * (2 * 128)<=2 ^ 48]<|
 let f:=(⟨g.1,g.2.1,g.2.2.1,g.2.2.2.1,g.2.2.2.2.1,g.2.2.2.2.2.1,g.2.2.2.2.2.2⟩:TPo)
 let m:=(Rc [(AV.d (Rf g.1)),(vi g.2.1),(vi g.2.2.1),(rr 10 g.2.2.2.1),(rr 11 g.2.2.2.2.1),(rr 12 g.2.2.2.2.2.1),(rr 13 g.2.2.2.2.2.2)])
 let q:=(a.2.getD i0 dF)
 let s:=(Rc [(AV.d (Rf q.B)),(vi q.D),(vi q.T),(rr 3 q.A),(rr 4 q.G),(rr 5 q.F),(rr 6 q.M)])
 let n:=(a.2++[f])
 let C:=(Rb 2 n.length 0 n.length)
.reg 6 [3,4,5,7] [(3,hc z [] false),(4,{ h:=.obj }),(5,{ h:=.obj,cast:=some C,obs:=[(2,(Ob.seq 7 n.length (catF a.2.length (fun j=>AV.sel (decide (j=i0)) 7 s (TPo.d (a.2.getD j dF))) (listF AV.bot [m]))))] })] [.cl 1 z [] 8 false,.e 1,.e a.2.length,.e a.2.length,.pf (p:=∀ k,k<1->(listF AV.bot [m] k).wd=7) (fun k hk=>by obtain rfl:k=0:=om; rfl),.ev 0,.pf (zw (o:=2) (l:=a.2) (x:=[f])),.pf (p:=OLe (Ob.seq 7 (a.2.length+1) (catF a.2.length (fun j=>AV.sel (decide (j=i0)) 7 s (TPo.d (a.2.getD j dF))) (listF AV.bot [m]))) (Ob.seq 7 n.length (catF a.2.length (fun j=>AV.sel (decide (j=i0)) 7 s (TPo.d (a.2.getD j dF))) (listF AV.bot [m])))) (zf9 zd9)]<|
 let H:=((a.2.length=i0->0<f.A.length/\0<f.G.length/\0<f.F.length/\0<f.M.length)/\(f.A.length<2 ^ 63/\f.G.length<2 ^ 63/\f.F.length<2 ^ 63/\f.M.length<2 ^ 63))
.guard [H]<|
 let I:=[(1,(vp 0)),(2,(vp 1)),(9,(AV.d (eL TPo.e J.E))),(10,(vi (J.E.length:Int))),(11,(vi (u:Int)))]
 let v:=(TPo.b t)
 let y:=(TTr.b (⟨0,[]⟩:TTr))
 let r:=(Rc [(vi a.1),C])
.sh (A:=H) (.ev 0) I I [(Rd r),y,(Ob.seq 7 n.length (catF a.2.length (fun j=>AV.sel (decide (j=i0)) 7 s (TPo.d (a.2.getD j dF))) (listF AV.bot [m]))),(eQ (opQ TPo.A i0 a.2)),(eQ (opQ TPo.G i0 a.2)),(eQ (opQ TPo.F i0 a.2)),(eQ (opQ TPo.M i0 a.2)),v,Re,(Rd m),(eQ f.A),(eQ f.G),(eQ f.F),(eQ f.M),(Ob.seq 7 1 (listF AV.bot [m]))] [(Rd r),y,(oTApiPot.R 3 i0 n),(eQ (opQ TPo.A i0 n)),(eQ (opQ TPo.G i0 n)),(eQ (opQ TPo.F i0 n)),(eQ (opQ TPo.M i0 n)),v,Re,(Rd m),Re,Re,Re,Re,(Ob.seq 7 1 (listF AV.bot [m]))] (fun h=>z7a oTApiPot (P:=[(Rd r),y]) (D:=[v,Re,(Rd m)]) (E:=[(Ob.seq 7 1 (listF AV.bot [m]))]) (i:=i0) (l:=a.2) (x:=f) rfl rfl (fun j hj=>z1t hj) zit h.1 h.2) (z14 _)<|
.c (a.1,a.2++[f])
def S_q1p (m:TTr) (i0:Nat):SC R_q1p R_q1p :=
 let g:=(TTr.b (⟨0,[]⟩:TTr))
.reg 0 [] [(1,{ obs:=[(1,g)] })] [.pf cz4]<|
.reg 2 [] [] []<|
 let c:=(([]:List TPo).getD i0 dF)
 let i:=[(1,(vp 0)),(2,(vp 1)),(3,(AV.d (eL TPo.e m.E)))]
 let n:=(Rc [(vi m.P),(Rb 2 0 0 0)])
 let o:=[(Rd n),g,(oTApiPot.R 3 i0 [])]
.sh (A:=True) (.pf trivial) i i [(Rd (Rc [(vi m.P),(AV.full 0 fun _=>DV.b false)])),g] o (fun _=>(z28 (sz:=7) (f:=(fun j=>AV.sel (decide (j=i0)) 7 (Rc [(AV.d (Rf c.B)),(vi c.D),(vi c.T),(rr 3 c.A),(rr 4 c.G),(rr 5 c.F),(rr 6 c.M)]) (TPo.d (([]:List TPo).getD j dF)))) (.box _ _ _ _ _ (yv rfl) (TrV.agg (Rk (TrV.keep _) (Rk TrV.born TrL.nil))) (.keep _ _ _ _ (yv rfl) (.nil _))))) (z1a (k:=0) rfl (Rj _) (z1a (k:=1) rfl (Rj _) (z1a (k:=2) rfl (Rj _) z2n)))<|
.sh (A:=True) (.pf trivial) i i o [(Rd n),g,(oTApiPot.R 3 i0 []),(eQ (opQ TPo.A i0 ([]:List TPo))),(eQ (opQ TPo.G i0 ([]:List TPo))),(eQ (opQ TPo.F i0 ([]:List TPo))),(eQ (opQ TPo.M i0 ([]:List TPo)))] (fun _=>z87) (z14 _)<|
.range (m.E.length:Int) m.E.length rfl (.slot 9) 11 [1,2,9,10] (fun (_:Int×(List TPo))=>[]) (fun a=>[(0,(Rd (Rc [(vi a.1),(Rb 2 a.2.length 0 a.2.length)]))),(2,(oTApiPot.R 3 i0 a.2)),(3,(eQ (opQ TPo.A i0 a.2))),(4,(eQ (opQ TPo.G i0 a.2))),(5,(eQ (opQ TPo.F i0 a.2))),(6,(eQ (opQ TPo.M i0 a.2)))]) (m.P,([]:List TPo)) (S_q1p_b1 m i0) (fun a => 
.reg 8 [] [] []<|
.kill 0<|
.guard [i0<a.2.length]<|
 let p:=(Rc [(vi a.1),(Rb 2 a.2.length 0 a.2.length)])
 let l:=(a.2.getD i0 dF)
.cst (A:=i0<a.2.length) (.ev 0) [(2,(vp 1))] [(2,(vp 1))] [Re,(Rd p),(oTApiPot.R 3 i0 a.2),(eQ (opQ TPo.A i0 a.2)),(eQ (opQ TPo.G i0 a.2)),(eQ (opQ TPo.F i0 a.2)),(eQ (opQ TPo.M i0 a.2))] [Re,(Rd p),(oTApiPot.R 3 i0 a.2),(eQ l.A),(eQ l.G),(eQ l.F),(eQ l.M)] (fun h=>⟨rfl,by simp +zetaDelta only[ziu h]⟩)<|
.r (a.1,a.2)) id
def F_q1p (a:TTr) (i0:Nat):=(S_q1p a i0).den
theorem F_q1p_ok {a:TTr} {i0:Nat}:FO (F_q1p a i0) 81 [(TTr.d a)] [] (fun x=>(Rc [(vi x.1),(Rb 2 x.2.length 0 x.2.length)])) (fun x=>[Re,(Rd (Rc [(vi x.1),(Rb 2 x.2.length 0 x.2.length)])),(opS 7 TPo.e i0 (Rc [(AV.d (Rf (x.2.getD i0 dF).B)),(vi (x.2.getD i0 dF).D),(vi (x.2.getD i0 dF).T),(rr 3 (x.2.getD i0 dF).A),(rr 4 (x.2.getD i0 dF).G),(rr 5 (x.2.getD i0 dF).F),(rr 6 (x.2.getD i0 dF).M)]) x.2),(eQ (x.2.getD i0 dF).A),(eQ (x.2.getD i0 dF).G),(eQ (x.2.getD i0 dF).F),(eQ (x.2.getD i0 dF).M)]):=fO (s:=S_q1p a i0) Tryz.func81
abbrev R_q4h:=Int×(List Int)
def S_q4h (p0_0:Nat) (p0_1:(List TPo)) (_:Y8) (_:Int) (_:Int) (m:Int) (n:Int) (g:(List Int)) (_:(List Int)) (b:(List Int)) (_:(List Int)):SC R_q4h R_q4h :=
.call (@F_qh_ok m 1 (b.length:Int)) fun j h=>
.guard [p0_0<p0_1.length]<|
.reg 1 [] [(6,hc h [] true)] [.e p0_1.length,.e p0_1.length,.ev 0,.pf (p:=decide (p0_0=p0_0)=true) (y9 rfl),.cl 1 h [] 7 true]<|
.ite (!j) (
.r (6,b)) (
.a 3 1 7 (@F_qh_ok n 1 1000000000000000) fun k=>
.ite (!k) (
.r (2,b)) (
 let d:=(i64.wrap (m-1))
 let c:=(0+d.toNat)
.guard [(0:Int)<=d,d.toNat<b.length,c<b.length,d.toNat<g.length,c<g.length]<|
.reg 5 [] [] [.e p0_1.length,.e p0_1.length,.ev 8,.pf (p:=decide (p0_0=p0_0)=true) (y9 rfl),.e b.length,.ev 0,.ev 1,.e b.length,.ev 2,.e p0_1.length,.e p0_1.length,.ev 8,.pf (p:=decide (p0_0=p0_0)=true) (y9 rfl),.e g.length,.ev 0,.ev 3,.e g.length,.ev 4]<|
 let f:=(i64.wrap ((b.getD c dF)+n))
.ite (decide (f>(g.getD c dF))) (
.r (15,b)) (
.reg 7 [11] [(11,{ obs:=[(5,(eQ (b.set c f)))] })] [.e p0_1.length,.e p0_1.length,.ev 9,.pf (p:=decide (p0_0=p0_0)=true) (y9 rfl),.e b.length,.ev 1,.ev 2,.e b.length,.ev 3,.e b.length,.ev 1,.ev 2,.e b.length,.ev 3,.pf (zk (sz:=1) (e:=Ra) (l:=b) (i:=c) (x:=f) (fun _=>rfl))]<|
.r (0,(b.set c f)))))
def F_q4h (p0_0:Nat) (p0_1:(List TPo)) (p0_2:Y8) (p0_3:Int) (p0_4:Int) (a:Int) (b:Int) (c:(List Int)) (d:(List Int)) (e:(List Int)) (f:(List Int)):=(S_q4h p0_0 p0_1 p0_2 p0_3 p0_4 a b c d e f).den
theorem F_q4h_ok {p0_0:Nat} {p0_1:(List TPo)} {p0_2:Y8} {p0_3:Int} {p0_4:Int} {g:Int} {h:Int} {a:(List Int)} {b:(List Int)} {f:(List Int)} {c:(List Int)}:FO (F_q4h p0_0 p0_1 p0_2 p0_3 p0_4 g h a b f c) 90 [(Ri 0 p0_1.length [.x p0_0 7]),(vp 1),(vp 2)] [(opS 7 TPo.e p0_0 (Rc [(AV.d (Rf p0_2)),(vi p0_3),(vi p0_4),(Rb 3 a.length 0 a.length),(Rb 4 b.length 0 b.length),(Rb 5 f.length 0 f.length),(Rb 6 c.length 0 c.length)]) p0_1),(Rd (vi g)),(Rd (vi h)),(eQ a),(eQ b),(eQ f),(eQ c)] (fun x=>(vi x.1)) (fun x=>[(opS 7 TPo.e p0_0 (Rc [(AV.d (Rf p0_2)),(vi p0_3),(vi p0_4),(Rb 3 a.length 0 a.length),(Rb 4 b.length 0 b.length),(Rb 5 f.length 0 f.length),(Rb 6 c.length 0 c.length)]) p0_1),(Rd (vi g)),(Rd (vi h)),(eQ a),(eQ b),(eQ x.2),(eQ c)]):=fO (s:=S_q4h p0_0 p0_1 p0_2 p0_3 p0_4 g h a b f c) Tryz.func90
def S_q7a (K:TTr) (O:Y8) (Q:Int) (w:Int) (y:Int):SC (TTr×Int) (TTr×Int) :=
.reg 0 [] [(1,{ obs:=[(3,(TTr.b (⟨0,[]⟩:TTr)))] })] [.pf cz4]<|
.a 1 1 4 (@F_qs_ok K) fun L=>
 let z:=(TTr.d (⟨0,[]⟩:TTr))
.ite (!L) (
.reg 2 [] [(0,hv z)] [.pf cz5]<|
.r ((⟨0,[]⟩:TTr),1)) (
.a 3 3 4 (@F_q3j_ok K O Q) fun t=>
.ite (decide (t<0)) (
.reg 5 [] [(0,hv z)] [.pf cz5]<|
.r ((⟨0,[]⟩:TTr),6)) (
 let j:=t.toNat
.call (@F_q1p_ok K j) fun f N=>
.k 6 1 N [] 4 false<|
.kill 5<|
 let c:=(f.2.getD j dF)
.call (@F_q4h_ok j f.2 c.B c.D c.T w y c.A c.G c.F c.M) fun g E=>
.guard [(0:Int)<=t,t.toNat<f.2.length]<|
 let v:=(Ri 6 f.2.length [.x j 7])
.reg 7 [] [(4,hv v),(5,hc E [6,0,1,7,8,9,10] false)] [.e f.2.length,.ev 0,.ev 1,.pf (p:=LeV (Ri 6 f.2.length [.x (0+j) 7]) v) z54,.cl 2 E [6,0,1,7,8,9,10] 11 false]<|
.ite (g.1 != 0) (
.reg 9 [] [(0,hv z)] [.pf cz5]<|
.r ((⟨0,[]⟩:TTr),g.1)) (
.reg 10 [] [] []<|
.guard [g.2.length=c.F.length]<|
 let C:=(eQ c.A)
 let n:=(eQ c.G)
 let o:=(eQ c.M)
 let q:=(eQ g.2)
 let s:=(AV.d (Rf c.B))
.cst (A:=g.2.length=c.F.length) (.ev 0) [(8,(vp 3)),(9,(vi 0))] [(8,(vp 3)),(9,(vi 0))] [(Rd (vi w)),(Rd (vi y)),(Rd (Rc [(vi f.1),(Rb 6 f.2.length 0 f.2.length)])),(Rd (Rc [(vi f.1),(Rb 6 f.2.length 0 f.2.length)])),Re,Re,(opS 7 TPo.e j (Rc [s,(vi c.D),(vi c.T),(Rb 7 c.A.length 0 c.A.length),(Rb 8 c.G.length 0 c.G.length),(Rb 9 c.F.length 0 c.F.length),(Rb 10 c.M.length 0 c.M.length)]) f.2),C,n,q,o] [(Rd (vi w)),(Rd (vi y)),(Rd (Rc [(vi f.1),(Rb 6 f.2.length 0 f.2.length)])),(Rd (Rc [(vi f.1),(Rb 6 f.2.length 0 f.2.length)])),Re,Re,(opS 7 TPo.e j (Rc [s,(vi c.D),(vi c.T),(Rb 7 c.A.length 0 c.A.length),(Rb 8 c.G.length 0 c.G.length),(Rb 9 g.2.length 0 g.2.length),(Rb 10 c.M.length 0 c.M.length)]) f.2),C,n,q,o] (fun h=>⟨rfl,by rw[h]⟩)<|
.guard [c.A.length<2 ^ 63/\c.G.length<2 ^ 63/\g.2.length<2 ^ 63/\c.M.length<2 ^ 63]<|
 let H:=(⟨c.B,c.D,c.T,c.A,c.G,g.2,c.M⟩:TPo)
 let l:=(f.2.set j H)
 let m:=(Rc [(vi f.1),(Rb 6 f.2.length 0 f.2.length)])
 let I:=[(Rd (vi w)),(Rd (vi y)),(Rd m),(Rd m),Re,Re,(eS 7 TPo.e l),Re,Re,Re,Re]
 let u:=[(8,(vp 3)),(9,(vi 0))]
.sh (A:=c.A.length<2 ^ 63/\c.G.length<2 ^ 63/\g.2.length<2 ^ 63/\c.M.length<2 ^ 63) (.ev 0) u u [(Rd (vi w)),(Rd (vi y)),(Rd m),(Rd m),Re,Re,(opS 7 TPo.e j (Rc [s,(vi c.D),(vi c.T),(Rb 7 c.A.length 0 c.A.length),(Rb 8 c.G.length 0 c.G.length),(Rb 9 g.2.length 0 g.2.length),(Rb 10 c.M.length 0 c.M.length)]) f.2),C,n,q,o] I (fun h=>z1j oTApiPot (P:=[(Rd (vi w)),(Rd (vi y)),(Rd m),(Rd m),Re,Re]) (D:=[]) rfl (⟨c.B,c.D,c.T,[],[],[],[]⟩:TPo) H h rfl) (z14 _)<|
 let J:=(Rc [(vi f.1),(Rb 6 l.length 0 l.length)])
.cst (A:=True) (.pf trivial) u u I [(Rd (vi w)),(Rd (vi y)),(Rd J),(Rd J),Re,Re,(eS 7 TPo.e l),Re,Re,Re,Re] (fun _=>⟨Zd,Zb⟩)<|
.guard [l.length<2 ^ 63]<|
.frz 6 (.ev 0) none [] [2,3]<|
.r ((⟨f.1,l⟩:TTr),0))))
def F_q7a (a:TTr) (b:Y8) (c:Int) (d:Int) (e:Int):=(S_q7a a b c d e).den
theorem F_q7a_ok {c:TTr} {e:Y8} {f:Int} {a:Int} {b:Int}:FO (F_q7a c e f a b) 89 [(TTr.d c),(AV.d (Rf e)),(vi f),(AV.fn 90 [(vp 0),(vp 1)])] [(Rd (vi a)),(Rd (vi b))] (fun x=>(Rg [(TTr.d x.1),(vi x.2)])) (fun _=>[(Rd (vi a)),(Rd (vi b))]):=fO (s:=S_q7a c e f a b) Tryz.func89
def S_q4i (d:TTr) (e:Int) (f:Y8) (g:Int) (h:Int):SC (TTr×Int) (TTr×Int) :=
.reg 0 [] [(3,{ obs:=[(3,(TTr.b (⟨0,[]⟩:TTr)))] })] [.pf cz4]<|
.call (@F_q7a_ok d f g e h) fun a c=>
.k 1 4 c [1,2] 4 true<|
.r (a.1,a.2)
def F_q4i (a:TTr) (b:Int) (c:Y8) (d:Int) (e:Int):=(S_q4i a b c d e).den
theorem F_q4i_ok {a:TTr} {b:Int} {c:Y8} {e:Int} {f:Int}:FO (F_q4i a b c e f) 40 [(TTr.d a),(vi b),(AV.d (Rf c)),(vi e),(vi f)] [] (fun x=>(Rg [(TTr.d x.1),(vi x.2)])) NL:=fO (s:=S_q4i a b c e f) Tryz.func40
end
end Go.Proofs.YtgbpiaddmclccaaGreatDoor
/- What the functions compute,and that their calls return it. No condition. -/
namespace Go.Proofs.YtgbpiaddmclccaaGreatDoor
open Go Go.TA
open Go.IntKind (i64)
noncomputable section
set_option maxRecDepth 100000
def S_q4j (h:TTr) (i:Int) (l:Y8) (m:Int):SC (TMe×Int) (TMe×Int) :=
.a 1 1 2 (@F_qs_ok h) fun j=>
 let e:=(⟨0,0,[],0,0,0,0,0⟩:TMe)
.ite (!j) (
.r (e,1)) (
.call (@F_q2e_ok h l m) fun c f=>
.reg 3 [] [(3,hc f [] true),(7,{ obs:=[(2,(TPo.b (⟨[],0,0,[],[],[],[]⟩:TPo)))] })] [.cl 0 f [] 2 true,.pf cz1]<|
.calld [(!c.2)=false] dF (@F_qh_ok i 1 h.P) fun k g =>
.reg 4 [] [(6,hc g [] true)] [.clg 0 [(!c.2)=false] g [] 3 true]<|
.ite (cO (!c.2) (!k)) (
.r (e,6)) (
 let d:=(i64.wrap (i-1))
.guard [(0:Int)<=d,d.toNat<c.1.A.length,d.toNat<c.1.F.length]<|
.reg 6 [16] [] [.ev 0,.ev 1,.ev 0,.ev 2]<|
.r ((⟨0,i,l,m,(c.1.A.getD d.toNat dF),(c.1.F.getD d.toNat dF),0,0⟩:TMe),0)))
def F_q4j (a:TTr) (b:Int) (c:Y8) (d:Int):=(S_q4j a b c d).den
theorem F_q4j_ok {a:TTr} {b:Int} {c:Y8} {e:Int}:FO (F_q4j a b c e) 41 [(TTr.d a),(vi b),(AV.d (Rf c)),(vi e)] [] (fun x=>(Rg [(TMe.d x.1),(vi x.2)])) NL:=fO (s:=S_q4j a b c e) Tryz.func41
abbrev R_qi:=TTr×(List TMe)×Int
def S_qi_b1 (t:Y8) (u:Int) (g:(TPo×Bool)) (i:R_q6) (c:Nat) (b:TTr×(List TMe)):SC R_qi (Step (TTr×(List TMe)) R_qi) :=
.reg 8 [] [] [.w c,.ev 0]<|
.ite ((i.getD c dF)==0) (
.r (.cont (b.1,b.2))) (
 let j:=(i64.wrap ((g.1.G.getD c dF)-(g.1.F.getD c dF)))
 let m:=(i64.wrap ((c:Int)+1))
.call (@F_q4i_ok b.1 m t u (i64.wrap ((i.getD c dF)+(if 0>j then 0 else j)))) fun n q=>
.guard [c<g.1.G.length,c<g.1.F.length]<|
.reg 10 [23] [(19,hc q [] true)] [.w c,.ev 0,.w c,.ev 1,.cl 2 q [] 4 true]<|
.a 11 5 4 (@F_q4j_ok n.1 m t u) fun s=>
.guard [(b.2.length+1) * (2 * 72)<=2 ^ 48]<|
 let f:=([s.1]:List TMe)
.reg 12 [] [(2,hv (AV.d (eL TMe.e f))),(3,{ h:=.obj,cast:=some (Rb 3 ((b.2++f).length) 0 ((b.2++f).length)),obs:=[(3,(eS 8 TMe.e (b.2++f)))] })] [.pf (z9 TMe.e f),.e b.2.length,.e b.2.length,.pf (p:=∀ k,k<1->(TMe.d (f.getD k dF)).wd=8) (fun _ _=>rfl),.ev 0,.pf (zw (o:=3) (l:=b.2) (x:=f)),.pf (zy (sz:=8) (e:=TMe.e) (l:=b.2) (x:=f))]<|
.r (.cont (n.1,(b.2++f))))
def S_qi (n:TTr) (l:Y8) (m:Int) (o:Int):SC R_qi R_qi :=
.reg 0 [] [(1,{ obs:=[(1,(TTr.b (⟨0,[]⟩:TTr)))] })] [.pf cz4]<|
.a 1 4 2 (@F_q4g_ok n l m o) fun f=>
.ite (f.2 != 0) (
 let g:=(TTr.d (⟨0,[]⟩:TTr))
.reg 3 [] [(0,hv g)] [.pf cz5]<|
.ret [.pf (p:=LeV (Rg [g,(AV.full 0 fun _=>DV.b false),(vi f.2)]) (Rg [g,(AV.d (eL TMe.e ([]))),(vi f.2)])) (LeV.tup (LeVs.cons (LeV.refl _) (LeVs.cons (lvN TMe.e) (LeVs.cons (LeV.refl _) LeVs.nil))))] ((⟨0,[]⟩:TTr),[],f.2)) (
.call (@F_q2e_ok f.1 l m) fun i k=>
.reg 4 [] [(3,hc k [] true),(7,{ obs:=[(2,(TPo.b (⟨[],0,0,[],[],[],[]⟩:TPo)))] })] [.cl 0 k [] 2 true,.pf cz1]<|
.a 6 1 3 (@F_q6_ok i.1) fun h=>
.bor 8 (fun j=>AV.d (TMe.e (([]:List TMe).getD j dF))) [14]<|
.range (h.length:Int) h.length rfl (.slot 39) 41 [1,2,4,8,12,39,40] (fun (c:TTr×(List TMe))=>[(14,(Rb 3 c.2.length 0 c.2.length))]) (fun c=>[(0,(TTr.b c.1)),(3,(eS 8 TMe.e c.2))]) (f.1,([]:List TMe)) (S_qi_b1 l m i h) (fun c => 
.guard [c.2.length<2 ^ 63]<|
.reg 14 [] [] []<|
.frz 3 (.ev 0) none [9] []<|
.r (c.1,c.2,0)) id)
def F_qi (a:TTr) (b:Y8) (c:Int) (d:Int):=(S_qi a b c d).den
theorem F_qi_ok {a:TTr} {b:Y8} {c:Int} {f:Int}:FO (F_qi a b c f) 16 [(TTr.d a),(AV.d (Rf b)),(vi c),(vi f)] [] (fun x=>(Rg [(TTr.d x.1),(AV.d (eL TMe.e x.2.1)),(vi x.2.2)])) NL:=fO (s:=S_qi a b c f) Tryz.func16
theorem cz8:LeV (AV.full 0 fun _=>DV.b false) (AV.d (eL TLi.e ([]))):=lvN TLi.e
abbrev R_q2h:=(List TLi)
def S_q2h_b1 (n:TTr) (j:Nat) (f:(List TLi)):SC R_q2h (Step ((List TLi)) R_q2h) :=
.reg 6 [] [(2,{ obs:=[(2,(TPo.b (⟨[],0,0,[],[],[],[]⟩:TPo)))] })] [.w j,.ev 0,.pf cz1]<|
 let i:=(n.E.getD j dF)
.a 7 1 3 (@F_q3a_ok i) fun m=>
.ite (decide (m>0)) (
.guard [(f.length+1) * (2 * 32)<=2 ^ 48]<|
 let g:=([(⟨i.B,i.D,m⟩:TLi)]:List TLi)
.reg 9 [] [(7,hv (AV.d (eL TLi.e g))),(8,{ h:=.obj,cast:=some (Rb 1 ((f++g).length) 0 ((f++g).length)),obs:=[(1,(eS 3 TLi.e (f++g)))] })] [.pf (z9 TLi.e g),.e f.length,.e f.length,.pf (p:=∀ k,k<1->(TLi.d (g.getD k dF)).wd=3) (fun _ _=>rfl),.ev 0,.pf (zw (o:=1) (l:=f) (x:=g)),.pf (zy (sz:=3) (e:=TLi.e) (l:=f) (x:=g))]<|
.r (.cont (f++g))) (
.c f)
def S_q2h (c:TTr):SC R_q2h R_q2h :=
.a 1 1 1 (@F_qs_ok c) fun f=>
.ite (!f) (
.ret [.pf cz8] ([])) (
.reg 4 [] [] []<|
.bor 3 (fun j=>AV.d (TLi.e (([]:List TLi).getD j dF))) [3]<|
.range (c.E.length:Int) c.E.length rfl (.slot 11) 13 [11,12] (fun (b:(List TLi))=>[(3,(Rb 1 b.length 0 b.length))]) (fun b=>[(1,(eS 3 TLi.e b))]) ([]:List TLi) (S_q2h_b1 c) (fun b => 
.guard [b.length<2 ^ 63]<|
.reg 11 [] [] []<|
.frz 1 (.ev 0) none [2] []<|
.r b) id)
def F_q2h (a:TTr):=(S_q2h a).den
theorem F_q2h_ok {a:TTr}:FO (F_q2h a) 17 [(TTr.d a)] [] (fun x=>(AV.d (eL TLi.e x))) NL:=fO (s:=S_q2h a) Tryz.func17
def S_q4k:SC Bool Bool :=
 let o:=(⟨[49],12,100,([60,40]:List Int),([0,0]:List Int),([0,0]:List Int),([50,10]:List Int)⟩:TPo)
 let m:=(TTr.b (⟨0,[]⟩:TTr))
 let f:=([o]:List TPo)
.reg 1 [] [(0,hv (vl ([60,40]:List Int))),(1,hv (vl ([0,0]:List Int))),(2,hv (vl ([0,0]:List Int))),(3,hv (vl ([50,10]:List Int))),(5,hv (AV.d (eL TPo.e f))),(7,{ obs:=[(0,m)] })] [.pf (z9 Ra ([60,40]:List Int)),.pf (z9 Ra ([0,0]:List Int)),.pf (z9 Ra ([0,0]:List Int)),.pf (z9 Ra ([50,10]:List Int)),.pf (z9 TPo.e f),.pf cz4]<|
.call (@F_qi_ok (⟨2,f⟩:TTr) ([49]) 12 55) fun c n=>
.reg 2 [] [(1,hc n [] true),(6,{ obs:=[(1,m)] })] [.cl 0 n [] 1 true,.pf cz4]<|
.a 3 1 2 (@F_q2h_ok c.1) fun g=>
 let h:=(bif (c.2.2==0) then ((c.2.1.length:Int)==2) else false)
 let j:=(bif h then (((c.2.1.getD 0 dF).F)==10) else false)
 let k:=(bif (bif j then (((c.2.1.getD 1 dF).F)==30) else false) then ((g.length:Int)==1) else false)
.guard [AllP [h=true]->(0<c.2.1.length),AllP [j=true]->(1<c.2.1.length),AllP [k=true]->(0<g.length)]<|
.reg 4 [] [] [.pf (p:=AllP [h=true]->((0:Int)<=0)) (fun _=>dk),.ev 0,.pf (p:=AllP [j=true]->((0:Int)<=1)) (fun _=>dk),.ev 1,.pf (p:=AllP [k=true]->((0:Int)<=0)) (fun _=>dk),.ev 2]<|
 let l:=(g.getD 0 dF)
.r (bif k then ((l.B==([49]))&&((l.D==12)&&((l.V==45)&&true))) else false)
def F_q4k:=S_q4k.den
theorem F_q4k_ok :FO F_q4k 5 [] [] vb NL:=fO (s:=S_q4k) Tryz.func5
def S_q5i (b:(List Int)):SC TTape TTape :=
 let a:=(if 500<(b.length:Int) then 500 else (b.length:Int))
.guard [(0:Int)<=a,a.toNat<=b.length]<|
 let c:=(b.take a.toNat)
.reg 1 [] [(4,hv (vl c))] [.ev 0,.ev 1,.der (fun (h0:a.toNat<=b.length)=>lvT Ra b h0) 1]<|
.r (⟨c,0⟩:TTape)
def F_q5i (a:(List Int)):=(S_q5i a).den
theorem F_q5i_ok {a:(List Int)}:FO (F_q5i a) 6 [(vl a)] [] (fun _=>(vp 0)) (fun x=>[(TTape.b x)]):=fO (s:=S_q5i a) Tryz.func6
theorem cz9:OLe (bx (DV.agg [(DV.agg [(DV.i .i64 0),Z0]),Z0,Z0])) (TWo.b (⟨(⟨0,[]⟩:TTr),[],[]⟩:TWo)):=z4o (DLe.agg (Rh (DLe.agg (Rh (DLe.refl _) (Rh DLe.sl0 DLeL.nil))) (Rh DLe.sl0 (Rh DLe.sl0 DLeL.nil))))
theorem z25:LeV (AV.d (DV.agg [(DV.agg [(DV.i .i64 0),Z0]),Z0,Z0])) (TWo.d (⟨(⟨0,[]⟩:TTr),[],[]⟩:TWo)):=z2o rfl (DLe.agg (DLeL.cons (DLe.agg (DLeL.cons (DLe.refl _) (DLeL.cons DLe.sl0 DLeL.nil))) (DLeL.cons DLe.sl0 (DLeL.cons DLe.sl0 DLeL.nil))))
def S_q1q_b1 (g:Int) (a:TTr×(List TMe)×(List TJo)×Int):SC (TWo×Int) (Step (TTr×(List TMe)×(List TJo)×Int) (TWo×Int)) :=
.ite (decide (a.2.2.2<=g)) (
.guard [(a.2.2.1.length+1) * (2 * 40)<=2 ^ 48]<|
 let f:=(⟨a.2.2.2,[],0⟩:TJo)
 let b:=([f]:List TJo)
 let c:=(a.2.2.1++b)
.reg 7 [] [(3,hv (TJo.d f)),(4,hv (AV.d (eL TJo.e b))),(5,{ cast:=some (Rb 2 c.length 0 c.length),obs:=[(2,(eS 3 TJo.e c))] })] [.pf (p:=LeV (AV.d (DV.agg [(DV.i .i64 a.2.2.2),Z0,(DV.i .i64 0)])) (TJo.d f)) (z2o rfl (DLe.agg (Rh (DLe.refl _) (Rh DLe.sl0 (Rh (DLe.refl _) DLeL.nil))))),.pf (z9 TJo.e b),.e a.2.2.1.length,.e a.2.2.1.length,.pf (p:=∀ k,k<1->(TJo.d (b.getD k dF)).wd=3) (fun _ _=>rfl),.ev 0,.pf (zw (o:=2) (l:=a.2.2.1) (x:=b)),.pf (zy (sz:=3) (e:=TJo.e) (l:=a.2.2.1) (x:=b))]<|
.r (.cont (a.1,a.2.1,c,(i64.wrap (a.2.2.2+1))))) (
.r (.brk (a.1,a.2.1,a.2.2.1,a.2.2.2)))
def S_q1q (g:Int):SC (TWo×Int) (TWo×Int) :=
 let l:=(⟨(⟨0,[]⟩:TTr),[],[]⟩:TWo)
 let m:=(TWo.b l)
.reg 0 [] [(0,{ obs:=[(0,m)] })] [.pf cz9]<|
.ite (cO (decide (g<1)) (decide (g>6))) (
.reg 2 [] [(0,hv (TWo.d l))] [.pf z25]<|
.r (l,2)) (
 let c:=(TTr.d (⟨g,[]⟩:TTr))
.reg 3 [] [(1,hv c),(2,{ h:=.obj }),(3,{ h:=.obj })] [.pf (p:=LeV (AV.d (DV.agg [(DV.i .i64 g),Z0])) c) (z2o rfl (DLe.agg (Rh (DLe.refl _) (Rh DLe.sl0 DLeL.nil))))]<|
 let n:=[(0,(vi g)),(2,(vp 0)),(4,(vp 1))]
 let o:=(AV.full 0 fun _=>DV.b false)
.sh (A:=True) (.pf trivial) n n [m,(Rd (Rc [c,o,o]))] [m,(Rd (Rc [c,(Rb 2 0 0 0),(AV.d (eL TMe.e ([]:List TMe)))])),(eS 3 TJo.e ([]:List TJo))] (fun _=>(z28 (sz:=3) (f:=fun j=>AV.d (TJo.e (([]:List TJo).getD j dF))) (.keep _ _ _ _ (yv rfl) (.box _ _ _ _ _ (yv rfl) (TrV.agg (Rk (TrV.keep _) (Rk TrV.born (Rk TrV.full TrL.nil)))) (.nil _))))) (z1a (k:=0) rfl (Rj _) (z1a (k:=1) rfl (Rj _) (z1a (k:=2) rfl (Rj _) z2n)))<|
.iter [0,2,4] (fun (a:TTr×(List TMe)×(List TJo)×Int)=>[(5,(vi a.2.2.2))]) (fun a=>[(1,(Rd (Rc [(TTr.d a.1),(Rb 2 a.2.2.1.length 0 a.2.2.1.length),(AV.d (eL TMe.e a.2.1))]))),(2,(eS 3 TJo.e a.2.2.1))]) ((⟨g,[]⟩:TTr),([]:List TMe),([]:List TJo),1) (S_q1q_b1 g) (fun a =>
.guard [a.2.2.1.length<2 ^ 63]<|
.reg 8 [] [] []<|
.frz 2 (.ev 0) none [] [0,1]<|
.r ((⟨a.1,a.2.2.1,a.2.1⟩:TWo),0)) id)
def F_q1q (a:Int):=(S_q1q a).den
theorem F_q1q_ok {a:Int}:FO (F_q1q a) 18 [(vi a)] [] (fun x=>(Rg [(TWo.d x.1),(vi x.2)])) NL:=fO (s:=S_q1q a) Tryz.func18
def S_q2 (d:Int) (a:TTape):SC (Int×TTape) (Int×TTape) :=
.ite (decide (a.at_>=(a.l.length:Int))) (
.r (0,a)) (
.guard [(0:Int)<=a.at_,a.at_.toNat<a.l.length,(d:Int)≠0]<|
.reg 3 [] [] [.ev 0,.ev 1,.ev 2]<|
 let b:=((a.l.getD a.at_.toNat dF).tmod d)
 let c:=(⟨a.l,(i64.wrap (a.at_+1))⟩:TTape)
.ite (decide (b<0)) (
.r ((i64.wrap (b+d)),c)) (
.r (b,c)))
def F_q2 (a:Int) (b:TTape):=(S_q2 a b).den
theorem F_q2_ok {a:Int} {c:TTape}:FO (F_q2 a c) 21 [(vp 0),(vi a)] [(TTape.b c)] (fun x=>(vi x.1)) (fun x=>[(TTape.b x.2)]):=fO (s:=S_q2 a c) Tryz.func21
def S_q8 (c:(List Int)) (d:TTape):SC (Int×TTape) (Int×TTape) :=
.call (@F_q2_ok (c.length:Int) d) fun a b=>
.guard [(0:Int)<=a.1,a.1.toNat<c.length]<|
.reg 1 [] [(4,hc b [0] false)] [.cl 2 b [0] 1 false,.ev 0,.ev 1]<|
.r ((c.getD a.1.toNat dF),a.2)
def F_q8 (a:(List Int)) (b:TTape):=(S_q8 a b).den
theorem F_q8_ok {a:(List Int)} {c:TTape}:FO (F_q8 a c) 24 [(vp 0),(vl a)] [(TTape.b c)] (fun x=>(vi x.1)) (fun x=>[(TTape.b x.2)]):=fO (s:=S_q8 a c) Tryz.func24
def S_q1g (c:Int) (d:Int) (e:TTape):SC (Int×TTape) (Int×TTape) :=
.call (@F_q2_ok (i64.wrap ((i64.wrap (d-c))+1)) e) fun a b=>
.k 1 6 b [0] 1 false<|
.r ((i64.wrap (c+a.1)),a.2)
def F_q1g (a:Int) (b:Int) (c:TTape):=(S_q1g a b c).den
theorem F_q1g_ok {a:Int} {c:Int} {d:TTape}:FO (F_q1g a c d) 52 [(vp 0),(vi a),(vi c)] [(TTape.b d)] (fun x=>(vi x.1)) (fun x=>[(TTape.b x.2)]):=fO (s:=S_q1g a c d) Tryz.func52
def S_qt_b1 (g:Y8) (a:Int×Int×Int):SC Bool (Step (Int×Int×Int) Bool) :=
.ite (decide (a.2.2<(g.length:Int))) (
.guard [(0:Int)<=a.2.2,a.2.2.toNat<g.length]<|
.reg 6 [] [] [.ev 0,.ev 1]<|
 let b:=((g.getD a.2.2.toNat 0).toNat:Int)
 let e:=(i64.wrap (a.2.2+1))
.ite (b==46) (
.ite (a.1==0) (
.r (.ret false)) (
.r (.cont (0,(i64.wrap (a.2.1+1)),e)))) (
 let c:=(decide (b<48))
 let d:=(cO c (decide (b>57)))
 let f:=(a.2.2.toNat<g.length)
.guard [AllP [c=false]->((0:Int)<=a.2.2),AllP [c=false]->f,AllP [(a.1==0)=true,d=false]->((0:Int)<=a.2.2),AllP [(a.1==0)=true,d=false]->f]<|
.reg 11 [] [] [.ev 5,.ev 6,.ev 0,.ev 1,.ev 2,.ev 3]<|
.ite (cO (cO d (bif (a.1==0) then (b==48) else false)) (a.1==2)) (
.r (.ret false)) (
.r (.cont ((i64.wrap (a.1+1)),a.2.1,e))))) (
.r (.brk (a.1,a.2.1,a.2.2)))
def S_qt (b:Y8):SC Bool Bool :=
.iter [0] (fun (a:Int×Int×Int)=>[(3,(vi a.1)),(4,(vi a.2.1)),(5,(vi a.2.2))]) (fun _=>[]) (0,1,0) (S_qt_b1 b) (fun a =>
.r (bif (decide (a.1>0)) then (decide (a.2.1<=4)) else false)) id
def F_qt (a:Y8):=(S_qt a).den
theorem F_qt_ok {a:Y8}:FO (F_qt a) 94 [(AV.d (Rf a))] [] vb NL:=fO (s:=S_qt a) Tryz.func94
def S_qo (a:Int):SC Bool Bool :=
.r (bif (decide (a>=0)) then (decide (a<=1000000000000000)) else false)
def F_qo (a:Int):=(S_qo a).den
theorem F_qo_ok {a:Int}:FO (F_qo a) 149 [(vi a)] [] vb NL:=fO (s:=S_qo a) Tryz.func149
def S_q1r_b1 (c:TPo) (a:Nat) (s:Int):SC Bool (Step Int Bool) :=
 let j:=(c.A.getD a dF)
.call (@F_qo_ok j) fun d k=>
 let l:=(c.G.getD a dF)
.calld [(!d)=false] dF (@F_qo_ok l) fun t m =>
 let e:=(cO (!d) (!t))
 let n:=(c.F.getD a dF)
.calld [e=false] dF (@F_qo_ok n) fun u o =>
 let f:=(cO e (!u))
.calld [f=false] dF (@F_qo_ok (c.M.getD a dF)) fun v q =>
 let g:=(cO f (!v))
 let i:=(cO g (decide (l>j)))
.guard [AllP [(!d)=false]->(a<c.G.length),AllP [e=false]->(a<c.F.length),AllP [f=false]->(a<c.M.length),AllP [g=false]->(a<c.G.length),AllP [i=false]->(a<c.F.length)]<|
 let b:=((0:Int)<=(a:Int))
.reg 9 [] [(5,hc k [] true),(13,hc m [] true),(22,hc o [] true),(31,hc q [] true)] [.w a,.ev 12,.cl 11 k [] 1 true,.pf (p:=AllP [(!d)=false]->b) (fun _=>(y1z _)),.ev 0,.clg 9 [(!d)=false] m [] 1 true,.pf (p:=AllP [e=false]->b) (fun _=>(y1z _)),.ev 1,.clg 7 [e=false] o [] 1 true,.pf (p:=AllP [f=false]->b) (fun _=>(y1z _)),.ev 2,.clg 5 [f=false] q [] 1 true,.pf (p:=AllP [g=false]->b) (fun _=>(y1z _)),.ev 3,.pf (p:=AllP [g=false]->b) (fun _=>(y1z _)),.der (fun (h:a<c.A.length) (_:AllP [g=false])=>h) 12,.pf (p:=AllP [i=false]->b) (fun _=>(y1z _)),.ev 4,.pf (p:=AllP [i=false]->b) (fun _=>(y1z _)),.der (fun (h:a<c.A.length) (_:AllP [i=false])=>h) 12]<|
.ite (cO i (decide (n>j))) (
.r (.ret false)) (
.reg 11 [] [] [.w a,.ev 13]<|
.r (.cont (i64.wrap (s+j))))
def S_q1r (b:TPo) (d:Int):SC Bool Bool :=
.a 1 2 1 (@F_qt_ok b.B) fun e=>
.ite (cO (cO (cO (cO (!e) (decide (b.D<0))) (decide (b.D>99))) (decide (b.T<(-1000000000000000)))) (decide (b.T>1000000000000000))) (
.r false) (
.ite (cO (cO (cO ((b.A.length:Int) != d) ((b.G.length:Int) != d)) ((b.F.length:Int) != d)) ((b.M.length:Int) != d)) (
.r false) (
.guard [b.A.length<2 ^ 63]<|
.range (b.A.length:Int) b.A.length rfl (.why (.ev 0)) 60 [2,59] (fun (c:Int)=>[(5,(vi c))]) (fun _=>[]) 0 (S_q1r_b1 b) (fun c => 
.r (decide (c<=1000000000000000))) id))
def F_q1r (a:TPo) (b:Int):=(S_q1r a b).den
theorem F_q1r_ok {a:TPo} {b:Int}:FO (F_q1r a b) 118 [(TPo.d a),(vi b)] [] vb NL:=fO (s:=S_q1r a b) Tryz.func118
abbrev R_q12:=(List Int)
def S_q12_b1 (f:Y8) (a:(List Int)×Int×Int×Int):SC R_q12 (Step ((List Int)×Int×Int×Int) R_q12) :=
.ite (decide (a.2.2.2<=(f.length:Int))) (
 let g:=(a.2.2.2==(f.length:Int))
 let q:=(a.2.2.2.toNat<f.length)
.guard [AllP [g=false]->((0:Int)<=a.2.2.2),AllP [g=false]->q]<|
.reg 8 [] [] [.ev 0,.ev 1]<|
 let c:=((f.getD a.2.2.2.toNat 0).toNat:Int)
 let s:=(i64.wrap (a.2.2.2+1))
.ite (cO g (c==46)) (
 let j:=(cO (a.2.2.1==0) (decide (a.2.2.1>2)))
 let m:=(i64.wrap (a.2.2.2-a.2.2.1))
.guard [AllP [j=false]->((0:Int)<=m),AllP [j=false]->(m.toNat<f.length)]<|
.reg 9 [] [] [.ev 0,.ev 1]<|
.ite (cO j (((f.getD m.toNat 0).toNat:Int)==48)) (
.ret [.pf cz7] (.ret ([]))) (
.guard [(a.1.length+1) * (2 * 8)<=2 ^ 48]<|
 let b:=([a.2.1]:List Int)
.reg 11 [] [(2,hv (vl b)),(3,{ h:=.obj,cast:=some (Rb 0 ((a.1++b).length) 0 ((a.1++b).length)),obs:=[(0,(eQ (a.1++b)))] })] [.pf (z9 Ra b),.e a.1.length,.e a.1.length,.pf (p:=∀ k,k<1->(AV.d (Ra (b.getD k dF))).wd=1) (fun _ _=>rfl),.ev 0,.pf (zw (o:=0) (l:=a.1) (x:=b)),.pf (zy (sz:=1) (e:=Ra) (l:=a.1) (x:=b))]<|
.r (.cont ((a.1++b),0,0,s)))) (
 let n:=(decide (c<48))
.guard [(0:Int)<=a.2.2.2,a.2.2.2.toNat<f.length,AllP [n=false]->((0:Int)<=a.2.2.2),AllP [n=false]->q]<|
.reg 13 [] [] [.ev 0,.ev 1,.ev 2,.ev 3]<|
.ite (cO n (decide (c>57))) (
.ret [.pf cz7] (.ret ([]))) (
.reg 15 [] [] [.ev 1,.ev 2]<|
.r (.cont (a.1,(i64.wrap ((i64.wrap (10 * a.2.1))+(i64.wrap (IntKind.u8.wrap (c-48))))),(i64.wrap (a.2.2.1+1)),s))))) (
.r (.brk (a.1,a.2.1,a.2.2.1,a.2.2.2)))
def S_q12 (b:Y8):SC R_q12 R_q12 :=
.ite (decide ((b.length:Int)>12)) (
.ret [.pf cz7] ([])) (
.reg 5 [] [] []<|
.bor 1 (fun j=>AV.d (Ra (([]:List Int).getD j dF))) [3]<|
.iter [0] (fun (a:(List Int)×Int×Int×Int)=>[(3,(Rb 0 a.1.length 0 a.1.length)),(4,(vi a.2.1)),(5,(vi a.2.2.1)),(6,(vi a.2.2.2))]) (fun a=>[(0,(eQ a.1))]) (([]:List Int),0,0,0) (S_q12_b1 b) (fun a =>
.ite (decide ((a.1.length:Int)>4)) (
.ret [.pf cz7] ([])) (
.guard [a.1.length<2 ^ 63]<|
.reg 18 [] [] []<|
.frz 0 (.ev 0) none [2] []<|
.r a.1)) id)
def F_q12 (a:Y8):=(S_q12 a).den
theorem F_q12_ok {a:Y8}:FO (F_q12 a) 148 [(AV.d (Rf a))] [] vl NL:=fO (s:=S_q12 a) Tryz.func148
def S_q14_b1 (b:R_q12) (c:R_q12) (a:Int):SC Int (Step Int Int) :=
.ite (bif (decide (a<(b.length:Int))) then (decide (a<(c.length:Int))) else false) (
.guard [(0:Int)<=a,a.toNat<b.length,a.toNat<c.length]<|
.reg 15 [] [] [.ev 0,.ev 1,.ev 0,.ev 2]<|
 let d:=(b.getD a.toNat dF)
 let e:=(c.getD a.toNat dF)
.ite (decide (d<e)) (
.r (.ret (-1))) (
.reg 17 [] [] [.ev 1,.ev 2,.ev 1,.ev 3]<|
.ite (decide (d>e)) (
.r (.ret 1)) (
.r (.cont (i64.wrap (a+1)))))) (
.r (.brk a))
def S_q14 (g:Y8) (h:Y8):SC Int Int :=
.call (@F_q12_ok g) fun c d=>
.call (@F_q12_ok h) fun e f=>
.reg 1 [] [(1,hc d [] true),(3,hc f [] true)] [.cl 1 d [] 0 true,.cl 0 f [] 0 true]<|
 let a:=(c.length:Int)
 let b:=(e.length:Int)
.ite (cO (a==0) (b==0)) (
.ite (decide (a>0)) (
.r 1) (
.ite (decide (b>0)) (
.r (-1)) (
.ite (Op.bytesLess g h) (
.r (-1)) (
.ite (!(Op.bytesLess g h||g==h)) (
.r 1) (
.r 0))))) (
.iter [5,6] (fun (i:Int)=>[(7,(vi i))]) (fun _=>[]) 0 (S_q14_b1 c e) (fun _ =>
.ite (decide (a<b)) (
.r (-1)) (
.ite (decide (a>b)) (
.r 1) (
.r 0))) id)
def F_q14 (a:Y8) (b:Y8):=(S_q14 a b).den
theorem F_q14_ok {a:Y8} {b:Y8}:FO (F_q14 a b) 96 [(AV.d (Rf a)),(AV.d (Rf b))] [] vi NL:=fO (s:=S_q14 a b) Tryz.func96
def S_q15_b1 (h:TTr) (d:Nat) (_:Unit):SC Bool (Step Unit Bool) :=
.reg 5 [] [(3,{ obs:=[(1,(TPo.b (⟨[],0,0,[],[],[],[]⟩:TPo)))] })] [.w d,.ev 0,.pf cz1]<|
 let f:=(h.E.getD d dF)
.a 6 3 2 (@F_q1r_ok f h.P) fun k=>
.ite (!k) (
.r (.ret false)) (
.ite (decide ((d:Int)>0)) (
 let c:=(i64.wrap ((d:Int)-1))
 let i:=(h.E.getD c.toNat dF)
.call (@F_q14_ok i.B f.B) fun e j=>
.guard [(0:Int)<=c,c.toNat<h.E.length]<|
.reg 9 [] [(9,hc j [] true)] [.ev 0,.ev 1,.cl 2 j [] 2 true]<|
 let g:=(decide (e>0))
.guard [AllP [(e==0)=true,g=false]->((0:Int)<=c),AllP [(e==0)=true,g=false]->(c.toNat<h.E.length)]<|
.reg 10 [] [] [.ev 0,.ev 1]<|
.ite (cO g (bif (e==0) then (decide (i.D>=f.D)) else false)) (
.r (.ret false)) (
.r (.cont ()))) (
.r (.cont ())))
def S_q15 (a:TTr):SC Bool Bool :=
.ite (cO (cO (decide (a.P<1)) (decide (a.P>6))) (decide ((a.E.length:Int)>60))) (
.r false) (
.range (a.E.length:Int) a.E.length rfl (.slot 21) 23 [1,21,22] (fun (_:Unit)=>[]) (fun _=>[]) () (S_q15_b1 a) (fun _ => 
.r true) id)
def F_q15 (a:TTr):=(S_q15 a).den
theorem F_q15_ok {a:TTr}:FO (F_q15 a) 63 [(TTr.d a)] [] vb NL:=fO (s:=S_q15 a) Tryz.func63
theorem z18:OLe (bx (DV.agg [(DV.i .i64 0),Z0,(DV.agg [Z0,Z0,Z0,Z0])])) (TOf.b (⟨0,[],(⟨[],[],[],[]⟩:TBo)⟩:TOf)):=z4o (DLe.agg (DLeL.cons (DLe.refl _) (DLeL.cons DLe.sl0 (DLeL.cons (DLe.agg (DLeL.cons DLe.sl0 (DLeL.cons DLe.sl0 (DLeL.cons DLe.sl0 (DLeL.cons DLe.sl0 DLeL.nil))))) DLeL.nil))))
theorem z1v:LeV (AV.d (DV.agg [(DV.i .i64 0),Z0,(DV.agg [Z0,Z0,Z0,Z0])])) (TOf.d (⟨0,[],(⟨[],[],[],[]⟩:TBo)⟩:TOf)):=z2o rfl (DLe.agg (DLeL.cons (DLe.refl _) (DLeL.cons DLe.sl0 (DLeL.cons (DLe.agg (DLeL.cons DLe.sl0 (DLeL.cons DLe.sl0 (DLeL.cons DLe.sl0 (DLeL.cons DLe.sl0 DLeL.nil))))) DLeL.nil))))
def S_q42 (f:Int):SC (TOf×Int) (TOf×Int) :=
 let e:=(⟨[],[],[],[]⟩:TBo)
 let a:=(⟨0,[],e⟩:TOf)
.reg 0 [] [(0,{ obs:=[(0,(TOf.b a))] })] [.pf z18]<|
.ite (cO (decide (f<1)) (decide (f>6))) (
.reg 2 [] [(0,hv (TOf.d a))] [.pf z1v]<|
.r (a,2)) (
 let c:=(⟨f,[],e⟩:TOf)
.reg 3 [] [(1,hv (TOf.d c))] [.pf (p:=LeV (AV.d (DV.agg [(DV.i .i64 f),Z0,(DV.agg [Z0,Z0,Z0,Z0])])) (TOf.d c)) (z2o rfl (DLe.agg (Rh (DLe.refl _) (Rh DLe.sl0 (Rh (DLe.agg (Rh DLe.sl0 (Rh DLe.sl0 (Rh DLe.sl0 (Rh DLe.sl0 DLeL.nil))))) DLeL.nil)))))]<|
.r (c,0))
def F_q42 (a:Int):=(S_q42 a).den
theorem F_q42_ok {a:Int}:FO (F_q42 a) 92 [(vi a)] [] (fun x=>(Rg [(TOf.d x.1),(vi x.2)])) NL:=fO (s:=S_q42 a) Tryz.func92
abbrev R_q1h:=(List Int)×Bool
def S_q1h (a:TOp):SC R_q1h R_q1h :=
.ite (a.U==1) (
 let b:=([a.Ab,a.V]:List Int)
.reg 3 [] [(4,hv (vl b))] [.pf (z9 Ra b)]<|
.r (b,true)) (
.ite (a.U==2) (
 let c:=([a.Of,a.Ab,a.V,a.Ah,a.Ai]:List Int)
.reg 5 [] [(10,hv (vl c))] [.pf (z9 Ra c)]<|
.r (c,false)) (
.ite (a.U==3) (
 let d:=([a.Of,a.Ab,a.V]:List Int)
.reg 7 [] [(6,hv (vl d))] [.pf (z9 Ra d)]<|
.r (d,false)) (
.ite (a.U==4) (
 let e:=([a.Of,a.Ab]:List Int)
.reg 9 [] [(4,hv (vl e))] [.pf (z9 Ra e)]<|
.r (e,false)) (
.cut none [1,5] (fun (f:Bool)=>[(42,(vb f))]) (fun _=>[]) (
.ite (a.U==5) (
.r (.next (a.U==5))) (
.r (.next (a.U==6)))) fun f=>
.ite f (
 let g:=([a.Of,a.V]:List Int)
.reg 12 [] [(4,hv (vl g))] [.pf (z9 Ra g)]<|
.r (g,false)) (
.ite (a.U==7) (
 let h:=([a.V]:List Int)
.reg 14 [] [(2,hv (vl h))] [.pf (z9 Ra h)]<|
.r (h,true)) (
.ite (a.U==8) (
 let j:=([a.A,a.Ae]:List Int)
.reg 16 [] [(4,hv (vl j))] [.pf (z9 Ra j)]<|
.r (j,true)) (
 let k:=([a.Of]:List Int)
.reg 17 [] [(2,hv (vl k))] [.pf (z9 Ra k)]<|
.r (k,false))))))))
def F_q1h (a:TOp):=(S_q1h a).den
theorem F_q1h_ok {a:TOp}:FO (F_q1h a) 158 [(TOp.d a)] [] (fun x=>(Rg [(vl x.1),(vb x.2)])) NL:=fO (s:=S_q1h a) Tryz.func158
def S_q4 (c:Int) (f:Y8) (g:Int) (a:(List Int)):SC TOp TOp :=
.cut (some 0) [8,9] (fun (_:TOp)=>[]) (fun h=>[(1,(TOp.b h))]) (
 let d:=(a.getD 0 dF)
 let e:=(a.getD 1 dF)
.ite (c==1) (
.guard [0<a.length,1<a.length]<|
.reg 5 [7,9] [] [.pf (p:=(0:Int)<=0) dk,.ev 0,.pf (p:=(0:Int)<=1) dk,.ev 1,.pf (p:=(0:Int)<=1) dk,.ev 1]<|
.r (.next (⟨c,f,g,d,0,e,0,0,0,0⟩:TOp))) (
.ite (c==2) (
.guard [0<a.length,1<a.length,2<a.length,3<a.length,4<a.length]<|
.reg 7 [16,18,20,22,24] [] [.pf (p:=(0:Int)<=0) dk,.ev 0,.pf (p:=(0:Int)<=1) dk,.ev 1,.pf (p:=(0:Int)<=1) dk,.ev 1,.pf (p:=(0:Int)<=2) dk,.ev 2,.pf (p:=(0:Int)<=2) dk,.ev 2,.pf (p:=(0:Int)<=2) dk,.ev 2,.pf (p:=(0:Int)<=3) dk,.ev 3,.pf (p:=(0:Int)<=3) dk,.ev 3,.pf (p:=(0:Int)<=3) dk,.ev 3,.pf (p:=(0:Int)<=3) dk,.ev 3,.pf (p:=(0:Int)<=4) dk,.ev 4,.pf (p:=(0:Int)<=4) dk,.ev 4,.pf (p:=(0:Int)<=4) dk,.ev 4,.pf (p:=(0:Int)<=4) dk,.ev 4,.pf (p:=(0:Int)<=4) dk,.ev 4]<|
.r (.next (⟨c,f,g,e,d,(a.getD 2 dF),(a.getD 3 dF),(a.getD 4 dF),0,0⟩:TOp))) (
.ite (c==3) (
.guard [0<a.length,1<a.length,2<a.length]<|
.reg 9 [10,12,14] [] [.pf (p:=(0:Int)<=0) dk,.ev 0,.pf (p:=(0:Int)<=1) dk,.ev 1,.pf (p:=(0:Int)<=1) dk,.ev 1,.pf (p:=(0:Int)<=2) dk,.ev 2,.pf (p:=(0:Int)<=2) dk,.ev 2,.pf (p:=(0:Int)<=2) dk,.ev 2]<|
.r (.next (⟨c,f,g,e,d,(a.getD 2 dF),0,0,0,0⟩:TOp))) (
.ite (c==4) (
.guard [0<a.length,1<a.length]<|
.reg 11 [7,9] [] [.pf (p:=(0:Int)<=0) dk,.ev 0,.pf (p:=(0:Int)<=1) dk,.ev 1,.pf (p:=(0:Int)<=1) dk,.ev 1]<|
.r (.next (⟨c,f,g,e,d,0,0,0,0,0⟩:TOp))) (
.cut none [3,8,9,14] (fun (i:Bool)=>[(75,(vb i))]) (fun _=>[]) (
.ite (c==5) (
.r (.next (c==5))) (
.r (.next (c==6)))) fun i=>
.ite i (
.guard [0<a.length,1<a.length]<|
.reg 14 [7,9] [] [.pf (p:=(0:Int)<=0) dk,.ev 0,.pf (p:=(0:Int)<=1) dk,.ev 1,.pf (p:=(0:Int)<=1) dk,.ev 1]<|
.r (.next (⟨c,f,g,0,d,e,0,0,0,0⟩:TOp))) (
.ite (c==7) (
.guard [0<a.length]<|
.reg 16 [] [] [.pf (p:=(0:Int)<=0) dk,.ev 0]<|
.r (.next (⟨c,f,g,0,0,d,0,0,0,0⟩:TOp))) (
.ite (c==8) (
.guard [0<a.length,1<a.length]<|
.reg 18 [7,9] [] [.pf (p:=(0:Int)<=0) dk,.ev 0,.pf (p:=(0:Int)<=1) dk,.ev 1,.pf (p:=(0:Int)<=1) dk,.ev 1]<|
.r (.next (⟨c,f,g,0,0,0,0,0,d,e⟩:TOp))) (
.guard [0<a.length]<|
.reg 3 [] [] [.pf (p:=(0:Int)<=0) dk,.ev 0]<|
.r (.next (⟨c,f,g,0,d,0,0,0,0,0⟩:TOp)))))))))) fun h=>
.r h
def F_q4 (a:Int) (b:Y8) (c:Int) (d:(List Int)):=(S_q4 a b c d).den
theorem F_q4_ok {a:Int} {b:Y8} {c:Int} {e:(List Int)}:FO (F_q4 a b c e) 159 [(vi a),(AV.d (Rf b)),(vi c),(vl e)] [] (fun x=>(TOp.d x)) NL:=fO (s:=S_q4 a b c e) Tryz.func159
def S_qj_b1 (c:R_q1h) (a:Nat) (_:Unit):SC Bool (Step Unit Bool) :=
.reg 8 [] [] [.w a,.ev 0]<|
 let b:=(c.1.getD a dF)
.ite (cO (decide (b<0)) (decide (b>1000000000000000))) (
.r (.ret false)) (
.r (.cont ()))
def S_qj (b:TOp):SC Bool Bool :=
.ite (cO (decide (b.U<1)) (decide (b.U>9))) (
.r false) (
.a 3 1 1 (@F_q1h_ok b) fun d=>
.calld [d.2=true] dF (@F_qt_ok b.B) fun f e =>
.reg 4 [] [(4,hc e [] true)] [.clg 0 [d.2=true] e [] 1 true]<|
.ite (cO (bif d.2 then (cO (cO (!f) (decide (b.D<0))) (decide (b.D>99))) else false) (bif (!d.2) then (cO (!(b.B==([]))) (b.D != 0)) else false)) (
.r false) (
.range (d.1.length:Int) d.1.length rfl (.slot 3) 53 [1,3,51,52] (fun (_:Unit)=>[]) (fun _=>[]) () (S_qj_b1 d) (fun _ => 
.a 12 7 1 (@F_q4_ok b.U b.B b.D d.1) fun c=>
.r ((c.U==b.U)&&((c.B==b.B)&&((c.D==b.D)&&((c.Ab==b.Ab)&&((c.Of==b.Of)&&((c.V==b.V)&&((c.Ah==b.Ah)&&((c.Ai==b.Ai)&&((c.A==b.A)&&((c.Ae==b.Ae)&&true))))))))))) id))
def F_qj (a:TOp):=(S_qj a).den
theorem F_qj_ok {a:TOp}:FO (F_qj a) 119 [(TOp.d a)] [] vb NL:=fO (s:=S_qj a) Tryz.func119
def S_q18 (a:Int):SC Bool Bool :=
.r (bif (decide (a>=0)) then (decide (a<=35990)) else false)
def F_q18 (a:Int):=(S_q18 a).den
theorem F_q18_ok {a:Int}:FO (F_q18 a) 192 [(vi a)] [] vb NL:=fO (s:=S_q18 a) Tryz.func192
def S_q7b (a:Int):SC Bool Bool :=
.r (bif (decide (a>=0)) then (decide (a<=36000)) else false)
def F_q7b (a:Int):=(S_q7b a).den
theorem F_q7b_ok {a:Int}:FO (F_q7b a) 232 [(vi a)] [] vb NL:=fO (s:=S_q7b a) Tryz.func232
def S_q1s (c:Int):SC Int Int :=
.a 1 1 0 (@F_q7b_ok c) fun b=>
.ite (!b) (
.r (-1)) (
.reg 3 [] [] [.pf (p:=(360:Int)≠0) dk]<|
.r (i64.wrap (c.tdiv 360)))
def F_q1s (a:Int):=(S_q1s a).den
theorem F_q1s_ok {a:Int}:FO (F_q1s a) 194 [(vi a)] [] vi NL:=fO (s:=S_q1s a) Tryz.func194
def S_q1t (a:Int):SC Bool Bool :=
.r (bif (decide (a>=1)) then (decide (a<=1000000000000)) else false)
def F_q1t (a:Int):=(S_q1t a).den
theorem F_q1t_ok {a:Int}:FO (F_q1t a) 193 [(vi a)] [] vb NL:=fO (s:=S_q1t a) Tryz.func193
end
end Go.Proofs.YtgbpiaddmclccaaGreatDoor
/- What the functions compute,and that their calls return it. No condition. -/
namespace Go.Proofs.YtgbpiaddmclccaaGreatDoor
open Go Go.TA
open Go.IntKind (i64)
noncomputable section
set_option maxRecDepth 100000
def S_q1u_b1 (o:TBo) (b:Nat) (_:Unit):SC Bool (Step Unit Bool) :=
.reg 3 [] [] [.w b,.ev 0]<|
 let a:=(o.C.getD b dF)
 let c:=(a.S != (i64.wrap ((b:Int)+1)))
.calld [c=false] dF (@F_qt_ok a.B) fun k g =>
 let d:=(cO (cO (cO c (!k)) (decide (a.D<0))) (decide (a.D>99)))
.calld [d=false] dF (@F_q18_ok a.Ab) fun l h =>
 let e:=(cO d (!l))
.calld [e=false] dF (@F_q1s_ok a.Ab) fun m i =>
 let f:=(cO e (m != a.D))
.calld [f=false] dF (@F_q1t_ok a.V) fun n j =>
.reg 4 [] [(8,hc g [] true),(24,hc h [] true),(30,hc i [] true),(38,hc j [] true)] [.clg 6 [c=false] g [] 2 true,.clg 4 [d=false] h [] 2 true,.clg 2 [e=false] i [] 2 true,.clg 0 [f=false] j [] 2 true]<|
.ite (cO (cO (cO f (!n)) (decide (a.Ad<0))) (decide (a.Ad>a.V))) (
.r (.ret false)) (
.r (.cont ()))
def S_q1u (a:TBo):SC Bool Bool :=
.range (a.C.length:Int) a.C.length rfl (.slot 6) 8 [6,7] (fun (_:Unit)=>[]) (fun _=>[]) () (S_q1u_b1 a) (fun _ => 
.r true) id
def F_q1u (a:TBo):=(S_q1u a).den
theorem F_q1u_ok {a:TBo}:FO (F_q1u a) 214 [(TBo.d a)] [] vb NL:=fO (s:=S_q1u a) Tryz.func214
def S_qy_b1 (e:TBo) (f:Int) (a:Nat) (b:Int):SC Int (Step Int Int) :=
.reg 8 [] [] [.w a,.ev 0]<|
 let d:=(e.H.getD a dF)
.ite (d.Y==f) (
.r (.cont (i64.wrap (b-d.V)))) (
.c b)
def S_qy_b2 (d:TBo) (e:Int) (c:Nat) (_:Unit):SC Int (Step Unit Int) :=
.reg 3 [] [] [.w c,.ev 0]<|
 let a:=(d.C.getD c dF)
.ite (a.S==e) (
.range (d.H.length:Int) d.H.length rfl (.slot 27) 29 [1,27,28] (fun (b:Int)=>[(7,(vi b))]) (fun _=>[]) (i64.wrap (a.V-a.Ad)) (S_qy_b1 d e) (fun b => 
.r (.ret b)) .ret) (
.r (.cont ()))
def S_qy (a:TBo) (b:Int):SC Int Int :=
.range (a.C.length:Int) a.C.length rfl (.slot 11) 13 [1,2,11,12] (fun (_:Unit)=>[]) (fun _=>[]) () (S_qy_b2 a b) (fun _ => 
.r 0) id
def F_qy (a:TBo) (b:Int):=(S_qy a b).den
theorem F_qy_ok {a:TBo} {b:Int}:FO (F_qy a b) 196 [(TBo.d a),(vi b)] [] vi NL:=fO (s:=S_qy a b) Tryz.func196
def S_qk_b1 (m:TBo) (b:Nat) (_:Unit):SC Bool (Step Unit Bool) :=
.reg 3 [] [] [.w b,.ev 0]<|
 let a:=(m.H.getD b dF)
 let c:=(cO (cO (a.S != (i64.wrap ((b:Int)+1))) (decide (a.Y<1))) (decide (a.Y>(m.C.length:Int))))
.calld [c=false] dF (@F_q18_ok a.Ab) fun n h =>
 let d:=(cO c (!n))
.calld [d=false] dF (@F_q1t_ok a.V) fun o i =>
 let e:=(cO (cO (cO (cO (cO d (!o)) (decide (a.Ad<0))) (decide (a.Ad>a.V))) (decide (a.Ah<1))) (decide (a.Ah>1000000)))
.calld [e=false] dF (@F_q18_ok a.Ai) fun p j =>
.reg 4 [] [(21,hc h [] true),(27,hc i [] true),(55,hc j [] true)] [.clg 4 [c=false] h [] 2 true,.clg 2 [d=false] i [] 2 true,.clg 0 [e=false] j [] 2 true]<|
.ite (cO e (!p)) (
.r (.ret false)) (
 let f:=(i64.wrap (a.Y-1))
.guard [(0:Int)<=f,f.toNat<m.C.length]<|
.reg 6 [] [] [.ev 0,.ev 1]<|
 let k:=(m.C.getD f.toNat dF)
 let g:=(decide (a.Ab<k.Ab))
.calld [g=false] dF (@F_q1s_ok a.Ab) fun q l =>
.reg 7 [] [(8,hc l [] true)] [.clg 0 [g=false] l [] 3 true]<|
.ite (cO g (q != k.D)) (
.r (.ret false)) (
.r (.cont ())))
def S_qk_b2 (d:TBo) (b:Nat) (_:Unit):SC Bool (Step Unit Bool) :=
.reg 12 [] [] [.w b,.ev 0]<|
.a 13 3 2 (@F_qy_ok d ((d.C.getD b dF).S)) fun c=>
.ite (decide (c<0)) (
.r (.ret false)) (
.r (.cont ()))
def S_qk (a:TBo):SC Bool Bool :=
.range (a.H.length:Int) a.H.length rfl (.slot 9) 11 [1,9,10] (fun (_:Unit)=>[]) (fun _=>[]) () (S_qk_b1 a) (fun _ => 
.range (a.C.length:Int) a.C.length rfl (.slot 96) 98 [1,96,97] (fun (_:Unit)=>[]) (fun _=>[]) () (S_qk_b2 a) (fun _ => 
.r true) id) id
def F_qk (a:TBo):=(S_qk a).den
theorem F_qk_ok {a:TBo}:FO (F_qk a) 215 [(TBo.d a)] [] vb NL:=fO (s:=S_qk a) Tryz.func215
def S_q2i (c:TBo) (d:Int):SC Int Int :=
 let a:=(i64.wrap (d-1))
 let b:=(i64.wrap (((c.H.getD a.toNat dF).Y)-1))
.guard [(0:Int)<=a,a.toNat<c.H.length,(0:Int)<=b,b.toNat<c.C.length]<|
.reg 1 [] [] [.ev 0,.ev 1,.ev 2,.ev 3]<|
.r ((c.C.getD b.toNat dF).D)
def F_q2i (a:TBo) (b:Int):=(S_q2i a b).den
theorem F_q2i_ok {a:TBo} {b:Int}:FO (F_q2i a b) 197 [(TBo.d a),(vi b)] [] vi NL:=fO (s:=S_q2i a b) Tryz.func197
def S_q1v_b1 (e:TBo) (f:TCo) (a:Nat) (b:Int):SC Int (Step Int Int) :=
.reg 4 [] [] [.w a,.ev 0]<|
 let d:=(e.J.getD a dF)
.ite (d.Ac==f.S) (
.r (.cont (i64.wrap (b-d.V)))) (
.c b)
def S_q1v (b:TBo) (c:TCo):SC Int Int :=
.range (b.J.length:Int) b.J.length rfl (.slot 14) 16 [3,14,15] (fun (a:Int)=>[(5,(vi a))]) (fun _=>[]) (i64.wrap (c.V-c.Ad)) (S_q1v_b1 b c) (fun a => 
.r a) id
def F_q1v (a:TBo) (b:TCo):=(S_q1v a b).den
theorem F_q1v_ok {a:TBo} {b:TCo}:FO (F_q1v a b) 198 [(TBo.d a),(TCo.d b)] [] vi NL:=fO (s:=S_q1v a b) Tryz.func198
def S_q3_b1 (h:TBo) (c:Nat) (_:Unit):SC Bool (Step Unit Bool) :=
.reg 3 [] [] [.w c,.ev 0]<|
 let a:=(h.J.getD c dF)
 let d:=(cO (cO (a.S != (i64.wrap ((c:Int)+1))) (decide (a.Ac<1))) (decide (a.Ac>(h.H.length:Int))))
.calld [d=false] dF (@F_q18_ok a.Ab) fun m i =>
 let e:=(cO d (!m))
.calld [e=false] dF (@F_q1t_ok a.V) fun n j =>
 let f:=(cO e (!n))
 let g:=(i64.wrap (a.Ac-1))
 let b:=(cO f (decide (a.Ab<((h.H.getD g.toNat dF).Ab))))
.calld [b=false] dF (@F_q1s_ok a.Ab) fun o k =>
.calld [b=false] dF (@F_q2i_ok h a.Ac) fun p l =>
.guard [AllP [f=false]->((0:Int)<=g),AllP [f=false]->(g.toNat<h.H.length)]<|
.reg 4 [] [(21,hc i [] true),(27,hc j [] true),(46,hc k [] true),(50,hc l [] true)] [.clg 8 [d=false] i [] 2 true,.clg 6 [e=false] j [] 2 true,.ev 0,.ev 1,.clg 4 [b=false] k [] 2 true,.clg 2 [b=false] l [] 2 true]<|
.ite (cO b (decide (o>(i64.wrap (p+1))))) (
.r (.ret false)) (
.r (.cont ()))
def S_q3_b2 (d:TBo) (b:Nat) (_:Unit):SC Bool (Step Unit Bool) :=
.reg 9 [] [] [.w b,.ev 0]<|
.a 10 2 2 (@F_q1v_ok d (d.H.getD b dF)) fun c=>
.ite (decide (c<0)) (
.r (.ret false)) (
.r (.cont ()))
def S_q3_b3 (g:TBo) (d:Nat) (e:Nat) (a:Int):SC Bool (Step Int Bool) :=
.reg 24 [] [] [.w e,.ev 0]<|
 let b:=((g.W.take d).getD e dF)
 let f:=(g.W.getD d dF)
.ite (b.X != f.X) (
.c a) (
.ite (cO (!b.Al) (decide (b.Ab>f.Ab))) (
.r (.ret false)) (
.r (.cont (i64.wrap (a+1)))))
def S_q3_b4 (c:TBo) (a:Nat) (_:Unit):SC Bool (Step Unit Bool) :=
.reg 15 [] [] [.w a,.ev 0]<|
 let b:=(c.W.getD a dF)
 let k:=(cO (cO (b.S != (i64.wrap ((a:Int)+1))) (decide (b.X<1))) (decide (b.X>(c.J.length:Int))))
.calld [k=false] dF (@F_q18_ok b.Ab) fun m h =>
.reg 16 [] [(21,hc h [] true)] [.clg 0 [k=false] h [] 2 true]<|
.ite (cO k (!m)) (
.r (.ret false)) (
 let l:=(i64.wrap (b.X-1))
.guard [(0:Int)<=l,l.toNat<c.J.length]<|
.reg 18 [] [] [.ev 0,.ev 1]<|
 let n:=(c.J.getD l.toNat dF)
 let f:=(decide (b.Ab<n.Ab))
.calld [f=false] dF (@F_q1s_ok b.Ab) fun o i =>
.calld [f=false] dF (@F_q2i_ok c n.Ac) fun p j =>
.reg 19 [] [(8,hc i [] true),(12,hc j [] true)] [.clg 2 [f=false] i [] 3 true,.clg 0 [f=false] j [] 3 true]<|
.ite (cO f (decide (o>(i64.wrap (p+1))))) (
.r (.ret false)) (
.guard [a<=c.W.length]<|
.reg 22 [] [(3,hv (AV.d (eL TOr.e (c.W.take a))))] [.w a,.ev 0,.der (fun (h0:a<=c.W.length)=>lvT TOr.e c.W h0) 0]<|
.range ((c.W.take a).length:Int) ((c.W.take a).length) rfl (.slot 146) 148 [1,8,89,90,91,146,147] (fun (g:Int)=>[(10,(vi g))]) (fun _=>[]) 1 (S_q3_b3 c a) (fun g => 
.ite (b.Ak != g) (
.r (.ret false)) (
.r (.cont ()))) .ret))
def S_q3 (a:TBo):SC Bool Bool :=
.range (a.J.length:Int) a.J.length rfl (.slot 14) 16 [1,14,15] (fun (_:Unit)=>[]) (fun _=>[]) () (S_q3_b1 a) (fun _ => 
.range (a.H.length:Int) a.H.length rfl (.slot 77) 79 [1,77,78] (fun (_:Unit)=>[]) (fun _=>[]) () (S_q3_b2 a) (fun _ => 
.range (a.W.length:Int) a.W.length rfl (.slot 89) 91 [1,89,90] (fun (_:Unit)=>[]) (fun _=>[]) () (S_q3_b4 a) (fun _ => 
.r true) id) id) id
def F_q3 (a:TBo):=(S_q3 a).den
theorem F_q3_ok {a:TBo}:FO (F_q3 a) 216 [(TBo.d a)] [] vb NL:=fO (s:=S_q3 a) Tryz.func216
def S_q1w (a:TBo):SC Bool Bool :=
.ite (cO (cO (cO (decide ((a.C.length:Int)>200)) (decide ((a.H.length:Int)>200))) (decide ((a.J.length:Int)>200))) (decide ((a.W.length:Int)>200))) (
.r false) (
.call (@F_q1u_ok a) fun b d=>
.calld [b=true] dF (@F_qk_ok a) fun g e =>
 let c:=(bif b then g else false)
.calld [c=true] dF (@F_q3_ok a) fun h f =>
.reg 3 [] [(1,hc d [] true),(4,hc e [] true),(8,hc f [] true)] [.cl 4 d [] 1 true,.clg 2 [b=true] e [] 1 true,.clg 0 [c=true] f [] 1 true]<|
.r (bif c then h else false))
def F_q1w (a:TBo):=(S_q1w a).den
theorem F_q1w_ok {a:TBo}:FO (F_q1w a) 175 [(TBo.d a)] [] vb NL:=fO (s:=S_q1w a) Tryz.func175
def S_q3l (a:TRi):SC Bool Bool :=
.call (@F_qt_ok a.B) fun g d=>
 let b:=(bif (bif g then (decide (a.D>=0)) else false) then (decide (a.D<=99)) else false)
.calld [b=true] dF (@F_qo_ok a.A) fun h e =>
 let c:=(bif b then h else false)
.calld [c=true] dF (@F_qo_ok a.F) fun i f =>
.reg 1 [] [(2,hc d [] true),(16,hc e [] true),(21,hc f [] true)] [.cl 4 d [] 1 true,.clg 2 [b=true] e [] 1 true,.clg 0 [c=true] f [] 1 true]<|
.r (bif (bif (bif c then i else false) then (decide (a.Q>=0)) else false) then (decide (a.Q<=a.A)) else false)
def F_q3l (a:TRi):=(S_q3l a).den
theorem F_q3l_ok {a:TRi}:FO (F_q3l a) 176 [(TRi.d a)] [] vb NL:=fO (s:=S_q3l a) Tryz.func176
def S_q19_b1 (c:TOf) (d:Y8) (e:Int) (a:Nat) (_:Unit):SC Int (Step Unit Int) :=
.reg 3 [] [] [.w a,.ev 0]<|
 let b:=(c.L.getD a dF)
.ite (bif (b.B==d) then (b.D==e) else false) (
.r (.ret (a:Int))) (
.r (.cont ()))
def S_q19 (a:TOf) (b:Y8) (c:Int):SC Int Int :=
.range (a.L.length:Int) a.L.length rfl (.slot 10) 12 [1,2,10,11] (fun (_:Unit)=>[]) (fun _=>[]) () (S_q19_b1 a b c) (fun _ => 
.r (-1)) id
def F_q19 (a:TOf) (b:Y8) (c:Int):=(S_q19 a b c).den
theorem F_q19_ok {a:TOf} {b:Y8} {c:Int}:FO (F_q19 a b c) 121 [(TOf.d a),(AV.d (Rf b)),(vi c)] [] vi NL:=fO (s:=S_q19 a b c) Tryz.func121
def S_q2j (c:TOf) (d:Y8) (e:Int):SC TRi TRi :=
.a 1 3 2 (@F_q19_ok c d e) fun b=>
.ite (decide (b>=0)) (
.guard [(0:Int)<=b,b.toNat<c.L.length]<|
.reg 3 [] [] [.ev 0,.ev 1]<|
.r (c.L.getD b.toNat dF)) (
.r (⟨d,e,0,0,0⟩:TRi))
def F_q2j (a:TOf) (b:Y8) (c:Int):=(S_q2j a b c).den
theorem F_q2j_ok {a:TOf} {b:Y8} {c:Int}:FO (F_q2j a b c) 65 [(TOf.d a),(AV.d (Rf b)),(vi c)] [] (fun x=>(TRi.d x)) NL:=fO (s:=S_q2j a b c) Tryz.func65
def S_qp_b1 (f:TBo) (e:Nat) (a:Nat) (b:Int):SC Int (Step Int Int) :=
.reg 9 [] [] [.w a,.ev 0]<|
 let d:=(f.H.getD a dF)
.ite (d.Y==((f.C.getD e dF).S)) (
.r (.cont (i64.wrap (b-d.Ad)))) (
.c b)
def S_qp_b2 (f:TBo) (g:Y8) (h:Int) (b:Nat) (e:Int):SC Int (Step Int Int) :=
.reg 4 [] [] [.w b,.ev 0]<|
 let a:=(f.C.getD b dF)
.ite (cO (!(a.B==g)) (a.D != h)) (
.c e) (
.range (f.H.length:Int) f.H.length rfl (.slot 37) 39 [1,2,3,9,13,14,15,37,38] (fun (d:Int)=>[(7,(vi d))]) (fun _=>[]) (i64.wrap (e+(i64.wrap (a.V-a.Ad)))) (S_qp_b1 f b) (fun d => 
.c d) .ret)
def S_qp (b:TBo) (c:Y8) (d:Int):SC Int Int :=
.range (b.C.length:Int) b.C.length rfl (.slot 13) 15 [1,2,3,13,14] (fun (a:Int)=>[(7,(vi a))]) (fun _=>[]) 0 (S_qp_b2 b c d) (fun a => 
.r a) id
def F_qp (a:TBo) (b:Y8) (c:Int):=(S_qp a b c).den
theorem F_qp_ok {a:TBo} {b:Y8} {c:Int}:FO (F_qp a b c) 123 [(TBo.d a),(AV.d (Rf b)),(vi c)] [] vi NL:=fO (s:=S_qp a b c) Tryz.func123
def S_q4l (d:TOf) (e:Y8) (f:Int):SC Int Int :=
.a 1 3 1 (@F_q2j_ok d e f) fun b=>
.a 2 9 2 (@F_qp_ok d.Ag e f) fun c=>
.r (i64.wrap ((i64.wrap (b.A-b.Q))-c))
def F_q4l (a:TOf) (b:Y8) (c:Int):=(S_q4l a b c).den
theorem F_q4l_ok {a:TOf} {b:Y8} {c:Int}:FO (F_q4l a b c) 161 [(TOf.d a),(AV.d (Rf b)),(vi c)] [] vi NL:=fO (s:=S_q4l a b c) Tryz.func161
def S_ql_b1 (g:TOf) (c:Nat) (_:Unit):SC Bool (Step Unit Bool) :=
.reg 5 [] [] [.w c,.ev 0]<|
 let a:=(g.L.getD c dF)
.call (@F_q3l_ok a) fun e h=>
.calld [(!e)=false] dF (@F_q4l_ok g a.B a.D) fun l i =>
.reg 6 [] [(1,hc h [] true),(9,hc i [] true)] [.cl 2 h [] 2 true,.clg 0 [(!e)=false] i [] 2 true]<|
.ite (cO (!e) (decide (l<0))) (
.r (.ret false)) (
.ite (decide ((c:Int)>0)) (
 let b:=(i64.wrap ((c:Int)-1))
 let j:=(g.L.getD b.toNat dF)
.call (@F_q14_ok j.B a.B) fun d k=>
.guard [(0:Int)<=b,b.toNat<g.L.length]<|
.reg 9 [] [(9,hc k [] true)] [.ev 0,.ev 1,.cl 2 k [] 2 true]<|
 let f:=(decide (d>0))
.guard [AllP [(d==0)=true,f=false]->((0:Int)<=b),AllP [(d==0)=true,f=false]->(b.toNat<g.L.length)]<|
.reg 10 [] [] [.ev 0,.ev 1]<|
.ite (cO f (bif (d==0) then (decide (j.D>=a.D)) else false)) (
.r (.ret false)) (
.r (.cont ()))) (
.r (.cont ())))
def S_ql_b2 (e:TOf) (b:Nat) (_:Unit):SC Bool (Step Unit Bool) :=
.reg 15 [] [] [.w b,.ev 0]<|
 let c:=(e.Ag.C.getD b dF)
.a 16 5 2 (@F_q19_ok e c.B c.D) fun d=>
.ite (decide (d<0)) (
.r (.ret false)) (
.r (.cont ()))
def S_ql (a:TOf):SC Bool Bool :=
 let b:=(cO (cO (decide (a.S<1)) (decide (a.S>6))) (decide ((a.L.length:Int)>60)))
.calld [b=false] dF (@F_q1w_ok a.Ag) fun d c =>
.reg 1 [] [(17,hc c [] true)] [.clg 0 [b=false] c [] 1 true]<|
.ite (cO b (!d)) (
.r false) (
.range (a.L.length:Int) a.L.length rfl (.slot 29) 31 [1,29,30] (fun (_:Unit)=>[]) (fun _=>[]) () (S_ql_b1 a) (fun _ => 
.range (a.Ag.C.length:Int) a.Ag.C.length rfl (.slot 81) 83 [1,81,82] (fun (_:Unit)=>[]) (fun _=>[]) () (S_ql_b2 a) (fun _ => 
.r true) id) id)
def F_ql (a:TOf):=(S_ql a).den
theorem F_ql_ok {a:TOf}:FO (F_ql a) 129 [(TOf.d a)] [] vb NL:=fO (s:=S_ql a) Tryz.func129
theorem z2l:OLe (bx (DV.agg [Z0,Z0,Z0,Z0])) (TBo.b (⟨[],[],[],[]⟩:TBo)):=z4o (DLe.agg (DLeL.cons DLe.sl0 (DLeL.cons DLe.sl0 (DLeL.cons DLe.sl0 (DLeL.cons DLe.sl0 DLeL.nil)))))
abbrev R_q2k:=(List TRe)×(List TCo)×(List TVe)×(List TOr)
def S_q2k (a:TBo):SC R_q2k R_q2k :=
.reg 0 [] [(1,{ obs:=[(1,(TBo.b (⟨[],[],[],[]⟩:TBo)))] })] [.pf z2l]<|
.guard [a.C.length * (2 * 56)<=2 ^ 48,a.H.length * (2 * 56)<=2 ^ 48,a.J.length * (2 * 32)<=2 ^ 48,a.W.length * (2 * 40)<=2 ^ 48]<|
.reg 1 [3,7,11,15,17] [(3,{ h:=.obj }),(7,{ h:=.obj }),(11,{ h:=.obj }),(15,{ h:=.obj })] [.pf (p:=∀ k,k<a.C.length->(TRe.d (a.C.getD k dF)).wd=6) (fun _ _=>rfl),.ev 0,.pf (p:=∀ k,k<a.H.length->(TCo.d (a.H.getD k dF)).wd=7) (fun _ _=>rfl),.ev 1,.pf (p:=∀ k,k<a.J.length->(TVe.d (a.J.getD k dF)).wd=4) (fun _ _=>rfl),.ev 2,.pf (p:=∀ k,k<a.W.length->(TOr.d (a.W.getD k dF)).wd=5) (fun _ _=>rfl),.ev 3]<|
.kill 0<|
.r (a.C,a.H,a.J,a.W)
def F_q2k (a:TBo):=(S_q2k a).den
theorem F_q2k_ok {a:TBo}:FO (F_q2k a) 195 [(TBo.d a)] [] (fun x=>(Rc [(Rb 2 x.1.length 0 x.1.length),(Rb 3 x.2.1.length 0 x.2.1.length),(Rb 4 x.2.2.1.length 0 x.2.2.1.length),(Rb 5 x.2.2.2.length 0 x.2.2.2.length)])) (fun x=>[Re,(Rd (Rc [(Rb 2 x.1.length 0 x.1.length),(Rb 3 x.2.1.length 0 x.2.1.length),(Rb 4 x.2.2.1.length 0 x.2.2.1.length),(Rb 5 x.2.2.2.length 0 x.2.2.2.length)])),(eS 6 TRe.e x.1),(eS 7 TCo.e x.2.1),(eS 4 TVe.e x.2.2.1),(eS 5 TOr.e x.2.2.2)]):=fO (s:=S_q2k a) Tryz.func195
theorem zo:LeV (AV.d (DV.agg [Z0,Z0,Z0,Z0])) (TBo.d (⟨[],[],[],[]⟩:TBo)):=z2o rfl (DLe.agg (DLeL.cons DLe.sl0 (DLeL.cons DLe.sl0 (DLeL.cons DLe.sl0 (DLeL.cons DLe.sl0 DLeL.nil)))))
def S_q5j (t:TBo) (D:Y8) (u:Int) (v:Int) (E:Int):SC (TBo×Int) (TBo×Int) :=
 let g:=(⟨[],[],[],[]⟩:TBo)
.reg 0 [] [(1,{ obs:=[(1,(TBo.b g))] })] [.pf z2l]<|
.a 1 1 2 (@F_q1w_ok t) fun w=>
 let i:=(0,hv (TBo.d g))
.ite (!w) (
.reg 2 [] [i] [.pf zo]<|
.r (g,1)) (
.a 3 1 2 (@F_qt_ok D) fun y=>
.ite (!y) (
.reg 4 [] [i] [.pf zo]<|
.r (g,5)) (
 let j:=(cO (decide (u<0)) (decide (u>99)))
.calld [j=false] dF (@F_q18_ok v) fun z n =>
 let m:=(cO j (!z))
.calld [m=false] dF (@F_q1t_ok E) fun A q =>
.reg 5 [] [(8,hc n [] true),(13,hc q [] true)] [.clg 2 [j=false] n [] 2 true,.clg 0 [m=false] q [] 2 true]<|
.ite (cO m (!A)) (
.reg 6 [] [i] [.pf zo]<|
.r (g,2)) (
.a 7 1 2 (@F_q1s_ok v) fun B=>
.ite (B != u) (
.reg 8 [] [i] [.pf zo]<|
.r (g,16)) (
.ite ((t.C.length:Int)==200) (
.reg 10 [] [i] [.pf zo]<|
.r (g,3)) (
.call (@F_q2k_ok t) fun c s=>
.reg 11 [] [(1,hc s [] false),(2,{ h:=.obj })] [.cl 0 s [] 2 false]<|
.kill 3<|
.guard [c.2.1.length<2 ^ 63]<|
.frz 5 (.ev 0) none [] [8]<|
.guard [c.2.2.1.length<2 ^ 63]<|
.frz 6 (.ev 0) none [] [8]<|
.guard [c.2.2.2.length<2 ^ 63]<|
.frz 7 (.ev 0) none [] [8]<|
.guard [(c.1.length+1) * (2 * 56)<=2 ^ 48]<|
 let f:=([(⟨(i64.wrap ((t.C.length:Int)+1)),D,u,v,E,0⟩:TRe)]:List TRe)
.reg 12 [] [(11,hv (AV.d (eL TRe.e f))),(12,{ cast:=some (Rb 4 ((c.1++f).length) 0 ((c.1++f).length)),obs:=[(4,(eS 6 TRe.e (c.1++f)))] })] [.pf (z9 TRe.e f),.e c.1.length,.e c.1.length,.pf (p:=∀ k,k<1->(TRe.d (f.getD k dF)).wd=6) (fun _ _=>rfl),.ev 0,.pf (zw (o:=4) (l:=c.1) (x:=f)),.pf (zy (sz:=6) (e:=TRe.e) (l:=c.1) (x:=f))]<|
.guard [(c.1++f).length<2 ^ 63]<|
.reg 13 [] [] []<|
.frz 4 (.ev 0) none [] [1,8]<|
.r ((⟨(c.1++f),c.2.1,c.2.2.1,c.2.2.2⟩:TBo),0))))))
def F_q5j (a:TBo) (b:Y8) (c:Int) (d:Int) (e:Int):=(S_q5j a b c d e).den
theorem F_q5j_ok {a:TBo} {b:Y8} {c:Int} {e:Int} {f:Int}:FO (F_q5j a b c e f) 160 [(TBo.d a),(AV.d (Rf b)),(vi c),(vi e),(vi f)] [] (fun x=>(Rg [(TBo.d x.1),(vi x.2)])) NL:=fO (s:=S_q5j a b c e f) Tryz.func160
def S_q5k (m:TBo) (t:Int) (A:Int) (B:Int) (E:Int) (L:Int):SC (TBo×Int) (TBo×Int) :=
 let f:=(⟨[],[],[],[]⟩:TBo)
.reg 0 [] [(1,{ obs:=[(1,(TBo.b f))] })] [.pf z2l]<|
.a 1 1 2 (@F_q1w_ok m) fun F=>
 let g:=(0,hv (TBo.d f))
.ite (!F) (
.reg 2 [] [g] [.pf zo]<|
.r (f,1)) (
.ite (cO (decide (t<1)) (decide (t>(m.C.length:Int)))) (
.reg 4 [] [g] [.pf zo]<|
.r (f,6)) (
.call (@F_q18_ok A) fun n u=>
.calld [(!n)=false] dF (@F_q1t_ok B) fun G v =>
 let q:=(cO (cO (cO (!n) (!G)) (decide (E<1))) (decide (E>1000000)))
.calld [q=false] dF (@F_q18_ok L) fun I w =>
.reg 5 [] [(1,hc u [] true),(5,hc v [] true),(18,hc w [] true)] [.cl 4 u [] 2 true,.clg 2 [(!n)=false] v [] 2 true,.clg 0 [q=false] w [] 2 true]<|
.ite (cO q (!I)) (
.reg 6 [] [g] [.pf zo]<|
.r (f,2)) (
 let s:=(i64.wrap (t-1))
.guard [(0:Int)<=s,s.toNat<m.C.length]<|
.reg 7 [] [] [.ev 0,.ev 1]<|
.a 8 1 3 (@F_q1s_ok A) fun J=>
 let y:=(m.C.getD s.toNat dF)
.ite (J != y.D) (
.reg 9 [] [g] [.pf zo]<|
.r (f,16)) (
.ite (decide (A<y.Ab)) (
.reg 11 [] [g] [.pf zo]<|
.r (f,8)) (
.a 12 3 3 (@F_qy_ok m t) fun K=>
.ite (decide (B>K)) (
.reg 13 [] [g] [.pf zo]<|
.r (f,15)) (
.ite ((m.H.length:Int)==200) (
.reg 15 [] [g] [.pf zo]<|
.r (f,3)) (
.call (@F_q2k_ok m) fun c z=>
.reg 16 [] [(1,hc z [] false),(2,{ h:=.obj })] [.cl 0 z [] 3 false]<|
.kill 4<|
.guard [c.1.length<2 ^ 63]<|
.frz 5 (.ev 0) none [] [9]<|
.guard [c.2.2.1.length<2 ^ 63]<|
.frz 7 (.ev 0) none [] [9]<|
.guard [c.2.2.2.length<2 ^ 63]<|
.frz 8 (.ev 0) none [] [9]<|
.guard [(c.2.1.length+1) * (2 * 56)<=2 ^ 48]<|
 let i:=([(⟨(i64.wrap ((m.H.length:Int)+1)),t,A,B,0,E,L⟩:TCo)]:List TCo)
 let j:=(c.2.1++i)
.reg 17 [] [(12,hv (AV.d (eL TCo.e i))),(13,{ cast:=some (Rb 6 j.length 0 j.length),obs:=[(6,(eS 7 TCo.e j))] })] [.pf (z9 TCo.e i),.e c.2.1.length,.e c.2.1.length,.pf (p:=∀ k,k<1->(TCo.d (i.getD k dF)).wd=7) (fun _ _=>rfl),.ev 0,.pf (zw (o:=6) (l:=c.2.1) (x:=i)),.pf (zy (sz:=7) (e:=TCo.e) (l:=c.2.1) (x:=i))]<|
.guard [j.length<2 ^ 63]<|
.reg 18 [] [] []<|
.frz 6 (.ev 0) none [] [1,9]<|
.r ((⟨c.1,j,c.2.2.1,c.2.2.2⟩:TBo),0))))))))
def F_q5k (a:TBo) (b:Int) (c:Int) (d:Int) (e:Int) (f:Int):=(S_q5k a b c d e f).den
theorem F_q5k_ok {a:TBo} {b:Int} {c:Int} {e:Int} {f:Int} {g:Int}:FO (F_q5k a b c e f g) 162 [(TBo.d a),(vi b),(vi c),(vi e),(vi f),(vi g)] [] (fun x=>(Rg [(TBo.d x.1),(vi x.2)])) NL:=fO (s:=S_q5k a b c e f g) Tryz.func162
end
end Go.Proofs.YtgbpiaddmclccaaGreatDoor
