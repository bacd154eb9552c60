/- A part of the proof: what the functions compute, and that their calls return it. No condition. -/
import Derived.Test.YtbmpcbbimefmoaaGreatDoorT5
import Derived.Lib.AppendZerosOnto
import Derived.Test.YtbmpcbbimefmoaaGreatDoorProg
import Derived.Test.YtbmpcbbimefmoaaGreatDoorT3
import Derived.Test.YtbmpcbbimefmoaaGreatDoorG2
/- slices.Insert of one element, into rows of two kinds. No condition. -/
namespace Go.Proofs.YtbmpcbbimefmoaaGreatDoor
namespace InsG
open Go Go.TA
open Go.IntKind (i64)
def cL:Code->Code
 | .seq x _=>x
 | _=>.skip
def cR:Code->Code
 | .seq _ y=>y
 | _=>.skip
def cT:Code->Code
 | .cond _ x _=>x
 | _=>.skip
noncomputable def regOps:Code->Array Oper
 | .region _ ops _=>ops
 | _=>#[]
noncomputable def opAt (ops : Array Oper) (i : Nat) : Oper := (ops[i]?).getD { dst := none, op := .move (.tmp 0), type := 0, pos := "", after := #[], guard := none }
noncomputable def ci (ff:Func):Code:=ff.body.getD .skip
section
variable (ff:Func)
noncomputable def R0:Code:=cL (ci ff)
noncomputable def R1:Code:=cL (cR (ci ff))
noncomputable def R2:Code:=cL (cR (cR (ci ff)))
noncomputable def X3:Code:=cL (cR (cR (cR (ci ff))))
noncomputable def R5:Code:=cL (cR (cR (cR (cR (ci ff)))))
noncomputable def X6:Code:=cL (cR (cR (cR (cR (cR (ci ff))))))
noncomputable def T8:Code:=cR (cR (cR (cR (cR (cR (ci ff))))))
noncomputable def R8:Code:=cL (cL (T8 ff))
noncomputable def B9:Code:=cT (cR (cL (T8 ff)))
noncomputable def R9:Code:=cL (B9 ff)
noncomputable def B10:Code:=cR (B9 ff)
noncomputable def C13:Code:=cR (T8 ff)
end
inductive PP:Func->Func->Nat->Nat->Nat->Nat->Nat->Nat->Prop
 | a:PP Tryz.f192 Tryz.f210 192 210 24 67 3 32
 | b:PP Tryz.f194 Tryz.f212 194 212 25 69 3 32
section
variable {ff fo:Func} {nf no tS tE sz bt:Nat}
theorem PP.fF (hp:PP ff fo nf no tS tE sz bt):Tryz.prog.funcs[nf]? = some ff:=by
 cases hp
 ·exact Tryz.func192
 ·exact Tryz.func194
theorem PP.fO (hp:PP ff fo nf no tS tE sz bt):Tryz.prog.funcs[no]? = some fo:=by
 cases hp
 ·exact Tryz.func210
 ·exact Tryz.func212
theorem PP.uS (hp:PP ff fo nf no tS tE sz bt):Tryz.prog.underlying tS=some (.slice tE):=by
 cases hp
 ·exact Tryz.underlying24
 ·exact Tryz.underlying25
theorem PP.zE (hp:PP ff fo nf no tS tE sz bt):∀ w,(Go.sizeOf tE).run Tryz.prog w = .ok sz w:=by
 cases hp
 ·exact Tryz.sizeOf67
 ·exact Tryz.sizeOf69
theorem zmb (hp:PP ff fo nf no tS tE sz bt):ff.body=some (.seq (R0 ff) (.seq (R1 ff) (.seq (R2 ff) (.seq (.seq (cL (X3 ff)) (.cond (.tmp 16) (cT (cR (X3 ff))) .skip)) (.seq (R5 ff) (.seq (.seq (cL (X6 ff)) (.cond (.tmp 22) (cT (cR (X6 ff))) .skip)) (.seq (.seq (R8 ff) (.cond (.tmp 31) (.seq (R9 ff) (B10 ff)) .skip)) (C13 ff)))))))):=by cases hp <;> kernel_rfl
theorem zoz (hp:PP ff fo nf no tS tE sz bt):(R8 ff) = .region 8 (regOps (R8 ff)) false:=by cases hp <;> kernel_rfl
theorem zp0 (hp:PP ff fo nf no tS tE sz bt):(R9 ff) = .region 9 (regOps (R9 ff)) false:=by cases hp <;> kernel_rfl
end
variable {i zn:Nat} {a:Act} {Q:Exit->Act->World->Prop} {X:Nat->Prop} {ms:Blocks} {w:World}
section
variable {α:Type} [Inhabited α] {e:α->DV} {ff fo:Func} {nf no tS tE sz bt:Nat}
def gB (sz:Nat) (e:α->DV) (l:List α) (i:Nat):Nat->AV:=fun j=>if j<i then .d (e (l.getD j dF)) else garb sz
noncomputable def sB (sz:Nat) (l:List α) (x:α) (i:Nat) (n1:(0:Int)<=i) (h1:i<=l.length+1) (w0:0<=i64.wrap ((i:Int)+1)) (w1:(i64.wrap ((i:Int)+1)).toNat<=l.length+1) (h2:i<=l.length)
  (hx:∀ k,k<1->(AV.d (e ([x].getD (0+k) dF))).wd=sz) (hl:∀ k,k<l.length-i->(AV.d (e (l.getD (0+i+k) dF))).wd=sz)
  (ho:OLe (.seq sz (l.length+1) fun j=>if 0+(i64.wrap ((i:Int)+1)).toNat<=j/\j<0+(i64.wrap ((i:Int)+1)).toNat+min (l.length-i) (l.length+1-(i64.wrap ((i:Int)+1)).toNat) then .d (e (l.getD (0+i+(j-(0+(i64.wrap ((i:Int)+1)).toNat))) dF))
   else if 0+i<=j/\j<0+i+min 1 (l.length+1-i) then .d (e ([x].getD (0+(j-(0+i))) dF)) else gB sz e l i j) (eS sz e (insL l i x))):SC Unit Unit :=
 .reg 10 [] [] [.pf n1,.pf h1,.pf (y2p (l.length+1)),.pf (y2p 1),.pf (y2p (l.length+1)),.pf hx] <|
 .reg 11 [8] [(8,{ obs:=[(2,eS sz e (insL l i x))] })] [.pf w0,.pf w1,.pf (y2p (l.length+1)),.pf n1,.pf h2,.pf (y2p l.length),.pf (y2p l.length),.pf (y2p (l.length+1)),.pf hl,.pf ho] <|
 .ret [] ()
def frI (n i:Nat) (s:AV):Fr:=[(7,.d (.i .i64 1)),(8,.d (.i .i64 (n:Int))),(2,.ref 1 1 0 1),(1,.d (.i .i64 (i:Int))),(0,s)]
theorem tailB (hp:PP ff fo nf no tS tE sz bt) (he:∀ x,(e x).wd=sz) {l:List α} {x:α} (hi:i<l.length) (hl:l.length<100000000000000) :
  AW none Tryz.prog ff.ntmps (B10 ff) (fun e1 fr L=>e1 = .ret/\FR Tryz.prog ff (.ref 2 (l.length+1) 0 (l.length+1)) [eS sz e l,eS sz e [x],eS sz e (insL l i x)] fr L)
   ((9,.ref 2 (l.length+1) 0 (l.length+1)) :: frI l.length i (.ref 0 l.length 0 l.length)) [eS sz e l,eS sz e [x],.seq sz (l.length+1) (gB sz e l i)]:=by
 have hw:i64.wrap ((i:Int)+1)=(i:Int)+1:=by rw[z33] <;> omega
 exact pTailR (ρ:=Unit) (V:=fun _=>.ref 2 (l.length+1) 0 (l.length+1)) (Lr:=fun _=>[eS sz e l,eS sz e [x],eS sz e (insL l i x)]) (r:=())
  (s:=sB (e:=e) sz l x i om om (by rw[hw]; omega) (by rw[hw]; omega) om (fun k _=>he _) (fun k _=>he _) (by
   rw[hw]
   refine z40 z27.symm fun j hj=>?_
   rw[z9z om,show ((i:Int)+1).toNat=i+1 from om]
   by_cases h1:j<i
   ·rw[y6 om,y6 om,y7 h1,gB,y7 h1]
   ·by_cases h2:j=i
    ·subst h2
     rw[y6 om,y7 om,y6 h1,y7 rfl,show 0+(j-(0+j))=0 from om]
     rfl
    ·rw[y7 om,y6 h1,y6 h2]
     congr 3; omega)) (by cases hp <;> kernel_rfl) rfl
def gC (sz:Nat) (e:α->DV) (l:List α):Nat->AV:=fun j=>if j<l.length then .d (e (l.getD j dF)) else garb sz
noncomputable def sC (sz no:Nat) (l:List α) (x:α) (i:Nat) (a:(0:Int)<=i64.wrap ((l.length:Int)+1)) (c:(i64.wrap ((l.length:Int)+1)).toNat<=l.length+1) (f:(i64.wrap ((l.length:Int)+1)).toNat=l.length+1)
  (w0:(0:Int)<=i64.wrap ((i:Int)+1)) (w1:(i64.wrap ((i:Int)+1)).toNat<=l.length+1) (n1:(0:Int)<=i) (h1:i<=l.length+1)
  (hx:ExtOk Tryz.prog no [.ref 1 1 0 1,.ref 0 (l.length+1) (0+(i64.wrap ((i:Int)+1)).toNat) (l.length+1-(i64.wrap ((i:Int)+1)).toNat)] [.seq sz (l.length+1) (gC sz e l),eS sz e [x]] (.d (.b false)))
  (hg:∀ k,k<l.length+1-i->(gC sz e l (0+i+k)).wd=sz) (hy:∀ k,k<1->(AV.d (e ([x].getD (0+k) dF))).wd=sz)
  (ho:OLe (.seq sz (l.length+1) fun j=>if 0+i<=j/\j<0+i+min 1 (l.length+1-i) then .d (e ([x].getD (0+(j-(0+i))) dF))
   else if 0+(i64.wrap ((i:Int)+1)).toNat<=j/\j<0+(i64.wrap ((i:Int)+1)).toNat+min (l.length+1-i) (l.length+1-(i64.wrap ((i:Int)+1)).toNat) then gC sz e l (0+i+(j-(0+(i64.wrap ((i:Int)+1)).toNat)))
   else gC sz e l j) (eS sz e (insL l i x))):SC Unit Unit :=
 .reg 13 [] [] [.pf a,.pf c,.pf (y2p (l.length+1))] <|
 .cst (A:=(i64.wrap ((l.length:Int)+1)).toNat=l.length+1) (.pf f) [(0,.ref 0 (l.length+1) (0+0) ((i64.wrap ((l.length:Int)+1)).toNat-0)),(1,.d (.i .i64 (i:Int))),(2,.ref 1 1 0 1),(7,.d (.i .i64 1))]
  [(0,.ref 0 (l.length+1) 0 (l.length+1)),(1,.d (.i .i64 (i:Int))),(2,.ref 1 1 0 1),(7,.d (.i .i64 1))]
  [.seq sz (l.length+1) (gC sz e l),eS sz e [x]] [.seq sz (l.length+1) (gC sz e l),eS sz e [x]] (fun h=>⟨by rw[h]; rfl,rfl⟩) <|
 .reg 14 [] [(6,{ h:=.callr (.d (.b false)) })] [.pf w0,.pf w1,.pf (y2p (l.length+1)),.pf hx] <|
 .br true (.pf (p:=(!false)=true) rfl) <|
 .reg 15 [8] [] [.pf w0,.pf w1,.pf (y2p (l.length+1)),.pf n1,.pf h1,.pf (y2p (l.length+1)),.pf (y2p (l.length+1)),.pf (y2p (l.length+1)),.pf hg] <|
 .reg 16 [] [(4,{ obs:=[(0,eS sz e (insL l i x))] })] [.pf n1,.pf h1,.pf (y2p (l.length+1)),.pf (y2p 1),.pf (y2p (l.length+1)),.pf hy,.pf ho] <|
 .reg 17 [] [] [] <|
 .ret [] ()
theorem tailC (hp:PP ff fo nf no tS tE sz bt) (he:∀ x,(e x).wd=sz) {l:List α} {x:α} (hi:i<l.length) (hl:l.length<100000000000000) :
  AW none Tryz.prog ff.ntmps (C13 ff) (FQ Tryz.prog ff (.ref 0 (l.length+1) 0 (l.length+1)) [eS sz e (insL l i x),eS sz e [x]])
   (frI l.length i (.ref 0 (l.length+1) 0 l.length)) [.seq sz (l.length+1) (gC sz e l),eS sz e [x]]:=by
 have hw:i64.wrap ((i:Int)+1)=(i:Int)+1:=by rw[z33] <;> omega
 have hw2:i64.wrap ((l.length:Int)+1)=(l.length:Int)+1:=by rw[z33] <;> omega
 have hwd:∀ k,(gC sz e l k).wd=sz:=fun k=>by
  unfold gC
  split
  ·exact he _
  ·cases hp <;> rfl
 exact pTailG (ρ:=Unit) (V:=fun _=>.ref 0 (l.length+1) 0 (l.length+1)) (Lr:=fun _=>[eS sz e (insL l i x),eS sz e [x]]) (r:=())
  (s:=sC (e:=e) sz no l x i (by rw[hw2]; omega) (by rw[hw2]; omega) (by rw[hw2]; omega) (by rw[hw]; omega) (by rw[hw]; omega) om om
   (zfq (fn:=fo) (tR:=4) (te:=tE) (sz:=sz) (z1:=sz) (z2:=sz) hp.fO (by cases hp <;> kernel_rfl) (by cases hp <;> kernel_rfl) (by cases hp <;> kernel_rfl) (by cases hp <;> kernel_rfl) hp.uS hp.zE (by cases hp <;> decide) rfl rfl dk rfl (by rw[hw]; omega) (by rw[hw]; omega) (by cases hp <;> decide))
   (fun k _=>hwd _) (fun k _=>he _) (by
   rw[hw]
   refine z40 z27.symm fun j hj=>?_
   rw[z9z om,show ((i:Int)+1).toNat=i+1 from om]
   by_cases h2:j=i
   ·subst h2
    rw[y7 om,y6 om,y7 rfl,show 0+(j-(0+j))=0 from om]
    rfl
   ·rw[y6 om,y6 h2]
    by_cases h1:j<i
    ·rw[y6 om,y7 h1,gC,y7 om]
    ·rw[y7 om,y6 h1,gC,y7 om]
     congr 3; omega)) (by cases hp <;> kernel_rfl) rfl
theorem z4o {c:Cx} {G:GFr} {t:Nat} {v:AV} (hf:FrIs c G a.tmps) (h:(t,[],v)∈G):AV.IsV c v (a.tmps.getD t undef):=(hf _ h).2.1 (fun z hz=>by cases hz)
theorem zp1 (hp:PP ff fo nf no tS tE sz bt) {l:List α} {x:α} (h0:0<l.length) (hr:Rel X ms [eS sz e l,eS sz e [x]] w) (hf:FrIs (cxOf X ms [eS sz e l,eS sz e [x]] w) (frI l.length i (.ref 0 l.length 0 l.length)).up a.tmps) (hN:a.tmps.size=ff.ntmps) (hQ:∀ a' ms' w' b tc,Rel X ms' [eS sz e l,eS sz e [x]] w'->Ext ms w ms' w'->(cxOf X ms [eS sz e l,eS sz e [x]] w).le (cxOf X ms' [eS sz e l,eS sz e [x]] w')->FrIs (cxOf X ms' [eS sz e l,eS sz e [x]] w') (frI l.length i (.ref 0 l.length 0 l.length)).up a'.tmps ->
   a'.tmps.size=ff.ntmps->a'.defers=a.defers->ms'[0]? = some (some (b,tc))->l.length<=tc->a'.eval (.tmp 0) = .slice (some ⟨b,0,none⟩) l.length tc->a'.eval (.tmp 31) = .bool (decide (i64.wrap ((l.length:Int)+1)>(tc:Int)))->Q .normal a' w') :
  (R8 ff).wpIn (fenceOf none) zn Tryz.prog Q a w:=by
 rw[zoz hp]
 refine y5v ?_
 rw[show List.range (regOps (R8 ff)).size=[0,1,2,3]++[4,5] by cases hp <;> kernel_rfl]
 refine zcx (hs:=[]) (C:=[]) (L1:=[eS sz e l,eS sz e [x]]) (G1:=[(29,[],.ref 0 l.length 0 l.length),(28,[],.d (.i .i64 (i64.wrap ((l.length:Int)+1)))),(27,[],.d (.i .i64 1)),(26,[],.d (.i .i64 (l.length:Int))),
  (7,[],.d (.i .i64 1)),(8,[],.d (.i .i64 (l.length:Int))),(2,[],.ref 1 1 0 1),(1,[],.d (.i .i64 (i:Int))),(0,[],.ref 0 l.length 0 l.length)]) (by cases hp <;> kernel_rfl) trivial hr hf hN fun f ms1 w1 r1 e1 c1 f1 n1 d1=>?_
 have k1:=IsV.is1 rfl sj sj (z4o f1 (t:=29) (v:=.ref 0 l.length 0 l.length) sj)
 have k0:=IsV.is1 rfl sj sj (z4o f1 (t:=0) (v:=.ref 0 l.length 0 l.length) sj)
 have at0:∀ {t:Nat} {v:Value},f.tmps.getD t undef=v->AV.Is (cxOf X ms1 [eS sz e l,eS sz e [x]] w1) (.ref 0 l.length 0 l.length) [v]->∃ b tc,ms1[0]? = some (some (b,tc))/\l.length<=tc/\v = .slice (some ⟨b,0,none⟩) l.length tc:=fun {t v} _ h=>by
  cases h with
  | ref _ _ _ _ _ h =>
  obtain⟨_,⟨_,_,rfl⟩,_,h⟩:=h
  obtain⟨_,h⟩:=h sz _ rfl
  rcases h with ⟨_,_,h⟩ | ⟨h,_⟩ | ⟨b,tc,m,h1,h2⟩
  ·simp only[y3f] at h; omega
  ·exact absurd rfl h
  ·exact⟨b,tc,m,h1,by simpa using h2⟩
 obtain⟨b,tc,m1,hle,h29⟩:=at0 rfl k1
 obtain⟨b',tc',m1',_,h0'⟩:=at0 rfl k0
 have e1':=m1'.symm.trans m1
 cases e1'
 refine zg8 (o:=opAt (regOps (R8 ff)) 4) (by cases hp <;> kernel_rfl) (by cases hp <;> kernel_rfl) (OpOk.value (zn4 (x:=.tmp 29) (t:=tS) (by cases hp <;> kernel_rfl) hp.uS h29) ?_)
 rw[show (opAt (regOps (R8 ff)) 4).dst=some 30 by cases hp <;> kernel_rfl]
 obtain⟨g,j,k⟩:=z4j (dst:=some 30) (ch:=[]) (v:=.d (.i .i64 (tc:Int))) (u:=.int .i64 tc) (G:=[(29,[],.ref 0 l.length 0 l.length),(28,[],.d (.i .i64 (i64.wrap ((l.length:Int)+1)))),(27,[],.d (.i .i64 1)),(26,[],.d (.i .i64 (l.length:Int))),
  (7,[],.d (.i .i64 1)),(8,[],.d (.i .i64 (l.length:Int))),(2,[],.ref 1 1 0 1),(1,[],.d (.i .i64 (i:Int))),(0,[],.ref 0 l.length 0 l.length)]) (G1:=(30,[],.d (.i .i64 (tc:Int))) :: [(29,[],.ref 0 l.length 0 l.length),(28,[],.d (.i .i64 (i64.wrap ((l.length:Int)+1)))),(27,[],.d (.i .i64 1)),(26,[],.d (.i .i64 (l.length:Int))),
  (7,[],.d (.i .i64 1)),(8,[],.d (.i .i64 (l.length:Int))),(2,[],.ref 1 1 0 1),(1,[],.d (.i .i64 (i:Int))),(0,[],.ref 0 l.length 0 l.length)]) (N:=ff.ntmps) (by cases hp <;> kernel_rfl) n1 f1 (fun _=>.one _ _ rfl (.d _ _ (.i _ _))) (fun h=>absurd (fun z hz=>by cases hz) h)
 refine z2i (hs:=[]) none zn [5] _ _ ([(31,[],.d (.b (decide (i64.wrap ((l.length:Int)+1)>(tc:Int)))))]++(30,[],.d (.i .i64 (tc:Int))) :: [(29,[],.ref 0 l.length 0 l.length),(28,[],.d (.i .i64 (i64.wrap ((l.length:Int)+1)))),(27,[],.d (.i .i64 1)),(26,[],.d (.i .i64 (l.length:Int))),
  (7,[],.d (.i .i64 1)),(8,[],.d (.i .i64 (l.length:Int))),(2,[],.ref 1 1 0 1),(1,[],.d (.i .i64 (i:Int))),(0,[],.ref 0 l.length 0 l.length)]) [eS sz e l,eS sz e [x]] [] ms1 w1 _ (by cases hp <;> kernel_rfl) trivial r1 g j fun c ms2 w2 r2 e2 c2 f2 n2 d2=>?_
 have m2:ms2[0]? = some (some (b,tc)):=by
  obtain⟨_,h1,_,_,h2⟩:=c2.ob 0 (eS sz e l) (by simp[cxOf]) rfl (by simp[eS,Ob.stamp])
  obtain rfl:_=eS sz e l:=y15 h1.symm
  exact (h2 rfl).trans m1
 have k0':=IsV.is1 rfl sj sj (z4o f2 (t:=0) (v:=.ref 0 l.length 0 l.length) sj)
 have h0'':c.tmps.getD 0 undef = .slice (some ⟨b,0,none⟩) l.length tc:=by
  generalize c.tmps.getD 0 undef=v at k0'
  cases k0' with
  | ref _ _ _ _ _ h =>
  obtain⟨_,⟨_,_,rfl⟩,_,h⟩:=h
  obtain⟨_,h⟩:=h sz _ rfl
  rcases h with ⟨_,_,h⟩ | ⟨h,_⟩ | ⟨b'',tc'',m,h1,h2⟩
  ·simp only[y3f] at h; omega
  ·exact absurd rfl h
  ·have e:=m2.symm.trans m
   cases e
   simpa using h2
 exact hQ c ms2 w2 b tc r2 (e1.trans e2) (c1.trans c2) (fun q hq=>f2 q (by
  simp only[frI,Fr.up,y2n,List.map_nil,yv,y2x,y4g] at hq
  rcases hq with rfl | rfl | rfl | rfl | rfl <;> simp)) n2 (d2.trans (k.trans d1)) m2 hle h0'' (IsV.b (z4o f2 (t:=31) (v:=.d (.b (decide (i64.wrap ((l.length:Int)+1)>(tc:Int))))) sj))
theorem zp2 (hp:PP ff fo nf no tS tE sz bt) {l:List α} {x:α} (hi:i<l.length) (hl:(l.length+1) * (4 * bt)<=2 ^ 48) {b:Nat} (hr:Rel X ms [eS sz e l,eS sz e [x]] w) (hf:FrIs (cxOf X ms [eS sz e l,eS sz e [x]] w) (frI l.length i (.ref 0 l.length 0 l.length)).up a.tmps) (hN:a.tmps.size=ff.ntmps) (hm:ms[0]? = some (some (b,l.length))) (hQ:∀ a' ms' w',Rel X ms' [eS sz e l,eS sz e [x],.seq sz (l.length+1) (gB sz e l i)] w'->Ext ms w ms' w'->(cxOf X ms [eS sz e l,eS sz e [x]] w).le (cxOf X ms' [eS sz e l,eS sz e [x],.seq sz (l.length+1) (gB sz e l i)] w') ->
   FrIs (cxOf X ms' [eS sz e l,eS sz e [x],.seq sz (l.length+1) (gB sz e l i)] w') (Fr.up ((9,.ref 2 (l.length+1) 0 (l.length+1)) :: frI l.length i (.ref 0 l.length 0 l.length))) a'.tmps ->
   a'.tmps.size=ff.ntmps->a'.defers=a.defers->Q .normal a' w') :
  (R9 ff).wpIn (fenceOf none) zn Tryz.prog Q a w:=by
 have hn:l.length<100000000000000:=by cases hp <;> omega
 have hw2:i64.wrap ((l.length:Int)+1)=(l.length:Int)+1:=by rw[z33] <;> omega
 have hw3:i64.wrap (i64.wrap ((l.length:Int)+1)-(i:Int))=((l.length+1-i:Nat):Int):=by rw[hw2,z33] <;> omega
 rw[zp0 hp]
 refine y5v ?_
 rw[show List.range (regOps (R9 ff)).size=[0,1,2,3,4,5,6,7]++[8,9] by cases hp <;> kernel_rfl]
 refine zcx (hs:=[]) (C:=[(0:Int)<=(i:Int),i<=l.length,l.length=l.length]) (L1:=[eS sz e l,eS sz e [x]]) (G1:=[(39,[],.d (.i .i64 (i64.wrap (i64.wrap ((l.length:Int)+1)-(i:Int))))),(38,[],.d (.i .i64 (i:Int))),(37,[],.d (.i .i64 (i64.wrap ((l.length:Int)+1)))),
  (36,[],.d (.i .i64 1)),(35,[],.d (.i .i64 (l.length:Int))),(34,[],.ref 0 l.length (0+0) (i-0)),(33,[],.d (.i .i64 (i:Int))),(32,[],.ref 0 l.length 0 l.length),
  (7,[],.d (.i .i64 1)),(8,[],.d (.i .i64 (l.length:Int))),(2,[],.ref 1 1 0 1),(1,[],.d (.i .i64 (i:Int))),(0,[],.ref 0 l.length 0 l.length)]) (by cases hp <;> kernel_rfl) ⟨om,om,rfl,trivial⟩ hr hf hN fun f ms1 w1 r1 e1 c1 f1 n1 d1=>?_
 have m1:ms1[0]? = some (some (b,l.length)):=by
  obtain⟨_,h1,_,_,h2⟩:=c1.ob 0 (eS sz e l) (by simp[cxOf]) rfl (by simp[eS,Ob.stamp])
  obtain rfl:_=eS sz e l:=y15 h1.symm
  exact (h2 rfl).trans hm
 have k34:=IsV.is1 rfl sj sj (z4o f1 (t:=34) (v:=.ref 0 l.length (0+0) (i-0)) sj)
 have h34:f.eval (.tmp 34) = .slice (some ⟨b,0,none⟩) i l.length:=by
  show f.tmps.getD 34 undef=_
  generalize f.tmps.getD 34 undef=v at k34
  cases k34 with
  | ref _ _ _ _ _ h =>
  obtain⟨_,⟨_,_,rfl⟩,_,h⟩:=h
  obtain⟨_,h⟩:=h sz _ rfl
  rcases h with ⟨h,_⟩ | ⟨h,_⟩ | ⟨b'',tc'',m,h1,h2⟩
  ·have e:some (none:Option (Nat×Nat))=some (some (b,l.length)):=h.symm.trans m1
   cases e
  ·exact absurd rfl h
  ·have e:=m1.symm.trans m
   cases e
   simpa using h2
 have h39:f.eval (.tmp 39) = .int .i64 ((l.length+1-i:Nat):Int):=by
  have:=IsV.i (z4o f1 (t:=39) (v:=.d (.i .i64 (i64.wrap (i64.wrap ((l.length:Int)+1)-(i:Int))))) sj)
  rw[hw3] at this
  exact this
 obtain⟨arr,ty,cs,g1,g2,g3,g4,g5,g6⟩:=r1.seq (o:=0) rfl m1
 obtain⟨info,hinf⟩:∃ info,Tryz.prog.info? tE=some info:=⟨_,Option.eq_some_of_isSome (by cases hp <;> kernel_rfl)⟩
 have hsz:info.size=sz:=by
  have:(Tryz.prog.info? tE).map (·.size)=some sz:=by cases hp <;> kernel_rfl
  rw[hinf] at this; simpa using this
 have hby:info.bytes=bt:=by
  have:(Tryz.prog.info? tE).map (·.bytes)=some bt:=by cases hp <;> kernel_rfl
  rw[hinf] at this; simpa using this
 obtain⟨z,hz⟩:∃ z,info.zero=some z:=by
  have:((Tryz.prog.info? tE).bind (·.zero)).isSome=true:=by cases hp <;> kernel_rfl
  rw[hinf] at this
  exact y3a.1 this
 have hzs:z.cells.size=sz:=by
  have:((Tryz.prog.info? tE).bind (·.zero)).map (fun z=>z.cells.size)=some sz:=by cases hp <;> kernel_rfl
  rw[hinf] at this
  simpa [hz] using this
 have hzone:∀ v∈z.cells.toList,v.oneCell'=true:=by
  have:((Tryz.prog.info? tE).bind (·.zero)).map (fun z=>z.cells.toList.all fun v=>v.oneCell')=some true:=by cases hp <;> kernel_rfl
  rw[hinf] at this
  have h:z.cells.toList.all (fun v=>v.oneCell')=true:=by simpa [hz] using this
  exact y18.1 h
 have hcsi:∀ k,k<i->(cs k).length=sz:=fun k hk=>g5 k om
 have hold:(Builtin.firstCells info.size i (.slice (some ⟨b,0,none⟩) i l.length)).run Tryz.prog w1.drew = .ok ((List.range i).flatMap cs).toArray w1.drew:=by
  rw[hsz]
  exact z3b (w:=w1) (w1:=w1.drew) (off:=0) (cap:=l.length) rfl g1 hcsi (fun k hk j hj=>by simpa using g6 k om j hj) i
 have hfit:Builtin.nextslicecap (i+(l.length+1-i)) l.length * info.bytes<=281474976710656:=by
  have h1:=z6a (need:=i+(l.length+1-i)) (old:=l.length) om
  rw[hby]
  cases hp <;> omega
 have hap:=Lib.run_append_grow_zeros (P:=Tryz.prog) w1 tS 3 (opAt (regOps (R9 ff)) 8).type tE info z .i64 .i64 hp.uS Tryz.underlying3 hinf hz (some ⟨b,0,none⟩) i l.length ((List.range i).flatMap cs) hold (l.length+1-i) (by cases hp <;> omega) (by cases hp <;> omega) (by cases hp <;> omega) (by cases hp <;> omega) (by rw[hby]; cases hp <;> omega) hfit
 rw[show i+(l.length+1-i)=l.length+1 from om] at hap
 obtain⟨nc,hnc⟩:∃ nc,nc=grownCap w1 (l.length+1) l.length tE:=⟨_,rfl⟩
 have hge:=grownCap_ge w1 (l.length+1) l.length tE
 rw[<- hnc] at hap hge
 obtain⟨row,hrow⟩:∃ row:Array Value,row=((List.range i).flatMap cs).toArray++Builtin.zeroCells z.cells (l.length+1-i)++Builtin.zeroCells z.cells (nc-(l.length+1)):=⟨_,rfl⟩
 rw[<- hrow] at hap
 have hkl:=zb i sz cs hcsi
 have hrs:row.size=nc * sz:=by
  rw[hrow,y40,y40,y2l,hkl,y4w,y4w,hzs]
  cases hp <;> omega
 have hone:∀ v∈row.toList,v.oneCell'=true:=by
  rw[hrow]
  simp only[y3i,y1c]
  rintro v ((hv | hv) | hv)
  ·exact z2r (fun k (hk:k<i)=>g4 k om) v hv
  ·exact z3l hzone _ v hv
  ·exact z3l hzone _ v hv
 have hget:∀ k,k<i->∀ j,j<sz->row[k * sz+j]? = (cs k)[j]? := fun k hk j hj=>by
  rw[hrow,<- y1e]
  simp only[y3i,y25]
  rw[yq (by rw[hkl]; cases hp <;> omega)]
  exact zi? i sz cs hcsi k j hk hj
 have hcl:∀ j,j<l.length+1->((row.toList.drop (j * sz)).take sz).length=sz:=fun j hj=>by
  simp only[yx,y21,y22,hrs]
  cases hp <;> omega
 obtain⟨w2,hw⟩:∃ w2,w2=w1.drew.alloc (.cells row tE):=⟨_,rfl⟩
 rw[<- hw] at hap
 have hgrow:Grow w1 w2:=by rw[hw]; exact (Grow.drew w1).trans (Grow.alloc _ _)
 have hhp:w2.heap[w1.heap.size]? = some (.cells row tE (0,0)):=by rw[hw]; exact z2b w1.drew _
 have hsize:w1.heap.size<w2.heap.size:=z49 hhp
 obtain⟨q1,q2,q3⟩:=r1.push (m:=some (w1.heap.size,nc)) (obj:=.seq sz (l.length+1) (gB sz e l i)) hgrow (fun b tc e=>by cases e; exact⟨yc _,hsize⟩) (fun hcx=>by
  refine .inr ⟨w1.heap.size,nc,row,tE,fun j=>if j<i then cs j else (row.toList.drop (j * sz)).take sz,by simp[cxOf,<- r1.len],hhp,hge,⟨hrs,hone⟩,fun j hj=>?_,fun j hj=>?_,fun j hj q hq=>?_⟩
  ·by_cases hji:j<i
   ·simp only[gB,y7 hji]; exact (g4 j om).mono hcx
   ·simp only[gB,y6 hji,garb]
    have:=zbw (c:=cxOf X (ms1++[some (w1.heap.size,nc)]) ([eS sz e l,eS sz e [x]]++[.seq sz (l.length+1) (gB sz e l i)]) w2) (l:=(row.toList.drop (j * sz)).take sz) fun v hv=>hone v (y3e (y17 hv))
    rw[hcl j hj] at this
    exact .agg _ _ this
  ·by_cases hji:j<i
   ·simp only[y7 hji]; exact g5 j om
   ·simp only[y6 hji]; exact hcl j hj
  ·by_cases hji:j<i
   ·simp only[y7 hji]; exact hget j hji q hq
   ·simp only[y6 hji]
    rw[y1s hq,y3u,y1e])
 have hexec:(execOp f.eval (opAt (regOps (R9 ff)) 8)).run Tryz.prog w1 = .ok (.value (.slice (some ⟨w1.heap.size,0,none⟩) (l.length+1) nc)) w2:=by
  have hop:(opAt (regOps (R9 ff)) 8).op = .call ⟨.builtin .append,#[.tmp 34,.tmp 39],#[tS,3]⟩:=by cases hp <;> kernel_rfl
  generalize opAt (regOps (R9 ff)) 8=o at hop hap
  obtain⟨dst,op,ty,pos,after,guard⟩:=o
  subst hop
  refine zx (s:=Builtin.append_ #[tS,3] ty (#[.tmp 34,.tmp 39].map f.eval)) ?_
  have ha:(#[.tmp 34,.tmp 39]:Array Operand).map f.eval = #[.slice (some ⟨b,0,none⟩) i l.length,.int .i64 ((l.length+1-i:Nat):Int)]:=by
   simp[h34,h39]
  rw[ha]
  exact hap
 refine zg8 (o:=opAt (regOps (R9 ff)) 8) (by cases hp <;> kernel_rfl) (by cases hp <;> kernel_rfl) (OpOk.value hexec ?_)
 rw[show (opAt (regOps (R9 ff)) 8).dst=some 40 by cases hp <;> kernel_rfl]
 obtain⟨g,n,p⟩:=z4j (dst:=some 40) (ch:=[]) (v:=.ref 2 (l.length+1) 0 (l.length+1)) (u:=.slice (some ⟨w1.heap.size,0,none⟩) (l.length+1) nc) (G:=(frI l.length i (.ref 0 l.length 0 l.length)).up)
  (G1:=(40,[],.ref 2 (l.length+1) 0 (l.length+1)) :: (frI l.length i (.ref 0 l.length 0 l.length)).up) (N:=ff.ntmps) (by cases hp <;> kernel_rfl) n1 (fun q hq=>(f1.mono q3) q (by
  simp only[frI,Fr.up,y2n,List.map_nil,yv,y2x,y4g] at hq
  rcases hq with rfl | rfl | rfl | rfl | rfl <;> simp)) (fun _=>z8u r1.len hge) (fun h=>absurd (fun z hz=>by cases hz) h)
 refine z2i (hs:=[]) none zn [9] _ _ ((9,[],.ref 2 (l.length+1) 0 (l.length+1)) :: (40,[],.ref 2 (l.length+1) 0 (l.length+1)) :: (frI l.length i (.ref 0 l.length 0 l.length)).up) [eS sz e l,eS sz e [x],.seq sz (l.length+1) (gB sz e l i)] [] _ w2 _ (by cases hp <;> kernel_rfl) trivial q1 g n fun r ms2 w3 r2 e2 c2 f2 n2 d2=>?_
 exact hQ r ms2 w3 r2 ((e1.trans q2).trans e2) ((c1.trans q3).trans c2) (fun q hq=>f2 q (by
  rcases yv.1 (show q∈(9,[],AV.ref 2 (l.length+1) 0 (l.length+1)) :: (frI l.length i (.ref 0 l.length 0 l.length)).up from hq) with hq | hq
  ·exact yv.2 (.inl hq)
  ·exact yv.2 (.inr (yv.2 (.inr hq))))) n2 (d2.trans (p.trans d1))
theorem regc {N:Nat} {Q:Post} {fr fr' fr2:Fr} {L L':List Ob} {id:Nat} {c:Code} {C:List Prop} (hq:c = .region id (regOps c) false) (h:regionRun Tryz.prog (regOps c) N [] fr L=some (fr',L',C)) (hc:AllP C)
  (hm:∀ q∈fr2,q∈fr') (k:Q .normal fr2 L'):AW none Tryz.prog N c Q fr L:=by
 have:=zn5 (id:=id) (Q:=Q) h hc hm k
 rwa [<- hq] at this
theorem head (hp:PP ff fo nf no tS tE sz bt) (_he:∀ x,(e x).wd=sz) {l:List α} {x:α} (hi:i<l.length) (Q:Post) (h:AW none Tryz.prog ff.ntmps (.seq (.seq (R8 ff) (.cond (.tmp 31) (.seq (R9 ff) (B10 ff)) .skip)) (C13 ff)) Q (frI l.length i (.ref 0 l.length 0 l.length)) [eS sz e l,eS sz e [x]]) :
  AW none Tryz.prog ff.ntmps (.seq (R0 ff) (.seq (R1 ff) (.seq (R2 ff) (.seq (.seq (cL (X3 ff)) (.cond (.tmp 16) (cT (cR (X3 ff))) .skip)) (.seq (R5 ff) (.seq (.seq (cL (X6 ff)) (.cond (.tmp 22) (cT (cR (X6 ff))) .skip)) (.seq (.seq (R8 ff) (.cond (.tmp 31) (.seq (R9 ff) (B10 ff)) .skip)) (C13 ff)))))))) Q
   (argFr [.ref 0 l.length 0 l.length,.d (.i .i64 (i:Int)),.ref 1 1 0 1] 0) [eS sz e l,eS sz e [x]]:=by
 have hne:((i:Int)==(l.length:Int))=false:=sk
 refine z4d (regc (L':=[eS sz e l,eS sz e [x]]) (id:=0) (C:=[]) (fr':=(6,.full 0 fun _=>.b false) :: argFr [.ref 0 l.length 0 l.length,.d (.i .i64 (i:Int)),.ref 1 1 0 1] 0) (fr2:=argFr [.ref 0 l.length 0 l.length,.d (.i .i64 (i:Int)),.ref 1 1 0 1] 0)
  (by cases hp <;> kernel_rfl) (by cases hp <;> kernel_rfl) trivial (fun q hq=>ym _ hq) ?_)
 refine z4d (regc (L':=[eS sz e l,eS sz e [x]]) (id:=1) (C:=[(0:Int)<=(i:Int),i<=l.length,l.length=l.length]) (fr':=(12,.ref 0 l.length (0+i) (l.length-i)) :: (11,.d (.i .i64 (i:Int))) :: (10,.ref 0 l.length 0 l.length) :: argFr [.ref 0 l.length 0 l.length,.d (.i .i64 (i:Int)),.ref 1 1 0 1] 0)
  (fr2:=argFr [.ref 0 l.length 0 l.length,.d (.i .i64 (i:Int)),.ref 1 1 0 1] 0)
  (by cases hp <;> kernel_rfl) (by cases hp <;> kernel_rfl) ⟨om,om,rfl,trivial⟩ (fun q hq=>ym _ (ym _ (ym _ hq))) ?_)
 refine z4d (regc (L':=[eS sz e l,eS sz e [x]]) (id:=2) (C:=[]) (fr':=(7,.d (.i .i64 1)) :: (14,.d (.i .i64 1)) :: (13,.ref 1 1 0 1) :: argFr [.ref 0 l.length 0 l.length,.d (.i .i64 (i:Int)),.ref 1 1 0 1] 0)
  (fr2:=[(7,.d (.i .i64 1)),(2,.ref 1 1 0 1),(1,.d (.i .i64 (i:Int))),(0,.ref 0 l.length 0 l.length)])
  (by cases hp <;> kernel_rfl) (by cases hp <;> kernel_rfl) trivial (fun q hq=>by
   simp only[yv,y2x,y4g] at hq
   simp only[argFr,yv,y2x,y4g]
   rcases hq with rfl | rfl | rfl | rfl <;> simp) ?_)
 refine z4d (z4d (regc (L':=[eS sz e l,eS sz e [x]]) (id:=3) (C:=[]) (fr':=(16,.d (.b false)) :: (15,.d (.i .i64 1)) :: [(7,.d (.i .i64 1)),(2,.ref 1 1 0 1),(1,.d (.i .i64 (i:Int))),(0,.ref 0 l.length 0 l.length)])
  (fr2:=[(16,.d (.b false)),(7,.d (.i .i64 1)),(2,.ref 1 1 0 1),(1,.d (.i .i64 (i:Int))),(0,.ref 0 l.length 0 l.length)])
  (by cases hp <;> kernel_rfl) (by cases hp <;> kernel_rfl) trivial (fun q hq=>by
   simp only[yv,y2x,y4g] at hq |-
   rcases hq with rfl | rfl | rfl | rfl | rfl <;> simp) ?_))
 refine z8v (b:=false) rfl (fun h=>by cases h) fun _=>zbo ?_
 refine z4d (regc (L':=[eS sz e l,eS sz e [x]]) (id:=5) (C:=[]) (fr':=(8,.d (.i .i64 (l.length:Int))) :: (19,.d (.i .i64 (l.length:Int))) :: (18,.ref 0 l.length 0 l.length) :: [(16,.d (.b false)),(7,.d (.i .i64 1)),(2,.ref 1 1 0 1),(1,.d (.i .i64 (i:Int))),(0,.ref 0 l.length 0 l.length)])
  (fr2:=frI l.length i (.ref 0 l.length 0 l.length))
  (by cases hp <;> kernel_rfl) (by cases hp <;> kernel_rfl) trivial (fun q hq=>by
   simp only[frI,yv,y2x,y4g] at hq |-
   rcases hq with rfl | rfl | rfl | rfl | rfl <;> simp) ?_)
 refine z4d (z4d (regc (L':=[eS sz e l,eS sz e [x]]) (id:=6) (C:=[]) (fr':=(22,.d (.b ((i:Int)==(l.length:Int)))) :: (21,.d (.i .i64 (l.length:Int))) :: (20,.d (.i .i64 (i:Int))) :: frI l.length i (.ref 0 l.length 0 l.length))
  (fr2:=(22,.d (.b ((i:Int)==(l.length:Int)))) :: frI l.length i (.ref 0 l.length 0 l.length))
  (by cases hp <;> kernel_rfl) (by cases hp <;> kernel_rfl) trivial (fun q hq=>by
   rcases yv.1 hq with rfl | hq
   ·exact y1a
   ·exact ym _ (ym _ (ym _ hq))) ?_))
 refine z8v (b:=((i:Int)==(l.length:Int))) rfl (fun h=>by rw[hne] at h; cases h) fun _=>zbo ?_
 exact ziz h fun q hq=>⟨q.2,ym _ hq,LeV.refl _⟩
theorem zp3 (hp:PP ff fo nf no tS tE sz bt) (he:∀ x,(e x).wd=sz) {l:List α} {x:α} (hi:i<l.length) (hl:(l.length+1) * (4 * bt)<=2 ^ 48) :
  AW none Tryz.prog ff.ntmps (.seq (.seq (R8 ff) (.cond (.tmp 31) (.seq (R9 ff) (B10 ff)) .skip)) (C13 ff))
   (fun e1 fr L=>FQ Tryz.prog ff (.ref 0 (l.length+1) 0 (l.length+1)) [eS sz e (insL l i x),eS sz e [x]] e1 fr L \/
    FQ Tryz.prog ff (.ref 2 (l.length+1) 0 (l.length+1)) [eS sz e l,eS sz e [x],eS sz e (insL l i x)] e1 fr L)
   (frI l.length i (.ref 0 l.length 0 l.length)) [eS sz e l,eS sz e [x]]:=by
 have hn:l.length<100000000000000:=by cases hp <;> omega
 have hw2:i64.wrap ((l.length:Int)+1)=(l.length:Int)+1:=by rw[z33] <;> omega
 intro zn df X ms w a hr hf hN hd
 refine y57 (y57 (zp1 hp om hr hf hN fun c ms1 w1 b tc r1 e1 c1 f1 n1 d1 m1 hle h0e h31=>?_))
 by_cases hcap:l.length+1<=tc
 ·refine wpIn_cond_false (h31.trans (by rw[hw2]; simp; omega)) (wpIn_skip ?_)
  obtain⟨q1,q3⟩:=r1.room (o:=0) (n':=l.length+1) rfl m1 om hcap
  refine y32 (tailC hp he hi hn zn df X ms1 w1 c q1 (fun q hq=>?_) n1 (d1.trans hd)) ?_
  ·simp only[frI,Fr.up,y2n,List.map_nil,yv,y2x,y4g] at hq
   have f1':=f1.mono q3
   rcases hq with rfl | rfl | rfl | rfl | rfl
   ·exact f1' _ (by simp[frI,Fr.up])
   ·exact f1' _ (by simp[frI,Fr.up])
   ·exact f1' _ (by simp[frI,Fr.up])
   ·exact f1' _ (by simp[frI,Fr.up])
   ·obtain⟨s1,s2,s3⟩:=f1 (0,[],.ref 0 l.length 0 l.length) (by simp[frI,Fr.up])
    refine⟨s1,fun _=>?_,s3⟩
    have h0e':c.tmps.getD 0 undef = .slice (some ⟨b,0,none⟩) l.length tc:=h0e
    rw[h0e']
    refine .one _ _ rfl (.ref _ _ _ _ _ ⟨by simp[cxOf],⟨_,_,rfl⟩,fun obj s ho hs=>?_,fun sz' f' hL'=>⟨om,.inr (.inr ⟨b,tc,m1,hcap,sj⟩)⟩⟩)
    obtain rfl:=y15 ho
    simp[Ob.stamp] at hs; omega
  ·rintro e2 d w2 ⟨ms2,fr2,L2,hq,r2,e3,c3,f3,n3,d3⟩
   exact⟨ms2,fr2,L2,.inl hq,r2,e1.trans e3,(c1.trans q3).trans c3,f3,n3,d3⟩
 ·have htc:tc=l.length:=om
  subst htc
  refine wpIn_cond_true (h31.trans (by rw[hw2]; simp; omega)) (y57 (zp2 hp hi hl r1 f1 n1 m1 fun d ms2 w2 r2 e2 c2 f2 n2 d2=>?_))
  refine y32 (tailB hp he hi hn zn df X ms2 w2 d r2 f2 n2 ((d2.trans d1).trans hd)) ?_
  rintro e3 f w3 ⟨ms3,fr3,L3,⟨rfl,hq⟩,r3,e3,c3,f3,n3,d3⟩
  exact⟨ms3,fr3,L3,.inr ⟨.inr rfl,hq⟩,r3,(e1.trans e2).trans e3,(c1.trans c2).trans c3,f3,n3,d3⟩
theorem zod (hp:PP ff fo nf no tS tE sz bt) (he:∀ x,(e x).wd=sz) {l:List α} {x:α} (hi:i<l.length) (hl:(l.length+1) * (4 * bt)<=2 ^ 48) :
  CallOk Tryz.prog nf [.ref 0 l.length 0 l.length,.d (.i .i64 (i:Int)),.ref 1 1 0 1] [eS sz e l,eS sz e [x]] (.ref 0 (l.length+1) 0 (l.length+1)) [eS sz e (insL l i x),eS sz e [x]]:=by
 intro X ms w us hr hu
 have hlen:=z27 (l:=l) (i:=i) (x:=x)
 refine (zl6 (L:=[eS sz e l,eS sz e [x]]) (v:=.ref 0 (l.length+1) 0 (l.length+1)) (v3:=.ref 2 (l.length+1) 0 (l.length+1)) hp.fF (zmb hp) (y38 (by cases hp <;> kernel_rfl)) sj rfl (lsOk (n:=2) (L:=[eS sz e (insL l i x),eS sz e [x]]) ⟨fun _ _=>rfl,fun _ _=>rfl,trivial⟩)
  sj rfl (lsOk (n:=3) (L:=[eS sz e l,eS sz e [x],eS sz e (insL l i x)]) ⟨fun _ _=>rfl,fun _ _=>rfl,fun _ _=>rfl,trivial⟩) (head hp (x:=x) he hi _ (zp3 hp he hi hl)) hr hu).mono fun e1 w1 h=>?_
 rcases h with h | ⟨u,ms1,rfl,h1,h2,h3,h4⟩
 ·exact h
 ·rw[<- hlen] at h4 |-
  obtain⟨ms2,k1,k2,k3,k4⟩:=third hr hlen h1 h2 h3 h4
  exact⟨u,ms2,rfl,k1,k2,k3,k4⟩
noncomputable def sE (sz bt:Nat) (l:List α) (x:α) (a:(0:Int)<=(l.length:Int)) (b:l.length<=l.length) (c:((l.length:Int)==(l.length:Int))=true)
  (hx:∀ k,k<1->(AV.d (e ([x].getD k dF))).wd=sz) (hs:(l.length+1) * (2 * bt)<=2 ^ 48)
  (ho:OLe (.seq sz (l.length+1) (catF l.length (fun j=>.d (e (l.getD j dF))) (fun j=>.d (e ([x].getD j dF))))) (eS sz e (insL l l.length x))):SC Unit Unit :=
 .reg 0 [] [] [] <|
 .reg 1 [] [] [.pf a,.pf b,.pf (y2p l.length)] <|
 .reg 2 [] [] [] <|
 .reg 3 [] [] [] <|
 .br false (.pf (p:=((1:Int)==0)=false) dk) <|
 .reg 5 [] [] [] <|
 .reg 6 [] [] [] <|
 .br true (.pf c) <|
 .reg 7 [] [(2,{ obs:=[(0,eS sz e (insL l l.length x))] })] [.pf (y2p 1),.pf (y2p l.length),.pf (y2p l.length),.pf hx,.pf hs,.pf ho] <|
 .ret [] ()
set_option maxRecDepth 100000 in
theorem zoe (hp:PP ff fo nf no tS tE sz bt) (he:∀ x,(e x).wd=sz) {l:List α} {x:α} (hl:(l.length+1) * (4 * bt)<=2 ^ 48) :
  CallOk Tryz.prog nf [.ref 0 l.length 0 l.length,.d (.i .i64 (l.length:Int)),.ref 1 1 0 1] [eS sz e l,eS sz e [x]] (.ref 0 (l.length+1) 0 (l.length+1)) [eS sz e (insL l l.length x),eS sz e [x]] :=
 fOk (ρ:=Unit) (V:=fun _=>.ref 0 (l.length+1) 0 (l.length+1)) (Lr:=fun _=>[eS sz e (insL l l.length x),eS sz e [x]]) (r:=())
  (s:=sE (e:=e) sz bt l x om (yc _) sj (fun k _=>he _) (by cases hp <;> omega) (by
   refine z40 z27.symm fun j hj=>?_
   rw[z9z (yc _)]
   by_cases h1:j<l.length
   ·rw[z1x h1,y7 h1]
   ·have h2:j=l.length:=om
    subst h2
    rw[z23 om,y6 om,y7 rfl,y5e]
    rfl)) hp.fF (zmb hp) (by cases hp <;> kernel_rfl) rfl
theorem ins_ok (hp:PP ff fo nf no tS tE sz bt) (he:∀ x,(e x).wd=sz) {l:List α} {x:α} (hi:i<=l.length) (hl:(l.length+1) * (4 * bt)<=2 ^ 48) :
  CallOk Tryz.prog nf [.ref 0 l.length 0 l.length,.d (.i .i64 (i:Int)),.ref 1 1 0 1] [eS sz e l,eS sz e [x]] (.ref 0 (insL l i x).length 0 (insL l i x).length) [eS sz e (insL l i x),eS sz e [x]]:=by
 rw[z27]
 rcases yu i l.length with h | h
 ·exact zod hp he h hl
 ·obtain rfl:i=l.length:=om
  exact zoe hp he hl
end
end InsG
end Go.Proofs.YtbmpcbbimefmoaaGreatDoor
/- The shapes of data. No condition. -/
namespace Go.Proofs.YtbmpcbbimefmoaaGreatDoor
open Go Go.TA
open Go.IntKind (i64)
abbrev Z0:DV:=DV.sl 0 fun _=>DV.b false
structure THe where
 B:Y8
 W:Y8
 deriving Inhabited
def THe.e (x:THe):DV:=.agg [(DV.str x.B),(DV.str x.W)]
abbrev THe.d (x:THe):AV:=AV.d (THe.e x)
abbrev THe.b (x:THe):Ob:=bx (THe.e x)
structure TLi where
 B:Y8
 C:Int
 D:Int
 deriving Inhabited
def TLi.e (x:TLi):DV:=.agg [(DV.str x.B),(DV.i .i64 x.C),(DV.i .i64 x.D)]
abbrev TLi.d (x:TLi):AV:=AV.d (TLi.e x)
abbrev TLi.b (x:TLi):Ob:=bx (TLi.e x)
structure TBo where
 B:Y8
 C:Int
 D:Int
 deriving Inhabited
def TBo.e (x:TBo):DV:=.agg [(DV.str x.B),(DV.i .i64 x.C),(DV.i .i64 x.D)]
abbrev TBo.d (x:TBo):AV:=AV.d (TBo.e x)
abbrev TBo.b (x:TBo):Ob:=bx (TBo.e x)
structure TEa where
 S:Y8
 B:Y8
 T:Int
 deriving Inhabited
def TEa.e (x:TEa):DV:=.agg [(DV.str x.S),(DV.str x.B),(DV.i .i64 x.T)]
abbrev TEa.d (x:TEa):AV:=AV.d (TEa.e x)
abbrev TEa.b (x:TEa):Ob:=bx (TEa.e x)
structure TCo where
 B:Y8
 C:Int
 D:Int
 R:Int
 G:Int
 S:Y8
 X:Int
 deriving Inhabited
def TCo.e (x:TCo):DV:=.agg [(DV.str x.B),(DV.i .i64 x.C),(DV.i .i64 x.D),(DV.i .i64 x.R),(DV.i .i64 x.G),(DV.str x.S),(DV.i .i64 x.X)]
abbrev TCo.d (x:TCo):AV:=AV.d (TCo.e x)
abbrev TCo.b (x:TCo):Ob:=bx (TCo.e x)
structure TRu where
 H:Int
 L:Y8
 V:Y8
 T:Int
 deriving Inhabited
def TRu.e (x:TRu):DV:=.agg [(DV.i .i64 x.H),(DV.str x.L),(DV.str x.V),(DV.i .i64 x.T)]
abbrev TRu.d (x:TRu):AV:=AV.d (TRu.e x)
abbrev TRu.b (x:TRu):Ob:=bx (TRu.e x)
structure TCh where
 R:Int
 B:Y8
 C:Int
 D:Int
 deriving Inhabited
def TCh.e (x:TCh):DV:=.agg [(DV.i .i64 x.R),(DV.str x.B),(DV.i .i64 x.C),(DV.i .i64 x.D)]
abbrev TCh.d (x:TCh):AV:=AV.d (TCh.e x)
abbrev TCh.b (x:TCh):Ob:=bx (TCh.e x)
structure TAm where
 G:Int
 H:Int
 Q:(List TCh)
 deriving Inhabited
def TAm.e (x:TAm):DV:=.agg [(DV.i .i64 x.G),(DV.i .i64 x.H),(eL TCh.e x.Q)]
abbrev TAm.d (x:TAm):AV:=AV.d (TAm.e x)
abbrev TAm.b (x:TAm):Ob:=bx (TAm.e x)
structure TLa where
 E:Int
 I:Int
 F:(List THe)
 P:(List TLi)
 J:(List TBo)
 O:(List TBo)
 K:(List TEa)
 M:(List TCo)
 N:(List TRu)
 A:(List TAm)
 deriving Inhabited
def TLa.e (x:TLa):DV:=.agg [(DV.i .i64 x.E),(DV.i .i64 x.I),(eL THe.e x.F),(eL TLi.e x.P),(eL TBo.e x.J),(eL TBo.e x.O),(eL TEa.e x.K),(eL TCo.e x.M),(eL TRu.e x.N),(eL TAm.e x.A)]
abbrev TLa.d (x:TLa):AV:=AV.d (TLa.e x)
abbrev TLa.b (x:TLa):Ob:=bx (TLa.e x)
structure TTr where
 H:Int
 G:Int
 C:Int
 U:Int
 L:Y8
 V:Y8
 D:Int
 deriving Inhabited
def TTr.e (x:TTr):DV:=.agg [(DV.i .i64 x.H),(DV.i .i64 x.G),(DV.i .i64 x.C),(DV.i .i64 x.U),(DV.str x.L),(DV.str x.V),(DV.i .i64 x.D)]
abbrev TTr.d (x:TTr):AV:=AV.d (TTr.e x)
abbrev TTr.b (x:TTr):Ob:=bx (TTr.e x)
structure TChe where
 law:TLa
 leaves:(List Y8)
 deriving Inhabited
def TChe.e (x:TChe):DV:=.agg [(TLa.e x.law),(eL DV.str x.leaves)]
abbrev TChe.d (x:TChe):AV:=AV.d (TChe.e x)
abbrev TChe.b (x:TChe):Ob:=bx (TChe.e x)
structure TPl where
 code:Y8
 year:Int
 deriving Inhabited
def TPl.e (x:TPl):DV:=.agg [(DV.str x.code),(DV.i .i64 x.year)]
abbrev TPl.d (x:TPl):AV:=AV.d (TPl.e x)
abbrev TPl.b (x:TPl):Ob:=bx (TPl.e x)
structure TTape where
 l:(List Int)
 at_:Int
 deriving Inhabited
def TTape.e (x:TTape):DV:=.agg [(eL (DV.i .i64) x.l),(DV.i .i64 x.at_)]
abbrev TTape.d (x:TTape):AV:=AV.d (TTape.e x)
abbrev TTape.b (x:TTape):Ob:=bx (TTape.e x)
theorem zet:∀ a b:Y8,eqD Tryz.prog 8 9 (DV.str a) (DV.str b)=some (a==b):=fun a b=>kj
end Go.Proofs.YtbmpcbbimefmoaaGreatDoor
/- What the functions compute,and that their calls return it. No condition. -/
namespace Go.Proofs.YtbmpcbbimefmoaaGreatDoor
open Go Go.TA
open Go.IntKind (i64)
noncomputable section
set_option maxRecDepth 100000
set_option maxHeartbeats 2000000
def S_q28_b1 (a:(List THe)) (i3:Nat) (_:Unit):SC Bool (Step Unit Bool) :=
.reg 5 [] [] [.w i3,.ev 0]<|
.ite (cO (decide ((((a.getD i3 dF).B).length:Int)>60)) (decide ((((a.getD i3 dF).W).length:Int)>100))) (
.r (.ret false)) (
.r (.cont ()))
def S_q28 (a:(List THe)):SC Bool Bool :=
.ite (decide ((a.length:Int)>80)) (
.r false) (
.range (a.length:Int) a.length rfl (.slot 8) 10 [8,9] (fun (_:Unit)=>[]) (fun _=>[]) () (S_q28_b1 a) (fun _ => 
.r true) id)
def F_q28 (a:(List THe)):=(S_q28 a).den
theorem F_q28_ok {a:(List THe)}:FO (F_q28 a) 29 [(AV.d (eL THe.e a))] [] vb NL:=fO (s:=S_q28 a) Tryz.func29
theorem cz1:OLe (bx (DV.agg [(DV.i .i64 0),(DV.i .i64 0),Z0])) (TAm.b (⟨0,0,[]⟩:TAm)):=z8y (DLe.agg (DLeL.cons (DLe.refl _) (DLeL.cons (DLe.refl _) (DLeL.cons DLe.sl0 DLeL.nil))))
def S_q2_b1 (b:TLa) (a:Nat) (_:Unit):SC Bool (Step Unit Bool) :=
.reg 5 [] [] [.w a,.ev 0]<|
.ite (decide ((((b.P.getD a dF).B).length:Int)>60)) (
.r (.ret false)) (
.r (.cont ()))
def S_q2_b2 (c:TLa) (b:Nat) (a:Nat) (_:Unit):SC Bool (Step Unit Bool) :=
.reg 14 [] [] [.w a,.ev 0]<|
.ite (decide (((((([c.J,c.O]:List (List TBo)).getD b dF).getD a dF).B).length:Int)>60)) (
.r (.ret false)) (
.r (.cont ()))
def S_q2_b3 (b:TLa) (a:Nat) (_:Unit):SC Bool (Step Unit Bool) :=
.reg 11 [] [] [.w a,.ev 0]<|
.range ((([b.J,b.O]:List (List TBo)).getD a dF).length:Int) ((([b.J,b.O]:List (List TBo)).getD a dF).length) rfl (.slot 87) 89 [1,81,82,83,87,88] (fun (_:Unit)=>[]) (fun _=>[]) () (S_q2_b2 b a) (fun _ => 
.r (.cont ())) .ret
def S_q2_b4 (c:TLa) (a:Nat) (_:Unit):SC Bool (Step Unit Bool) :=
.reg 21 [] [] [.w a,.ev 0]<|
 let b:=(c.K.getD a dF)
.ite (decide ((i64.wrap ((b.S.length:Int)+(b.B.length:Int)))>100)) (
.r (.ret false)) (
.r (.cont ()))
def S_q2_b5 (c:TLa) (a:Nat) (_:Unit):SC Bool (Step Unit Bool) :=
.reg 27 [] [] [.w a,.ev 0]<|
 let b:=(c.M.getD a dF)
.ite (decide ((i64.wrap ((b.S.length:Int)+(b.B.length:Int)))>100)) (
.r (.ret false)) (
.r (.cont ()))
def S_q2_b6 (c:TLa) (a:Nat) (_:Unit):SC Bool (Step Unit Bool) :=
.reg 33 [] [] [.w a,.ev 0]<|
 let b:=(c.N.getD a dF)
.ite (decide ((i64.wrap ((b.L.length:Int)+(b.V.length:Int)))>100)) (
.r (.ret false)) (
.r (.cont ()))
def S_q2_b7 (c:TLa) (b:Nat) (a:Nat) (_:Unit):SC Bool (Step Unit Bool) :=
.reg 44 [] [] [.w a,.ev 0]<|
.ite (decide ((((((c.A.getD b dF).Q).getD a dF).B).length:Int)>60)) (
.r (.ret false)) (
.r (.cont ()))
def S_q2_b8 (c:TLa) (a:Nat) (_:Unit):SC Bool (Step Unit Bool) :=
.reg 39 [] [(2,{ obs:=[(1,(TAm.b (⟨0,0,[]⟩:TAm)))] })] [.w a,.ev 0,.pf cz1]<|
.ite (decide ((((c.A.getD a dF).Q).length:Int)>30)) (
.r (.ret false)) (
.range (((c.A.getD a dF).Q).length:Int) (((c.A.getD a dF).Q).length) rfl (.slot 159) 161 [148,149,150,159,160] (fun (_:Unit)=>[]) (fun _=>[]) () (S_q2_b7 c a) (fun _ => 
.r (.cont ())) .ret)
def S_q2 (b:TLa):SC Bool Bool :=
.a 1 2 1 (@F_q28_ok b.F) fun f=>
.ite (cO (cO (cO (cO (cO (cO (cO (!f) (decide ((b.P.length:Int)>150))) (decide ((b.J.length:Int)>80))) (decide ((b.O.length:Int)>80))) (decide ((b.K.length:Int)>30))) (decide ((b.M.length:Int)>30))) (decide ((b.N.length:Int)>30))) (decide ((b.A.length:Int)>30))) (
.r false) (
.range (b.P.length:Int) b.P.length rfl (.slot 66) 68 [1,66,67] (fun (_:Unit)=>[]) (fun _=>[]) () (S_q2_b1 b) (fun _ => 
 let c:=([b.J,b.O]:List (List TBo))
.reg 9 [] [(4,hv (AV.d (eL (eL TBo.e) c)))] [.pf (z7 (eL TBo.e) c)]<|
.range 2 2 rfl (.why (.pf (p:=2<2 ^ 63) dk)) 83 [1,81,82] (fun (_:Unit)=>[]) (fun _=>[]) () (S_q2_b3 b) (fun _ => 
.range (b.K.length:Int) b.K.length rfl (.slot 100) 102 [1,100,101] (fun (_:Unit)=>[]) (fun _=>[]) () (S_q2_b4 b) (fun _ => 
.range (b.M.length:Int) b.M.length rfl (.slot 116) 118 [1,116,117] (fun (_:Unit)=>[]) (fun _=>[]) () (S_q2_b5 b) (fun _ => 
.range (b.N.length:Int) b.N.length rfl (.slot 132) 134 [1,132,133] (fun (_:Unit)=>[]) (fun _=>[]) () (S_q2_b6 b) (fun _ => 
.range (b.A.length:Int) b.A.length rfl (.slot 148) 150 [148,149] (fun (_:Unit)=>[]) (fun _=>[]) () (S_q2_b8 b) (fun _ => 
.r true) id) id) id) id) id) id)
def F_q2 (a:TLa):=(S_q2 a).den
theorem F_q2_ok {a:TLa}:FO (F_q2 a) 4 [(TLa.d a)] [] vb NL:=fO (s:=S_q2 a) Tryz.func4
def S_q29_b1 (b:(List TTr)) (a:Nat) (_:Unit):SC Bool (Step Unit Bool) :=
.reg 3 [] [] [.w a,.ev 0]<|
.ite (decide ((i64.wrap ((((b.getD a dF).L).length:Int)+(((b.getD a dF).V).length:Int)))>100)) (
.r (.ret false)) (
.r (.cont ()))
def S_q29 (a:(List TTr)):SC Bool Bool :=
.range (a.length:Int) a.length rfl (.slot 0) 7 [0,5,6] (fun (_:Unit)=>[]) (fun _=>[]) () (S_q29_b1 a) (fun _ => 
.r (decide ((a.length:Int)<=70))) id
def F_q29 (a:(List TTr)):=(S_q29 a).den
theorem F_q29_ok {a:(List TTr)}:FO (F_q29 a) 5 [(AV.d (eL TTr.e a))] [] vb NL:=fO (s:=S_q29 a) Tryz.func5
theorem cz2:OLe (bx (DV.agg [(DV.i .i64 0),(DV.i .i64 0),Z0,Z0,Z0,Z0,Z0,Z0,Z0,Z0])) (TLa.b (⟨0,0,[],[],[],[],[],[],[],[]⟩:TLa)):=z8y (DLe.agg (DLeL.cons (DLe.refl _) (DLeL.cons (DLe.refl _) (DLeL.cons DLe.sl0 (DLeL.cons DLe.sl0 (DLeL.cons DLe.sl0 (DLeL.cons DLe.sl0 (DLeL.cons DLe.sl0 (DLeL.cons DLe.sl0 (DLeL.cons DLe.sl0 (DLeL.cons DLe.sl0 DLeL.nil)))))))))))
theorem cz3:LeV (AV.d (DV.agg [(DV.i .i64 0),(DV.i .i64 1),(eL THe.e ([(⟨[49],[97]⟩:THe),(⟨[49,46,49],[98]⟩:THe),(⟨[50],[99]⟩:THe)]:List THe)),(eL TLi.e ([(⟨[49,46,49],0,500⟩:TLi),(⟨[50],0,100⟩:TLi)]:List TLi)),Z0,Z0,Z0,Z0,(eL TRu.e ([(⟨1,[49],[50],10⟩:TRu)]:List TRu)),Z0])) (TLa.d (⟨0,1,([(⟨[49],[97]⟩:THe),(⟨[49,46,49],[98]⟩:THe),(⟨[50],[99]⟩:THe)]:List THe),([(⟨[49,46,49],0,500⟩:TLi),(⟨[50],0,100⟩:TLi)]:List TLi),[],[],[],[],([(⟨1,[49],[50],10⟩:TRu)]:List TRu),[]⟩:TLa)):=z8z rfl (DLe.agg (DLeL.cons (DLe.refl _) (DLeL.cons (DLe.refl _) (DLeL.cons (DLe.refl _) (DLeL.cons (DLe.refl _) (DLeL.cons DLe.sl0 (DLeL.cons DLe.sl0 (DLeL.cons DLe.sl0 (DLeL.cons DLe.sl0 (DLeL.cons (DLe.refl _) (DLeL.cons DLe.sl0 DLeL.nil)))))))))))
def S_q4y:SC TLa TLa :=
.reg 0 [] [(0,{ obs:=[(0,(TLa.b (⟨0,0,[],[],[],[],[],[],[],[]⟩:TLa)))] })] [.pf cz2]<|
 let h:=(⟨[49,46,49],0,500⟩:TLi)
 let a:=([h,(⟨[50],0,100⟩:TLi)]:List TLi)
 let i:=(⟨[49,46,49],[98]⟩:THe)
 let c:=([(⟨[49],[97]⟩:THe),i,(⟨[50],[99]⟩:THe)]:List THe)
 let j:=(⟨1,[49],[50],10⟩:TRu)
 let f:=([j]:List TRu)
 let g:=(⟨0,1,c,a,[],[],[],[],f,[]⟩:TLa)
.reg 1 [] [(3,hv (AV.d (eL THe.e c))),(6,hv (AV.d (eL TLi.e a))),(8,hv (AV.d (eL TRu.e f))),(9,hv (TLa.d g))] [.pf (z7 THe.e c),.pf (z7 TLi.e a),.pf (z7 TRu.e f),.pf cz3]<|
.r g
def F_q4y:=S_q4y.den
theorem F_q4y_ok :FO F_q4y 30 [] [] (fun x=>(TLa.d x)) NL:=fO (s:=S_q4y) Tryz.func30
def S_q1b (a:Int) (b:Int) (c:Int):SC Bool Bool :=
.r (bif (decide (a>=b)) then (decide (a<=c)) else false)
def F_q1b (a:Int) (b:Int) (c:Int):=(S_q1b a b c).den
theorem F_q1b_ok {a:Int} {b:Int} {c:Int}:FO (F_q1b a b c) 133 [(vi a),(vi b),(vi c)] [] vb NL:=fO (s:=S_q1b a b c) Tryz.func133
def S_q3a (c:Y8):SC Bool Bool :=
.a 1 1 0 (@F_q5g_ok c) fun b=>
.r (decide ((b.length:Int)>0))
def F_q3a (a:Y8):=(S_q3a a).den
theorem F_q3a_ok {a:Y8}:FO (F_q3a a) 68 [(AV.d (DV.str a))] [] vb NL:=fO (s:=S_q3a a) Tryz.func68
def S_q1l_b1 (b:Y8) (c:Int) (a:Int):SC Int (Step Int Int) :=
.ite (decide (a>=0)) (
.guard [(0:Int)<=a,a.toNat<b.length]<|
.reg 4 [] [] [.ev 0,.ev 1]<|
.ite (((b.getD a.toNat 0).toNat:Int)==c) (
.r (.ret a)) (
.r (.cont (i64.wrap (a-1))))) (
.r (.brk a))
def S_q1l (b:Y8) (c:Int):SC Int Int :=
.iter [0,1] (fun (a:Int)=>[(5,(vi a))]) (fun _=>[]) (i64.wrap ((b.length:Int)-1)) (S_q1l_b1 b c) (fun _ =>
.r (-1)) id
def F_q1l (a:Y8) (b:Int):=(S_q1l a b).den
theorem F_q1l_ok {a:Y8} {b:Int}:FO (F_q1l a b) 154 [(AV.d (DV.str a)),(AV.d (DV.i .u8 b))] [] vi NL:=fO (s:=S_q1l a b) Tryz.func154
def S_q3w (c:Y8) (d:Int):SC Int Int :=
.a 1 2 0 (@F_q1l_ok c d) fun b=>
.r b
def F_q3w (a:Y8) (b:Int):=(S_q3w a b).den
theorem F_q3w_ok {a:Y8} {b:Int}:FO (F_q3w a b) 117 [(AV.d (DV.str a)),(AV.d (DV.i .u8 b))] [] vi NL:=fO (s:=S_q3w a b) Tryz.func117
def S_q3i (e:Y8):SC Y8 Y8 :=
.a 1 1 0 (@F_q3a_ok e) fun f=>
.ite (!f) (
.r ([])) (
.call (@F_q3w_ok e 46) fun c d=>
 let b:=(if 0>c then 0 else c)
.guard [(0:Int)<=b,b.toNat<=e.length]<|
.reg 3 [] [(2,hc d [] true)] [.cl 2 d [] 0 true,.ev 0,.ev 1]<|
.r (e.take b.toNat))
def F_q3i (a:Y8):=(S_q3i a).den
theorem F_q3i_ok {a:Y8}:FO (F_q3i a) 69 [(AV.d (DV.str a))] [] (fun x=>(AV.d (DV.str x))) NL:=fO (s:=S_q3i a) Tryz.func69
abbrev R_q1m:=Y8
def S_q1m_b1 (d:Int) (a:Y8):SC R_q1m (Step Y8 R_q1m) :=
 let b:=(i64.wrap ((a.length:Int)-1))
 let c:=(decide ((a.length:Int)>0))
.guard [AllP [c=true]->((0:Int)<=b),AllP [c=true]->(b.toNat<a.length)]<|
.reg 1 [] [] [.ev 0,.ev 1]<|
.ite (bif c then (((a.getD b.toNat 0).toNat:Int)==d) else false) (
.guard [(0:Int)<=b,b.toNat<=a.length]<|
.reg 2 [] [] [.ev 0,.ev 1]<|
.r (.cont (a.take b.toNat))) (
.r (.brk a))
def S_q1m (b:Y8) (c:Int):SC R_q1m R_q1m :=
.iter [1] (fun (a:Y8)=>[(0,(AV.d (DV.str a)))]) (fun _=>[]) b (S_q1m_b1 c) (fun a =>
.r a) id
def F_q1m (a:Y8) (b:Int):=(S_q1m a b).den
theorem F_q1m_ok {a:Y8} {b:Int}:FO (F_q1m a b) 231 [(AV.d (DV.str a)),(AV.d (DV.i .u8 b))] [] (fun x=>(AV.d (DV.str x))) NL:=fO (s:=S_q1m a b) Tryz.func231
abbrev R_q1n:=Y8
def S_q1n_b1 (c:Int) (a:Y8):SC R_q1n (Step Y8 R_q1n) :=
 let b:=(decide ((a.length:Int)>0))
.guard [AllP [b=true]->(0<a.length)]<|
.reg 1 [] [] [.pf (p:=AllP [b=true]->((0:Int)<=0)) (fun _=>dk),.ev 0]<|
.ite (bif b then (((a.getD 0 0).toNat:Int)==c) else false) (
.guard [1<=a.length]<|
.reg 2 [] [] [.pf (p:=(0:Int)<=1) dk,.ev 0]<|
.r (.cont ((a.drop 1).take (a.length-1)))) (
.r (.brk a))
def S_q1n (b:Y8) (c:Int):SC R_q1n R_q1n :=
.iter [1] (fun (a:Y8)=>[(0,(AV.d (DV.str a)))]) (fun _=>[]) b (S_q1n_b1 c) (fun a =>
.r a) id
def F_q1n (a:Y8) (b:Int):=(S_q1n a b).den
theorem F_q1n_ok {a:Y8} {b:Int}:FO (F_q1n a b) 230 [(AV.d (DV.str a)),(AV.d (DV.i .u8 b))] [] (fun x=>(AV.d (DV.str x))) NL:=fO (s:=S_q1n a b) Tryz.func230
def S_q3x (f:Y8) (c:Y8):SC Y8 Y8 :=
.ite (cO (f==([])) (c==([]))) (
.r f) (
 let a:=((c.length:Int)==1)
.guard [AllP [a=true]->(0<c.length)]<|
.reg 3 [] [] [.pf (p:=AllP [a=true]->((0:Int)<=0)) (fun _=>dk),.ev 0]<|
 let b:=((c.getD 0 0).toNat:Int)
.guard [(bif a then (decide (b<128)) else false)=true]<|
.br true (.ev 0)<|
.call (@F_q1m_ok f b) fun g d=>
.call (@F_q1n_ok g b) fun h e=>
.guard [0<c.length]<|
.reg 4 [] [(3,hc d [] true),(6,hc e [] true)] [.pf (p:=(0:Int)<=0) dk,.ev 0,.cl 2 d [] 0 true,.pf (p:=(0:Int)<=0) dk,.ev 0,.cl 1 e [] 0 true]<|
.r h)
def F_q3x (a:Y8) (b:Y8):=(S_q3x a b).den
theorem F_q3x_ok {a:Y8} {b:Y8}:FO (F_q3x a b) 221 [(AV.d (DV.str a)),(AV.d (DV.str b))] [] (fun x=>(AV.d (DV.str x))) NL:=fO (s:=S_q3x a b) Tryz.func221
def S_q14_b1 (b:Y8) (a:Nat):SC Bool (Step Nat Bool) :=
 let c:=(a<b.length)
.split (decide c) (
.reg 2 [] [(0,{ h:=.call (AV.tup [(vb true),(vi (a:Int)),(AV.d (DV.i .i32 (runeAt b a)))]) [(Ob.ex (.stringIter ⟨List.toArray b⟩ (a+widAt b a)))] })] [.der (fun (h:decide c=true)=>ziw (P:=Tryz.prog) (L:=[(Ob.ex (.stringIter ⟨List.toArray b⟩ a))]) (o:=0) (l:=b) (p:=a) rfl (y2m h)) 0]<|
.br true (.pf (p:=true=true) rfl)<|
.ite (cO (decide ((runeAt b a)<32)) (decide ((runeAt b a)>126))) (
.r (.ret false)) (
.r (.cont (a+widAt b a)))) (
.reg 2 [] [(0,{ h:=.call (AV.tup [(vb false)]) [(Ob.ex (.stringIter ⟨List.toArray b⟩ a))] })] [.der (fun (h:decide c=false)=>zix (P:=Tryz.prog) (L:=[(Ob.ex (.stringIter ⟨List.toArray b⟩ a))]) (o:=0) (l:=b) (p:=a) rfl (y3v h)) 0]<|
.br false (.pf (p:=false=false) rfl)<|
.r (.brk a))
def S_q14 (b:Y8):SC Bool Bool :=
.iter [0,6] (fun (_:Nat)=>[]) (fun d=>[(0,(Ob.ex (.stringIter ⟨List.toArray b⟩ d)))]) 0 (S_q14_b1 b) (fun _ =>
 let a:=(bif (decide ((b.length:Int)>=1)) then (decide ((b.length:Int)<=40)) else false)
.calld [a=true] dF (@F_q3x_ok b ([32])) fun e c =>
.reg 6 [] [(10,hc c [] true)] [.clg 0 [a=true] c [] 1 true]<|
.r (bif a then (e==b) else false)) id
def F_q14 (a:Y8):=(S_q14 a).den
theorem F_q14_ok {a:Y8}:FO (F_q14 a) 208 [(AV.d (DV.str a))] [] vb NL:=fO (s:=S_q14 a) Tryz.func208
def S_q3y (a:Y8):SC Bool Bool :=
.r (!(a==a))
def F_q3y (a:Y8):=(S_q3y a).den
theorem F_q3y_ok {a:Y8}:FO (F_q3y a) 186 [(AV.d (DV.str a))] [] vb NL:=fO (s:=S_q3y a) Tryz.func186
def S_q4z (c:Y8) (d:Y8):SC Int Int :=
.a 1 1 0 (@F_q3y_ok c) fun e=>
.a 2 1 0 (@F_q3y_ok d) fun b=>
.ite e (
.ite b (
.r 0) (
.r (-1))) (
.ite b (
.r 1) (
.ite (Op.bytesLess c d) (
.r (-1)) (
.ite (!(Op.bytesLess c d||c==d)) (
.r 1) (
.r 0))))
def F_q4z (a:Y8) (b:Y8):=(S_q4z a b).den
theorem F_q4z_ok {a:Y8} {b:Y8}:FO (F_q4z a b) 161 [(AV.d (DV.str a)),(AV.d (DV.str b))] [] vi NL:=fO (s:=S_q4z a b) Tryz.func161
def S_q3z (a:Int):SC Bool Bool :=
.r (a != a)
def F_q3z (a:Int):=(S_q3z a).den
theorem F_q3z_ok {a:Int}:FO (F_q3z a) 123 [(vi a)] [] vb NL:=fO (s:=S_q3z a) Tryz.func123
def S_qs (c:Int) (d:Int):SC Int Int :=
.a 1 1 0 (@F_q3z_ok c) fun e=>
.a 2 1 0 (@F_q3z_ok d) fun b=>
.ite e (
.ite b (
.r 0) (
.r (-1))) (
.ite b (
.r 1) (
.ite (decide (c<d)) (
.r (-1)) (
.ite (decide (c>d)) (
.r 1) (
.r 0))))
def F_qs (a:Int) (b:Int):=(S_qs a b).den
theorem F_qs_ok {a:Int} {b:Int}:FO (F_qs a b) 75 [(vi a),(vi b)] [] vi NL:=fO (s:=S_qs a b) Tryz.func75
def S_q1o_b1 (e:(List Int)) (d:(List Int)) (b:Nat) (_:Unit):SC Int (Step Unit Int) :=
.reg 3 [] [] [.w b,.ev 0]<|
.ite (decide ((b:Int)>=(d.length:Int))) (
.r (.ret 1)) (
.guard [b<d.length]<|
.reg 6 [] [] [.w b,.ev 0]<|
.a 7 2 0 (@F_qs_ok (e.getD b dF) (d.getD b dF)) fun c=>
.ite (c != 0) (
.r (.ret c)) (
.r (.cont ())))
def S_q1o (a:(List Int)) (b:(List Int)):SC Int Int :=
.range (a.length:Int) a.length rfl (.slot 0) 11 [0,1,9,10] (fun (_:Unit)=>[]) (fun _=>[]) () (S_q1o_b1 a b) (fun _ => 
.ite (decide ((a.length:Int)<(b.length:Int))) (
.r (-1)) (
.r 0)) id
def F_q1o (a:(List Int)) (b:(List Int)):=(S_q1o a b).den
theorem F_q1o_ok {a:(List Int)} {b:(List Int)}:FO (F_q1o a b) 162 [(vl a),(vl b)] [] vi NL:=fO (s:=S_q1o a b) Tryz.func162
def S_q1c (h:Y8) (i:Y8):SC Int Int :=
.call (@F_q5g_ok h) fun b c=>
.call (@F_q5g_ok i) fun d e=>
.reg 1 [] [(1,hc c [] true),(3,hc e [] true)] [.cl 1 c [] 0 true,.cl 0 e [] 0 true]<|
.ite (bif ((b.length:Int)==0) then ((d.length:Int)==0) else false) (
.a 3 2 0 (@F_q4z_ok h i) fun f=>
.r f) (
.a 4 2 0 (@F_q1o_ok b d) fun g=>
.r g)
def F_q1c (a:Y8) (b:Y8):=(S_q1c a b).den
theorem F_q1c_ok {a:Y8} {b:Y8}:FO (F_q1c a b) 137 [(AV.d (DV.str a)),(AV.d (DV.str b))] [] vi NL:=fO (s:=S_q1c a b) Tryz.func137
def S_q50 (a:THe) (b:Y8):SC Bool Bool :=
.r (a.B==b)
def F_q50 (a:THe) (b:Y8):=(S_q50 a b).den
theorem F_q50_ok {b:THe} {a:Y8}:FO (F_q50 b a) 188 [(THe.d b),(vp 0)] [(bx (DV.str a))] vb (fun _=>[(bx (DV.str a))]):=fO (s:=S_q50 b a) Tryz.func188
def S_q2v_b1 (d:(List THe)) (e:Y8) (a:Nat) (_:Unit):SC Int (Step Unit Int) :=
.call (@F_q50_ok (d.getD a dF) e) fun c b=>
.reg 4 [] [(5,hc b [0] true)] [.w a,.ev 1,.cl 0 b [0] 1 true]<|
.ite c (
.r (.ret (a:Int))) (
.r (.cont ()))
def S_q2v (a:(List THe)) (b:Y8):SC Int Int :=
.range (a.length:Int) a.length rfl (.slot 0) 8 [0,1,7] (fun (_:Unit)=>[]) (fun _=>[]) () (S_q2v_b1 a b) (fun _ => 
.r (-1)) id
def F_q2v (a:(List THe)) (b:Y8):=(S_q2v a b).den
theorem F_q2v_ok {b:(List THe)} {a:Y8}:FO (F_q2v b a) 209 [(AV.d (eL THe.e b)),(AV.fn 188 [(vp 0)])] [(bx (DV.str a))] vi (fun _=>[(bx (DV.str a))]):=fO (s:=S_q2v b a) Tryz.func209
def S_q51 (c:(List THe)) (d:Y8):SC Bool Bool :=
.call (@F_q2v_ok c d) fun a b=>
.k 1 2 b [0] 1 true<|
.r (decide (a>=0))
def F_q51 (a:(List THe)) (b:Y8):=(S_q51 a b).den
theorem F_q51_ok {b:(List THe)} {a:Y8}:FO (F_q51 b a) 187 [(AV.d (eL THe.e b)),(AV.fn 188 [(vp 0)])] [(bx (DV.str a))] vb (fun _=>[(bx (DV.str a))]):=fO (s:=S_q51 b a) Tryz.func187
def S_q3j (c:(List THe)) (d:Y8):SC Bool Bool :=
.call (@F_q51_ok c d) fun a b=>
.k 1 2 b [0] 1 true<|
.r a
def F_q3j (a:(List THe)) (b:Y8):=(S_q3j a b).den
theorem F_q3j_ok {a:(List THe)} {b:Y8}:FO (F_q3j a b) 163 [(AV.d (eL THe.e a)),(AV.d (DV.str b))] [] vb NL:=fO (s:=S_q3j a b) Tryz.func163
def S_q40 (f:(List THe)) (c:Int):SC Int Int :=
 let b:=(f.getD c.toNat dF)
.call (@F_q3i_ok b.B) fun g h=>
.guard [(0:Int)<=c,c.toNat<f.length]<|
.reg 1 [] [(5,hc h [] true)] [.ev 0,.ev 1,.cl 2 h [] 0 true]<|
.call (@F_q3a_ok b.B) fun m i=>
.reg 2 [] [(5,hc i [] true)] [.ev 1,.ev 2,.cl 0 i [] 0 true]<|
.ite (!m) (
.r 5) (
.call (@F_q14_ok b.W) fun n j=>
.reg 4 [] [(5,hc j [] true)] [.ev 3,.ev 4,.cl 0 j [] 0 true]<|
.ite (!n) (
.r 4) (
 let a:=(decide (c>0))
 let d:=(i64.wrap (c-1))
.calld [a=true] dF (@F_q1c_ok ((f.getD d.toNat dF).B) b.B) fun o k =>
.guard [AllP [a=true]->((0:Int)<=d),AllP [a=true]->(d.toNat<f.length),AllP [a=true]->((0:Int)<=c),AllP [a=true]->(c.toNat<f.length)]<|
.reg 6 [] [(14,hc k [] true)] [.ev 0,.ev 1,.ev 2,.ev 3,.clg 4 [a=true] k [] 0 true]<|
.ite (bif a then (decide (o>=0)) else false) (
.r 8) (
 let e:=(!(g==([])))
.calld [e=true] dF (@F_q3j_ok f g) fun p l =>
.reg 8 [] [(5,hc l [] true)] [.clg 0 [e=true] l [] 0 true]<|
.ite (bif e then (!p) else false) (
.r 6) (
.r 0))))
def F_q40 (a:(List THe)) (b:Int):=(S_q40 a b).den
theorem F_q40_ok {a:(List THe)} {b:Int}:FO (F_q40 a b) 185 [(AV.d (eL THe.e a)),(vi b)] [] vi NL:=fO (s:=S_q40 a b) Tryz.func185
def S_q2w_b1 (d:(List THe)) (b:Nat) (_:Unit):SC (Int×Int) (Step Unit (Int×Int)) :=
.a 6 2 0 (@F_q40_ok d (b:Int)) fun c=>
.ite (c != 0) (
.r (.ret ((i64.wrap ((b:Int)+1)),c))) (
.r (.cont ()))
def S_q2w (a:(List THe)):SC (Int×Int) (Int×Int) :=
.ite (decide ((a.length:Int)>60)) (
.r (0,3)) (
.range (a.length:Int) a.length rfl (.slot 0) 11 [0,10] (fun (_:Unit)=>[]) (fun _=>[]) () (S_q2w_b1 a) (fun _ => 
.r (0,0)) id)
def F_q2w (a:(List THe)):=(S_q2w a).den
theorem F_q2w_ok {a:(List THe)}:FO (F_q2w a) 160 [(AV.d (eL THe.e a))] [] (fun x=>(AV.tup [(vi x.1),(vi x.2)])) NL:=fO (s:=S_q2w a) Tryz.func160
def S_q41 (c:(List THe)):SC Int Int :=
.a 1 1 0 (@F_q2w_ok c) fun b=>
.r b.2
def F_q41 (a:(List THe)):=(S_q41 a).den
theorem F_q41_ok {a:(List THe)}:FO (F_q41 a) 134 [(AV.d (eL THe.e a))] [] vi NL:=fO (s:=S_q41 a) Tryz.func134
def S_q52 (a:TAm):SC Bool Bool :=
.r (decide ((a.Q.length:Int)>20))
def F_q52 (a:TAm):=(S_q52 a).den
theorem F_q52_ok {a:TAm}:FO (F_q52 a) 135 [(TAm.d a)] [] vb NL:=fO (s:=S_q52 a) Tryz.func135
def S_q2x_b1 (d:(List TAm)) (a:Nat) (_:Unit):SC Int (Step Unit Int) :=
.call (@F_q52_ok (d.getD a dF)) fun c b=>
.reg 4 [] [(5,hc b [] true)] [.w a,.ev 1,.cl 0 b [] 0 true]<|
.ite c (
.r (.ret (a:Int))) (
.r (.cont ()))
def S_q2x (a:(List TAm)):SC Int Int :=
.range (a.length:Int) a.length rfl (.slot 0) 8 [0,1,7] (fun (_:Unit)=>[]) (fun _=>[]) () (S_q2x_b1 a) (fun _ => 
.r (-1)) id
def F_q2x (a:(List TAm)):=(S_q2x a).den
theorem F_q2x_ok {a:(List TAm)}:FO (F_q2x a) 113 [(AV.d (eL TAm.e a)),(AV.fn 135 [])] [] vi NL:=fO (s:=S_q2x a) Tryz.func113
def S_q42 (c:(List TAm)):SC Bool Bool :=
.a 1 2 0 (@F_q2x_ok c) fun b=>
.r (decide (b>=0))
def F_q42 (a:(List TAm)):=(S_q42 a).den
theorem F_q42_ok {a:(List TAm)}:FO (F_q42 a) 136 [(AV.d (eL TAm.e a)),(AV.fn 135 [])] [] vb NL:=fO (s:=S_q42 a) Tryz.func136
def S_q43 (c:TChe):SC Int Int :=
.reg 1 [] [(2,{ obs:=[(1,(TLa.b (⟨0,0,[],[],[],[],[],[],[],[]⟩:TLa)))] })] [.pf cz2]<|
.call (@F_q1b_ok c.law.E 0 99) fun d f=>
.calld [(!d)=false] dF (@F_q1b_ok c.law.I 1 4) fun j g =>
.reg 2 [] [(2,hc f [] true),(7,hc g [] true)] [.cl 2 f [] 2 true,.clg 0 [(!d)=false] g [] 2 true]<|
.ite (cO (cO (!d) (!j)) (decide ((i64.wrap (c.law.E+c.law.I))>100))) (
.r 2) (
.a 4 2 2 (@F_q41_ok c.law.F) fun h=>
.ite (h != 0) (
.r h) (
 let e:=(cO (cO (cO (cO (cO (cO (decide ((c.law.P.length:Int)>120)) (decide ((c.law.J.length:Int)>60))) (decide ((c.law.O.length:Int)>60))) (decide ((c.law.K.length:Int)>20))) (decide ((c.law.M.length:Int)>20))) (decide ((c.law.N.length:Int)>20))) (decide ((c.law.A.length:Int)>20)))
.calld [e=false] dF (@F_q42_ok c.law.A) fun k i =>
.reg 8 [] [(44,hc i [] true)] [.clg 0 [e=false] i [] 2 true]<|
.ite (cO e k) (
.r 3) (
.r 0)))
def F_q43 (a:TChe):=(S_q43 a).den
theorem F_q43_ok {a:TChe}:FO (F_q43 a) 83 [(TChe.d a)] [] vi NL:=fO (s:=S_q43 a) Tryz.func83
def S_q11_b1 (c:(List Int)) (b:(List Int)) (a:Nat) (_:Unit):SC Bool (Step Unit Bool) :=
.guard [a<b.length]<|
.reg 6 [] [] [.w a,.ev 1,.w a,.ev 0]<|
.ite ((c.getD a dF) != (b.getD a dF)) (
.r (.ret false)) (
.r (.cont ()))
def S_q11 (a:(List Int)) (b:(List Int)):SC Bool Bool :=
.ite ((a.length:Int) != (b.length:Int)) (
.r false) (
.range (a.length:Int) a.length rfl (.slot 0) 13 [0,1,12] (fun (_:Unit)=>[]) (fun _=>[]) () (S_q11_b1 a b) (fun _ => 
.r true) id)
def F_q11 (a:(List Int)) (b:(List Int)):=(S_q11 a b).den
theorem F_q11_ok {a:(List Int)} {b:(List Int)}:FO (F_q11 a b) 118 [(vl a),(vl b)] [] vb NL:=fO (s:=S_q11 a b) Tryz.func118
def S_q15 (k:Y8) (l:Y8):SC Bool Bool :=
.call (@F_q5g_ok k) fun b e=>
.call (@F_q5g_ok l) fun c f=>
.reg 1 [] [(1,hc e [] true),(3,hc f [] true)] [.cl 1 e [] 0 true,.cl 0 f [] 0 true]<|
 let d:=(c.length:Int)
 let a:=(bif (decide (d>0)) then (decide ((b.length:Int)>=d)) else false)
.calld [a=true] dF (@F_q11_ok (b.take c.length) c) fun j g =>
 let h:=(c.length<=b.length)
.guard [AllP [a=true]->h]<|
.reg 2 [] [(14,hv (vl (b.take c.length))),(16,hc g [] true)] [.pf (p:=AllP [a=true]->((0:Int)<=d)) (fun _=>(y4r _)),.ev 0,.der (fun (h0:AllP [a=true]->h) (hg:AllP [a=true])=>lvT (DV.i .i64) b (h0 hg)) 0,.clg 1 [a=true] g [] 0 true]<|
.r (bif a then j else false)
def F_q15 (a:Y8) (b:Y8):=(S_q15 a b).den
theorem F_q15_ok {a:Y8} {b:Y8}:FO (F_q15 a b) 70 [(AV.d (DV.str a)),(AV.d (DV.str b))] [] vb NL:=fO (s:=S_q15 a b) Tryz.func70
end
end Go.Proofs.YtbmpcbbimefmoaaGreatDoor
/- What the functions compute,and that their calls return it. No condition. -/
namespace Go.Proofs.YtbmpcbbimefmoaaGreatDoor
open Go Go.TA
open Go.IntKind (i64)
noncomputable section
set_option maxRecDepth 100000
abbrev R_q7:=(List Y8)
def S_q7_b1 (m:(List THe)) (i:Nat) (e:(List (Y8×Bool))):SC R_q7 (Step ((List (Y8×Bool))) R_q7) :=
.reg 4 [] [] [.w i,.ev 0]<|
 let a:=(m.getD i dF)
.call (@F_q3a_ok a.B) fun f j=>
 let g:=(THe.b a)
.reg 5 [6] [(5,hc j [] true),(6,{ h:=.call .bot [(eM DV.str DV.b (mupd e a.B f)),g] })] [.cl 0 j [] 2 true,.pf (p:=UpdOk Tryz.prog [(eM DV.str DV.b e),g] 126 (AV.map 0) (AV.d (DV.str a.B)) (vb f) [(eM DV.str DV.b (mupd e a.B f)),g]) (znu (kt:=9) (et:=4) (eK:=DV.str) (eV:=DV.b) (l:=e) (k:=a.B) (v:=f) kj rfl zet rfl)]<|
.c (mupd e a.B f)
def S_q7_b2 (j:(List THe)) (f:Nat) (a:(List (Y8×Bool))):SC R_q7 (Step ((List (Y8×Bool))) R_q7) :=
.reg 9 [] [] [.w f,.ev 0]<|
.call (@F_q3i_ok ((j.getD f dF).B)) fun e i=>
 let g:=(THe.b (j.getD f dF))
.reg 10 [] [(3,hc i [] true),(4,{ h:=.call (AV.tup []) [(eMd DV.str DV.b (mdel a e)),g] })] [.cl 0 i [] 2 true,.pf (p:=DelOk Tryz.prog [(eMd DV.str DV.b a),g] 126 (AV.map 0) (AV.d (DV.str e)) (AV.tup []) [(eMd DV.str DV.b (mdel a e)),g]) (znz (kt:=9) (et:=4) (eK:=DV.str) (eV:=DV.b) (l:=a) (x:=(eMd DV.str DV.b a)) (k:=e) kj rfl rfl zet)]<|
.c (mdel a e)
def S_q7_b3 (t:(List THe)) (q:Y8) (i:(List (Y8×Bool))) (j:Nat) (a:(List Y8)):SC R_q7 (Step ((List Y8)) R_q7) :=
.reg 15 [] [] [.w j,.ev 0]<|
 let f:=(t.getD j dF)
.calld [(q==([]))=false,(mget i f.B false)=true] dF (@F_q15_ok f.B q) fun s m =>
 let n:=(vb (mget i f.B false))
.reg 16 [] [(3,{ h:=.callr n }),(11,hc m [] true)] [.pf (p:=LookOk Tryz.prog [(eMd DV.str DV.b i),(eS 1 DV.str a),(THe.b f)] 126 (AV.map 0) (AV.d (DV.str f.B)) false n) (zkr (kt:=9) (et:=4) (eK:=DV.str) (eV:=DV.b) (l:=i) (k:=f.B) (z:=false) kj rfl zet kj),.clg 0 [(q==([]))=false,(mget i f.B false)=true] m [] 3 true]<|
.ite (bif (mget i f.B false) then (cO (q==([])) s) else false) (
.guard [(a.length+1) * (2 * 16)<=2 ^ 48]<|
 let g:=([f.B]:List Y8)
.reg 17 [] [(3,hv (AV.d (eL DV.str g))),(4,{ h:=.obj,cast:=some (AV.ref 1 ((a++g).length) 0 ((a++g).length)),obs:=[(1,(eS 1 DV.str (a++g)))] })] [.pf (z7 DV.str g),.e a.length,.e a.length,.pf (p:=∀ k,k<1->(AV.d (DV.str (g.getD k dF))).wd=1) (fun _ _=>rfl),.ev 0,.pf (zk (o:=1) (l:=a) (x:=g)),.pf (zj (sz:=1) (e:=DV.str) (l:=a) (x:=g))]<|
.r (.cont (a++g))) (
.c a)
def S_q7 (c:(List THe)) (i:Y8):SC R_q7 R_q7 :=
.range (c.length:Int) c.length rfl (.slot 0) 16 [0,1,5,14,15] (fun (_:(List (Y8×Bool)))=>[]) (fun f=>[(0,(eM DV.str DV.b f))]) ([]:(List (Y8×Bool))) (S_q7_b1 c) (fun f => 
.reg 7 [] [] []<|
 let h:=[(0,(AV.d (eL THe.e c))),(1,(AV.d (DV.str i))),(5,(AV.map 0)),(27,(AV.d (eL THe.e c))),(28,(vi (c.length:Int))),(29,(vi 0))]
.sh (H:=NoH) (A:=True) (.pf trivial) h h [(eM DV.str DV.b f)] [(eMd DV.str DV.b f)] (fun _=>zha (P:=[]) (D:=[])) (z4k _)<|
.range (c.length:Int) c.length rfl (.slot 0) 29 [0,1,5,27,28] (fun (_:(List (Y8×Bool)))=>[]) (fun g=>[(0,(eMd DV.str DV.b g))]) f (S_q7_b2 c) (fun g => 
.reg 13 [] [] []<|
.bor 1 (fun j=>AV.d (DV.str (([]:List Y8).getD j dF))) [10]<|
.range (c.length:Int) c.length rfl (.slot 38) 40 [1,5,38,39] (fun (a:(List Y8))=>[(10,(AV.ref 1 a.length 0 a.length))]) (fun a=>[(1,(eS 1 DV.str a))]) ([]:List Y8) (S_q7_b3 c i g) (fun a => 
.guard [a.length<2 ^ 63]<|
.reg 19 [] [] []<|
.frz 1 (.ev 0) none [4] []<|
.r a) id) id) id
def F_q7 (a:(List THe)) (b:Y8):=(S_q7 a b).den
theorem F_q7_ok {a:(List THe)} {b:Y8}:FO (F_q7 a b) 41 [(AV.d (eL THe.e a)),(AV.d (DV.str b))] [] (fun x=>(AV.d (eL DV.str x))) NL:=fO (s:=S_q7 a b) Tryz.func41
def S_q2y_b1 (b:(List Y8)) (c:Y8) (a:Nat) (_:Unit):SC Int (Step Unit Int) :=
.reg 4 [] [] [.w a,.ev 0]<|
.ite (c==(b.getD a dF)) (
.r (.ret (a:Int))) (
.r (.cont ()))
def S_q2y (a:(List Y8)) (b:Y8):SC Int Int :=
.range (a.length:Int) a.length rfl (.slot 0) 8 [0,1,7] (fun (_:Unit)=>[]) (fun _=>[]) () (S_q2y_b1 a b) (fun _ => 
.r (-1)) id
def F_q2y (a:(List Y8)) (b:Y8):=(S_q2y a b).den
theorem F_q2y_ok {a:(List Y8)} {b:Y8}:FO (F_q2y a b) 180 [(AV.d (eL DV.str a)),(AV.d (DV.str b))] [] vi NL:=fO (s:=S_q2y a b) Tryz.func180
def S_q3k (c:(List Y8)) (d:Y8):SC Bool Bool :=
.a 1 2 0 (@F_q2y_ok c d) fun b=>
.r (decide (b>=0))
def F_q3k (a:(List Y8)) (b:Y8):=(S_q3k a b).den
theorem F_q3k_ok {a:(List Y8)} {b:Y8}:FO (F_q3k a b) 157 [(AV.d (eL DV.str a)),(AV.d (DV.str b))] [] vb NL:=fO (s:=S_q3k a b) Tryz.func157
def S_q34 (c:TChe) (d:Y8):SC Bool Bool :=
.a 1 3 1 (@F_q3k_ok c.leaves d) fun b=>
.r b
def F_q34 (a:TChe) (b:Y8):=(S_q34 a b).den
theorem F_q34_ok {a:TChe} {b:Y8}:FO (F_q34 a b) 138 [(TChe.d a),(AV.d (DV.str b))] [] vb NL:=fO (s:=S_q34 a b) Tryz.func138
def S_q2z (a:TLa) (b:Int):SC Bool Bool :=
.r (bif (decide (b>=a.E)) then (decide ((IntKind.u64.wrap ((IntKind.u64.wrap b)-(IntKind.u64.wrap a.E)))<(IntKind.u64.wrap (if 0>a.I then 0 else a.I)))) else false)
def F_q2z (a:TLa) (b:Int):=(S_q2z a b).den
theorem F_q2z_ok {a:TLa} {b:Int}:FO (F_q2z a b) 127 [(TLa.d a),(vi b)] [] vb NL:=fO (s:=S_q2z a b) Tryz.func127
def S_q1p (a:Int):SC Bool Bool :=
.r (bif (decide (a>=0)) then (decide (a<=1000000000000)) else false)
def F_q1p (a:Int):=(S_q1p a).den
theorem F_q1p_ok {a:Int}:FO (F_q1p a) 125 [(vi a)] [] vb NL:=fO (s:=S_q1p a) Tryz.func125
def S_q44 (f:TChe) (b:TLi):SC Int Int :=
.a 1 3 2 (@F_q34_ok f b.B) fun c=>
.ite (!c) (
.r 5) (
.a 3 4 2 (@F_q2z_ok f.law b.C) fun d=>
.ite (!d) (
.r 16) (
.a 5 2 2 (@F_q1p_ok b.D) fun e=>
.ite (!e) (
.r 2) (
.r 0)))
def F_q44 (a:TChe) (b:TLi):=(S_q44 a b).den
theorem F_q44_ok {a:TChe} {b:TLi}:FO (F_q44 a b) 88 [(TChe.d a),(TLi.d b)] [] vi NL:=fO (s:=S_q44 a b) Tryz.func88
def S_qo_b1 (b:(List Int)) (a:Nat) (_:Unit):SC Int (Step Unit Int) :=
.reg 4 [] [] [.w a,.ev 0]<|
.ite ((b.getD a dF) != 0) (
.r (.ret (b.getD a dF))) (
.r (.cont ()))
def S_qo (a:(List Int)):SC Int Int :=
.range (a.length:Int) a.length rfl (.slot 6) 8 [3,6,7] (fun (_:Unit)=>[]) (fun _=>[]) () (S_qo_b1 a) (fun _ => 
.r 0) id
def F_qo (a:(List Int)):=(S_qo a).den
theorem F_qo_ok {a:(List Int)}:FO (F_qo a) 74 [(vl a)] [] vi NL:=fO (s:=S_qo a) Tryz.func74
def S_q45 (h:TLi) (j:TLi):SC Int Int :=
.call (@F_q1c_ok h.B j.B) fun e b=>
.call (@F_qs_ok h.C j.C) fun f c=>
 let a:=([e,f]:List Int)
.call (@F_qo_ok a) fun g d=>
.reg 1 [] [(4,hc b [] true),(9,hc c [] true),(10,hv (vl a)),(11,hc d [] true)] [.cl 2 b [] 2 true,.cl 1 c [] 2 true,.pf (z7 (DV.i .i64) a),.cl 0 d [] 2 true]<|
.r g
def F_q45 (a:TLi) (b:TLi):=(S_q45 a b).den
theorem F_q45_ok {a:TLi} {b:TLi}:FO (F_q45 a b) 87 [(TLi.d a),(TLi.d b)] [] vi NL:=fO (s:=S_q45 a b) Tryz.func87
def S_q1q_b1 (g:(List TLi)) (a2_0:TChe) (b:Nat) (_:Unit):SC Int (Step Unit Int) :=
.reg 3 [] [] [.w b,.ev 0]<|
.a 4 2 1 (@F_q44_ok a2_0 (g.getD b dF)) fun e=>
.ite (e != 0) (
.r (.ret e)) (
 let c:=(decide ((b:Int)>0))
 let d:=(i64.wrap ((b:Int)-1))
.calld [c=true] dF (@F_q45_ok (g.getD d.toNat dF) (g.getD b dF)) fun h f =>
.guard [AllP [c=true]->((0:Int)<=d),AllP [c=true]->(d.toNat<g.length)]<|
.reg 7 [] [(10,hc f [] true)] [.ev 0,.ev 1,.clg 2 [c=true] f [] 1 true]<|
.ite (bif c then (decide (h>=0)) else false) (
.r (.ret 8)) (
.r (.cont ())))
def S_q1q (a:(List TLi)) (a2_0:TChe):SC Int Int :=
.range (a.length:Int) a.length rfl (.slot 0) 12 [0,1,2,10,11] (fun (_:Unit)=>[]) (fun _=>[]) () (S_q1q_b1 a a2_0) (fun _ => 
.r 0) id
def F_q1q (a:(List TLi)) (a2_0:TChe):=(S_q1q a a2_0).den
theorem F_q1q_ok {a:(List TLi)} {a2_0:TChe}:FO (F_q1q a a2_0) 86 [(AV.d (eL TLi.e a)),(AV.fn 87 []),(AV.bfn 88 [(TChe.d a2_0)])] [] vi NL:=fO (s:=S_q1q a a2_0) Tryz.func86
def S_q2a (c:TLa) (d:Y8):SC Bool Bool :=
.a 1 3 1 (@F_q3j_ok c.F d) fun b=>
.r b
def F_q2a (a:TLa) (b:Y8):=(S_q2a a b).den
theorem F_q2a_ok {a:TLa} {b:Y8}:FO (F_q2a a b) 139 [(TLa.d a),(AV.d (DV.str b))] [] vb NL:=fO (s:=S_q2a a b) Tryz.func139
def S_q46 (h:TChe) (d:TBo):SC Int Int :=
.a 1 4 2 (@F_q2a_ok h.law d.B) fun e=>
.ite (!e) (
.r 5) (
 let b:=(d.C != (-1))
.calld [b=true] dF (@F_q2z_ok h.law d.C) fun f c =>
.reg 3 [] [(8,hc c [] true)] [.clg 0 [b=true] c [] 2 true]<|
.ite (bif b then (!f) else false) (
.r 16) (
.a 5 2 2 (@F_q1p_ok d.D) fun g=>
.ite (!g) (
.r 2) (
.r 0)))
def F_q46 (a:TChe) (b:TBo):=(S_q46 a b).den
theorem F_q46_ok {a:TChe} {b:TBo}:FO (F_q46 a b) 91 [(TChe.d a),(TBo.d b)] [] vi NL:=fO (s:=S_q46 a b) Tryz.func91
def S_q47 (h:TBo) (j:TBo):SC Int Int :=
.call (@F_q1c_ok h.B j.B) fun e b=>
.call (@F_qs_ok h.C j.C) fun f c=>
 let a:=([e,f]:List Int)
.call (@F_qo_ok a) fun g d=>
.reg 1 [] [(4,hc b [] true),(9,hc c [] true),(10,hv (vl a)),(11,hc d [] true)] [.cl 2 b [] 2 true,.cl 1 c [] 2 true,.pf (z7 (DV.i .i64) a),.cl 0 d [] 2 true]<|
.r g
def F_q47 (a:TBo) (b:TBo):=(S_q47 a b).den
theorem F_q47_ok {a:TBo} {b:TBo}:FO (F_q47 a b) 90 [(TBo.d a),(TBo.d b)] [] vi NL:=fO (s:=S_q47 a b) Tryz.func90
def S_q1d_b1 (g:(List TBo)) (a2_0:TChe) (b:Nat) (_:Unit):SC Int (Step Unit Int) :=
.reg 3 [] [] [.w b,.ev 0]<|
.a 4 2 1 (@F_q46_ok a2_0 (g.getD b dF)) fun e=>
.ite (e != 0) (
.r (.ret e)) (
 let c:=(decide ((b:Int)>0))
 let d:=(i64.wrap ((b:Int)-1))
.calld [c=true] dF (@F_q47_ok (g.getD d.toNat dF) (g.getD b dF)) fun h f =>
.guard [AllP [c=true]->((0:Int)<=d),AllP [c=true]->(d.toNat<g.length)]<|
.reg 7 [] [(10,hc f [] true)] [.ev 0,.ev 1,.clg 2 [c=true] f [] 1 true]<|
.ite (bif c then (decide (h>=0)) else false) (
.r (.ret 8)) (
.r (.cont ())))
def S_q1d (a:(List TBo)) (a2_0:TChe):SC Int Int :=
.range (a.length:Int) a.length rfl (.slot 0) 12 [0,1,2,10,11] (fun (_:Unit)=>[]) (fun _=>[]) () (S_q1d_b1 a a2_0) (fun _ => 
.r 0) id
def F_q1d (a:(List TBo)) (a2_0:TChe):=(S_q1d a a2_0).den
theorem F_q1d_ok {a:(List TBo)} {a2_0:TChe}:FO (F_q1d a a2_0) 89 [(AV.d (eL TBo.e a)),(AV.fn 90 []),(AV.bfn 91 [(TChe.d a2_0)])] [] vi NL:=fO (s:=S_q1d a a2_0) Tryz.func89
def S_q48 (h:TChe) (e:TEa):SC Int Int :=
.call (@F_q2a_ok h.law e.S) fun b c=>
.calld [(!b)=false] dF (@F_q34_ok h e.B) fun f d =>
.reg 1 [] [(4,hc c [] true),(10,hc d [] true)] [.cl 2 c [] 2 true,.clg 0 [(!b)=false] d [] 2 true]<|
.ite (cO (!b) (!f)) (
.r 5) (
.a 3 2 2 (@F_q1b_ok e.T 0 100) fun g=>
.ite (!g) (
.r 2) (
.r 0))
def F_q48 (a:TChe) (b:TEa):=(S_q48 a b).den
theorem F_q48_ok {a:TChe} {b:TEa}:FO (F_q48 a b) 94 [(TChe.d a),(TEa.d b)] [] vi NL:=fO (s:=S_q48 a b) Tryz.func94
def S_q49 (h:TEa) (j:TEa):SC Int Int :=
.call (@F_q1c_ok h.S j.S) fun e b=>
.call (@F_q1c_ok h.B j.B) fun f c=>
 let a:=([e,f]:List Int)
.call (@F_qo_ok a) fun g d=>
.reg 1 [] [(4,hc b [] true),(9,hc c [] true),(10,hv (vl a)),(11,hc d [] true)] [.cl 2 b [] 2 true,.cl 1 c [] 2 true,.pf (z7 (DV.i .i64) a),.cl 0 d [] 2 true]<|
.r g
def F_q49 (a:TEa) (b:TEa):=(S_q49 a b).den
theorem F_q49_ok {a:TEa} {b:TEa}:FO (F_q49 a b) 93 [(TEa.d a),(TEa.d b)] [] vi NL:=fO (s:=S_q49 a b) Tryz.func93
def S_q1r_b1 (g:(List TEa)) (a2_0:TChe) (b:Nat) (_:Unit):SC Int (Step Unit Int) :=
.reg 3 [] [] [.w b,.ev 0]<|
.a 4 2 1 (@F_q48_ok a2_0 (g.getD b dF)) fun e=>
.ite (e != 0) (
.r (.ret e)) (
 let c:=(decide ((b:Int)>0))
 let d:=(i64.wrap ((b:Int)-1))
.calld [c=true] dF (@F_q49_ok (g.getD d.toNat dF) (g.getD b dF)) fun h f =>
.guard [AllP [c=true]->((0:Int)<=d),AllP [c=true]->(d.toNat<g.length)]<|
.reg 7 [] [(10,hc f [] true)] [.ev 0,.ev 1,.clg 2 [c=true] f [] 1 true]<|
.ite (bif c then (decide (h>=0)) else false) (
.r (.ret 8)) (
.r (.cont ())))
def S_q1r (a:(List TEa)) (a2_0:TChe):SC Int Int :=
.range (a.length:Int) a.length rfl (.slot 0) 12 [0,1,2,10,11] (fun (_:Unit)=>[]) (fun _=>[]) () (S_q1r_b1 a a2_0) (fun _ => 
.r 0) id
def F_q1r (a:(List TEa)) (a2_0:TChe):=(S_q1r a a2_0).den
theorem F_q1r_ok {a:(List TEa)} {a2_0:TChe}:FO (F_q1r a a2_0) 92 [(AV.d (eL TEa.e a)),(AV.fn 93 []),(AV.bfn 94 [(TChe.d a2_0)])] [] vi NL:=fO (s:=S_q1r a a2_0) Tryz.func92
def S_qt_b1 (h:TChe) (f:Nat) (b:Nat) (d:Int):SC Int (Step Int Int) :=
.reg 7 [] [] [.w b,.ev 0]<|
 let e:=(h.law.K.getD b dF)
.a 8 3 2 (@F_q15_ok (h.leaves.getD f dF) e.S) fun g=>
.ite g (
.r (.cont (i64.wrap (d+e.T)))) (
.c d)
def S_qt_b2 (c:TChe) (b:Nat) (_:Unit):SC Int (Step Unit Int) :=
.reg 3 [] [] [.w b,.ev 0]<|
.range (c.law.K.length:Int) c.law.K.length rfl (.slot 17) 19 [1,4,9,10,11,17,18] (fun (a:Int)=>[(5,(vi a))]) (fun _=>[]) 0 (S_qt_b1 c b) (fun a => 
.ite (decide (a>100)) (
.r (.ret 13)) (
.r (.cont ()))) .ret
def S_qt (a:TChe):SC Int Int :=
.range (a.leaves.length:Int) a.leaves.length rfl (.slot 9) 11 [1,9,10] (fun (_:Unit)=>[]) (fun _=>[]) () (S_qt_b2 a) (fun _ => 
.r 0) id
def F_qt (a:TChe):=(S_qt a).den
theorem F_qt_ok {a:TChe}:FO (F_qt a) 95 [(TChe.d a)] [] vi NL:=fO (s:=S_qt a) Tryz.func95
def S_q3l (c:Int):SC Bool Bool :=
.a 1 1 0 (@F_q1b_ok c 0 35990) fun b=>
.r b
def F_q3l (a:Int):=(S_q3l a).den
theorem F_q3l_ok {a:Int}:FO (F_q3l a) 140 [(vi a)] [] vb NL:=fO (s:=S_q3l a) Tryz.func140
def S_q4a (n:TChe) (b:TCo):SC Int Int :=
.a 2 2 2 (@F_q1b_ok b.R 1 2) fun g=>
.cut none [2,3,5] (fun (c:Bool)=>[(9,(vb c))]) (fun _=>[]) (
.ite (!g) (
.r (.next (!g))) (
 let h:=(bif (b.R==2) then (b.G != 0) else false)
.ite h (
.r (.next h)) (
.r (.next (bif (!(b.R==2)) then (cO (!(b.S==([]))) (b.X != 0)) else false))))) fun c=>
.ite c (
.r 1) (
.call (@F_q34_ok n b.B) fun d i=>
.calld [(b.R==2)=true,(!d)=false] dF (@F_q2a_ok n.law b.S) fun o j =>
.reg 6 [] [(3,hc i [] true),(12,hc j [] true)] [.cl 2 i [] 2 true,.clg 0 [(b.R==2)=true,(!d)=false] j [] 2 true]<|
.ite (cO (!d) (bif (b.R==2) then (!o) else false)) (
.r 5) (
.a 8 4 2 (@F_q2z_ok n.law b.C) fun p=>
.ite (!p) (
.r 16) (
.call (@F_q1p_ok b.D) fun e k=>
.calld [(!e)=false] dF (@F_q1p_ok b.X) fun q l =>
 let f:=(cO (!e) (!q))
.calld [f=false] dF (@F_q3l_ok b.G) fun s m =>
.reg 10 [] [(2,hc k [] true),(7,hc l [] true),(13,hc m [] true)] [.cl 4 k [] 2 true,.clg 2 [(!e)=false] l [] 2 true,.clg 0 [f=false] m [] 2 true]<|
.ite (cO f (!s)) (
.r 2) (
.r 0))))
def F_q4a (a:TChe) (b:TCo):=(S_q4a a b).den
theorem F_q4a_ok {a:TChe} {b:TCo}:FO (F_q4a a b) 97 [(TChe.d a),(TCo.d b)] [] vi NL:=fO (s:=S_q4a a b) Tryz.func97
def S_q53 (_:TCo) (_:TCo):SC Int Int :=
.r (-1)
def F_q53 (a:TCo) (b:TCo):=(S_q53 a b).den
theorem F_q53_ok {a:TCo} {b:TCo}:FO (F_q53 a b) 84 [(TCo.d a),(TCo.d b)] [] vi NL:=fO (s:=S_q53 a b) Tryz.func84
def S_q2b_b1 (g:(List TCo)) (a2_0:TChe) (b:Nat) (_:Unit):SC Int (Step Unit Int) :=
.reg 3 [] [] [.w b,.ev 0]<|
.a 4 2 1 (@F_q4a_ok a2_0 (g.getD b dF)) fun e=>
.ite (e != 0) (
.r (.ret e)) (
 let c:=(decide ((b:Int)>0))
 let d:=(i64.wrap ((b:Int)-1))
.calld [c=true] dF (@F_q53_ok (g.getD d.toNat dF) (g.getD b dF)) fun h f =>
.guard [AllP [c=true]->((0:Int)<=d),AllP [c=true]->(d.toNat<g.length)]<|
.reg 7 [] [(10,hc f [] true)] [.ev 0,.ev 1,.clg 2 [c=true] f [] 1 true]<|
.ite (bif c then (decide (h>=0)) else false) (
.r (.ret 8)) (
.r (.cont ())))
def S_q2b (a:(List TCo)) (a2_0:TChe):SC Int Int :=
.range (a.length:Int) a.length rfl (.slot 0) 12 [0,1,2,10,11] (fun (_:Unit)=>[]) (fun _=>[]) () (S_q2b_b1 a a2_0) (fun _ => 
.r 0) id
def F_q2b (a:(List TCo)) (a2_0:TChe):=(S_q2b a a2_0).den
theorem F_q2b_ok {a:(List TCo)} {a2_0:TChe}:FO (F_q2b a a2_0) 96 [(AV.d (eL TCo.e a)),(AV.fn 84 []),(AV.bfn 97 [(TChe.d a2_0)])] [] vi NL:=fO (s:=S_q2b a a2_0) Tryz.func96
def S_q3m (c:Int):SC Bool Bool :=
.a 1 1 0 (@F_q1b_ok c 1 1000000) fun b=>
.r b
def F_q3m (a:Int):=(S_q3m a).den
theorem F_q3m_ok {a:Int}:FO (F_q3m a) 141 [(vi a)] [] vb NL:=fO (s:=S_q3m a) Tryz.func141
def S_q4b (j:TChe) (g:TRu):SC Int Int :=
.call (@F_q3m_ok g.H) fun a c=>
.calld [(!a)=false] dF (@F_q1b_ok g.T 0 100) fun h d =>
.reg 1 [] [(2,hc c [] true),(7,hc d [] true)] [.cl 2 c [] 2 true,.clg 0 [(!a)=false] d [] 2 true]<|
.ite (cO (!a) (!h)) (
.r 2) (
.call (@F_q2a_ok j.law g.L) fun b e=>
.calld [(!b)=false] dF (@F_q2a_ok j.law g.V) fun i f =>
.reg 3 [] [(4,hc e [] true),(11,hc f [] true)] [.cl 2 e [] 2 true,.clg 0 [(!b)=false] f [] 2 true]<|
.ite (cO (!b) (!i)) (
.r 5) (
.r 0))
def F_q4b (a:TChe) (b:TRu):=(S_q4b a b).den
theorem F_q4b_ok {a:TChe} {b:TRu}:FO (F_q4b a b) 100 [(TChe.d a),(TRu.d b)] [] vi NL:=fO (s:=S_q4b a b) Tryz.func100
def S_q4c (c:TRu) (d:TRu):SC Int Int :=
.a 1 4 2 (@F_qs_ok c.H d.H) fun b=>
.r b
def F_q4c (a:TRu) (b:TRu):=(S_q4c a b).den
theorem F_q4c_ok {a:TRu} {b:TRu}:FO (F_q4c a b) 99 [(TRu.d a),(TRu.d b)] [] vi NL:=fO (s:=S_q4c a b) Tryz.func99
def S_q1s_b1 (g:(List TRu)) (a2_0:TChe) (b:Nat) (_:Unit):SC Int (Step Unit Int) :=
.reg 3 [] [] [.w b,.ev 0]<|
.a 4 2 1 (@F_q4b_ok a2_0 (g.getD b dF)) fun e=>
.ite (e != 0) (
.r (.ret e)) (
 let c:=(decide ((b:Int)>0))
 let d:=(i64.wrap ((b:Int)-1))
.calld [c=true] dF (@F_q4c_ok (g.getD d.toNat dF) (g.getD b dF)) fun h f =>
.guard [AllP [c=true]->((0:Int)<=d),AllP [c=true]->(d.toNat<g.length)]<|
.reg 7 [] [(10,hc f [] true)] [.ev 0,.ev 1,.clg 2 [c=true] f [] 1 true]<|
.ite (bif c then (decide (h>=0)) else false) (
.r (.ret 8)) (
.r (.cont ())))
def S_q1s (a:(List TRu)) (a2_0:TChe):SC Int Int :=
.range (a.length:Int) a.length rfl (.slot 0) 12 [0,1,2,10,11] (fun (_:Unit)=>[]) (fun _=>[]) () (S_q1s_b1 a a2_0) (fun _ => 
.r 0) id
def F_q1s (a:(List TRu)) (a2_0:TChe):=(S_q1s a a2_0).den
theorem F_q1s_ok {a:(List TRu)} {a2_0:TChe}:FO (F_q1s a a2_0) 98 [(AV.d (eL TRu.e a)),(AV.fn 99 []),(AV.bfn 100 [(TChe.d a2_0)])] [] vi NL:=fO (s:=S_q1s a a2_0) Tryz.func98
def S_q4d (h:TAm) (j:TAm):SC Int Int :=
.call (@F_qs_ok h.G j.G) fun e b=>
.call (@F_qs_ok h.H j.H) fun f c=>
 let a:=([e,f]:List Int)
.call (@F_qo_ok a) fun g d=>
.reg 1 [] [(4,hc b [] true),(9,hc c [] true),(10,hv (vl a)),(11,hc d [] true)] [.cl 2 b [] 2 true,.cl 1 c [] 2 true,.pf (z7 (DV.i .i64) a),.cl 0 d [] 2 true]<|
.r g
def F_q4d (a:TAm) (b:TAm):=(S_q4d a b).den
theorem F_q4d_ok {a:TAm} {b:TAm}:FO (F_q4d a b) 142 [(TAm.d a),(TAm.d b)] [] vi NL:=fO (s:=S_q4d a b) Tryz.func142
def S_q4e (f:TChe) (b:TCh):SC Int Int :=
.a 2 2 2 (@F_q1b_ok b.R 1 3) fun g=>
.ite (!g) (
.r 1) (
.call (@F_q2a_ok f.law b.B) fun c d=>
.calld [(b.R==1)=true,(!c)=false] dF (@F_q34_ok f b.B) fun h e =>
.reg 4 [] [(4,hc d [] true),(12,hc e [] true)] [.cl 2 d [] 2 true,.clg 0 [(b.R==1)=true,(!c)=false] e [] 2 true]<|
.ite (cO (!c) (bif (b.R==1) then (!h) else false)) (
.r 5) (
.a 6 4 2 (@F_q2z_ok f.law b.C) fun i=>
.ite (bif (!i) then (cO (b.R==1) (b.C != (-1))) else false) (
.r 16) (
.a 8 2 2 (@F_q1p_ok b.D) fun j=>
.ite (bif (!j) then (cO (b.R != 2) (b.D != (-1))) else false) (
.r 2) (
.r 0))))
def F_q4e (a:TChe) (b:TCh):=(S_q4e a b).den
theorem F_q4e_ok {a:TChe} {b:TCh}:FO (F_q4e a b) 145 [(TChe.d a),(TCh.d b)] [] vi NL:=fO (s:=S_q4e a b) Tryz.func145
def S_q4f (f:TCh) (g:TCh):SC Int Int :=
.call (@F_qs_ok f.R g.R) fun h b=>
.call (@F_q1c_ok f.B g.B) fun j c=>
.call (@F_qs_ok f.C g.C) fun k d=>
 let a:=([h,j,k]:List Int)
.call (@F_qo_ok a) fun l e=>
.reg 1 [] [(4,hc b [] true),(9,hc c [] true),(14,hc d [] true),(15,hv (vl a)),(16,hc e [] true)] [.cl 3 b [] 2 true,.cl 2 c [] 2 true,.cl 1 d [] 2 true,.pf (z7 (DV.i .i64) a),.cl 0 e [] 2 true]<|
.r l
def F_q4f (a:TCh) (b:TCh):=(S_q4f a b).den
theorem F_q4f_ok {a:TCh} {b:TCh}:FO (F_q4f a b) 144 [(TCh.d a),(TCh.d b)] [] vi NL:=fO (s:=S_q4f a b) Tryz.func144
def S_q1t_b1 (g:(List TCh)) (a2_0:TChe) (b:Nat) (_:Unit):SC Int (Step Unit Int) :=
.reg 3 [] [] [.w b,.ev 0]<|
.a 4 2 1 (@F_q4e_ok a2_0 (g.getD b dF)) fun e=>
.ite (e != 0) (
.r (.ret e)) (
 let c:=(decide ((b:Int)>0))
 let d:=(i64.wrap ((b:Int)-1))
.calld [c=true] dF (@F_q4f_ok (g.getD d.toNat dF) (g.getD b dF)) fun h f =>
.guard [AllP [c=true]->((0:Int)<=d),AllP [c=true]->(d.toNat<g.length)]<|
.reg 7 [] [(10,hc f [] true)] [.ev 0,.ev 1,.clg 2 [c=true] f [] 1 true]<|
.ite (bif c then (decide (h>=0)) else false) (
.r (.ret 8)) (
.r (.cont ())))
def S_q1t (a:(List TCh)) (a2_0:TChe):SC Int Int :=
.range (a.length:Int) a.length rfl (.slot 0) 12 [0,1,2,10,11] (fun (_:Unit)=>[]) (fun _=>[]) () (S_q1t_b1 a a2_0) (fun _ => 
.r 0) id
def F_q1t (a:(List TCh)) (a2_0:TChe):=(S_q1t a a2_0).den
theorem F_q1t_ok {a:(List TCh)} {a2_0:TChe}:FO (F_q1t a a2_0) 143 [(AV.d (eL TCh.e a)),(AV.fn 144 []),(AV.bfn 145 [(TChe.d a2_0)])] [] vi NL:=fO (s:=S_q1t a a2_0) Tryz.func143
def S_q2c_b1 (l:TChe) (e:Nat) (_:Unit):SC Int (Step Unit Int) :=
.reg 3 [] [(3,{ obs:=[(1,(TAm.b (⟨0,0,[]⟩:TAm)))] })] [.w e,.ev 0,.pf cz1]<|
 let c:=(l.law.A.getD e dF)
.call (@F_q3l_ok c.G) fun f h=>
.calld [(!f)=false] dF (@F_q3m_ok c.H) fun m i =>
.reg 4 [] [(2,hc h [] true),(7,hc i [] true)] [.cl 2 h [] 2 true,.clg 0 [(!f)=false] i [] 2 true]<|
.ite (cO (!f) (!m)) (
.r (.ret 2)) (
 let d:=(decide ((e:Int)>0))
 let g:=(i64.wrap ((e:Int)-1))
.calld [d=true] dF (@F_q4d_ok (l.law.A.getD g.toNat dF) c) fun n j =>
.guard [AllP [d=true]->((0:Int)<=g),AllP [d=true]->(g.toNat<l.law.A.length)]<|
.reg 6 [] [(11,hc j [] true)] [.ev 0,.ev 1,.clg 2 [d=true] j [] 2 true]<|
.ite (bif d then (decide (n>=0)) else false) (
.r (.ret 8)) (
.ite ((c.Q.length:Int)==0) (
.r (.ret 1)) (
.a 10 4 2 (@F_q1t_ok c.Q l) fun k=>
.ite (k != 0) (
.r (.ret k)) (
.r (.cont ())))))
def S_q2c (a:TChe):SC Int Int :=
.range (a.law.A.length:Int) a.law.A.length rfl (.slot 8) 10 [1,8,9] (fun (_:Unit)=>[]) (fun _=>[]) () (S_q2c_b1 a) (fun _ => 
.r 0) id
def F_q2c (a:TChe):=(S_q2c a).den
theorem F_q2c_ok {a:TChe}:FO (F_q2c a) 101 [(TChe.d a)] [] vi NL:=fO (s:=S_q2c a) Tryz.func101
def S_q2d_b1 (b:(List Int)) (a:Nat) (_:Unit):SC Int (Step Unit Int) :=
.reg 4 [] [] [.w a,.ev 0]<|
.ite ((b.getD a dF) != 0) (
.r (.ret (b.getD a dF))) (
.r (.cont ()))
def S_q2d (a:(List Int)):SC Int Int :=
.range (a.length:Int) a.length rfl (.slot 6) 8 [3,6,7] (fun (_:Unit)=>[]) (fun _=>[]) () (S_q2d_b1 a) (fun _ => 
.r 0) id
def F_q2d (a:(List Int)):=(S_q2d a).den
theorem F_q2d_ok {a:(List Int)}:FO (F_q2d a) 85 [(vl a)] [] vi NL:=fO (s:=S_q2d a) Tryz.func85
end
end Go.Proofs.YtbmpcbbimefmoaaGreatDoor
/- What the functions compute,and that their calls return it. No condition. -/
namespace Go.Proofs.YtbmpcbbimefmoaaGreatDoor
open Go Go.TA
open Go.IntKind (i64)
noncomputable section
set_option maxRecDepth 100000
theorem cz4:OLe (bx (DV.agg [(DV.agg [(DV.i .i64 0),(DV.i .i64 0),Z0,Z0,Z0,Z0,Z0,Z0,Z0,Z0]),Z0])) (TChe.b (⟨(⟨0,0,[],[],[],[],[],[],[],[]⟩:TLa),[]⟩:TChe)):=z8y (DLe.agg (DLeL.cons (DLe.agg (DLeL.cons (DLe.refl _) (DLeL.cons (DLe.refl _) (DLeL.cons DLe.sl0 (DLeL.cons DLe.sl0 (DLeL.cons DLe.sl0 (DLeL.cons DLe.sl0 (DLeL.cons DLe.sl0 (DLeL.cons DLe.sl0 (DLeL.cons DLe.sl0 (DLeL.cons DLe.sl0 DLeL.nil))))))))))) (DLeL.cons DLe.sl0 DLeL.nil)))
def S_q35 (f:TLa):SC Int Int :=
 let g:=(⟨f,[]⟩:TChe)
.reg 1 [] [(1,hv (TChe.d g)),(2,{ obs:=[(1,(TChe.b (⟨(⟨0,0,[],[],[],[],[],[],[],[]⟩:TLa),[]⟩:TChe)))] })] [.pf (p:=LeV (AV.d (DV.agg [(TLa.e f),Z0])) (TChe.d g)) (z8z rfl (DLe.agg (DLeL.cons (DLe.refl _) (DLeL.cons DLe.sl0 DLeL.nil)))),.pf cz4]<|
.a 2 1 2 (@F_q43_ok g) fun l=>
.ite (l != 0) (
.r l) (
.a 5 2 2 (@F_q7_ok f.F ([])) fun x=>
 let c:=(⟨g.law,x⟩:TChe)
.call (@F_q1q_ok f.P c) fun y m=>
.call (@F_q1d_ok f.J c) fun z n=>
.call (@F_q1d_ok f.O c) fun A o=>
.call (@F_q1r_ok f.K c) fun B q=>
.call (@F_qt_ok c) fun C s=>
.call (@F_q2b_ok f.M c) fun D t=>
.call (@F_q1s_ok f.N c) fun E u=>
.call (@F_q2c_ok c) fun v h=>
 let k:=([y,z,A,B,C,D,E,v]:List Int)
.call (@F_q2d_ok k) fun w j=>
.reg 7 [] [(4,hc m [] true),(9,hc n [] true),(14,hc o [] true),(19,hc q [] true),(21,hc s [] true),(27,hc t [] true),(32,hc u [] true),(34,hc h [] true),(35,hv (vl k)),(36,hc j [] true)] [.cl 8 m [] 2 true,.cl 7 n [] 2 true,.cl 6 o [] 2 true,.cl 5 q [] 2 true,.cl 4 s [] 2 true,.cl 3 t [] 2 true,.cl 2 u [] 2 true,.cl 1 h [] 2 true,.pf (z7 (DV.i .i64) k),.cl 0 j [] 2 true]<|
.r w)
def F_q35 (a:TLa):=(S_q35 a).den
theorem F_q35_ok {a:TLa}:FO (F_q35 a) 57 [(TLa.d a)] [] vi NL:=fO (s:=S_q35 a) Tryz.func57
abbrev R_q3b:=TLa×Bool×Int×TLa×Int×(List TTr)
def S_q3b (c:TLa):SC R_q3b R_q3b :=
.reg 1 [] [(1,{ h:=.obj })] []<|
 let a:=(AV.full 0 fun _=>DV.b false)
 let g:=(eL TBo.e ([]:List TBo))
.sh (A:=True) (.pf trivial) [(2,(vp 1))] [(2,(vp 1))] [(TLa.b c),(Ob.box (AV.agg [(TLa.d c),a,(vb false),(vi 0),(AV.agg [(vi 0),(vi 0),a,a,a,a,a,a,a,a]),(vi 0)]))] [(TLa.b c),(Ob.box (AV.agg [(TLa.d c),(AV.ref 2 0 0 0),(vb false),(vi 0),(AV.d (DV.agg [(DV.i .i64 0),(DV.i .i64 0),(eL THe.e ([]:List THe)),(eL TLi.e ([]:List TLi)),g,g,(eL TEa.e ([]:List TEa)),(eL TCo.e ([]:List TCo)),(eL TRu.e ([]:List TRu)),(eL TAm.e ([]:List TAm))])),(vi 0)])),(eS 7 TTr.e ([]:List TTr))] (fun _=>(z1z (sz:=7) (f:=fun j=>AV.d (TTr.e (([]:List TTr).getD j dF))) (.keep _ _ _ _ (yg rfl) (.box _ _ _ _ _ (yg rfl) (TrV.agg (TrL.cons (TrV.keep _) (TrL.cons TrV.born (TrL.cons (TrV.keep _) (TrL.cons (TrV.keep _) (TrL.cons (TrV.aggD (TrL.cons (TrV.keep _) (TrL.cons (TrV.keep _) (TrL.cons TrV.full (TrL.cons TrV.full (TrL.cons TrV.full (TrL.cons TrV.full (TrL.cons TrV.full (TrL.cons TrV.full (TrL.cons TrV.full (TrL.cons TrV.full TrL.nil))))))))))) (TrL.cons (TrV.keep _) TrL.nil))))))) (.nil _))))) (z1a (k:=0) rfl (TrS.keep _) z2e)<|
.kill 0<|
.r (c,false,0,(⟨0,0,([]:List THe),([]:List TLi),([]:List TBo),([]:List TBo),([]:List TEa),([]:List TCo),([]:List TRu),([]:List TAm)⟩:TLa),0,([]:List TTr))
def F_q3b (a:TLa):=(S_q3b a).den
theorem F_q3b_ok {a:TLa}:FO (F_q3b a) 58 [(TLa.d a)] [] (fun _=>(vp 1)) (fun x=>[Ob.dead,(Ob.box (AV.agg [(TLa.d x.1),(AV.ref 2 x.2.2.2.2.2.length 0 x.2.2.2.2.2.length),(vb x.2.1),(vi x.2.2.1),(TLa.d x.2.2.2.1),(vi x.2.2.2.2.1)])),(eS 7 TTr.e x.2.2.2.2.2)]):=fO (s:=S_q3b a) Tryz.func58
def S_q36 (h:TTr) (j:TTr):SC Int Int :=
.call (@F_qs_ok h.G j.G) fun e b=>
.call (@F_qs_ok h.H j.H) fun f c=>
 let a:=([e,f]:List Int)
.call (@F_qo_ok a) fun g d=>
.reg 1 [] [(4,hc b [] true),(9,hc c [] true),(10,hv (vl a)),(11,hc d [] true)] [.cl 2 b [] 2 true,.cl 1 c [] 2 true,.pf (z7 (DV.i .i64) a),.cl 0 d [] 2 true]<|
.r g
def F_q36 (a:TTr) (b:TTr):=(S_q36 a b).den
theorem F_q36_ok {a:TTr} {b:TTr}:FO (F_q36 a b) 46 [(TTr.d a),(TTr.d b)] [] vi NL:=fO (s:=S_q36 a b) Tryz.func46
def S_q3n (a:Int):SC Bool Bool :=
.r (bif (decide (a>=1)) then (decide (a<=1000000)) else false)
def F_q3n (a:Int):=(S_q3n a).den
theorem F_q3n_ok {a:Int}:FO (F_q3n a) 124 [(vi a)] [] vb NL:=fO (s:=S_q3n a) Tryz.func124
def S_q3o (e:TLa) (f:Y8):SC Bool Bool :=
.call (@F_q7_ok e.F ([])) fun c a=>
.call (@F_q3k_ok c f) fun d b=>
.reg 1 [] [(2,hc a [] true),(4,hc b [] true)] [.cl 1 a [] 1 true,.cl 0 b [] 1 true]<|
.r d
def F_q3o (a:TLa) (b:Y8):=(S_q3o a b).den
theorem F_q3o_ok {a:TLa} {b:Y8}:FO (F_q3o a b) 126 [(TLa.d a),(AV.d (DV.str b))] [] vb NL:=fO (s:=S_q3o a b) Tryz.func126
def S_q54 (a:Int):SC Bool Bool :=
.r (bif (decide (a>=0)) then (decide (a<=36000)) else false)
def F_q54 (a:Int):=(S_q54 a).den
theorem F_q54_ok {a:Int}:FO (F_q54 a) 158 [(vi a)] [] vb NL:=fO (s:=S_q54 a) Tryz.func158
def S_q4g (c:Int):SC Int Int :=
.a 1 1 0 (@F_q54_ok c) fun b=>
.ite (!b) (
.r (-1)) (
.reg 3 [] [] [.pf (p:=(360:Int)≠0) dk]<|
.r (i64.wrap (c.tdiv 360)))
def F_q4g (a:Int):=(S_q4g a).den
theorem F_q4g_ok {a:Int}:FO (F_q4g a) 128 [(vi a)] [] vi NL:=fO (s:=S_q4g a) Tryz.func128
def S_q4h (a:TTr) (p0_0:TLa) (_:Bool) (_:Int) (_:TLa) (_:Int) (_:(List TTr)):SC Int Int :=
.call (@F_q3n_ok a.H) fun b f=>
.calld [(!b)=false] dF (@F_q3n_ok a.U) fun m g =>
 let c:=(cO (cO (cO (!b) (!m)) (decide (a.G<0))) (decide (a.G>35990)))
.calld [c=false] dF (@F_q1p_ok a.D) fun n h =>
.reg 2 [] [(3,hc f [] true),(9,hc g [] true),(25,hc h [] true)] [.cl 4 f [] 3 true,.clg 2 [(!b)=false] g [] 3 true,.clg 0 [c=false] h [] 3 true]<|
.ite (cO (cO c (!n)) (a.D==0)) (
.r 2) (
.call (@F_q3o_ok p0_0 a.L) fun d i=>
.calld [(!d)=false] dF (@F_q3o_ok p0_0 a.V) fun o j =>
.reg 4 [] [(6,hc i [] true),(15,hc j [] true)] [.cl 2 i [] 3 true,.clg 0 [(!d)=false] j [] 3 true]<|
.ite (cO (cO (!d) (!o)) (a.L==a.V)) (
.r 5) (
.call (@F_q2z_ok p0_0 a.C) fun e k=>
.calld [(!e)=false] dF (@F_q4g_ok a.G) fun p l =>
.reg 6 [] [(6,hc k [] true),(11,hc l [] true)] [.cl 2 k [] 3 true,.clg 0 [(!e)=false] l [] 3 true]<|
.ite (cO (!e) (decide (p>a.C))) (
.r 16) (
.r 0)))
def F_q4h (a:TTr) (p0_0:TLa) (p0_1:Bool) (p0_2:Int) (p0_3:TLa) (p0_4:Int) (b:(List TTr)):=(S_q4h a p0_0 p0_1 p0_2 p0_3 p0_4 b).den
theorem F_q4h_ok {b:TTr} {p0_0:TLa} {p0_1:Bool} {p0_2:Int} {p0_3:TLa} {p0_4:Int} {a:(List TTr)}:FO (F_q4h b p0_0 p0_1 p0_2 p0_3 p0_4 a) 76 [(vp 0),(TTr.d b)] [(Ob.box (AV.agg [(TLa.d p0_0),(AV.ref 1 a.length 0 a.length),(vb p0_1),(vi p0_2),(TLa.d p0_3),(vi p0_4)])),(eS 7 TTr.e a)] vi (fun _=>[(Ob.box (AV.agg [(TLa.d p0_0),(AV.ref 1 a.length 0 a.length),(vb p0_1),(vi p0_2),(TLa.d p0_3),(vi p0_4)])),(eS 7 TTr.e a)]):=fO (s:=S_q4h b p0_0 p0_1 p0_2 p0_3 p0_4 a) Tryz.func76
def S_q55 (a:TAm) (b:Int):SC Bool Bool :=
.r (decide (a.G>b))
def F_q55 (a:TAm) (b:Int):=(S_q55 a b).den
theorem F_q55_ok {b:TAm} {a:Int}:FO (F_q55 b a) 114 [(TAm.d b),(vp 0)] [(Ob.box (vi a))] vb (fun _=>[(Ob.box (vi a))]):=fO (s:=S_q55 b a) Tryz.func114
def S_q2e_b1 (d:(List TAm)) (e:Int) (a:Nat) (_:Unit):SC Int (Step Unit Int) :=
.call (@F_q55_ok (d.getD a dF) e) fun c b=>
.reg 4 [] [(5,hc b [0] true)] [.w a,.ev 1,.cl 0 b [0] 1 true]<|
.ite c (
.r (.ret (a:Int))) (
.r (.cont ()))
def S_q2e (a:(List TAm)) (b:Int):SC Int Int :=
.range (a.length:Int) a.length rfl (.slot 0) 8 [0,1,7] (fun (_:Unit)=>[]) (fun _=>[]) () (S_q2e_b1 a b) (fun _ => 
.r (-1)) id
def F_q2e (a:(List TAm)) (b:Int):=(S_q2e a b).den
theorem F_q2e_ok {b:(List TAm)} {a:Int}:FO (F_q2e b a) 113 [(AV.d (eL TAm.e b)),(AV.fn 114 [(vp 0)])] [(Ob.box (vi a))] vi (fun _=>[(Ob.box (vi a))]):=fO (s:=S_q2e b a) Tryz.func113
theorem cz5:∀ k,k<0->(DV.b false).wd=2:=fun _ h=>absurd h (y5k _)
def S_q56 (a:(List THe)):SC (List THe) (List THe) :=
.reg 0 [] [] []<|
 let b:=(AV.d (eL THe.e a))
.nils 0 (
.guard [(0+a.length) * (2 * 32)<=2 ^ 48]<|
.reg 1 [] [] []<|
.lev 0 b (.pf (lvQ true a.length fun j=>(THe.e (a.getD j dF))))<|
.br true (.pf (p:=true=true) rfl)<|
.reg 2 [] [] []<|
.lev 2 b (.der (fun (h:a.length=0)=>lvZ THe.e a h) 1)<|
.r a) (
.reg 1 [] [] []<|
.lev 0 b (.pf (lvQ false a.length fun j=>(THe.e (a.getD j dF))))<|
.br false (.pf (p:=false=false) rfl)<|
.guard [(0+a.length) * (2 * 32)<=2 ^ 48]<|
.reg 3 [] [(2,hv b)] [.pf (p:=∀ k,k<a.length->AV.d (THe.e (a.getD k dF))=AV.d (THe.e (a.getD k dF))/\(THe.e (a.getD k dF)).wd=2) (fun _ _=>⟨rfl,rfl⟩),.pf cz5,.ev 0,.pf (z3r (e:=THe.e) (x:=a))]<|
.r a)
def F_q56 (a:(List THe)):=(S_q56 a).den
theorem F_q56_ok {a:(List THe)}:FO (F_q56 a) 165 [(AV.d (eL THe.e a))] [] (fun x=>(AV.d (eL THe.e x))) NL:=fO (s:=S_q56 a) Tryz.func165
theorem cz6:∀ k,k<0->(DV.b false).wd=3:=fun _ h=>absurd h (y5k _)
def S_q57 (a:(List TLi)):SC (List TLi) (List TLi) :=
.reg 0 [] [] []<|
 let b:=(AV.d (eL TLi.e a))
.nils 0 (
.guard [(0+a.length) * (2 * 32)<=2 ^ 48]<|
.reg 1 [] [] []<|
.lev 0 b (.pf (lvQ true a.length fun j=>(TLi.e (a.getD j dF))))<|
.br true (.pf (p:=true=true) rfl)<|
.reg 2 [] [] []<|
.lev 2 b (.der (fun (h:a.length=0)=>lvZ TLi.e a h) 1)<|
.r a) (
.reg 1 [] [] []<|
.lev 0 b (.pf (lvQ false a.length fun j=>(TLi.e (a.getD j dF))))<|
.br false (.pf (p:=false=false) rfl)<|
.guard [(0+a.length) * (2 * 32)<=2 ^ 48]<|
.reg 3 [] [(2,hv b)] [.pf (p:=∀ k,k<a.length->AV.d (TLi.e (a.getD k dF))=AV.d (TLi.e (a.getD k dF))/\(TLi.e (a.getD k dF)).wd=3) (fun _ _=>⟨rfl,rfl⟩),.pf cz6,.ev 0,.pf (z3r (e:=TLi.e) (x:=a))]<|
.r a)
def F_q57 (a:(List TLi)):=(S_q57 a).den
theorem F_q57_ok {a:(List TLi)}:FO (F_q57 a) 166 [(AV.d (eL TLi.e a))] [] (fun x=>(AV.d (eL TLi.e x))) NL:=fO (s:=S_q57 a) Tryz.func166
def S_q4i (a:(List TBo)):SC (List TBo) (List TBo) :=
.reg 0 [] [] []<|
 let b:=(AV.d (eL TBo.e a))
.nils 0 (
.guard [(0+a.length) * (2 * 32)<=2 ^ 48]<|
.reg 1 [] [] []<|
.lev 0 b (.pf (lvQ true a.length fun j=>(TBo.e (a.getD j dF))))<|
.br true (.pf (p:=true=true) rfl)<|
.reg 2 [] [] []<|
.lev 2 b (.der (fun (h:a.length=0)=>lvZ TBo.e a h) 1)<|
.r a) (
.reg 1 [] [] []<|
.lev 0 b (.pf (lvQ false a.length fun j=>(TBo.e (a.getD j dF))))<|
.br false (.pf (p:=false=false) rfl)<|
.guard [(0+a.length) * (2 * 32)<=2 ^ 48]<|
.reg 3 [] [(2,hv b)] [.pf (p:=∀ k,k<a.length->AV.d (TBo.e (a.getD k dF))=AV.d (TBo.e (a.getD k dF))/\(TBo.e (a.getD k dF)).wd=3) (fun _ _=>⟨rfl,rfl⟩),.pf cz6,.ev 0,.pf (z3r (e:=TBo.e) (x:=a))]<|
.r a)
def F_q4i (a:(List TBo)):=(S_q4i a).den
theorem F_q4i_ok {a:(List TBo)}:FO (F_q4i a) 167 [(AV.d (eL TBo.e a))] [] (fun x=>(AV.d (eL TBo.e x))) NL:=fO (s:=S_q4i a) Tryz.func167
def S_q58 (a:(List TEa)):SC (List TEa) (List TEa) :=
.reg 0 [] [] []<|
 let b:=(AV.d (eL TEa.e a))
.nils 0 (
.guard [(0+a.length) * (2 * 40)<=2 ^ 48]<|
.reg 1 [] [] []<|
.lev 0 b (.pf (lvQ true a.length fun j=>(TEa.e (a.getD j dF))))<|
.br true (.pf (p:=true=true) rfl)<|
.reg 2 [] [] []<|
.lev 2 b (.der (fun (h:a.length=0)=>lvZ TEa.e a h) 1)<|
.r a) (
.reg 1 [] [] []<|
.lev 0 b (.pf (lvQ false a.length fun j=>(TEa.e (a.getD j dF))))<|
.br false (.pf (p:=false=false) rfl)<|
.guard [(0+a.length) * (2 * 40)<=2 ^ 48]<|
.reg 3 [] [(2,hv b)] [.pf (p:=∀ k,k<a.length->AV.d (TEa.e (a.getD k dF))=AV.d (TEa.e (a.getD k dF))/\(TEa.e (a.getD k dF)).wd=3) (fun _ _=>⟨rfl,rfl⟩),.pf cz6,.ev 0,.pf (z3r (e:=TEa.e) (x:=a))]<|
.r a)
def F_q58 (a:(List TEa)):=(S_q58 a).den
theorem F_q58_ok {a:(List TEa)}:FO (F_q58 a) 168 [(AV.d (eL TEa.e a))] [] (fun x=>(AV.d (eL TEa.e x))) NL:=fO (s:=S_q58 a) Tryz.func168
theorem cz7:∀ k,k<0->(DV.b false).wd=7:=fun _ h=>absurd h (y5k _)
def S_q59 (a:(List TCo)):SC (List TCo) (List TCo) :=
.reg 0 [] [] []<|
 let b:=(AV.d (eL TCo.e a))
.nils 0 (
.guard [(0+a.length) * (2 * 72)<=2 ^ 48]<|
.reg 1 [] [] []<|
.lev 0 b (.pf (lvQ true a.length fun j=>(TCo.e (a.getD j dF))))<|
.br true (.pf (p:=true=true) rfl)<|
.reg 2 [] [] []<|
.lev 2 b (.der (fun (h:a.length=0)=>lvZ TCo.e a h) 1)<|
.r a) (
.reg 1 [] [] []<|
.lev 0 b (.pf (lvQ false a.length fun j=>(TCo.e (a.getD j dF))))<|
.br false (.pf (p:=false=false) rfl)<|
.guard [(0+a.length) * (2 * 72)<=2 ^ 48]<|
.reg 3 [] [(2,hv b)] [.pf (p:=∀ k,k<a.length->AV.d (TCo.e (a.getD k dF))=AV.d (TCo.e (a.getD k dF))/\(TCo.e (a.getD k dF)).wd=7) (fun _ _=>⟨rfl,rfl⟩),.pf cz7,.ev 0,.pf (z3r (e:=TCo.e) (x:=a))]<|
.r a)
def F_q59 (a:(List TCo)):=(S_q59 a).den
theorem F_q59_ok {a:(List TCo)}:FO (F_q59 a) 169 [(AV.d (eL TCo.e a))] [] (fun x=>(AV.d (eL TCo.e x))) NL:=fO (s:=S_q59 a) Tryz.func169
theorem cz8:∀ k,k<0->(DV.b false).wd=4:=fun _ h=>absurd h (y5k _)
def S_q5a (a:(List TRu)):SC (List TRu) (List TRu) :=
.reg 0 [] [] []<|
 let b:=(AV.d (eL TRu.e a))
.nils 0 (
.guard [(0+a.length) * (2 * 48)<=2 ^ 48]<|
.reg 1 [] [] []<|
.lev 0 b (.pf (lvQ true a.length fun j=>(TRu.e (a.getD j dF))))<|
.br true (.pf (p:=true=true) rfl)<|
.reg 2 [] [] []<|
.lev 2 b (.der (fun (h:a.length=0)=>lvZ TRu.e a h) 1)<|
.r a) (
.reg 1 [] [] []<|
.lev 0 b (.pf (lvQ false a.length fun j=>(TRu.e (a.getD j dF))))<|
.br false (.pf (p:=false=false) rfl)<|
.guard [(0+a.length) * (2 * 48)<=2 ^ 48]<|
.reg 3 [] [(2,hv b)] [.pf (p:=∀ k,k<a.length->AV.d (TRu.e (a.getD k dF))=AV.d (TRu.e (a.getD k dF))/\(TRu.e (a.getD k dF)).wd=4) (fun _ _=>⟨rfl,rfl⟩),.pf cz8,.ev 0,.pf (z3r (e:=TRu.e) (x:=a))]<|
.r a)
def F_q5a (a:(List TRu)):=(S_q5a a).den
theorem F_q5a_ok {a:(List TRu)}:FO (F_q5a a) 170 [(AV.d (eL TRu.e a))] [] (fun x=>(AV.d (eL TRu.e x))) NL:=fO (s:=S_q5a a) Tryz.func170
def S_q5b (a:(List TCh)):SC (List TCh) (List TCh) :=
.reg 0 [] [] []<|
 let b:=(AV.d (eL TCh.e a))
.nils 0 (
.guard [(0+a.length) * (2 * 40)<=2 ^ 48]<|
.reg 1 [] [] []<|
.lev 0 b (.pf (lvQ true a.length fun j=>(TCh.e (a.getD j dF))))<|
.br true (.pf (p:=true=true) rfl)<|
.reg 2 [] [] []<|
.lev 2 b (.der (fun (h:a.length=0)=>lvZ TCh.e a h) 1)<|
.r a) (
.reg 1 [] [] []<|
.lev 0 b (.pf (lvQ false a.length fun j=>(TCh.e (a.getD j dF))))<|
.br false (.pf (p:=false=false) rfl)<|
.guard [(0+a.length) * (2 * 40)<=2 ^ 48]<|
.reg 3 [] [(2,hv b)] [.pf (p:=∀ k,k<a.length->AV.d (TCh.e (a.getD k dF))=AV.d (TCh.e (a.getD k dF))/\(TCh.e (a.getD k dF)).wd=4) (fun _ _=>⟨rfl,rfl⟩),.pf cz8,.ev 0,.pf (z3r (e:=TCh.e) (x:=a))]<|
.r a)
def F_q5b (a:(List TCh)):=(S_q5b a).den
theorem F_q5b_ok {a:(List TCh)}:FO (F_q5b a) 171 [(AV.d (eL TCh.e a))] [] (fun x=>(AV.d (eL TCh.e x))) NL:=fO (s:=S_q5b a) Tryz.func171
def S_q1u_b1 (n:TLa) (j:Nat) (f:Int×Int×(List THe)×(List TLi)×(List TBo)×(List TBo)×(List TEa)×(List TCo)×(List TRu)×(List TAm)):SC TLa (Step (Int×Int×(List THe)×(List TLi)×(List TBo)×(List TBo)×(List TEa)×(List TCo)×(List TRu)×(List TAm)) TLa) :=
.reg 7 [] [(2,{ obs:=[(3,(TAm.b (⟨0,0,[]⟩:TAm)))] })] [.w j,.ev 0,.pf cz1]<|
 let i:=(n.A.getD j dF)
.a 8 2 4 (@F_q5b_ok i.Q) fun m=>
.guard [(f.2.2.2.2.2.2.2.2.2.length+1) * (2 * 40)<=2 ^ 48]<|
 let g:=([(⟨i.G,i.H,m⟩:TAm)]:List TAm)
 let h:=(f.2.2.2.2.2.2.2.2.2++g)
.reg 9 [] [(3,hv (AV.d (eL TAm.e g))),(4,{ cast:=some (AV.ref 2 h.length 0 h.length),obs:=[(2,(eS 3 TAm.e h))] })] [.pf (z7 TAm.e g),.e f.2.2.2.2.2.2.2.2.2.length,.e f.2.2.2.2.2.2.2.2.2.length,.pf (p:=∀ k,k<1->(TAm.d (g.getD k dF)).wd=3) (fun _ _=>rfl),.ev 0,.pf (zk (o:=2) (l:=f.2.2.2.2.2.2.2.2.2) (x:=g)),.pf (zj (sz:=3) (e:=TAm.e) (l:=f.2.2.2.2.2.2.2.2.2) (x:=g))]<|
.c (f.1,f.2.1,f.2.2.1,f.2.2.2.1,f.2.2.2.2.1,f.2.2.2.2.2.1,f.2.2.2.2.2.2.1,f.2.2.2.2.2.2.2.1,f.2.2.2.2.2.2.2.2.1,h)
def S_q1u (c:TLa):SC TLa TLa :=
 let i:=(TLa.b (⟨0,0,[],[],[],[],[],[],[],[]⟩:TLa))
.reg 0 [] [(1,{ obs:=[(1,i)] })] [.pf cz2]<|
.call (@F_q56_ok c.F) fun l s=>
.call (@F_q57_ok c.P) fun m t=>
.call (@F_q4i_ok c.J) fun n u=>
.call (@F_q4i_ok c.O) fun o v=>
.reg 1 [13,15,17,19] [(2,hc s [] true),(5,hc t [] true),(8,hc u [] true),(11,hc v [] true)] [.cl 3 s [] 2 true,.cl 2 t [] 2 true,.cl 1 u [] 2 true,.cl 0 v [] 2 true]<|
.call (@F_q58_ok c.K) fun p w=>
.call (@F_q59_ok c.M) fun q x=>
.call (@F_q5a_ok c.N) fun g h=>
.reg 2 [10,12,14] [(2,hc w [] true),(5,hc x [] true),(8,hc h [] true)] [.cl 2 w [] 2 true,.cl 1 x [] 2 true,.cl 0 h [] 2 true]<|
.reg 4 [] [] []<|
 let y:=[(1,(vp 0)),(2,(vp 1)),(3,(AV.d (eL TAm.e c.A)))]
.sh (A:=True) (.pf trivial) y y [(Ob.box (AV.agg [(vi c.E),(vi c.I),(AV.d (eL THe.e l)),(AV.d (eL TLi.e m)),(AV.d (eL TBo.e n)),(AV.d (eL TBo.e o)),(AV.d (eL TEa.e p)),(AV.d (eL TCo.e q)),(AV.d (eL TRu.e g)),(AV.full 0 fun _=>DV.b false)])),i] [(Ob.box (AV.agg [(vi c.E),(vi c.I),(AV.d (eL THe.e l)),(AV.d (eL TLi.e m)),(AV.d (eL TBo.e n)),(AV.d (eL TBo.e o)),(AV.d (eL TEa.e p)),(AV.d (eL TCo.e q)),(AV.d (eL TRu.e g)),(AV.ref 2 0 0 0)])),i,(eS 3 TAm.e ([]:List TAm))] (fun _=>(z1z (sz:=3) (f:=fun j=>AV.d (TAm.e (([]:List TAm).getD j dF))) (.box _ _ _ _ _ (yg rfl) (TrV.agg (TrL.cons (TrV.keep _) (TrL.cons (TrV.keep _) (TrL.cons (TrV.keep _) (TrL.cons (TrV.keep _) (TrL.cons (TrV.keep _) (TrL.cons (TrV.keep _) (TrL.cons (TrV.keep _) (TrL.cons (TrV.keep _) (TrL.cons (TrV.keep _) (TrL.cons TrV.born TrL.nil))))))))))) (.keep _ _ _ _ (yg rfl) (.nil _))))) (z1a (k:=0) rfl (TrS.keep _) (z1a (k:=1) rfl (TrS.keep _) (z1a (k:=2) rfl (TrS.keep _) z2e)))<|
.range (c.A.length:Int) c.A.length rfl (.slot 37) 39 [1,2,37,38] (fun (_:Int×Int×(List THe)×(List TLi)×(List TBo)×(List TBo)×(List TEa)×(List TCo)×(List TRu)×(List TAm))=>[]) (fun a=>[(0,(Ob.box (AV.agg [(vi a.1),(vi a.2.1),(AV.d (eL THe.e a.2.2.1)),(AV.d (eL TLi.e a.2.2.2.1)),(AV.d (eL TBo.e a.2.2.2.2.1)),(AV.d (eL TBo.e a.2.2.2.2.2.1)),(AV.d (eL TEa.e a.2.2.2.2.2.2.1)),(AV.d (eL TCo.e a.2.2.2.2.2.2.2.1)),(AV.d (eL TRu.e a.2.2.2.2.2.2.2.2.1)),(AV.ref 2 a.2.2.2.2.2.2.2.2.2.length 0 a.2.2.2.2.2.2.2.2.2.length)]))),(2,(eS 3 TAm.e a.2.2.2.2.2.2.2.2.2))]) (c.E,c.I,l,m,n,o,p,q,g,([]:List TAm)) (S_q1u_b1 c) (fun a => 
.guard [a.2.2.2.2.2.2.2.2.2.length<2 ^ 63]<|
.reg 11 [] [] []<|
.frz 2 (.ev 0) none [] [0,1]<|
.r (⟨a.1,a.2.1,a.2.2.1,a.2.2.2.1,a.2.2.2.2.1,a.2.2.2.2.2.1,a.2.2.2.2.2.2.1,a.2.2.2.2.2.2.2.1,a.2.2.2.2.2.2.2.2.1,a.2.2.2.2.2.2.2.2.2⟩:TLa)) id
def F_q1u (a:TLa):=(S_q1u a).den
theorem F_q1u_ok {a:TLa}:FO (F_q1u a) 150 [(TLa.d a)] [] (fun x=>(TLa.d x)) NL:=fO (s:=S_q1u a) Tryz.func150
def S_q3c (a:TLi):SC TPl TPl :=
.r (⟨a.B,a.C⟩:TPl)
def F_q3c (a:TLi):=(S_q3c a).den
theorem F_q3c_ok {a:TLi}:FO (F_q3c a) 172 [(TLi.d a)] [] (fun x=>(TPl.d x)) NL:=fO (s:=S_q3c a) Tryz.func172
def S_q3d (h:TPl) (j:TPl):SC Int Int :=
.call (@F_q1c_ok h.code j.code) fun e b=>
.call (@F_qs_ok h.year j.year) fun f c=>
 let a:=([e,f]:List Int)
.call (@F_qo_ok a) fun g d=>
.reg 1 [] [(4,hc b [] true),(9,hc c [] true),(10,hv (vl a)),(11,hc d [] true)] [.cl 2 b [] 2 true,.cl 1 c [] 2 true,.pf (z7 (DV.i .i64) a),.cl 0 d [] 2 true]<|
.r g
def F_q3d (a:TPl) (b:TPl):=(S_q3d a b).den
theorem F_q3d_ok {a:TPl} {b:TPl}:FO (F_q3d a b) 190 [(TPl.d a),(TPl.d b)] [] vi NL:=fO (s:=S_q3d a b) Tryz.func190
abbrev R_q1e:=Int×Bool
def S_q1e_b1 (g:TPl) (c:(List TPl)) (a:Int×Int):SC R_q1e (Step (Int×Int) R_q1e) :=
.ite (decide (a.1<a.2)) (
.reg 4 [] [] [.pf (p:=(0:Int)<=1) dk]<|
 let b:=(i64.wrap ((IntKind.u64.wrap (i64.wrap (a.1+a.2))).fdiv (2 ^ (min (1:Int).toNat IntKind.u64.bits))))
.call (@F_q3d_ok (c.getD (0+b.toNat) dF) g) fun f d=>
.guard [(0:Int)<=b,b.toNat<c.length,(0+b.toNat)<c.length]<|
.reg 5 [] [(6,hc d [] true)] [.e c.length,.ev 0,.ev 1,.e c.length,.ev 2,.cl 3 d [] 2 true]<|
.ite (decide (f<0)) (
.r (.cont ((i64.wrap (b+1)),a.2))) (
.r (.cont (a.1,b)))) (
.r (.brk (a.1,a.2)))
def S_q1e (f:TPl) (c:(List TPl)):SC R_q1e R_q1e :=
.iter [0,2,4,8] (fun (a:Int×Int)=>[(9,(vi a.1)),(10,(vi a.2))]) (fun _=>[]) (0,(c.length:Int)) (S_q1e_b1 f c) (fun a =>
 let b:=(decide (a.1<(c.length:Int)))
.calld [b=true] dF (@F_q3d_ok (c.getD (0+a.1.toNat) dF) f) fun e d =>
.guard [AllP [b=true]->((0:Int)<=a.1),AllP [b=true]->(a.1.toNat<c.length),AllP [b=true]->((0+a.1.toNat)<c.length)]<|
.reg 8 [] [(11,hc d [] true)] [.pf (p:=AllP [b=true]->(c.length=c.length)) (fun _=>rfl),.ev 0,.ev 1,.pf (p:=AllP [b=true]->(c.length=c.length)) (fun _=>rfl),.ev 2,.clg 3 [b=true] d [] 2 true]<|
.r (a.1,(bif b then (e==0) else false))) id
def F_q1e (a:TPl) (b:(List TPl)):=(S_q1e a b).den
theorem F_q1e_ok {b:TPl} {a:(List TPl)}:FO (F_q1e b a) 189 [(AV.ref 0 a.length 0 a.length),(TPl.d b),(AV.fn 190 [])] [(eS 2 TPl.e a)] (fun x=>(AV.tup [(vi x.1),(vb x.2)])) (fun _=>[(eS 2 TPl.e a)]):=fO (s:=S_q1e b a) Tryz.func189
def S_q4j (a:(List TLi)):SC (List TLi) (List TLi) :=
.reg 0 [] [] []<|
.nils 0 (
.guard [a.length * (2 * 32)<=2 ^ 48]<|
.reg 1 [] [] []<|
.lev 0 (AV.d (eL TLi.e a)) (.pf (lvQ true a.length fun j=>(TLi.e (a.getD j dF))))<|
.br true (.pf (p:=true=true) rfl)<|
.reg 2 [] [] []<|
.bor 3 (fun j=>AV.d (TLi.e (a.getD j dF))) [2]<|
.cst (A:=a.length=0) (.ev 1) [(2,AV.ref 0 0 0 0)] [(2,(AV.ref 0 a.length 0 a.length))] [(Ob.seq 3 0 fun j=>AV.d (TLi.e (a.getD j dF)))] [(eS 3 TLi.e a)] (fun h=>⟨by rw[h],by unfold eS; rw[h]⟩)<|
.r a) (
.reg 1 [] [] []<|
.lev 0 (AV.d (eL TLi.e a)) (.pf (lvQ false a.length fun j=>(TLi.e (a.getD j dF))))<|
.br false (.pf (p:=false=false) rfl)<|
.guard [a.length * (2 * 32)<=2 ^ 48]<|
.reg 3 [] [(2,{ h:=.obj })] [.pf (p:=∀ k,k<a.length->(TLi.d (a.getD k dF)).wd=3) (fun _ _=>rfl),.ev 0]<|
.r a)
def F_q4j (a:(List TLi)):=(S_q4j a).den
theorem F_q4j_ok {a:(List TLi)}:FO (F_q4j a) 166 [(AV.d (eL TLi.e a))] [] (fun x=>(AV.ref 0 x.length 0 x.length)) (fun x=>[(eS 3 TLi.e x)]):=fO (s:=S_q4j a) Tryz.func166
def S_q4k (q:Int) (o:Int) (a:(List TLi)):SC (List TLi) (List TLi) :=
.guard [(0:Int)<=q,(0:Int)<=o,q.toNat<=o.toNat,o.toNat<=a.length]<|
.reg 1 [] [] [.ev 0,.ev 1,.ev 2,.ev 3,.e a.length,.pf (nn a.length),.ev 3,.pf (p:=a.length<=a.length) (yc _)]<|
.ite (q==o) (
.guard [a.length<2 ^ 63]<|
.reg 3 [] [] []<|
.frz 0 (.ev 0) none [6] []<|
.r a) (
 let c:=(a.length-o.toNat)
 let f:=(q.toNat-0)
.guard [q.toNat<=a.length,f+c<=a.length]<|
 let g:=(0+o.toNat)
.reg 5 [6] [(6,{ h:=.imm,obs:=[(0,(eS 3 TLi.e (copyL a f c (fun i=>(a.getD (g+i) dF)))))] })] [.ev 3,.ev 0,.e a.length,.ev 4,.ev 6,.e a.length,.e a.length,.e a.length,.ev 1,.pf (p:=∀ k,k<c->(TLi.d (a.getD (g+k) dF)).wd=3) (fun _ _=>rfl),.pf (z9y (sz:=3) (e:=TLi.e) (l:=a) (off:=f) (k:=c) (s:=(fun i=>(a.getD (g+i) dF))))]<|
 let b:=(f+c)
 let t:=(7,(vi (a.length:Int)))
.cst (A:=True) (.pf trivial) [(0,(AV.ref 0 a.length 0 b)),t] [(0,(AV.ref 0 ((copyL a f c (fun i=>(a.getD (g+i) dF))).length) 0 b)),t] [(eS 3 TLi.e (copyL a f c (fun i=>(a.getD (g+i) dF))))] [(eS 3 TLi.e (copyL a f c (fun i=>(a.getD (g+i) dF))))] (fun _=>⟨by simp +zetaDelta only[zw],by rfl⟩)<|
.guard [b<=a.length,a.length<=(copyL a f c (fun i=>(a.getD (g+i) dF))).length]<|
 let j:=(⟨[],0,0⟩:TLi)
 let m:=(a.length-b)
.reg 6 [] [(5,{ obs:=[(0,(eS 3 TLi.e (clearL (copyL a f c (fun i=>(a.getD (g+i) dF))) (0+b) m j)))] })] [.w b,.pf (nn a.length),.ev 0,.ev 1,.pf (y2p ((copyL a f c (fun i=>(a.getD (g+i) dF))).length)),.pf (y2p ((copyL a f c (fun i=>(a.getD (g+i) dF))).length)),.pf (zcu (sz:=3) (e:=TLi.e) (l:=(copyL a f c (fun i=>(a.getD (g+i) dF)))) (off:=(0+b)) (n:=m) (z:=j))]<|
.cst (A:=True) (.pf trivial) [(0,(AV.ref 0 ((copyL a f c (fun i=>(a.getD (g+i) dF))).length) 0 b))] [(0,(AV.ref 0 ((clearL (copyL a f c (fun i=>(a.getD (g+i) dF))) (0+b) m j).length) 0 b))] [(eS 3 TLi.e (clearL (copyL a f c (fun i=>(a.getD (g+i) dF))) (0+b) m j))] [(eS 3 TLi.e (clearL (copyL a f c (fun i=>(a.getD (g+i) dF))) (0+b) m j))] (fun _=>⟨by simp +zetaDelta only[z1t,zw],by rfl⟩)<|
.guard [(clearL (copyL a f c (fun i=>(a.getD (g+i) dF))) (0+b) m j).length<2 ^ 63]<|
.reg 7 [] [] []<|
.guard [b<=(clearL (copyL a f c (fun i=>(a.getD (g+i) dF))) (0+b) m j).length]<|
.frz 0 (.ev 1) (some (.der (fun (h:b<=(clearL (copyL a f c (fun i=>(a.getD (g+i) dF))) (0+b) m j).length)=>(h:b<=(clearL (copyL a f c (fun i=>(a.getD (g+i) dF))) (0+b) m j).length)) 0)) [6] []<|
.lev 6 (AV.d (eL TLi.e ((clearL (copyL a f c (fun i=>(a.getD (g+i) dF))) (0+b) m j).take b))) (.der (fun (h:b<=(clearL (copyL a f c (fun i=>(a.getD (g+i) dF))) (0+b) m j).length)=>lvT TLi.e (clearL (copyL a f c (fun i=>(a.getD (g+i) dF))) (0+b) m j) h) 0)<|
.r ((clearL (copyL a f c (fun i=>(a.getD (g+i) dF))) (0+b) m j).take b))
def F_q4k (a:Int) (b:Int) (c:(List TLi)):=(S_q4k a b c).den
theorem F_q4k_ok {b:Int} {c:Int} {a:(List TLi)}:FO (F_q4k b c a) 191 [(AV.ref 0 a.length 0 a.length),(vi b),(vi c)] [(eS 3 TLi.e a)] (fun x=>(AV.d (eL TLi.e x))) (fun _=>[Ob.dead]):=fO (s:=S_q4k b c a) Tryz.func191
def V_q5e (x:(List TLi)):AV:=.ref 0 x.length 0 x.length
def L_q5e (a:List TLi) (x:(List TLi)):List Ob:=[eS 3 TLi.e x,eS 3 TLi.e a]
def F_q5e (a:Int) (b c:List TLi):Option (List TLi):=match c with
 | [y]=>guardP (0<=a/\a.toNat<=b.length/\(b.length+1) * (4 * 32)<=2 ^ 48) (some (insL b a.toNat y))
 | _=>none
theorem F_q5e_ok {c:Int} {f b:List TLi} (r:(List TLi)) (h:F_q5e c f b=some r):CallOk Tryz.prog 192 [(AV.ref 0 f.length 0 f.length),(AV.d (.i .i64 c)),(AV.ref 1 b.length 0 b.length)] [(eS 3 TLi.e f),(eS 3 TLi.e b)] (V_q5e r) (L_q5e b r):=by
 unfold F_q5e at h
 split at h
 ·rename_i y
  obtain⟨⟨h1,h2,h3⟩,h⟩:=z2x h
  obtain rfl:=y15 h
  obtain⟨i,rfl⟩:∃ i:Nat,c=(i:Int):=⟨c.toNat,(y5r h1).symm⟩
  exact InsG.ins_ok .a (fun _=>rfl) h2 h3
 ·cases h
end
end Go.Proofs.YtbmpcbbimefmoaaGreatDoor
/- What the functions compute,and that their calls return it. No condition. -/
namespace Go.Proofs.YtbmpcbbimefmoaaGreatDoor
open Go Go.TA
open Go.IntKind (i64)
noncomputable section
set_option maxRecDepth 100000
abbrev R_q2f:=(List TLi)
def S_q2f_b1 (a0_0:(List TLi)) (f:Nat) (a:(List TPl)):SC R_q2f (Step ((List TPl)) R_q2f) :=
.reg 4 [] [] [.w f,.ev 0]<|
.call (@F_q3c_ok (a0_0.getD f dF)) fun i g=>
.guard [(a.length+1) * (2 * 24)<=2 ^ 48]<|
 let b:=([i]:List TPl)
.reg 5 [] [(4,hc g [] true),(5,hv (AV.d (eL TPl.e b))),(6,{ h:=.obj,cast:=some (AV.ref 2 ((a++b).length) 0 ((a++b).length)),obs:=[(2,(eS 2 TPl.e (a++b)))] })] [.cl 1 g [] 4 true,.pf (z7 TPl.e b),.e a.length,.e a.length,.pf (p:=∀ k,k<1->(TPl.d (b.getD k dF)).wd=2) (fun _ _=>rfl),.ev 0,.pf (zk (o:=2) (l:=a) (x:=b)),.pf (zj (sz:=2) (e:=TPl.e) (l:=a) (x:=b))]<|
.c (a++b)
def S_q2f (a0_0:(List TLi)) (o:TLi) (B:Bool):SC R_q2f R_q2f :=
.reg 2 [] [] []<|
.bor 2 (fun j=>AV.d (TPl.e (([]:List TPl).getD j dF))) [7]<|
.range (a0_0.length:Int) a0_0.length rfl (.slot 14) 16 [2,3,4,14,15] (fun (f:(List TPl))=>[(7,(AV.ref 2 f.length 0 f.length))]) (fun f=>[(2,(eS 2 TPl.e f))]) ([]:List TPl) (S_q2f_b1 a0_0) (fun f => 
.call (@F_q3c_ok o) fun v p=>
.call (@F_q1e_ok v f) fun c q=>
.reg 7 [] [(4,hc p [] true),(5,hc q [2] true)] [.cl 1 p [] 3 true,.cl 0 q [2] 3 true]<|
.call (@F_q4j_ok a0_0) fun a w=>
.k 8 2 w [] 3 false<|
.ite (bif B then c.2 else false) (
.call (@F_q4k_ok c.1 (i64.wrap (c.1+1)) a) fun y z=>
.k 10 4 z [3] 4 false<|
.r y) (
.ite B (
.guard [a.length<2 ^ 63]<|
.reg 12 [] [] []<|
.frz 3 (.ev 0) none [6] []<|
.r a) (
.ite c.2 (
 let m:=(0+c.1.toNat)
.guard [(0:Int)<=c.1,c.1.toNat<a.length,m<a.length]<|
 let g:=(a.set m o)
.reg 14 [] [(4,{ obs:=[(3,(eS 3 TLi.e g))] })] [.e a.length,.ev 0,.ev 1,.e a.length,.ev 2,.pf (z29 (sz:=3) (e:=TLi.e) (l:=a) (i:=m) (x:=o) (fun _=>rfl))]<|
 let s:=[(Ob.box (AV.agg [(AV.d (eL TLi.e a0_0)),(AV.fn 172 [])])),(TLi.b o),(eS 2 TPl.e f),(eS 3 TLi.e g)]
.cst (A:=True) (.pf trivial) [(12,(AV.ref 3 a.length 0 a.length))] [(12,(AV.ref 3 g.length 0 g.length))] s s (fun _=>⟨Zb,by rfl⟩)<|
.guard [g.length<2 ^ 63]<|
.reg 15 [] [] []<|
.frz 3 (.ev 0) none [6] []<|
.r g) (
 let n:=([o]:List TLi)
.call (@F_q5e_ok c.1 a n) fun t u=>
.reg 16 [] [(3,{ h:=.obj,obs:=[(4,(eS 3 TLi.e n))] }),(4,hc u [3,4] false)] [.pf (z93 (sz:=3) (e:=TLi.e) (l:=n)),.cl 0 u [3,4] 5 false]<|
.guard [t.length<2 ^ 63]<|
.frz 3 (.ev 0) none [6] []<|
.r t)))) id
def F_q2f (a0_0:(List TLi)) (a:TLi) (b:Bool):=(S_q2f a0_0 a b).den
theorem F_q2f_ok {a0_0:(List TLi)} {a:TLi} {b:Bool}:FO (F_q2f a0_0 a b) 173 [(AV.agg [(AV.d (eL TLi.e a0_0)),(AV.fn 172 [])]),(TLi.d a),(vb b)] [] (fun x=>(AV.d (eL TLi.e x))) NL:=fO (s:=S_q2f a0_0 a b) Tryz.func173
def S_q3e (a:TBo):SC TPl TPl :=
.r (⟨a.B,a.C⟩:TPl)
def F_q3e (a:TBo):=(S_q3e a).den
theorem F_q3e_ok {a:TBo}:FO (F_q3e a) 174 [(TBo.d a)] [] (fun x=>(TPl.d x)) NL:=fO (s:=S_q3e a) Tryz.func174
def S_q4l (a:(List TBo)):SC (List TBo) (List TBo) :=
.reg 0 [] [] []<|
.nils 0 (
.guard [a.length * (2 * 32)<=2 ^ 48]<|
.reg 1 [] [] []<|
.lev 0 (AV.d (eL TBo.e a)) (.pf (lvQ true a.length fun j=>(TBo.e (a.getD j dF))))<|
.br true (.pf (p:=true=true) rfl)<|
.reg 2 [] [] []<|
.bor 3 (fun j=>AV.d (TBo.e (a.getD j dF))) [2]<|
.cst (A:=a.length=0) (.ev 1) [(2,AV.ref 0 0 0 0)] [(2,(AV.ref 0 a.length 0 a.length))] [(Ob.seq 3 0 fun j=>AV.d (TBo.e (a.getD j dF)))] [(eS 3 TBo.e a)] (fun h=>⟨by rw[h],by unfold eS; rw[h]⟩)<|
.r a) (
.reg 1 [] [] []<|
.lev 0 (AV.d (eL TBo.e a)) (.pf (lvQ false a.length fun j=>(TBo.e (a.getD j dF))))<|
.br false (.pf (p:=false=false) rfl)<|
.guard [a.length * (2 * 32)<=2 ^ 48]<|
.reg 3 [] [(2,{ h:=.obj })] [.pf (p:=∀ k,k<a.length->(TBo.d (a.getD k dF)).wd=3) (fun _ _=>rfl),.ev 0]<|
.r a)
def F_q4l (a:(List TBo)):=(S_q4l a).den
theorem F_q4l_ok {a:(List TBo)}:FO (F_q4l a) 167 [(AV.d (eL TBo.e a))] [] (fun x=>(AV.ref 0 x.length 0 x.length)) (fun x=>[(eS 3 TBo.e x)]):=fO (s:=S_q4l a) Tryz.func167
def S_q4m (q:Int) (o:Int) (a:(List TBo)):SC (List TBo) (List TBo) :=
.guard [(0:Int)<=q,(0:Int)<=o,q.toNat<=o.toNat,o.toNat<=a.length]<|
.reg 1 [] [] [.ev 0,.ev 1,.ev 2,.ev 3,.e a.length,.pf (nn a.length),.ev 3,.pf (p:=a.length<=a.length) (yc _)]<|
.ite (q==o) (
.guard [a.length<2 ^ 63]<|
.reg 3 [] [] []<|
.frz 0 (.ev 0) none [6] []<|
.r a) (
 let c:=(a.length-o.toNat)
 let f:=(q.toNat-0)
.guard [q.toNat<=a.length,f+c<=a.length]<|
 let g:=(0+o.toNat)
.reg 5 [6] [(6,{ h:=.imm,obs:=[(0,(eS 3 TBo.e (copyL a f c (fun i=>(a.getD (g+i) dF)))))] })] [.ev 3,.ev 0,.e a.length,.ev 4,.ev 6,.e a.length,.e a.length,.e a.length,.ev 1,.pf (p:=∀ k,k<c->(TBo.d (a.getD (g+k) dF)).wd=3) (fun _ _=>rfl),.pf (z9y (sz:=3) (e:=TBo.e) (l:=a) (off:=f) (k:=c) (s:=(fun i=>(a.getD (g+i) dF))))]<|
 let b:=(f+c)
 let t:=(7,(vi (a.length:Int)))
.cst (A:=True) (.pf trivial) [(0,(AV.ref 0 a.length 0 b)),t] [(0,(AV.ref 0 ((copyL a f c (fun i=>(a.getD (g+i) dF))).length) 0 b)),t] [(eS 3 TBo.e (copyL a f c (fun i=>(a.getD (g+i) dF))))] [(eS 3 TBo.e (copyL a f c (fun i=>(a.getD (g+i) dF))))] (fun _=>⟨by simp +zetaDelta only[zw],by rfl⟩)<|
.guard [b<=a.length,a.length<=(copyL a f c (fun i=>(a.getD (g+i) dF))).length]<|
 let j:=(⟨[],0,0⟩:TBo)
 let m:=(a.length-b)
.reg 6 [] [(5,{ obs:=[(0,(eS 3 TBo.e (clearL (copyL a f c (fun i=>(a.getD (g+i) dF))) (0+b) m j)))] })] [.w b,.pf (nn a.length),.ev 0,.ev 1,.pf (y2p ((copyL a f c (fun i=>(a.getD (g+i) dF))).length)),.pf (y2p ((copyL a f c (fun i=>(a.getD (g+i) dF))).length)),.pf (zcu (sz:=3) (e:=TBo.e) (l:=(copyL a f c (fun i=>(a.getD (g+i) dF)))) (off:=(0+b)) (n:=m) (z:=j))]<|
.cst (A:=True) (.pf trivial) [(0,(AV.ref 0 ((copyL a f c (fun i=>(a.getD (g+i) dF))).length) 0 b))] [(0,(AV.ref 0 ((clearL (copyL a f c (fun i=>(a.getD (g+i) dF))) (0+b) m j).length) 0 b))] [(eS 3 TBo.e (clearL (copyL a f c (fun i=>(a.getD (g+i) dF))) (0+b) m j))] [(eS 3 TBo.e (clearL (copyL a f c (fun i=>(a.getD (g+i) dF))) (0+b) m j))] (fun _=>⟨by simp +zetaDelta only[z1t,zw],by rfl⟩)<|
.guard [(clearL (copyL a f c (fun i=>(a.getD (g+i) dF))) (0+b) m j).length<2 ^ 63]<|
.reg 7 [] [] []<|
.guard [b<=(clearL (copyL a f c (fun i=>(a.getD (g+i) dF))) (0+b) m j).length]<|
.frz 0 (.ev 1) (some (.der (fun (h:b<=(clearL (copyL a f c (fun i=>(a.getD (g+i) dF))) (0+b) m j).length)=>(h:b<=(clearL (copyL a f c (fun i=>(a.getD (g+i) dF))) (0+b) m j).length)) 0)) [6] []<|
.lev 6 (AV.d (eL TBo.e ((clearL (copyL a f c (fun i=>(a.getD (g+i) dF))) (0+b) m j).take b))) (.der (fun (h:b<=(clearL (copyL a f c (fun i=>(a.getD (g+i) dF))) (0+b) m j).length)=>lvT TBo.e (clearL (copyL a f c (fun i=>(a.getD (g+i) dF))) (0+b) m j) h) 0)<|
.r ((clearL (copyL a f c (fun i=>(a.getD (g+i) dF))) (0+b) m j).take b))
def F_q4m (a:Int) (b:Int) (c:(List TBo)):=(S_q4m a b c).den
theorem F_q4m_ok {b:Int} {c:Int} {a:(List TBo)}:FO (F_q4m b c a) 193 [(AV.ref 0 a.length 0 a.length),(vi b),(vi c)] [(eS 3 TBo.e a)] (fun x=>(AV.d (eL TBo.e x))) (fun _=>[Ob.dead]):=fO (s:=S_q4m b c a) Tryz.func193
def V_q5f (x:(List TBo)):AV:=.ref 0 x.length 0 x.length
def L_q5f (a:List TBo) (x:(List TBo)):List Ob:=[eS 3 TBo.e x,eS 3 TBo.e a]
def F_q5f (a:Int) (b c:List TBo):Option (List TBo):=match c with
 | [y]=>guardP (0<=a/\a.toNat<=b.length/\(b.length+1) * (4 * 32)<=2 ^ 48) (some (insL b a.toNat y))
 | _=>none
theorem F_q5f_ok {c:Int} {f a:List TBo} (r:(List TBo)) (h:F_q5f c f a=some r):CallOk Tryz.prog 194 [(AV.ref 0 f.length 0 f.length),(AV.d (.i .i64 c)),(AV.ref 1 a.length 0 a.length)] [(eS 3 TBo.e f),(eS 3 TBo.e a)] (V_q5f r) (L_q5f a r):=by
 unfold F_q5f at h
 split at h
 ·rename_i y
  obtain⟨⟨h1,h2,h3⟩,h⟩:=z2x h
  obtain rfl:=y15 h
  obtain⟨i,rfl⟩:∃ i:Nat,c=(i:Int):=⟨c.toNat,(y5r h1).symm⟩
  exact InsG.ins_ok .b (fun _=>rfl) h2 h3
 ·cases h
abbrev R_q1v:=(List TBo)
def S_q1v_b1 (a0_0:(List TBo)) (f:Nat) (a:(List TPl)):SC R_q1v (Step ((List TPl)) R_q1v) :=
.reg 4 [] [] [.w f,.ev 0]<|
.call (@F_q3e_ok (a0_0.getD f dF)) fun i g=>
.guard [(a.length+1) * (2 * 24)<=2 ^ 48]<|
 let b:=([i]:List TPl)
.reg 5 [] [(4,hc g [] true),(5,hv (AV.d (eL TPl.e b))),(6,{ h:=.obj,cast:=some (AV.ref 2 ((a++b).length) 0 ((a++b).length)),obs:=[(2,(eS 2 TPl.e (a++b)))] })] [.cl 1 g [] 4 true,.pf (z7 TPl.e b),.e a.length,.e a.length,.pf (p:=∀ k,k<1->(TPl.d (b.getD k dF)).wd=2) (fun _ _=>rfl),.ev 0,.pf (zk (o:=2) (l:=a) (x:=b)),.pf (zj (sz:=2) (e:=TPl.e) (l:=a) (x:=b))]<|
.c (a++b)
def S_q1v (a0_0:(List TBo)) (o:TBo) (B:Bool):SC R_q1v R_q1v :=
.reg 2 [] [] []<|
.bor 2 (fun j=>AV.d (TPl.e (([]:List TPl).getD j dF))) [7]<|
.range (a0_0.length:Int) a0_0.length rfl (.slot 14) 16 [2,3,4,14,15] (fun (f:(List TPl))=>[(7,(AV.ref 2 f.length 0 f.length))]) (fun f=>[(2,(eS 2 TPl.e f))]) ([]:List TPl) (S_q1v_b1 a0_0) (fun f => 
.call (@F_q3e_ok o) fun v p=>
.call (@F_q1e_ok v f) fun c q=>
.reg 7 [] [(4,hc p [] true),(5,hc q [2] true)] [.cl 1 p [] 3 true,.cl 0 q [2] 3 true]<|
.call (@F_q4l_ok a0_0) fun a w=>
.k 8 2 w [] 3 false<|
.ite (bif B then c.2 else false) (
.call (@F_q4m_ok c.1 (i64.wrap (c.1+1)) a) fun y z=>
.k 10 4 z [3] 4 false<|
.r y) (
.ite B (
.guard [a.length<2 ^ 63]<|
.reg 12 [] [] []<|
.frz 3 (.ev 0) none [6] []<|
.r a) (
.ite c.2 (
 let m:=(0+c.1.toNat)
.guard [(0:Int)<=c.1,c.1.toNat<a.length,m<a.length]<|
 let g:=(a.set m o)
.reg 14 [] [(4,{ obs:=[(3,(eS 3 TBo.e g))] })] [.e a.length,.ev 0,.ev 1,.e a.length,.ev 2,.pf (z29 (sz:=3) (e:=TBo.e) (l:=a) (i:=m) (x:=o) (fun _=>rfl))]<|
 let s:=[(Ob.box (AV.agg [(AV.d (eL TBo.e a0_0)),(AV.fn 174 [])])),(TBo.b o),(eS 2 TPl.e f),(eS 3 TBo.e g)]
.cst (A:=True) (.pf trivial) [(12,(AV.ref 3 a.length 0 a.length))] [(12,(AV.ref 3 g.length 0 g.length))] s s (fun _=>⟨Zb,by rfl⟩)<|
.guard [g.length<2 ^ 63]<|
.reg 15 [] [] []<|
.frz 3 (.ev 0) none [6] []<|
.r g) (
 let n:=([o]:List TBo)
.call (@F_q5f_ok c.1 a n) fun t u=>
.reg 16 [] [(3,{ h:=.obj,obs:=[(4,(eS 3 TBo.e n))] }),(4,hc u [3,4] false)] [.pf (z93 (sz:=3) (e:=TBo.e) (l:=n)),.cl 0 u [3,4] 5 false]<|
.guard [t.length<2 ^ 63]<|
.frz 3 (.ev 0) none [6] []<|
.r t)))) id
def F_q1v (a0_0:(List TBo)) (a:TBo) (b:Bool):=(S_q1v a0_0 a b).den
theorem F_q1v_ok {a0_0:(List TBo)} {a:TBo} {b:Bool}:FO (F_q1v a0_0 a b) 175 [(AV.agg [(AV.d (eL TBo.e a0_0)),(AV.fn 174 [])]),(TBo.d a),(vb b)] [] (fun x=>(AV.d (eL TBo.e x))) NL:=fO (s:=S_q1v a0_0 a b) Tryz.func175
def S_q4n (b:TCh) (a:TLa):SC TLa TLa :=
.ite (b.R==1) (
.call (@F_q2f_ok a.P (⟨b.B,b.C,b.D⟩:TLi) (b.D==0)) fun g c=>
.reg 4 [19] [(16,hc c [] true)] [.cl 0 c [] 3 true]<|
.r (⟨a.E,a.I,a.F,g,a.J,a.O,a.K,a.M,a.N,a.A⟩:TLa)) (
 let d:=(⟨b.B,b.C,b.D⟩:TBo)
.ite (b.R==2) (
.call (@F_q1v_ok a.J d (b.D==(-1))) fun h e=>
.reg 6 [13] [(10,hc e [] true)] [.cl 0 e [] 3 true]<|
.r (⟨a.E,a.I,a.F,a.P,h,a.O,a.K,a.M,a.N,a.A⟩:TLa)) (
.ite (b.R==3) (
.call (@F_q1v_ok a.O d (b.D==0)) fun i f=>
.reg 8 [13] [(10,hc f [] true)] [.cl 0 f [] 3 true]<|
.r (⟨a.E,a.I,a.F,a.P,a.J,i,a.K,a.M,a.N,a.A⟩:TLa)) (
.r a)))
def F_q4n (a:TCh) (b:TLa):=(S_q4n a b).den
theorem F_q4n_ok {a:TCh} {c:TLa}:FO (F_q4n a c) 151 [(vp 0),(TCh.d a)] [(TLa.b c)] (fun _=>(AV.tup [])) (fun x=>[(TLa.b x)]):=fO (s:=S_q4n a c) Tryz.func151
theorem cz9:LeV (AV.d (DV.agg [(DV.i .i64 0),(DV.i .i64 0),Z0,Z0,Z0,Z0,Z0,Z0,Z0,Z0])) (TLa.d (⟨0,0,[],[],[],[],[],[],[],[]⟩:TLa)):=z8z rfl (DLe.agg (DLeL.cons (DLe.refl _) (DLeL.cons (DLe.refl _) (DLeL.cons DLe.sl0 (DLeL.cons DLe.sl0 (DLeL.cons DLe.sl0 (DLeL.cons DLe.sl0 (DLeL.cons DLe.sl0 (DLeL.cons DLe.sl0 (DLeL.cons DLe.sl0 (DLeL.cons DLe.sl0 DLeL.nil)))))))))))
def S_q1f_b1 (b:(List TCh)) (a:Nat) (d:TLa):SC (TLa×Int) (Step TLa (TLa×Int)) :=
.guard [(0+a)<b.length]<|
.reg 4 [] [] [.e b.length,.w a,.ev 1,.e b.length,.ev 0]<|
.call (@F_q4n_ok (b.getD (0+a) dF) d) fun f g=>
.k 5 1 g [1] 4 false<|
.c f
def S_q1f (h:TLa) (f:(List TCh)):SC (TLa×Int) (TLa×Int) :=
 let e:=(⟨0,0,[],[],[],[],[],[],[],[]⟩:TLa)
.reg 0 [] [(1,{ obs:=[(2,(TLa.b e))] })] [.pf cz2]<|
.a 1 1 3 (@F_q1u_ok h) fun g=>
.guard [f.length<2 ^ 63]<|
.range (f.length:Int) f.length rfl (.why (.ev 0)) 12 [2,4,10,11] (fun (_:TLa)=>[]) (fun c=>[(1,(TLa.b c))]) g (S_q1f_b1 f) (fun c => 
.ite (cO (cO (decide ((c.P.length:Int)>120)) (decide ((c.J.length:Int)>60))) (decide ((c.O.length:Int)>60))) (
.reg 8 [] [(0,hv (TLa.d e))] [.pf cz9]<|
.r (e,3)) (
.r (c,0))) id
def F_q1f (a:TLa) (b:(List TCh)):=(S_q1f a b).den
theorem F_q1f_ok {b:TLa} {a:(List TCh)}:FO (F_q1f b a) 115 [(TLa.d b),(AV.ref 0 a.length 0 a.length)] [(eS 4 TCh.e a)] (fun x=>(AV.tup [(TLa.d x.1),(vi x.2)])) (fun _=>[(eS 4 TCh.e a)]):=fO (s:=S_q1f b a) Tryz.func115
abbrev R_q1g:=TLa×Int
def S_q1g_b1 (j:TLa) (i:Int) (g:Nat) (a:(List TCh)):SC R_q1g (Step ((List TCh)) R_q1g) :=
.reg 12 [] [(2,{ obs:=[(4,(TAm.b (⟨0,0,[]⟩:TAm)))] })] [.w g,.ev 0,.pf cz1]<|
 let f:=(((j.A.take i.toNat).getD g dF).Q)
.guard [(a.length+f.length) * (2 * 40)<=2 ^ 48]<|
.reg 13 [] [(3,{ h:=.obj,cast:=some (AV.ref 3 ((a++f).length) 0 ((a++f).length)),obs:=[(3,(eS 4 TCh.e (a++f)))] })] [.e a.length,.e a.length,.pf (p:=∀ k,k<f.length->(TCh.d (f.getD k dF)).wd=4) (fun _ _=>rfl),.ev 0,.pf (zk (o:=3) (l:=a) (x:=f)),.pf (zj (sz:=4) (e:=TCh.e) (l:=a) (x:=f))]<|
.c (a++f)
def S_q1g (f:TLa) (q:Int):SC R_q1g R_q1g :=
 let h:=(⟨0,0,[],[],[],[],[],[],[],[]⟩:TLa)
.reg 0 [] [(2,{ obs:=[(2,(TLa.b h))] })] [.pf cz2]<|
.a 1 1 3 (@F_q35_ok f) fun l=>
 let m:=(0,hv (TLa.d h))
.ite (l != 0) (
.reg 3 [] [m] [.pf cz9]<|
.r (h,l)) (
.ite (cO (decide (q<0)) (decide (q>36000))) (
.reg 5 [] [m] [.pf cz9]<|
.r (h,2)) (
.call (@F_q2e_ok f.A q) fun n s=>
.k 6 3 s [1] 3 true<|
.cut none [2,4] (fun (c:Int)=>[(7,(vi c))]) (fun _=>[]) (
.ite (decide (n<0)) (
.r (.next (f.A.length:Int))) (
.r (.next n))) fun c=>
.guard [(0:Int)<=c,c.toNat<=f.A.length]<|
 let i:=c.toNat
.reg 10 [] [(4,hv (AV.d (eL TAm.e (f.A.take i))))] [.ev 0,.ev 1,.pf (p:=c=c) rfl,.der (fun (h0:c.toNat<=f.A.length)=>lvTF TAm.e f.A h0) 1]<|
.bor 4 (fun j=>AV.d (TCh.e (([]:List TCh).getD j dF))) [8]<|
.range ((f.A.take c.toNat).length:Int) ((f.A.take c.toNat).length) rfl (.slot 37) 39 [2,4,7,37,38] (fun (g:(List TCh))=>[(8,(AV.ref 3 g.length 0 g.length))]) (fun g=>[(3,(eS 4 TCh.e g))]) ([]:List TCh) (S_q1g_b1 f c) (fun g => 
.reg 15 [] [(3,hv (AV.d (eL TAm.e (f.A.drop i))))] [.ev 0,.ev 1,.pf (lvD TAm.e f.A i)]<|
.call (@F_q1f_ok (⟨f.E,f.I,f.F,f.P,f.J,f.O,f.K,f.M,f.N,(f.A.drop i)⟩:TLa) g) fun o t=>
.k 16 2 t [3] 4 true<|
.r (o.1,o.2)) id))
def F_q1g (a:TLa) (b:Int):=(S_q1g a b).den
theorem F_q1g_ok {a:TLa} {b:Int}:FO (F_q1g a b) 67 [(TLa.d a),(vi b)] [] (fun x=>(AV.tup [(TLa.d x.1),(vi x.2)])) NL:=fO (s:=S_q1g a b) Tryz.func67
abbrev R_q37:=Int×TLa×Bool×Int×TLa×Int
def S_q37 (e:Int) (p0_0:TLa) (p0_1:Bool) (p0_2:Int) (p0_3:TLa) (p0_4:Int) (f:(List TTr)):SC R_q37 R_q37 :=
.cut none [0] (fun (_:TLa×Bool×Int×TLa×Int)=>[]) (fun b=>[(0,(Ob.box (AV.agg [(TLa.d b.1),(AV.ref 1 f.length 0 f.length),(vb b.2.1),(vi b.2.2.1),(TLa.d b.2.2.2.1),(vi b.2.2.2.2)])))]) (
.ite (cO (!p0_1) (e != p0_2)) (
.a 2 7 2 (@F_q1g_ok p0_0 e) fun c=>
.r (.next (p0_0,true,e,c.1,c.2))) (
.r (.next (p0_0,p0_1,p0_2,p0_3,p0_4)))) fun b=>
.r (b.2.2.2.2,b.1,b.2.1,b.2.2.1,b.2.2.2.1,b.2.2.2.2)
def F_q37 (a:Int) (p0_0:TLa) (p0_1:Bool) (p0_2:Int) (p0_3:TLa) (p0_4:Int) (b:(List TTr)):=(S_q37 a p0_0 p0_1 p0_2 p0_3 p0_4 b).den
theorem F_q37_ok {b:Int} {p0_0:TLa} {p0_1:Bool} {p0_2:Int} {p0_3:TLa} {p0_4:Int} {a:(List TTr)}:FO (F_q37 b p0_0 p0_1 p0_2 p0_3 p0_4 a) 40 [(vp 0),(vi b)] [(Ob.box (AV.agg [(TLa.d p0_0),(AV.ref 1 a.length 0 a.length),(vb p0_1),(vi p0_2),(TLa.d p0_3),(vi p0_4)])),(eS 7 TTr.e a)] (fun x=>(vi x.1)) (fun x=>[(Ob.box (AV.agg [(TLa.d x.2.1),(AV.ref 1 a.length 0 a.length),(vb x.2.2.1),(vi x.2.2.2.1),(TLa.d x.2.2.2.2.1),(vi x.2.2.2.2.2)])),(eS 7 TTr.e a)]):=fO (s:=S_q37 b p0_0 p0_1 p0_2 p0_3 p0_4 a) Tryz.func40
def S_q4o (b:TRu) (c:TTr):SC Bool Bool :=
.calld [(b.H==c.U)=true] dF (@F_q15_ok c.L b.L) fun f d =>
 let a:=(bif (b.H==c.U) then f else false)
.calld [a=true] dF (@F_q15_ok c.V b.V) fun g e =>
.reg 1 [] [(10,hc d [] true),(17,hc e [] true)] [.clg 2 [(b.H==c.U)=true] d [] 2 true,.clg 0 [a=true] e [] 2 true]<|
.r (bif a then g else false)
def F_q4o (a:TRu) (b:TTr):=(S_q4o a b).den
theorem F_q4o_ok {c:TRu} {a:TTr}:FO (F_q4o c a) 78 [(TRu.d c),(vp 0)] [(TTr.b a)] vb (fun _=>[(TTr.b a)]):=fO (s:=S_q4o c a) Tryz.func78
def S_q2g_b1 (d:(List TRu)) (e:TTr) (a:Nat) (_:Unit):SC Int (Step Unit Int) :=
.call (@F_q4o_ok (d.getD a dF) e) fun c b=>
.reg 4 [] [(5,hc b [0] true)] [.w a,.ev 1,.cl 0 b [0] 1 true]<|
.ite c (
.r (.ret (a:Int))) (
.r (.cont ()))
def S_q2g (a:(List TRu)) (b:TTr):SC Int Int :=
.range (a.length:Int) a.length rfl (.slot 0) 8 [0,1,7] (fun (_:Unit)=>[]) (fun _=>[]) () (S_q2g_b1 a b) (fun _ => 
.r (-1)) id
def F_q2g (a:(List TRu)) (b:TTr):=(S_q2g a b).den
theorem F_q2g_ok {c:(List TRu)} {a:TTr}:FO (F_q2g c a) 77 [(AV.d (eL TRu.e c)),(AV.fn 78 [(vp 0)])] [(TTr.b a)] vi (fun _=>[(TTr.b a)]):=fO (s:=S_q2g c a) Tryz.func77
def S_q2h_b1 (c:TLa) (d:Y8) (e:Int) (b:Nat) (_:Unit):SC Int (Step Unit Int) :=
.reg 3 [] [] [.w b,.ev 0]<|
 let a:=(c.P.getD b dF)
.ite (bif (a.B==d) then (a.C==e) else false) (
.r (.ret a.D)) (
.r (.cont ()))
def S_q2h (a:TLa) (b:Y8) (c:Int):SC Int Int :=
.range (a.P.length:Int) a.P.length rfl (.slot 10) 12 [1,2,10,11] (fun (_:Unit)=>[]) (fun _=>[]) () (S_q2h_b1 a b c) (fun _ => 
.r 0) id
def F_q2h (a:TLa) (b:Y8) (c:Int):=(S_q2h a b c).den
theorem F_q2h_ok {a:TLa} {b:Y8} {c:Int}:FO (F_q2h a b c) 130 [(TLa.d a),(AV.d (DV.str b)),(vi c)] [] vi NL:=fO (s:=S_q2h a b c) Tryz.func130
def S_q4p (d:Int) (b:Int):SC (Int×Int) (Int×Int) :=
.a 1 1 0 (@F_q1p_ok d) fun c=>
.ite (cO (cO (!c) (decide (b<0))) (decide (b>100))) (
.r (0,2)) (
.reg 3 [] [] [.pf (p:=(100:Int)≠0) dk]<|
.r ((i64.wrap ((i64.wrap (d * b)).tdiv 100)),0))
def F_q4p (a:Int) (b:Int):=(S_q4p a b).den
theorem F_q4p_ok {a:Int} {b:Int}:FO (F_q4p a b) 129 [(vi a),(vi b)] [] (fun x=>(AV.tup [(vi x.1),(vi x.2)])) NL:=fO (s:=S_q4p a b) Tryz.func129
def S_q2i_b1 (g:TTr) (f:(List TTr)) (b:Nat) (d:Int):SC Int (Step Int Int) :=
.guard [(0+b)<f.length]<|
.reg 4 [] [] [.e f.length,.w b,.ev 1,.e f.length,.ev 0]<|
 let a:=(f.getD (0+b) dF)
.ite (bif (bif (a.U==g.U) then (a.C==g.C) else false) then (a.L==g.L) else false) (
.r (.cont (i64.wrap (d-a.D)))) (
.c d)
def S_q2i (h:TRu) (e:TTr) (_:TLa) (_:Bool) (_:Int) (p0_3:TLa) (_:Int) (d:(List TTr)):SC Int Int :=
.call (@F_q2h_ok p0_3 e.L e.C) fun f b=>
.call (@F_q4p_ok f h.T) fun g c=>
.reg 1 [] [(8,hc b [] true),(11,hc c [] true)] [.cl 1 b [] 4 true,.cl 0 c [] 4 true]<|
.guard [d.length<2 ^ 63]<|
.range (d.length:Int) d.length rfl (.why (.ev 0)) 31 [5,29,30] (fun (a:Int)=>[(7,(vi a))]) (fun _=>[]) g.1 (S_q2i_b1 e d) (fun a => 
.r a) id
def F_q2i (a:TRu) (b:TTr) (p0_0:TLa) (p0_1:Bool) (p0_2:Int) (p0_3:TLa) (p0_4:Int) (c:(List TTr)):=(S_q2i a b p0_0 p0_1 p0_2 p0_3 p0_4 c).den
theorem F_q2i_ok {b:TRu} {c:TTr} {p0_0:TLa} {p0_1:Bool} {p0_2:Int} {p0_3:TLa} {p0_4:Int} {a:(List TTr)}:FO (F_q2i b c p0_0 p0_1 p0_2 p0_3 p0_4 a) 79 [(vp 0),(TRu.d b),(TTr.d c)] [(Ob.box (AV.agg [(TLa.d p0_0),(AV.ref 1 a.length 0 a.length),(vb p0_1),(vi p0_2),(TLa.d p0_3),(vi p0_4)])),(eS 7 TTr.e a)] vi (fun _=>[(Ob.box (AV.agg [(TLa.d p0_0),(AV.ref 1 a.length 0 a.length),(vb p0_1),(vi p0_2),(TLa.d p0_3),(vi p0_4)])),(eS 7 TTr.e a)]):=fO (s:=S_q2i b c p0_0 p0_1 p0_2 p0_3 p0_4 a) Tryz.func79
def S_q4q (a:Int):SC Bool Bool :=
.r (bif (decide (a>=(-1000000000000000))) then (decide (a<=1000000000000000)) else false)
def F_q4q (a:Int):=(S_q4q a).den
theorem F_q4q_ok {a:Int}:FO (F_q4q a) 179 [(vi a)] [] vb NL:=fO (s:=S_q4q a) Tryz.func179
def S_q2j_b1 (i:(List Int)) (a:Nat) (j:Int):SC (Int×Int) (Step Int (Int×Int)) :=
.guard [(0+a)<i.length]<|
.reg 4 [] [] [.e i.length,.w a,.ev 1,.e i.length,.ev 0]<|
 let d:=(i.getD (0+a) dF)
.call (@F_q4q_ok d) fun b f=>
 let g:=(i64.wrap (j+d))
.calld [(!b)=false] dF (@F_q4q_ok g) fun k h =>
.reg 5 [] [(1,hc f [] true),(7,hc h [] true)] [.cl 2 f [] 1 true,.clg 0 [(!b)=false] h [] 1 true]<|
.ite (cO (!b) (!k)) (
.r (.ret (0,2))) (
.c g)
def S_q2j (b:(List Int)):SC (Int×Int) (Int×Int) :=
.guard [b.length<2 ^ 63]<|
.range (b.length:Int) b.length rfl (.why (.ev 0)) 9 [7,8] (fun (a:Int)=>[(4,(vi a))]) (fun _=>[]) 0 (S_q2j_b1 b) (fun a => 
.r (a,0)) id
def F_q2j (a:(List Int)):=(S_q2j a).den
theorem F_q2j_ok {a:(List Int)}:FO (F_q2j a) 155 [(AV.ref 0 a.length 0 a.length)] [(eS 1 (DV.i .i64) a)] (fun x=>(AV.tup [(vi x.1),(vi x.2)])) (fun _=>[(eS 1 (DV.i .i64) a)]):=fO (s:=S_q2j a) Tryz.func155
def S_q2k_b1 (t:(List TLi)) (n:Y8) (s:Int) (j:Nat) (a:(List Int)):SC (Int×Int) (Step ((List Int)) (Int×Int)) :=
.reg 4 [] [] [.w j,.ev 0]<|
 let f:=(t.getD j dF)
 let g:=(cO (s==(-1)) (f.C==s))
.calld [(n==([]))=false,g=true] dF (@F_q15_ok f.B n) fun q m =>
.reg 5 [] [(15,hc m [] true)] [.clg 0 [(n==([]))=false,g=true] m [] 2 true]<|
.ite (bif g then (cO (n==([])) q) else false) (
.guard [(a.length+1) * (2 * 8)<=2 ^ 48]<|
 let b:=([f.D]:List Int)
.reg 6 [] [(3,hv (vl b)),(4,{ h:=.obj,cast:=some (AV.ref 0 ((a++b).length) 0 ((a++b).length)),obs:=[(0,(eS 1 (DV.i .i64) (a++b)))] })] [.pf (z7 (DV.i .i64) b),.e a.length,.e a.length,.pf (p:=∀ k,k<1->(AV.d ((DV.i .i64) (b.getD k dF))).wd=1) (fun _ _=>rfl),.ev 0,.pf (zk (o:=0) (l:=a) (x:=b)),.pf (zj (sz:=1) (e:=(DV.i .i64)) (l:=a) (x:=b))]<|
.r (.cont (a++b))) (
.c a)
def S_q2k (c:(List TLi)) (f:Y8) (g:Int):SC (Int×Int) (Int×Int) :=
.reg 2 [] [] []<|
.bor 1 (fun j=>AV.d ((DV.i .i64) (([]:List Int).getD j dF))) [8]<|
.range (c.length:Int) c.length rfl (.slot 11) 13 [1,2,11,12] (fun (a:(List Int))=>[(8,(AV.ref 0 a.length 0 a.length))]) (fun a=>[(0,(eS 1 (DV.i .i64) a))]) ([]:List Int) (S_q2k_b1 c f g) (fun a => 
.call (@F_q2j_ok a) fun b e=>
.k 8 1 e [0] 1 true<|
.r (b.1,b.2)) id
def F_q2k (a:(List TLi)) (b:Y8) (c:Int):=(S_q2k a b c).den
theorem F_q2k_ok {a:(List TLi)} {b:Y8} {c:Int}:FO (F_q2k a b c) 119 [(AV.d (eL TLi.e a)),(AV.d (DV.str b)),(vi c)] [] (fun x=>(AV.tup [(vi x.1),(vi x.2)])) NL:=fO (s:=S_q2k a b c) Tryz.func119
def S_q4r (c:TLa) (d:Y8) (e:Int):SC (Int×Int) (Int×Int) :=
.a 1 4 1 (@F_q2k_ok c.P d e) fun b=>
.r (b.1,b.2)
def F_q4r (a:TLa) (b:Y8) (c:Int):=(S_q4r a b c).den
theorem F_q4r_ok {a:TLa} {b:Y8} {c:Int}:FO (F_q4r a b c) 71 [(TLa.d a),(AV.d (DV.str b)),(vi c)] [] (fun x=>(AV.tup [(vi x.1),(vi x.2)])) NL:=fO (s:=S_q4r a b c) Tryz.func71
def S_q16_b1 (k:Y8) (l:Int) (m:Int) (h:(List TTr)) (f:Nat) (g:Int):SC Int (Step Int Int) :=
.guard [(0+f)<h.length]<|
.reg 4 [] [] [.e h.length,.w f,.ev 1,.e h.length,.ev 0]<|
 let b:=(h.getD (0+f) dF)
.ite (cO (decide (b.G>m)) (bif (l != (-1)) then (b.C != l) else false)) (
.c g) (
.a 6 3 3 (@F_q15_ok b.V k) fun i=>
.cut none [1,2,3,12,26,27,28] (fun (d:Int)=>[(9,(vi d))]) (fun _=>[]) (
.ite i (
.r (.next (i64.wrap (g+b.D)))) (
.r (.next g))) fun d=>
.a 8 3 3 (@F_q15_ok b.L k) fun j=>
.ite j (
.r (.cont (i64.wrap (d-b.D)))) (
.c d))
def S_q16 (e:Y8) (f:Int) (g:Int) (_:TLa) (_:Bool) (_:Int) (p0_3:TLa) (_:Int) (c:(List TTr)):SC Int Int :=
.a 1 6 2 (@F_q4r_ok p0_3 e f) fun d=>
.guard [c.length<2 ^ 63]<|
.range (c.length:Int) c.length rfl (.why (.ev 0)) 28 [1,2,3,26,27] (fun (b:Int)=>[(9,(vi b))]) (fun _=>[]) d.1 (S_q16_b1 e f g c) (fun b => 
.r b) id
def F_q16 (a:Y8) (b:Int) (c:Int) (p0_0:TLa) (p0_1:Bool) (p0_2:Int) (p0_3:TLa) (p0_4:Int) (d:(List TTr)):=(S_q16 a b c p0_0 p0_1 p0_2 p0_3 p0_4 d).den
theorem F_q16_ok {b:Y8} {c:Int} {f:Int} {p0_0:TLa} {p0_1:Bool} {p0_2:Int} {p0_3:TLa} {p0_4:Int} {a:(List TTr)}:FO (F_q16 b c f p0_0 p0_1 p0_2 p0_3 p0_4 a) 42 [(vp 0),(AV.d (DV.str b)),(vi c),(vi f)] [(Ob.box (AV.agg [(TLa.d p0_0),(AV.ref 1 a.length 0 a.length),(vb p0_1),(vi p0_2),(TLa.d p0_3),(vi p0_4)])),(eS 7 TTr.e a)] vi (fun _=>[(Ob.box (AV.agg [(TLa.d p0_0),(AV.ref 1 a.length 0 a.length),(vb p0_1),(vi p0_2),(TLa.d p0_3),(vi p0_4)])),(eS 7 TTr.e a)]):=fO (s:=S_q16 b c f p0_0 p0_1 p0_2 p0_3 p0_4 a) Tryz.func42
def S_q3p (e:TBo) (h:Y8) (i:Y8) (j:TTr):SC Bool Bool :=
 let a:=(cO (e.C==j.C) (e.C==(-1)))
.calld [a=true] dF (@F_q15_ok h e.B) fun f c =>
 let b:=(bif a then f else false)
.calld [b=true] dF (@F_q15_ok i e.B) fun g d =>
.reg 1 [] [(14,hc c [] true),(20,hc d [] true)] [.clg 2 [a=true] c [] 2 true,.clg 0 [b=true] d [] 2 true]<|
.r (bif b then (!g) else false)
def F_q3p (a:TBo) (b:Y8) (c:Y8) (d:TTr):=(S_q3p a b c d).den
theorem F_q3p_ok {c:TBo} {e:Y8} {f:Y8} {a:TTr}:FO (F_q3p c e f a) 131 [(TBo.d c),(AV.d (DV.str e)),(AV.d (DV.str f)),(vp 0)] [(TTr.b a)] vb (fun _=>[(TTr.b a)]):=fO (s:=S_q3p c e f a) Tryz.func131
def S_qu_b1 (c:TTr) (p0_0:TLa) (p0_1:Bool) (p0_2:Int) (p0_3:TLa) (p0_4:Int) (h:(List TTr)) (d:Nat) (_:Unit):SC Bool (Step Unit Bool) :=
.reg 4 [] [] [.w d,.ev 0]<|
 let a:=(p0_3.J.getD d dF)
.call (@F_q3p_ok a c.V c.L c) fun b e=>
.calld [b=true] dF (@F_q16_ok a.B a.C c.G p0_0 p0_1 p0_2 p0_3 p0_4 h) fun g f =>
.reg 5 [] [(6,hc e [2] true),(15,hc f [0,1] true)] [.cl 2 e [2] 4 true,.clg 0 [b=true] f [0,1] 4 true]<|
.ite (bif b then (decide ((i64.wrap (g+c.D))>a.D)) else false) (
.r (.ret true)) (
.r (.cont ()))
def S_qu_b2 (c:TTr) (p0_0:TLa) (p0_1:Bool) (p0_2:Int) (p0_3:TLa) (p0_4:Int) (h:(List TTr)) (d:Nat) (_:Unit):SC Bool (Step Unit Bool) :=
.reg 10 [] [] [.w d,.ev 0]<|
 let a:=(p0_3.O.getD d dF)
.call (@F_q3p_ok a c.L c.V c) fun b e=>
.calld [b=true] dF (@F_q16_ok a.B a.C c.G p0_0 p0_1 p0_2 p0_3 p0_4 h) fun g f =>
.reg 11 [] [(6,hc e [2] true),(15,hc f [0,1] true)] [.cl 2 e [2] 4 true,.clg 0 [b=true] f [0,1] 4 true]<|
.ite (bif b then (decide ((i64.wrap (g-c.D))<a.D)) else false) (
.r (.ret true)) (
.r (.cont ()))
def S_qu (a:TTr) (p0_0:TLa) (p0_1:Bool) (p0_2:Int) (p0_3:TLa) (p0_4:Int) (b:(List TTr)):SC Bool Bool :=
.range (p0_3.J.length:Int) p0_3.J.length rfl (.slot 15) 17 [0,3,5,15,16] (fun (_:Unit)=>[]) (fun _=>[]) () (S_qu_b1 a p0_0 p0_1 p0_2 p0_3 p0_4 b) (fun _ => 
.range (p0_3.O.length:Int) p0_3.O.length rfl (.slot 49) 51 [0,3,5,49,50] (fun (_:Unit)=>[]) (fun _=>[]) () (S_qu_b2 a p0_0 p0_1 p0_2 p0_3 p0_4 b) (fun _ => 
.r false) id) id
def F_qu (a:TTr) (p0_0:TLa) (p0_1:Bool) (p0_2:Int) (p0_3:TLa) (p0_4:Int) (b:(List TTr)):=(S_qu a p0_0 p0_1 p0_2 p0_3 p0_4 b).den
theorem F_qu_ok {b:TTr} {p0_0:TLa} {p0_1:Bool} {p0_2:Int} {p0_3:TLa} {p0_4:Int} {a:(List TTr)}:FO (F_qu b p0_0 p0_1 p0_2 p0_3 p0_4 a) 80 [(vp 0),(TTr.d b)] [(Ob.box (AV.agg [(TLa.d p0_0),(AV.ref 1 a.length 0 a.length),(vb p0_1),(vi p0_2),(TLa.d p0_3),(vi p0_4)])),(eS 7 TTr.e a)] vb (fun _=>[(Ob.box (AV.agg [(TLa.d p0_0),(AV.ref 1 a.length 0 a.length),(vb p0_1),(vi p0_2),(TLa.d p0_3),(vi p0_4)])),(eS 7 TTr.e a)]):=fO (s:=S_qu b p0_0 p0_1 p0_2 p0_3 p0_4 a) Tryz.func80
end
end Go.Proofs.YtbmpcbbimefmoaaGreatDoor
