/- A part of the proof: what the functions compute, and that their calls return it. No condition. -/
import Derived.Test.YtclaojamgomjbaaGreatDoorT7
import Derived.Lib.AppendZerosOnto
import Derived.Test.YtclaojamgomjbaaGreatDoorProg
import Derived.Test.YtclaojamgomjbaaGreatDoorT4
import Derived.Test.YtclaojamgomjbaaGreatDoorG2
import Derived.Test.YtclaojamgomjbaaGreatDoorG3
/- slices.Insert of one element. No condition. -/
namespace Go.Proofs.YtclaojamgomjbaaGreatDoor
namespace Ins114
open Go Go.TA
def cL:Code→Code
 | .seq x _=>x
 | _=>.skip
def cR:Code→Code
 | .seq _ y=>y
 | _=>.skip
def cT:Code→Code
 | .cond _ x _=>x
 | _=>.skip
noncomputable def regOps:Code→Array Oper
 | .region _ ops _=>ops
 | _=>#[]
noncomputable def opAt (ops : Array Oper) (i : Nat) : Oper := (ops[i]?).getD { dst := none, op := .move (.tmp 0), type := 0, pos := "", after := #[], guard := none }
noncomputable def ci:Code:=Tryz.f114.body.getD .skip
noncomputable def R0:Code:=cL ci
noncomputable def R1:Code:=cL (cR ci)
noncomputable def R2:Code:=cL (cR (cR ci))
noncomputable def X3:Code:=cL (cR (cR (cR ci)))
noncomputable def R5:Code:=cL (cR (cR (cR (cR ci))))
noncomputable def X6:Code:=cL (cR (cR (cR (cR (cR ci)))))
noncomputable def T8:Code:=cR (cR (cR (cR (cR (cR ci)))))
noncomputable def R8:Code:=cL (cL T8)
noncomputable def B9:Code:=cT (cR (cL T8))
noncomputable def R9:Code:=cL B9
noncomputable def B10:Code:=cR B9
noncomputable def C13:Code:=cR T8
theorem zmi:Tryz.f114.body=some (.seq R0 (.seq R1 (.seq R2 (.seq (.seq (cL X3) (.cond (.tmp 16) (cT (cR X3)) .skip)) (.seq R5 (.seq (.seq (cL X6) (.cond (.tmp 22) (cT (cR X6)) .skip)) (.seq (.seq R8 (.cond (.tmp 31) (.seq R9 B10) .skip)) C13))))))):=by kernel_rfl
theorem zp4:R8 = .region 8 (regOps R8) false:=by kernel_rfl
theorem zp5:R9 = .region 9 (regOps R9) false:=by kernel_rfl
section
variable {α:Type} [Inhabited α] {e:α→DV}
def gB (e:α→DV) (l:List α) (i:Nat):Nat→AV:=fun j=>if j<i then .d (e (l.getD j default)) else garb 14
noncomputable def sB (l:List α) (x:α) (i:Nat) (n1:(0:Int)≤i) (h1:i≤l.length+1) (w0:0≤IntKind.i64.wrap ((i:Int)+1)) (w1:(IntKind.i64.wrap ((i:Int)+1)).toNat≤l.length+1) (h2:i≤l.length)
  (hx:∀ k,k<1→(AV.d (e ([x].getD (0+k) default))).wd=14) (hl:∀ k,k<l.length-i→(AV.d (e (l.getD (0+i+k) default))).wd=14)
  (ho:OLe (.seq 14 (l.length+1) fun j=>if 0+(IntKind.i64.wrap ((i:Int)+1)).toNat≤j∧j<0+(IntKind.i64.wrap ((i:Int)+1)).toNat+min (l.length-i) (l.length+1-(IntKind.i64.wrap ((i:Int)+1)).toNat) then .d (e (l.getD (0+i+(j-(0+(IntKind.i64.wrap ((i:Int)+1)).toNat))) default))
   else if 0+i≤j∧j<0+i+min 1 (l.length+1-i) then .d (e ([x].getD (0+(j-(0+i))) default)) else gB e l i j) (eS 14 e (insL l i x))):Scr Tryz.prog Unit Unit :=
 .reg 10 [] [] [.pf n1,.pf h1,.pf (Eq.refl (l.length+1)),.pf (Eq.refl 1),.pf (Eq.refl (l.length+1)),.pf hx] <|
 .reg 11 [8] [(8,{ obs:=[(2,eS 14 e (insL l i x))] })] [.pf w0,.pf w1,.pf (Eq.refl (l.length+1)),.pf n1,.pf h2,.pf (Eq.refl l.length),.pf (Eq.refl l.length),.pf (Eq.refl (l.length+1)),.pf hl,.pf ho] <|
 .ret [] ()
def frI (n i:Nat) (s:AV):Fr:=[(7,.d (.i .i64 1)),(8,.d (.i .i64 (n:Int))),(2,.ref 1 1 0 1),(1,.d (.i .i64 (i:Int))),(0,s)]
theorem tailB (he:∀ x,(e x).wd=14) {l:List α} {i:Nat} {x:α} (hi:i<l.length) (hl:l.length<100000000000000) :
  AW none Tryz.prog Tryz.f114.ntmps B10 (fun e1 fr L=>e1 = .ret∧FR Tryz.prog Tryz.f114 (.ref 2 (l.length+1) 0 (l.length+1)) [eS 14 e l,eS 14 e [x],eS 14 e (insL l i x)] fr L)
   ((9,.ref 2 (l.length+1) 0 (l.length+1)) :: frI l.length i (.ref 0 l.length 0 l.length)) [eS 14 e l,eS 14 e [x],.seq 14 (l.length+1) (gB e l i)]:=by
 have hw:IntKind.i64.wrap ((i:Int)+1)=(i:Int)+1:=by rw[z2z] <;> omega
 exact pTailR (ρ:=Unit) (V:=fun _=>.ref 2 (l.length+1) 0 (l.length+1)) (Lr:=fun _=>[eS 14 e l,eS 14 e [x],eS 14 e (insL l i x)]) (r:=())
  (s:=sB (e:=e) l x i (by omega) (by omega) (by rw[hw]; omega) (by rw[hw]; omega) (by omega) (fun k _=>he _) (fun k _=>he _) (by
   rw[hw]
   refine z3o z1a.symm fun j hj=>?_
   rw[z45 (by omega),show ((i:Int)+1).toNat=i+1 by omega]
   by_cases h1:j<i
   ·rw[if_neg (by omega),if_neg (by omega),if_pos h1,gB,if_pos h1]
   ·by_cases h2:j=i
    ·subst h2
     rw[if_neg (by omega),if_pos (by omega),if_neg h1,if_pos rfl,show 0+(j-(0+j))=0 by omega]
     rfl
    ·rw[if_pos (by omega),if_neg h1,if_neg h2]
     congr 3; omega)) (by kernel_rfl) rfl
def gC (e:α→DV) (l:List α):Nat→AV:=fun j=>if j<l.length then .d (e (l.getD j default)) else garb 14
noncomputable def sC (l:List α) (x:α) (i:Nat) (a0:(0:Int)≤IntKind.i64.wrap ((l.length:Int)+1)) (a1:(IntKind.i64.wrap ((l.length:Int)+1)).toNat≤l.length+1) (a2:(IntKind.i64.wrap ((l.length:Int)+1)).toNat=l.length+1)
  (w0:(0:Int)≤IntKind.i64.wrap ((i:Int)+1)) (w1:(IntKind.i64.wrap ((i:Int)+1)).toNat≤l.length+1) (n1:(0:Int)≤i) (h1:i≤l.length+1)
  (hx:ExtOk Tryz.prog 138 [.ref 1 1 0 1,.ref 0 (l.length+1) (0+(IntKind.i64.wrap ((i:Int)+1)).toNat) (l.length+1-(IntKind.i64.wrap ((i:Int)+1)).toNat)] [.seq 14 (l.length+1) (gC e l),eS 14 e [x]] (.d (.b false)))
  (hg:∀ k,k<l.length+1-i→(gC e l (0+i+k)).wd=14) (hy:∀ k,k<1→(AV.d (e ([x].getD (0+k) default))).wd=14)
  (ho:OLe (.seq 14 (l.length+1) fun j=>if 0+i≤j∧j<0+i+min 1 (l.length+1-i) then .d (e ([x].getD (0+(j-(0+i))) default))
   else if 0+(IntKind.i64.wrap ((i:Int)+1)).toNat≤j∧j<0+(IntKind.i64.wrap ((i:Int)+1)).toNat+min (l.length+1-i) (l.length+1-(IntKind.i64.wrap ((i:Int)+1)).toNat) then gC e l (0+i+(j-(0+(IntKind.i64.wrap ((i:Int)+1)).toNat)))
   else gC e l j) (eS 14 e (insL l i x))):Scr Tryz.prog Unit Unit :=
 .reg 13 [] [] [.pf a0,.pf a1,.pf (Eq.refl (l.length+1))] <|
 .cst (A:=(IntKind.i64.wrap ((l.length:Int)+1)).toNat=l.length+1) (.pf a2) [(0,.ref 0 (l.length+1) (0+0) ((IntKind.i64.wrap ((l.length:Int)+1)).toNat-0)),(1,.d (.i .i64 (i:Int))),(2,.ref 1 1 0 1),(7,.d (.i .i64 1))]
  [(0,.ref 0 (l.length+1) 0 (l.length+1)),(1,.d (.i .i64 (i:Int))),(2,.ref 1 1 0 1),(7,.d (.i .i64 1))]
  [.seq 14 (l.length+1) (gC e l),eS 14 e [x]] [.seq 14 (l.length+1) (gC e l),eS 14 e [x]] (fun h=>⟨by rw[h]; rfl,rfl⟩) <|
 .reg 14 [] [(6,{ h:=.callr (.d (.b false)) })] [.pf w0,.pf w1,.pf (Eq.refl (l.length+1)),.pf hx] <|
 .br true (.pf (p:=(!false)=true) rfl) <|
 .reg 15 [8] [] [.pf w0,.pf w1,.pf (Eq.refl (l.length+1)),.pf n1,.pf h1,.pf (Eq.refl (l.length+1)),.pf (Eq.refl (l.length+1)),.pf (Eq.refl (l.length+1)),.pf hg] <|
 .reg 16 [] [(4,{ obs:=[(0,eS 14 e (insL l i x))] })] [.pf n1,.pf h1,.pf (Eq.refl (l.length+1)),.pf (Eq.refl 1),.pf (Eq.refl (l.length+1)),.pf hy,.pf ho] <|
 .reg 17 [] [] [] <|
 .ret [] ()
theorem tailC (he:∀ x,(e x).wd=14) {l:List α} {i:Nat} {x:α} (hi:i<l.length) (hl:l.length<100000000000000) :
  AW none Tryz.prog Tryz.f114.ntmps C13 (FQ Tryz.prog Tryz.f114 (.ref 0 (l.length+1) 0 (l.length+1)) [eS 14 e (insL l i x),eS 14 e [x]])
   (frI l.length i (.ref 0 (l.length+1) 0 l.length)) [.seq 14 (l.length+1) (gC e l),eS 14 e [x]]:=by
 have hw:IntKind.i64.wrap ((i:Int)+1)=(i:Int)+1:=by rw[z2z] <;> omega
 have hw2:IntKind.i64.wrap ((l.length:Int)+1)=(l.length:Int)+1:=by rw[z2z] <;> omega
 have hwd:∀ k,(gC e l k).wd=14:=fun k=>by
  unfold gC
  split
  ·exact he _
  ·rfl
 exact pTailG (ρ:=Unit) (V:=fun _=>.ref 0 (l.length+1) 0 (l.length+1)) (Lr:=fun _=>[eS 14 e (insL l i x),eS 14 e [x]]) (r:=())
  (s:=sC (e:=e) l x i (by rw[hw2]; omega) (by rw[hw2]; omega) (by rw[hw2]; omega) (by rw[hw]; omega) (by rw[hw]; omega) (by omega) (by omega)
   (zfz (fn:=Tryz.f138) (tR:=4) (te:=43) (sz:=14) (z1:=14) (z2:=14) Tryz.func138 (by kernel_rfl) (by kernel_rfl) (by kernel_rfl) (by kernel_rfl) Tryz.underlying37 Tryz.sizeOf43 (by decide) rfl rfl (by decide) rfl (by rw[hw]; omega) (by rw[hw]; omega) (by decide))
   (fun k _=>hwd _) (fun k _=>he _) (by
   rw[hw]
   refine z3o z1a.symm fun j hj=>?_
   rw[z45 (by omega),show ((i:Int)+1).toNat=i+1 by omega]
   by_cases h2:j=i
   ·subst h2
    rw[if_pos (by omega),if_neg (by omega),if_pos rfl,show 0+(j-(0+j))=0 by omega]
    rfl
   ·rw[if_neg (by omega),if_neg h2]
    by_cases h1:j<i
    ·rw[if_neg (by omega),if_pos h1,gC,if_pos (by omega)]
    ·rw[if_pos (by omega),if_neg h1,gC,if_pos (by omega)]
     congr 3; omega)) (by kernel_rfl) rfl
theorem z47 {c:Cx} {G:GFr} {a:Act} {t:Nat} {v:AV} (hf:FrIs c G a.tmps) (h:(t,[],v)∈G):AV.IsV c v (a.tmps.getD t undef):=(hf _ h).2.1 (fun z hz=>by cases hz)
theorem zp6 {l:List α} {i:Nat} {x:α} (h0:0<l.length) {Q:Exit→Act→World→Prop} {X:Nat→Prop} {ms:Blocks} {w:World} {a:Act} {zn:Nat} (hr:Rel X ms [eS 14 e l,eS 14 e [x]] w)
  (hf:FrIs (cxOf X ms [eS 14 e l,eS 14 e [x]] w) (frI l.length i (.ref 0 l.length 0 l.length)).up a.tmps) (hN:a.tmps.size=Tryz.f114.ntmps)
  (hQ:∀ a' ms' w' b tc,Rel X ms' [eS 14 e l,eS 14 e [x]] w'→Ext ms w ms' w'→(cxOf X ms [eS 14 e l,eS 14 e [x]] w).le (cxOf X ms' [eS 14 e l,eS 14 e [x]] w')→FrIs (cxOf X ms' [eS 14 e l,eS 14 e [x]] w') (frI l.length i (.ref 0 l.length 0 l.length)).up a'.tmps →
   a'.tmps.size=Tryz.f114.ntmps→a'.defers=a.defers→ms'[0]? = some (some (b,tc))→l.length≤tc→a'.eval (.tmp 0) = .slice (some ⟨b,0,none⟩) l.length tc→a'.eval (.tmp 31) = .bool (decide (IntKind.i64.wrap ((l.length:Int)+1)>(tc:Int)))→Q .normal a' w') :
  R8.wpIn (fenceOf none) zn Tryz.prog Q a w:=by
 rw[zp4]
 refine wpIn_region ?_
 rw[show List.range (regOps R8).size=[0,1,2,3]++[4,5] by kernel_rfl]
 refine zcm (hs:=[]) (C:=[]) (L1:=[eS 14 e l,eS 14 e [x]]) (G1:=[(29,[],.ref 0 l.length 0 l.length),(28,[],.d (.i .i64 (IntKind.i64.wrap ((l.length:Int)+1)))),(27,[],.d (.i .i64 1)),(26,[],.d (.i .i64 (l.length:Int))),
  (7,[],.d (.i .i64 1)),(8,[],.d (.i .i64 (l.length:Int))),(2,[],.ref 1 1 0 1),(1,[],.d (.i .i64 (i:Int))),(0,[],.ref 0 l.length 0 l.length)]) (by kernel_rfl) trivial hr hf hN fun a1 ms1 w1 r1 e1 c1 f1 n1 d1=>?_
 have k1:=IsV.is1 rfl (by simp) (by simp) (z47 f1 (t:=29) (v:=.ref 0 l.length 0 l.length) (by simp))
 have k0:=IsV.is1 rfl (by simp) (by simp) (z47 f1 (t:=0) (v:=.ref 0 l.length 0 l.length) (by simp))
 have at0:∀ {t:Nat} {v:Value},a1.tmps.getD t undef=v→AV.Is (cxOf X ms1 [eS 14 e l,eS 14 e [x]] w1) (.ref 0 l.length 0 l.length) [v]→∃ b tc,ms1[0]? = some (some (b,tc))∧l.length≤tc∧v = .slice (some ⟨b,0,none⟩) l.length tc:=fun {t v} _ h=>by
  cases h with
  | ref _ _ _ _ _ h =>
  obtain⟨_,⟨_,_,rfl⟩,_,h⟩:=h
  obtain⟨_,h⟩:=h 14 _ rfl
  rcases h with ⟨_,_,h⟩ | ⟨h,_⟩ | ⟨b,tc,m,h1,h2⟩
  ·simp only[Value.slice.injEq] at h; omega
  ·exact absurd rfl h
  ·exact⟨b,tc,m,h1,by simpa using h2⟩
 obtain⟨b,tc,m1,hle,h29⟩:=at0 rfl k1
 obtain⟨b',tc',m1',_,h0'⟩:=at0 rfl k0
 have e1':=m1'.symm.trans m1
 cases e1'
 refine zh3 (o:=opAt (regOps R8) 4) (by kernel_rfl) (by kernel_rfl) (OpOk.value (znd (x:=.tmp 29) (t:=37) (by kernel_rfl) Tryz.underlying37 h29) ?_)
 rw[show (opAt (regOps R8) 4).dst=some 30 by kernel_rfl]
 obtain⟨p1,p2,p3⟩:=z42 (dst:=some 30) (ch:=[]) (v:=.d (.i .i64 (tc:Int))) (u:=.int .i64 tc) (G:=[(29,[],.ref 0 l.length 0 l.length),(28,[],.d (.i .i64 (IntKind.i64.wrap ((l.length:Int)+1)))),(27,[],.d (.i .i64 1)),(26,[],.d (.i .i64 (l.length:Int))),
  (7,[],.d (.i .i64 1)),(8,[],.d (.i .i64 (l.length:Int))),(2,[],.ref 1 1 0 1),(1,[],.d (.i .i64 (i:Int))),(0,[],.ref 0 l.length 0 l.length)]) (G1:=(30,[],.d (.i .i64 (tc:Int))) :: [(29,[],.ref 0 l.length 0 l.length),(28,[],.d (.i .i64 (IntKind.i64.wrap ((l.length:Int)+1)))),(27,[],.d (.i .i64 1)),(26,[],.d (.i .i64 (l.length:Int))),
  (7,[],.d (.i .i64 1)),(8,[],.d (.i .i64 (l.length:Int))),(2,[],.ref 1 1 0 1),(1,[],.d (.i .i64 (i:Int))),(0,[],.ref 0 l.length 0 l.length)]) (N:=Tryz.f114.ntmps) (by kernel_rfl) n1 f1 (fun _=>.one _ _ rfl (.d _ _ (.i _ _))) (fun h=>absurd (fun z hz=>by cases hz) h)
 refine z2g (hs:=[]) none zn [5] _ _ ([(31,[],.d (.b (decide (IntKind.i64.wrap ((l.length:Int)+1)>(tc:Int)))))]++(30,[],.d (.i .i64 (tc:Int))) :: [(29,[],.ref 0 l.length 0 l.length),(28,[],.d (.i .i64 (IntKind.i64.wrap ((l.length:Int)+1)))),(27,[],.d (.i .i64 1)),(26,[],.d (.i .i64 (l.length:Int))),
  (7,[],.d (.i .i64 1)),(8,[],.d (.i .i64 (l.length:Int))),(2,[],.ref 1 1 0 1),(1,[],.d (.i .i64 (i:Int))),(0,[],.ref 0 l.length 0 l.length)]) [eS 14 e l,eS 14 e [x]] [] ms1 w1 _ (by kernel_rfl) trivial r1 p1 p2 fun a2 ms2 w2 r2 e2 c2 f2 n2 d2=>?_
 have m2:ms2[0]? = some (some (b,tc)):=by
  obtain⟨_,h1,_,_,h2⟩:=c2.ob 0 (eS 14 e l) (by simp[cxOf]) rfl (by simp[eS,Ob.stamp])
  obtain rfl:_=eS 14 e l:=Option.some.inj h1.symm
  exact (h2 rfl).trans m1
 have k0':=IsV.is1 rfl (by simp) (by simp) (z47 f2 (t:=0) (v:=.ref 0 l.length 0 l.length) (by simp))
 have h0'':a2.tmps.getD 0 undef = .slice (some ⟨b,0,none⟩) l.length tc:=by
  generalize a2.tmps.getD 0 undef=v at k0'
  cases k0' with
  | ref _ _ _ _ _ h =>
  obtain⟨_,⟨_,_,rfl⟩,_,h⟩:=h
  obtain⟨_,h⟩:=h 14 _ rfl
  rcases h with ⟨_,_,h⟩ | ⟨h,_⟩ | ⟨b'',tc'',m,h1,h2⟩
  ·simp only[Value.slice.injEq] at h; omega
  ·exact absurd rfl h
  ·have e:=m2.symm.trans m
   cases e
   simpa using h2
 exact hQ a2 ms2 w2 b tc r2 (e1.trans e2) (c1.trans c2) (fun q hq=>f2 q (by
  simp only[frI,Fr.up,List.map_cons,List.map_nil,List.mem_cons,List.not_mem_nil,or_false] at hq
  rcases hq with rfl | rfl | rfl | rfl | rfl <;> simp)) n2 (d2.trans (p3.trans d1)) m2 hle h0'' (IsV.b (z47 f2 (t:=31) (v:=.d (.b (decide (IntKind.i64.wrap ((l.length:Int)+1)>(tc:Int))))) (by simp)))
theorem zp7 {l:List α} {i:Nat} {x:α} (hi:i<l.length) (hl:(l.length+1) * (4 * 120)≤2 ^ 48) {Q:Exit→Act→World→Prop} {X:Nat→Prop} {ms:Blocks} {w:World} {a:Act} {zn b:Nat} (hr:Rel X ms [eS 14 e l,eS 14 e [x]] w)
  (hf:FrIs (cxOf X ms [eS 14 e l,eS 14 e [x]] w) (frI l.length i (.ref 0 l.length 0 l.length)).up a.tmps) (hN:a.tmps.size=Tryz.f114.ntmps) (hm:ms[0]? = some (some (b,l.length)))
  (hQ:∀ a' ms' w',Rel X ms' [eS 14 e l,eS 14 e [x],.seq 14 (l.length+1) (gB e l i)] w'→Ext ms w ms' w'→(cxOf X ms [eS 14 e l,eS 14 e [x]] w).le (cxOf X ms' [eS 14 e l,eS 14 e [x],.seq 14 (l.length+1) (gB e l i)] w') →
   FrIs (cxOf X ms' [eS 14 e l,eS 14 e [x],.seq 14 (l.length+1) (gB e l i)] w') (Fr.up ((9,.ref 2 (l.length+1) 0 (l.length+1)) :: frI l.length i (.ref 0 l.length 0 l.length))) a'.tmps →
   a'.tmps.size=Tryz.f114.ntmps→a'.defers=a.defers→Q .normal a' w') :
  R9.wpIn (fenceOf none) zn Tryz.prog Q a w:=by
 have hn:l.length<100000000000000:=by omega
 have hw2:IntKind.i64.wrap ((l.length:Int)+1)=(l.length:Int)+1:=by rw[z2z] <;> omega
 have hw3:IntKind.i64.wrap (IntKind.i64.wrap ((l.length:Int)+1)-(i:Int))=((l.length+1-i:Nat):Int):=by rw[hw2,z2z] <;> omega
 rw[zp5]
 refine wpIn_region ?_
 rw[show List.range (regOps R9).size=[0,1,2,3,4,5,6,7]++[8,9] by kernel_rfl]
 refine zcm (hs:=[]) (C:=[(0:Int)≤(i:Int),i≤l.length,l.length=l.length]) (L1:=[eS 14 e l,eS 14 e [x]]) (G1:=[(39,[],.d (.i .i64 (IntKind.i64.wrap (IntKind.i64.wrap ((l.length:Int)+1)-(i:Int))))),(38,[],.d (.i .i64 (i:Int))),(37,[],.d (.i .i64 (IntKind.i64.wrap ((l.length:Int)+1)))),
  (36,[],.d (.i .i64 1)),(35,[],.d (.i .i64 (l.length:Int))),(34,[],.ref 0 l.length (0+0) (i-0)),(33,[],.d (.i .i64 (i:Int))),(32,[],.ref 0 l.length 0 l.length),
  (7,[],.d (.i .i64 1)),(8,[],.d (.i .i64 (l.length:Int))),(2,[],.ref 1 1 0 1),(1,[],.d (.i .i64 (i:Int))),(0,[],.ref 0 l.length 0 l.length)]) (by kernel_rfl) ⟨by omega,by omega,rfl,trivial⟩ hr hf hN fun a1 ms1 w1 r1 e1 c1 f1 n1 d1=>?_
 have m1:ms1[0]? = some (some (b,l.length)):=by
  obtain⟨_,h1,_,_,h2⟩:=c1.ob 0 (eS 14 e l) (by simp[cxOf]) rfl (by simp[eS,Ob.stamp])
  obtain rfl:_=eS 14 e l:=Option.some.inj h1.symm
  exact (h2 rfl).trans hm
 have k34:=IsV.is1 rfl (by simp) (by simp) (z47 f1 (t:=34) (v:=.ref 0 l.length (0+0) (i-0)) (by simp))
 have h34:a1.eval (.tmp 34) = .slice (some ⟨b,0,none⟩) i l.length:=by
  show a1.tmps.getD 34 undef=_
  generalize a1.tmps.getD 34 undef=v at k34
  cases k34 with
  | ref _ _ _ _ _ h =>
  obtain⟨_,⟨_,_,rfl⟩,_,h⟩:=h
  obtain⟨_,h⟩:=h 14 _ rfl
  rcases h with ⟨h,_⟩ | ⟨h,_⟩ | ⟨b'',tc'',m,h1,h2⟩
  ·have e:some (none:Option (Nat×Nat))=some (some (b,l.length)):=h.symm.trans m1
   cases e
  ·exact absurd rfl h
  ·have e:=m1.symm.trans m
   cases e
   simpa using h2
 have h39:a1.eval (.tmp 39) = .int .i64 ((l.length+1-i:Nat):Int):=by
  have:=IsV.i (z47 f1 (t:=39) (v:=.d (.i .i64 (IntKind.i64.wrap (IntKind.i64.wrap ((l.length:Int)+1)-(i:Int))))) (by simp))
  rw[hw3] at this
  exact this
 obtain⟨arr,ty,cs,g1,g2,g3,g4,g5,g6⟩:=r1.seq (o:=0) rfl m1
 obtain⟨info,hinf⟩:∃ info,Tryz.prog.info? 43=some info:=⟨_,Option.eq_some_of_isSome (by kernel_rfl)⟩
 have hsz:info.size=14:=by
  have:(Tryz.prog.info? 43).map (·.size)=some 14:=by kernel_rfl
  rw[hinf] at this; simpa using this
 have hby:info.bytes=120:=by
  have:(Tryz.prog.info? 43).map (·.bytes)=some 120:=by kernel_rfl
  rw[hinf] at this; simpa using this
 obtain⟨z,hz⟩:∃ z,info.zero=some z:=by
  have:((Tryz.prog.info? 43).bind (·.zero)).isSome=true:=by kernel_rfl
  rw[hinf] at this
  exact Option.isSome_iff_exists.1 this
 have hzs:z.cells.size=14:=by
  have:((Tryz.prog.info? 43).bind (·.zero)).map (fun z=>z.cells.size)=some 14:=by kernel_rfl
  rw[hinf] at this
  simpa [hz] using this
 have hzone:∀ v∈z.cells.toList,v.oneCell'=true:=by
  have:((Tryz.prog.info? 43).bind (·.zero)).map (fun z=>z.cells.toList.all fun v=>v.oneCell')=some true:=by kernel_rfl
  rw[hinf] at this
  have h:z.cells.toList.all (fun v=>v.oneCell')=true:=by simpa [hz] using this
  exact List.all_eq_true.1 h
 have hcsi:∀ k,k<i→(cs k).length=14:=fun k hk=>g5 k (by omega)
 have hold:(Builtin.firstCells info.size i (.slice (some ⟨b,0,none⟩) i l.length)).run Tryz.prog w1.drew = .ok ((List.range i).flatMap cs).toArray w1.drew:=by
  rw[hsz]
  exact z34 (w:=w1) (w1:=w1.drew) (off:=0) (cap:=l.length) rfl g1 hcsi (fun k hk j hj=>by simpa using g6 k (by omega) j hj) i
 have hfit:Builtin.nextslicecap (i+(l.length+1-i)) l.length * info.bytes≤281474976710656:=by
  have h1:=z5u (need:=i+(l.length+1-i)) (old:=l.length) (by omega)
  rw[hby]
  omega
 have hap:=Lib.run_append_grow_zeros (P:=Tryz.prog) w1 37 3 (opAt (regOps R9) 8).type 43 info z .i64 .i64 Tryz.underlying37 Tryz.underlying3 hinf hz (some ⟨b,0,none⟩) i l.length ((List.range i).flatMap cs) hold (l.length+1-i) (by omega) (by omega) (by omega) (by omega) (by rw[hby]; omega) hfit
 rw[show i+(l.length+1-i)=l.length+1 by omega] at hap
 obtain⟨nc,hnc⟩:∃ nc,nc=grownCap w1 (l.length+1) l.length 43:=⟨_,rfl⟩
 have hge:=grownCap_ge w1 (l.length+1) l.length 43
 rw[← hnc] at hap hge
 obtain⟨row,hrow⟩:∃ row:Array Value,row=((List.range i).flatMap cs).toArray++Builtin.zeroCells z.cells (l.length+1-i)++Builtin.zeroCells z.cells (nc-(l.length+1)):=⟨_,rfl⟩
 rw[← hrow] at hap
 have hkl:=zg i 14 cs hcsi
 have hrs:row.size=nc * 14:=by
  rw[hrow,Array.size_append,Array.size_append,List.size_toArray,hkl,size_zeroCells,size_zeroCells,hzs]
  omega
 have hone:∀ v∈row.toList,v.oneCell'=true:=by
  rw[hrow]
  simp only[Array.toList_append,List.mem_append]
  rintro v ((hv | hv) | hv)
  ·exact z2q (fun k (hk:k<i)=>g4 k (by omega)) v hv
  ·exact z3g hzone _ v hv
  ·exact z3g hzone _ v hv
 have hget:∀ k,k<i→∀ j,j<14→row[k * 14+j]? = (cs k)[j]? := fun k hk j hj=>by
  rw[hrow,← Array.getElem?_toList]
  simp only[Array.toList_append,List.append_assoc]
  rw[List.getElem?_append_left (by rw[hkl]; omega)]
  exact zk? i 14 cs hcsi k j hk hj
 have hcl:∀ j,j<l.length+1→((row.toList.drop (j * 14)).take 14).length=14:=fun j hj=>by
  simp only[List.length_take,List.length_drop,Array.length_toList,hrs]
  omega
 obtain⟨w2,hw⟩:∃ w2,w2=w1.drew.alloc (.cells row 43):=⟨_,rfl⟩
 rw[← hw] at hap
 have hgrow:Grow w1 w2:=by rw[hw]; exact (Grow.drew w1).trans (Grow.alloc _ _)
 have hhp:w2.heap[w1.heap.size]? = some (.cells row 43 (0,0)):=by rw[hw]; exact z2i w1.drew _
 have hsize:w1.heap.size<w2.heap.size:=zaj hhp
 obtain⟨q1,q2,q3⟩:=r1.push (m:=some (w1.heap.size,nc)) (obj:=.seq 14 (l.length+1) (gB e l i)) hgrow (fun b tc e=>by cases e; exact⟨Nat.le_refl _,hsize⟩) (fun hcx=>by
  refine .inr ⟨w1.heap.size,nc,row,43,fun j=>if j<i then cs j else (row.toList.drop (j * 14)).take 14,by simp[cxOf,← r1.len],hhp,hge,⟨hrs,hone⟩,fun j hj=>?_,fun j hj=>?_,fun j hj q hq=>?_⟩
  ·by_cases hji:j<i
   ·simp only[gB,if_pos hji]; exact (g4 j (by omega)).mono hcx
   ·simp only[gB,if_neg hji,garb]
    have:=zbp (c:=cxOf X (ms1++[some (w1.heap.size,nc)]) ([eS 14 e l,eS 14 e [x]]++[.seq 14 (l.length+1) (gB e l i)]) w2) (l:=(row.toList.drop (j * 14)).take 14) fun v hv=>hone v (List.mem_of_mem_drop (List.mem_of_mem_take hv))
    rw[hcl j hj] at this
    exact .agg _ _ this
  ·by_cases hji:j<i
   ·simp only[if_pos hji]; exact g5 j (by omega)
   ·simp only[if_neg hji]; exact hcl j hj
  ·by_cases hji:j<i
   ·simp only[if_pos hji]; exact hget j hji q hq
   ·simp only[if_neg hji]
    rw[List.getElem?_take_of_lt hq,List.getElem?_drop,Array.getElem?_toList])
 have hexec:(execOp a1.eval (opAt (regOps R9) 8)).run Tryz.prog w1 = .ok (.value (.slice (some ⟨w1.heap.size,0,none⟩) (l.length+1) nc)) w2:=by
  have hop:(opAt (regOps R9) 8).op = .call ⟨.builtin .append,#[.tmp 34,.tmp 39],#[37,3]⟩:=by kernel_rfl
  generalize opAt (regOps R9) 8=o at hop hap
  obtain⟨dst,op,ty,pos,after,guard⟩:=o
  subst hop
  refine z13 (s:=Builtin.append_ #[37,3] ty (#[.tmp 34,.tmp 39].map a1.eval)) ?_
  have ha:(#[.tmp 34,.tmp 39]:Array Operand).map a1.eval = #[.slice (some ⟨b,0,none⟩) i l.length,.int .i64 ((l.length+1-i:Nat):Int)]:=by
   simp[h34,h39]
  rw[ha]
  exact hap
 refine zh3 (o:=opAt (regOps R9) 8) (by kernel_rfl) (by kernel_rfl) (OpOk.value hexec ?_)
 rw[show (opAt (regOps R9) 8).dst=some 40 by kernel_rfl]
 obtain⟨p1,p2,p3⟩:=z42 (dst:=some 40) (ch:=[]) (v:=.ref 2 (l.length+1) 0 (l.length+1)) (u:=.slice (some ⟨w1.heap.size,0,none⟩) (l.length+1) nc) (G:=(frI l.length i (.ref 0 l.length 0 l.length)).up)
  (G1:=(40,[],.ref 2 (l.length+1) 0 (l.length+1)) :: (frI l.length i (.ref 0 l.length 0 l.length)).up) (N:=Tryz.f114.ntmps) (by kernel_rfl) n1 (fun q hq=>(f1.mono q3) q (by
  simp only[frI,Fr.up,List.map_cons,List.map_nil,List.mem_cons,List.not_mem_nil,or_false] at hq
  rcases hq with rfl | rfl | rfl | rfl | rfl <;> simp)) (fun _=>z8r r1.len hge) (fun h=>absurd (fun z hz=>by cases hz) h)
 refine z2g (hs:=[]) none zn [9] _ _ ((9,[],.ref 2 (l.length+1) 0 (l.length+1)) :: (40,[],.ref 2 (l.length+1) 0 (l.length+1)) :: (frI l.length i (.ref 0 l.length 0 l.length)).up) [eS 14 e l,eS 14 e [x],.seq 14 (l.length+1) (gB e l i)] [] _ w2 _ (by kernel_rfl) trivial q1 p1 p2 fun a2 ms2 w3 r2 e2 c2 f2 n2 d2=>?_
 exact hQ a2 ms2 w3 r2 ((e1.trans q2).trans e2) ((c1.trans q3).trans c2) (fun q hq=>f2 q (by
  rcases List.mem_cons.1 (show q∈(9,[],AV.ref 2 (l.length+1) 0 (l.length+1)) :: (frI l.length i (.ref 0 l.length 0 l.length)).up from hq) with hq | hq
  ·exact List.mem_cons.2 (.inl hq)
  ·exact List.mem_cons.2 (.inr (List.mem_cons.2 (.inr hq))))) n2 (d2.trans (p3.trans d1))
theorem regc {N:Nat} {Q:Post} {fr fr' fr2:Fr} {L L':List Ob} {id:Nat} {c:Code} {C:List Prop} (hq:c = .region id (regOps c) false) (h:regionRun Tryz.prog (regOps c) N [] fr L=some (fr',L',C)) (hc:AllP C)
  (hm:∀ q∈fr2,q∈fr') (k:Q .normal fr2 L'):AW none Tryz.prog N c Q fr L:=by
 have:=zne (id:=id) (Q:=Q) h hc hm k
 rwa [← hq] at this
theorem head (_he:∀ x,(e x).wd=14) {l:List α} {i:Nat} {x:α} (hi:i<l.length) (Q:Post) (h:AW none Tryz.prog Tryz.f114.ntmps (.seq (.seq R8 (.cond (.tmp 31) (.seq R9 B10) .skip)) C13) Q (frI l.length i (.ref 0 l.length 0 l.length)) [eS 14 e l,eS 14 e [x]]) :
  AW none Tryz.prog Tryz.f114.ntmps (.seq R0 (.seq R1 (.seq R2 (.seq (.seq (cL X3) (.cond (.tmp 16) (cT (cR X3)) .skip)) (.seq R5 (.seq (.seq (cL X6) (.cond (.tmp 22) (cT (cR X6)) .skip)) (.seq (.seq R8 (.cond (.tmp 31) (.seq R9 B10) .skip)) C13))))))) Q
   (argFr [.ref 0 l.length 0 l.length,.d (.i .i64 (i:Int)),.ref 1 1 0 1] 0) [eS 14 e l,eS 14 e [x]]:=by
 have hne:((i:Int)==(l.length:Int))=false:=by simp; omega
 refine z3v (regc (L':=[eS 14 e l,eS 14 e [x]]) (id:=0) (C:=[]) (fr':=(6,.full 0 fun _=>.b false) :: argFr [.ref 0 l.length 0 l.length,.d (.i .i64 (i:Int)),.ref 1 1 0 1] 0) (fr2:=argFr [.ref 0 l.length 0 l.length,.d (.i .i64 (i:Int)),.ref 1 1 0 1] 0)
  (by kernel_rfl) (by kernel_rfl) trivial (fun q hq=>List.mem_cons_of_mem _ hq) ?_)
 refine z3v (regc (L':=[eS 14 e l,eS 14 e [x]]) (id:=1) (C:=[(0:Int)≤(i:Int),i≤l.length,l.length=l.length]) (fr':=(12,.ref 0 l.length (0+i) (l.length-i)) :: (11,.d (.i .i64 (i:Int))) :: (10,.ref 0 l.length 0 l.length) :: argFr [.ref 0 l.length 0 l.length,.d (.i .i64 (i:Int)),.ref 1 1 0 1] 0)
  (fr2:=argFr [.ref 0 l.length 0 l.length,.d (.i .i64 (i:Int)),.ref 1 1 0 1] 0)
  (by kernel_rfl) (by kernel_rfl) ⟨by omega,by omega,rfl,trivial⟩ (fun q hq=>List.mem_cons_of_mem _ (List.mem_cons_of_mem _ (List.mem_cons_of_mem _ hq))) ?_)
 refine z3v (regc (L':=[eS 14 e l,eS 14 e [x]]) (id:=2) (C:=[]) (fr':=(7,.d (.i .i64 1)) :: (14,.d (.i .i64 1)) :: (13,.ref 1 1 0 1) :: argFr [.ref 0 l.length 0 l.length,.d (.i .i64 (i:Int)),.ref 1 1 0 1] 0)
  (fr2:=[(7,.d (.i .i64 1)),(2,.ref 1 1 0 1),(1,.d (.i .i64 (i:Int))),(0,.ref 0 l.length 0 l.length)])
  (by kernel_rfl) (by kernel_rfl) trivial (fun q hq=>by
   simp only[List.mem_cons,List.not_mem_nil,or_false] at hq
   simp only[argFr,List.mem_cons,List.not_mem_nil,or_false]
   rcases hq with rfl | rfl | rfl | rfl <;> simp) ?_)
 refine z3v (z3v (regc (L':=[eS 14 e l,eS 14 e [x]]) (id:=3) (C:=[]) (fr':=(16,.d (.b false)) :: (15,.d (.i .i64 1)) :: [(7,.d (.i .i64 1)),(2,.ref 1 1 0 1),(1,.d (.i .i64 (i:Int))),(0,.ref 0 l.length 0 l.length)])
  (fr2:=[(16,.d (.b false)),(7,.d (.i .i64 1)),(2,.ref 1 1 0 1),(1,.d (.i .i64 (i:Int))),(0,.ref 0 l.length 0 l.length)])
  (by kernel_rfl) (by kernel_rfl) trivial (fun q hq=>by
   simp only[List.mem_cons,List.not_mem_nil,or_false] at hq ⊢
   rcases hq with rfl | rfl | rfl | rfl | rfl <;> simp) ?_))
 refine z8s (b:=false) rfl (fun h=>by cases h) fun _=>zbh ?_
 refine z3v (regc (L':=[eS 14 e l,eS 14 e [x]]) (id:=5) (C:=[]) (fr':=(8,.d (.i .i64 (l.length:Int))) :: (19,.d (.i .i64 (l.length:Int))) :: (18,.ref 0 l.length 0 l.length) :: [(16,.d (.b false)),(7,.d (.i .i64 1)),(2,.ref 1 1 0 1),(1,.d (.i .i64 (i:Int))),(0,.ref 0 l.length 0 l.length)])
  (fr2:=frI l.length i (.ref 0 l.length 0 l.length))
  (by kernel_rfl) (by kernel_rfl) trivial (fun q hq=>by
   simp only[frI,List.mem_cons,List.not_mem_nil,or_false] at hq ⊢
   rcases hq with rfl | rfl | rfl | rfl | rfl <;> simp) ?_)
 refine z3v (z3v (regc (L':=[eS 14 e l,eS 14 e [x]]) (id:=6) (C:=[]) (fr':=(22,.d (.b ((i:Int)==(l.length:Int)))) :: (21,.d (.i .i64 (l.length:Int))) :: (20,.d (.i .i64 (i:Int))) :: frI l.length i (.ref 0 l.length 0 l.length))
  (fr2:=(22,.d (.b ((i:Int)==(l.length:Int)))) :: frI l.length i (.ref 0 l.length 0 l.length))
  (by kernel_rfl) (by kernel_rfl) trivial (fun q hq=>by
   rcases List.mem_cons.1 hq with rfl | hq
   ·exact List.mem_cons_self
   ·exact List.mem_cons_of_mem _ (List.mem_cons_of_mem _ (List.mem_cons_of_mem _ hq))) ?_))
 refine z8s (b:=((i:Int)==(l.length:Int))) rfl (fun h=>by rw[hne] at h; cases h) fun _=>zbh ?_
 exact zjl h fun q hq=>⟨q.2,List.mem_cons_of_mem _ hq,LeV.refl _⟩
theorem zp8 (he:∀ x,(e x).wd=14) {l:List α} {i:Nat} {x:α} (hi:i<l.length) (hl:(l.length+1) * (4 * 120)≤2 ^ 48) :
  AW none Tryz.prog Tryz.f114.ntmps (.seq (.seq R8 (.cond (.tmp 31) (.seq R9 B10) .skip)) C13)
   (fun e1 fr L=>FQ Tryz.prog Tryz.f114 (.ref 0 (l.length+1) 0 (l.length+1)) [eS 14 e (insL l i x),eS 14 e [x]] e1 fr L ∨
    FQ Tryz.prog Tryz.f114 (.ref 2 (l.length+1) 0 (l.length+1)) [eS 14 e l,eS 14 e [x],eS 14 e (insL l i x)] e1 fr L)
   (frI l.length i (.ref 0 l.length 0 l.length)) [eS 14 e l,eS 14 e [x]]:=by
 have hn:l.length<100000000000000:=by omega
 have hw2:IntKind.i64.wrap ((l.length:Int)+1)=(l.length:Int)+1:=by rw[z2z] <;> omega
 intro zn df X ms w a hr hf hN hd
 refine wpIn_seq (wpIn_seq (zp6 (by omega) hr hf hN fun a1 ms1 w1 b tc r1 e1 c1 f1 n1 d1 m1 hle h0e h31=>?_))
 by_cases hcap:l.length+1≤tc
 ·refine wpIn_cond_false (h31.trans (by rw[hw2]; simp; omega)) (wpIn_skip ?_)
  obtain⟨q1,q3⟩:=r1.room (o:=0) (n':=l.length+1) rfl m1 (by omega) hcap
  refine wpIn_mono (tailC he hi hn zn df X ms1 w1 a1 q1 (fun q hq=>?_) n1 (d1.trans hd)) ?_
  ·simp only[frI,Fr.up,List.map_cons,List.map_nil,List.mem_cons,List.not_mem_nil,or_false] at hq
   have f1':=f1.mono q3
   rcases hq with rfl | rfl | rfl | rfl | rfl
   ·exact f1' _ (by simp[frI,Fr.up])
   ·exact f1' _ (by simp[frI,Fr.up])
   ·exact f1' _ (by simp[frI,Fr.up])
   ·exact f1' _ (by simp[frI,Fr.up])
   ·obtain⟨s1,s2,s3⟩:=f1 (0,[],.ref 0 l.length 0 l.length) (by simp[frI,Fr.up])
    refine⟨s1,fun _=>?_,s3⟩
    have h0e':a1.tmps.getD 0 undef = .slice (some ⟨b,0,none⟩) l.length tc:=h0e
    rw[h0e']
    refine .one _ _ rfl (.ref _ _ _ _ _ ⟨by simp[cxOf],⟨_,_,rfl⟩,fun obj s ho hs=>?_,fun sz' f' hL'=>⟨by omega,.inr (.inr ⟨b,tc,m1,hcap,by simp⟩)⟩⟩)
    obtain rfl:=Option.some.inj ho
    simp[Ob.stamp] at hs; omega
  ·rintro e2 a2 w2 ⟨ms2,fr2,L2,hq,r2,e3,c3,f3,n3,d3⟩
   exact⟨ms2,fr2,L2,.inl hq,r2,e1.trans e3,(c1.trans q3).trans c3,f3,n3,d3⟩
 ·have htc:tc=l.length:=by omega
  subst htc
  refine wpIn_cond_true (h31.trans (by rw[hw2]; simp; omega)) (wpIn_seq (zp7 hi hl r1 f1 n1 m1 fun a2 ms2 w2 r2 e2 c2 f2 n2 d2=>?_))
  refine wpIn_mono (tailB he hi hn zn df X ms2 w2 a2 r2 f2 n2 ((d2.trans d1).trans hd)) ?_
  rintro e3 a3 w3 ⟨ms3,fr3,L3,⟨rfl,hq⟩,r3,e3,c3,f3,n3,d3⟩
  exact⟨ms3,fr3,L3,.inr ⟨.inr rfl,hq⟩,r3,(e1.trans e2).trans e3,(c1.trans c2).trans c3,f3,n3,d3⟩
theorem zoh (he:∀ x,(e x).wd=14) {l:List α} {i:Nat} {x:α} (hi:i<l.length) (hl:(l.length+1) * (4 * 120)≤2 ^ 48) :
  CallOk Tryz.prog 114 [.ref 0 l.length 0 l.length,.d (.i .i64 (i:Int)),.ref 1 1 0 1] [eS 14 e l,eS 14 e [x]] (.ref 0 (l.length+1) 0 (l.length+1)) [eS 14 e (insL l i x),eS 14 e [x]]:=by
 intro X ms w us hr hu
 have hlen:=z1a (l:=l) (i:=i) (x:=x)
 refine (zln (L:=[eS 14 e l,eS 14 e [x]]) (v:=.ref 0 (l.length+1) 0 (l.length+1)) (v3:=.ref 2 (l.length+1) 0 (l.length+1)) Tryz.func114 zmi (Nat.le_of_ble_eq_true (by kernel_rfl)) (by simp) rfl (lsOk (n:=2) (L:=[eS 14 e (insL l i x),eS 14 e [x]]) ⟨fun _ _=>rfl,fun _ _=>rfl,trivial⟩)
  (by simp) rfl (lsOk (n:=3) (L:=[eS 14 e l,eS 14 e [x],eS 14 e (insL l i x)]) ⟨fun _ _=>rfl,fun _ _=>rfl,fun _ _=>rfl,trivial⟩) (head (x:=x) he hi _ (zp8 he hi hl)) hr hu).mono fun e1 w1 h=>?_
 rcases h with h | ⟨u,ms1,rfl,h1,h2,h3,h4⟩
 ·exact h
 ·rw[← hlen] at h4 ⊢
  obtain⟨ms2,k1,k2,k3,k4⟩:=third hr hlen h1 h2 h3 h4
  exact⟨u,ms2,rfl,k1,k2,k3,k4⟩
noncomputable def sE (l:List α) (x:α) (a1:(0:Int)≤(l.length:Int)) (a2:l.length≤l.length) (a3:((l.length:Int)==(l.length:Int))=true)
  (hx:∀ k,k<1→(AV.d (e ([x].getD k default))).wd=14) (hs:(l.length+1) * (2 * 120)≤2 ^ 48)
  (ho:OLe (.seq 14 (l.length+1) (catF l.length (fun j=>.d (e (l.getD j default))) (fun j=>.d (e ([x].getD j default))))) (eS 14 e (insL l l.length x))):Scr Tryz.prog Unit Unit :=
 .reg 0 [] [] [] <|
 .reg 1 [] [] [.pf a1,.pf a2,.pf (Eq.refl l.length)] <|
 .reg 2 [] [] [] <|
 .reg 3 [] [] [] <|
 .br false (.pf (p:=((1:Int)==0)=false) (by decide)) <|
 .reg 5 [] [] [] <|
 .reg 6 [] [] [] <|
 .br true (.pf a3) <|
 .reg 7 [] [(2,{ obs:=[(0,eS 14 e (insL l l.length x))] })] [.pf (Eq.refl 1),.pf (Eq.refl l.length),.pf (Eq.refl l.length),.pf hx,.pf hs,.pf ho] <|
 .ret [] ()
set_option maxRecDepth 100000 in
theorem zoi (he:∀ x,(e x).wd=14) {l:List α} {x:α} (hl:(l.length+1) * (4 * 120)≤2 ^ 48) :
  CallOk Tryz.prog 114 [.ref 0 l.length 0 l.length,.d (.i .i64 (l.length:Int)),.ref 1 1 0 1] [eS 14 e l,eS 14 e [x]] (.ref 0 (l.length+1) 0 (l.length+1)) [eS 14 e (insL l l.length x),eS 14 e [x]] :=
 fOk (ρ:=Unit) (V:=fun _=>.ref 0 (l.length+1) 0 (l.length+1)) (Lr:=fun _=>[eS 14 e (insL l l.length x),eS 14 e [x]]) (r:=())
  (s:=sE (e:=e) l x (by omega) (Nat.le_refl _) (by simp) (fun k _=>he _) (by omega) (by
   refine z3o z1a.symm fun j hj=>?_
   rw[z45 (Nat.le_refl _)]
   by_cases h1:j<l.length
   ·rw[z23 h1,if_pos h1]
   ·have h2:j=l.length:=by omega
    subst h2
    rw[z2b (by omega),if_neg (by omega),if_pos rfl,Nat.sub_self]
    rfl)) Tryz.func114 zmi (by kernel_rfl) rfl
theorem ins_ok (he:∀ x,(e x).wd=14) {l:List α} {i:Nat} {x:α} (hi:i≤l.length) (hl:(l.length+1) * (4 * 120)≤2 ^ 48) :
  CallOk Tryz.prog 114 [.ref 0 l.length 0 l.length,.d (.i .i64 (i:Int)),.ref 1 1 0 1] [eS 14 e l,eS 14 e [x]] (.ref 0 (insL l i x).length 0 (insL l i x).length) [eS 14 e (insL l i x),eS 14 e [x]]:=by
 rw[z1a]
 rcases Nat.lt_or_ge i l.length with h | h
 ·exact zoh he h hl
 ·obtain rfl:i=l.length:=by omega
  exact zoi he hl
end
end Ins114
end Go.Proofs.YtclaojamgomjbaaGreatDoor
/- The shapes of data. No condition. -/
namespace Go.Proofs.YtclaojamgomjbaaGreatDoor
open Go Go.TA
abbrev Z0:DV:=DV.sl 0 fun _=>DV.b false
structure TTape where
 l:(List Int)
 at_:Int
 deriving Inhabited
def TTape.e (x:TTape):DV:=.agg [(eL (DV.i .i64) x.l),(DV.i .i64 x.at_)]
structure TRe where
 Number:Int
 Code:List UInt8
 Year:Int
 Day:Int
 Amount:Int
 Released:Int
 deriving Inhabited
def TRe.e (x:TRe):DV:=.agg [(DV.i .i64 x.Number),(DV.str x.Code),(DV.i .i64 x.Year),(DV.i .i64 x.Day),(DV.i .i64 x.Amount),(DV.i .i64 x.Released)]
structure TCo where
 Number:Int
 Reservation:Int
 Day:Int
 Amount:Int
 Released:Int
 Payee:Int
 Due:Int
 deriving Inhabited
def TCo.e (x:TCo):DV:=.agg [(DV.i .i64 x.Number),(DV.i .i64 x.Reservation),(DV.i .i64 x.Day),(DV.i .i64 x.Amount),(DV.i .i64 x.Released),(DV.i .i64 x.Payee),(DV.i .i64 x.Due)]
structure TVe where
 Number:Int
 Commitment:Int
 Day:Int
 Amount:Int
 deriving Inhabited
def TVe.e (x:TVe):DV:=.agg [(DV.i .i64 x.Number),(DV.i .i64 x.Commitment),(DV.i .i64 x.Day),(DV.i .i64 x.Amount)]
structure TOr where
 Number:Int
 Verification:Int
 Attempt:Int
 Day:Int
 Back:Bool
 deriving Inhabited
def TOr.e (x:TOr):DV:=.agg [(DV.i .i64 x.Number),(DV.i .i64 x.Verification),(DV.i .i64 x.Attempt),(DV.i .i64 x.Day),(DV.b x.Back)]
structure TBo where
 Reservations:(List TRe)
 Commitments:(List TCo)
 Verifications:(List TVe)
 Orders:(List TOr)
 deriving Inhabited
def TBo.e (x:TBo):DV:=.agg [(eL TRe.e x.Reservations),(eL TCo.e x.Commitments),(eL TVe.e x.Verifications),(eL TOr.e x.Orders)]
structure TRi where
 Code:List UInt8
 Year:Int
 Granted:Int
 Asked:Int
 Returned:Int
 deriving Inhabited
def TRi.e (x:TRi):DV:=.agg [(DV.str x.Code),(DV.i .i64 x.Year),(DV.i .i64 x.Granted),(DV.i .i64 x.Asked),(DV.i .i64 x.Returned)]
structure TOf where
 Number:Int
 Rights:(List TRi)
 Book:TBo
 deriving Inhabited
def TOf.e (x:TOf):DV:=.agg [(DV.i .i64 x.Number),(eL TRi.e x.Rights),(TBo.e x.Book)]
structure TPo where
 Code:List UInt8
 Year:Int
 Total:Int
 Granted:(List Int)
 Heard:(List Int)
 Asked:(List Int)
 Used:(List Int)
 deriving Inhabited
def TPo.e (x:TPo):DV:=.agg [(DV.str x.Code),(DV.i .i64 x.Year),(DV.i .i64 x.Total),(eL (DV.i .i64) x.Granted),(eL (DV.i .i64) x.Heard),(eL (DV.i .i64) x.Asked),(eL (DV.i .i64) x.Used)]
structure TWa where
 Number:Int
 Office:Int
 Code:List UInt8
 Year:Int
 Verification:Int
 Attempt:Int
 Commitment:Int
 Reservation:Int
 Amount:Int
 Payee:Int
 Day:Int
 Due:Int
 First:Int
 Second:Int
 deriving Inhabited
def TWa.e (x:TWa):DV:=.agg [(DV.i .i64 x.Number),(DV.i .i64 x.Office),(DV.str x.Code),(DV.i .i64 x.Year),(DV.i .i64 x.Verification),(DV.i .i64 x.Attempt),(DV.i .i64 x.Commitment),(DV.i .i64 x.Reservation),(DV.i .i64 x.Amount),(DV.i .i64 x.Payee),(DV.i .i64 x.Day),(DV.i .i64 x.Due),(DV.i .u64 x.First),(DV.i .u64 x.Second)]
structure TCa where
 Keys:(List Int)
 Office:TOf
 Pot:TPo
 Paid:(List TWa)
 Day:Int
 deriving Inhabited
def TCa.e (x:TCa):DV:=.agg [(eL (DV.i .u64) x.Keys),(TOf.e x.Office),(TPo.e x.Pot),(eL TWa.e x.Paid),(DV.i .i64 x.Day)]
structure TOp where
 Kind:Int
 Code:List UInt8
 Year:Int
 Day:Int
 Of:Int
 Amount:Int
 Payee:Int
 Due:Int
 Granted:Int
 AskedBack:Int
 deriving Inhabited
def TOp.e (x:TOp):DV:=.agg [(DV.i .i64 x.Kind),(DV.str x.Code),(DV.i .i64 x.Year),(DV.i .i64 x.Day),(DV.i .i64 x.Of),(DV.i .i64 x.Amount),(DV.i .i64 x.Payee),(DV.i .i64 x.Due),(DV.i .i64 x.Granted),(DV.i .i64 x.AskedBack)]
structure TMe where
 From:Int
 To:Int
 Code:List UInt8
 Year:Int
 Granted:Int
 Asked:Int
 Returned:Int
 Used:Int
 deriving Inhabited
def TMe.e (x:TMe):DV:=.agg [(DV.i .i64 x.From),(DV.i .i64 x.To),(DV.str x.Code),(DV.i .i64 x.Year),(DV.i .i64 x.Granted),(DV.i .i64 x.Asked),(DV.i .i64 x.Returned),(DV.i .i64 x.Used)]
structure TCh where
 Kind:Int
 Errs:Int
 deriving Inhabited
def TCh.e (x:TCh):DV:=.agg [(DV.i .i64 x.Kind),(DV.i .i64 x.Errs)]
structure TCha where
 order:TOr
 verification:TVe
 commitment:TCo
 reservation:TRe
 deriving Inhabited
def TCha.e (x:TCha):DV:=.agg [(TOr.e x.order),(TVe.e x.verification),(TCo.e x.commitment),(TRe.e x.reservation)]
structure TTr where
 Offices:Int
 Pots:(List TPo)
 deriving Inhabited
def TTr.e (x:TTr):DV:=.agg [(DV.i .i64 x.Offices),(eL TPo.e x.Pots)]
structure THe where
 Code:List UInt8
 Name:List UInt8
 deriving Inhabited
def THe.e (x:THe):DV:=.agg [(DV.str x.Code),(DV.str x.Name)]
abbrev zb (k e:Int):List TCh:=[⟨k,e⟩]
end Go.Proofs.YtclaojamgomjbaaGreatDoor
/- What the functions compute,and that their calls return it. No condition. -/
namespace Go.Proofs.YtclaojamgomjbaaGreatDoor
open Go Go.TA
noncomputable section
set_option maxRecDepth 100000
abbrev R_q3k:=TTape
def V_q3k (_:R_q3k):AV:=(vp 0)
def L_q3k (x:R_q3k):List Ob:=[(bx (TTape.e x))]
def S_q3k (a0:(List Int)):Scr Tryz.prog R_q3k R_q3k :=
.guard [(0:Int)≤(if 500<(a0.length:Int) then 500 else (a0.length:Int)),((if 500<(a0.length:Int) then 500 else (a0.length:Int))).toNat≤a0.length] <|
.reg 1 [] [(4,hv (vl (a0.take (((if 500<(a0.length:Int) then 500 else (a0.length:Int))).toNat))))] [.ev 0,.ev 1,.der (fun (h0:((if 500<(a0.length:Int) then 500 else (a0.length:Int))).toNat≤a0.length)=>lvT (DV.i .i64) a0 h0) 1] <|
.ret [] (⟨(a0.take (((if 500<(a0.length:Int) then 500 else (a0.length:Int))).toNat)),0⟩:TTape)
def F_q3k (a0:(List Int)):Option R_q3k:=(S_q3k a0).den
theorem F_q3k_ok {a0:(List Int)} (r:R_q3k) (h:F_q3k a0=some r):CallOk Tryz.prog 8 [(vl a0)] [] (V_q3k r) (L_q3k r):=fOk (s:=S_q3k a0) Tryz.func8 rfl (by kernel_rfl) h
abbrev R_q0:=Int×TTape
def V_q0 (x:R_q0):AV:=(vi x.1)
def L_q0 (x:R_q0):List Ob:=[(bx (TTape.e x.2))]
def S_q0 (a1:Int) (p0:TTape):Scr Tryz.prog R_q0 R_q0 :=
.ite (decide (p0.at_≥(p0.l.length:Int))) (
.ret [] (0,p0)) (
.guard [(0:Int)≤p0.at_,(p0.at_).toNat<p0.l.length,(a1:Int)≠0] <|
.reg 3 [] [] [.ev 0,.ev 1,.ev 2] <|
.ite (decide (((p0.l.getD ((p0.at_).toNat) default).tmod a1)<0)) (
.ret [] ((IntKind.i64.wrap (((p0.l.getD ((p0.at_).toNat) default).tmod a1)+a1)),(⟨p0.l,(IntKind.i64.wrap (p0.at_+1))⟩:TTape))) (
.ret [] (((p0.l.getD ((p0.at_).toNat) default).tmod a1),(⟨p0.l,(IntKind.i64.wrap (p0.at_+1))⟩:TTape))))
def F_q0 (a1:Int) (p0:TTape):Option R_q0:=(S_q0 a1 p0).den
theorem F_q0_ok {a1:Int} {p0:TTape} (r:R_q0) (h:F_q0 a1 p0=some r):CallOk Tryz.prog 14 [(vp 0),(vi a1)] [(bx (TTape.e p0))] (V_q0 r) (L_q0 r):=fOk (s:=S_q0 a1 p0) Tryz.func14 rfl (by kernel_rfl) h
abbrev R_q6:=Int×TTape
def V_q6 (x:R_q6):AV:=(vi x.1)
def L_q6 (x:R_q6):List Ob:=[(bx (TTape.e x.2))]
def S_q6 (a1:Int) (a2:Int) (p0:TTape):Scr Tryz.prog R_q6 R_q6 :=
.call (@F_q0_ok (IntKind.i64.wrap ((IntKind.i64.wrap (a2-a1))+1)) p0) fun r3 c3 =>
.reg 1 [] [(6,hc c3 [0] false)] [.cl 0 c3 [0] 1 false] <|
.ret [] ((IntKind.i64.wrap (a1+r3.1)),r3.2)
def F_q6 (a1:Int) (a2:Int) (p0:TTape):Option R_q6:=(S_q6 a1 a2 p0).den
theorem F_q6_ok {a1:Int} {a2:Int} {p0:TTape} (r:R_q6) (h:F_q6 a1 a2 p0=some r):CallOk Tryz.prog 22 [(vp 0),(vi a1),(vi a2)] [(bx (TTape.e p0))] (V_q6 r) (L_q6 r):=fOk (s:=S_q6 a1 a2 p0) Tryz.func22 rfl (by kernel_rfl) h
theorem cz1:OLe (bx (DV.agg [(DV.i .i64 0),Z0,(DV.agg [Z0,Z0,Z0,Z0])])) (bx (TOf.e (⟨0,[],(⟨[],[],[],[]⟩:TBo)⟩:TOf))):=z4z (DLe.agg (DLeL.cons (DLe.refl _) (DLeL.cons DLe.sl0 (DLeL.cons (DLe.agg (DLeL.cons DLe.sl0 (DLeL.cons DLe.sl0 (DLeL.cons DLe.sl0 (DLeL.cons DLe.sl0 DLeL.nil))))) DLeL.nil))))
theorem cz2:LeV (AV.d (DV.agg [(DV.i .i64 0),Z0,(DV.agg [Z0,Z0,Z0,Z0])])) (AV.d (TOf.e (⟨0,[],(⟨[],[],[],[]⟩:TBo)⟩:TOf))):=z3p rfl (DLe.agg (DLeL.cons (DLe.refl _) (DLeL.cons DLe.sl0 (DLeL.cons (DLe.agg (DLeL.cons DLe.sl0 (DLeL.cons DLe.sl0 (DLeL.cons DLe.sl0 (DLeL.cons DLe.sl0 DLeL.nil))))) DLeL.nil))))
abbrev R_q3l:=TOf×Int
def V_q3l (x:R_q3l):AV:=(AV.tup [(AV.d (TOf.e x.1)),(vi x.2)])
def L_q3l (_:R_q3l):List Ob:=[]
def S_q3l (a0:Int):Scr Tryz.prog R_q3l R_q3l :=
.reg 0 [] [(0,{ obs:=[(0,(bx (TOf.e (⟨0,[],(⟨[],[],[],[]⟩:TBo)⟩:TOf))))] })] [.pf cz1] <|
.ite (bif (decide (a0<1)) then true else (decide (a0>6))) (
.reg 2 [] [(0,hv (AV.d (TOf.e (⟨0,[],(⟨[],[],[],[]⟩:TBo)⟩:TOf))))] [.pf cz2] <|
.ret [] ((⟨0,[],(⟨[],[],[],[]⟩:TBo)⟩:TOf),2)) (
.reg 3 [] [(1,hv (AV.d (TOf.e (⟨a0,[],(⟨[],[],[],[]⟩:TBo)⟩:TOf))))] [.pf (p:=LeV (AV.d (DV.agg [(DV.i .i64 a0),Z0,(DV.agg [Z0,Z0,Z0,Z0])])) (AV.d (TOf.e (⟨a0,[],(⟨[],[],[],[]⟩:TBo)⟩:TOf)))) (z3p rfl (DLe.agg (DLeL.cons (DLe.refl _) (DLeL.cons DLe.sl0 (DLeL.cons (DLe.agg (DLeL.cons DLe.sl0 (DLeL.cons DLe.sl0 (DLeL.cons DLe.sl0 (DLeL.cons DLe.sl0 DLeL.nil))))) DLeL.nil)))))] <|
.ret [] ((⟨a0,[],(⟨[],[],[],[]⟩:TBo)⟩:TOf),0))
def F_q3l (a0:Int):Option R_q3l:=(S_q3l a0).den
theorem F_q3l_ok {a0:Int} (r:R_q3l) (h:F_q3l a0=some r):CallOk Tryz.prog 89 [(vi a0)] [] (V_q3l r) (L_q3l r):=fOk (s:=S_q3l a0) Tryz.func89 rfl (by kernel_rfl) h
abbrev R_q4:=Int×TTape
def V_q4 (x:R_q4):AV:=(vi x.1)
def L_q4 (x:R_q4):List Ob:=[(bx (TTape.e x.2))]
def S_q4 (a1:(List Int)) (p0:TTape):Scr Tryz.prog R_q4 R_q4 :=
.call (@F_q0_ok (a1.length:Int) p0) fun rv1 cv1 =>
.guard [(0:Int)≤rv1.1,(rv1.1).toNat<a1.length] <|
.reg 1 [] [(4,hc cv1 [0] false)] [.cl 2 cv1 [0] 1 false,.ev 0,.ev 1] <|
.ret [] ((a1.getD ((rv1.1).toNat) default),rv1.2)
def F_q4 (a1:(List Int)) (p0:TTape):Option R_q4:=(S_q4 a1 p0).den
theorem F_q4_ok {a1:(List Int)} {p0:TTape} (r:R_q4) (h:F_q4 a1 p0=some r):CallOk Tryz.prog 37 [(vp 0),(vl a1)] [(bx (TTape.e p0))] (V_q4 r) (L_q4 r):=fOk (s:=S_q4 a1 p0) Tryz.func37 rfl (by kernel_rfl) h
abbrev R_ql:=Bool
def V_ql (x:R_ql):AV:=(vb x)
def L_ql (_:R_ql):List Ob:=[]
def S_ql_b1 (a0:List UInt8) (sv1:Int×Int×Int):Scr Tryz.prog R_ql (Step (Int×Int×Int) R_ql) :=
.ite (decide (sv1.2.2<(a0.length:Int))) (
.guard [(0:Int)≤sv1.2.2,(sv1.2.2).toNat<a0.length] <|
.reg 6 [] [] [.ev 0,.ev 1] <|
.ite (((a0.getD ((sv1.2.2).toNat) 0).toNat:Int)==46) (
.ite (sv1.1==0) (
.ret [] (.ret false)) (
.ret [] (.cont (0,(IntKind.i64.wrap (sv1.2.1+1)),(IntKind.i64.wrap (sv1.2.2+1)))))) (
.guard [AllP [(decide (((a0.getD ((sv1.2.2).toNat) 0).toNat:Int)<48))=false]→((0:Int)≤sv1.2.2),AllP [(decide (((a0.getD ((sv1.2.2).toNat) 0).toNat:Int)<48))=false]→((sv1.2.2).toNat<a0.length),AllP [(sv1.1==0)=true,(bif (decide (((a0.getD ((sv1.2.2).toNat) 0).toNat:Int)<48)) then true else (decide (((a0.getD ((sv1.2.2).toNat) 0).toNat:Int)>57)))=false]→((0:Int)≤sv1.2.2),AllP [(sv1.1==0)=true,(bif (decide (((a0.getD ((sv1.2.2).toNat) 0).toNat:Int)<48)) then true else (decide (((a0.getD ((sv1.2.2).toNat) 0).toNat:Int)>57)))=false]→((sv1.2.2).toNat<a0.length)] <|
.reg 11 [] [] [.ev 5,.ev 6,.ev 0,.ev 1,.ev 2,.ev 3] <|
.ite (bif (bif (bif (decide (((a0.getD ((sv1.2.2).toNat) 0).toNat:Int)<48)) then true else (decide (((a0.getD ((sv1.2.2).toNat) 0).toNat:Int)>57))) then true else (bif (sv1.1==0) then (((a0.getD ((sv1.2.2).toNat) 0).toNat:Int)==48) else false)) then true else (sv1.1==2)) (
.ret [] (.ret false)) (
.ret [] (.cont ((IntKind.i64.wrap (sv1.1+1)),sv1.2.1,(IntKind.i64.wrap (sv1.2.2+1))))))) (
.ret [] (.brk (sv1.1,sv1.2.1,sv1.2.2)))
def S_ql (a0:List UInt8):Scr Tryz.prog R_ql R_ql :=
.iter [0] (fun (sv1:Int×Int×Int)=>[(3,(vi sv1.1)),(4,(vi sv1.2.1)),(5,(vi sv1.2.2))]) (fun (_:Int×Int×Int)=>[]) (0,1,0) (S_ql_b1 a0) (fun (sv1:Int×Int×Int) =>
.ret [] (bif (decide (sv1.1>0)) then (decide (sv1.2.1≤4)) else false)) id
def F_ql (a0:List UInt8):Option R_ql:=(S_ql a0).den
theorem F_ql_ok {a0:List UInt8} (r:R_ql) (h:F_ql a0=some r):CallOk Tryz.prog 91 [(AV.d (DV.str a0))] [] (V_ql r) (L_ql r):=fOk (s:=S_ql a0) Tryz.func91 rfl (by kernel_rfl) h
abbrev R_qs:=Bool
def V_qs (x:R_qs):AV:=(vb x)
def L_qs (_:R_qs):List Ob:=[]
def S_qs (a0:Int):Scr Tryz.prog R_qs R_qs :=
.ret [] (bif (decide (a0≥0)) then (decide (a0≤35990)) else false)
def F_qs (a0:Int):Option R_qs:=(S_qs a0).den
theorem F_qs_ok {a0:Int} (r:R_qs) (h:F_qs a0=some r):CallOk Tryz.prog 118 [(vi a0)] [] (V_qs r) (L_qs r):=fOk (s:=S_qs a0) Tryz.func118 rfl (by kernel_rfl) h
abbrev R_q1r:=Bool
def V_q1r (x:R_q1r):AV:=(vb x)
def L_q1r (_:R_q1r):List Ob:=[]
def S_q1r (a0:Int):Scr Tryz.prog R_q1r R_q1r :=
.ret [] (bif (decide (a0≥0)) then (decide (a0≤36000)) else false)
def F_q1r (a0:Int):Option R_q1r:=(S_q1r a0).den
theorem F_q1r_ok {a0:Int} (r:R_q1r) (h:F_q1r a0=some r):CallOk Tryz.prog 41 [(vi a0)] [] (V_q1r r) (L_q1r r):=fOk (s:=S_q1r a0) Tryz.func41 rfl (by kernel_rfl) h
abbrev R_qt:=Int
def V_qt (x:R_qt):AV:=(vi x)
def L_qt (_:R_qt):List Ob:=[]
def S_qt (a0:Int):Scr Tryz.prog R_qt R_qt :=
.call (@F_q1r_ok a0) fun rv1 cv1 =>
.reg 1 [] [(1,hc cv1 [] true)] [.cl 0 cv1 [] 0 true] <|
.ite (!rv1) (
.ret [] (-1)) (
.reg 3 [] [] [.pf (p:=(360:Int)≠0) (by decide)] <|
.ret [] (IntKind.i64.wrap (a0.tdiv 360)))
def F_qt (a0:Int):Option R_qt:=(S_qt a0).den
theorem F_qt_ok {a0:Int} (r:R_qt) (h:F_qt a0=some r):CallOk Tryz.prog 42 [(vi a0)] [] (V_qt r) (L_qt r):=fOk (s:=S_qt a0) Tryz.func42 rfl (by kernel_rfl) h
abbrev R_q13:=Bool
def V_q13 (x:R_q13):AV:=(vb x)
def L_q13 (_:R_q13):List Ob:=[]
def S_q13 (a0:Int):Scr Tryz.prog R_q13 R_q13 :=
.ret [] (bif (decide (a0≥1)) then (decide (a0≤1000000000000)) else false)
def F_q13 (a0:Int):Option R_q13:=(S_q13 a0).den
theorem F_q13_ok {a0:Int} (r:R_q13) (h:F_q13 a0=some r):CallOk Tryz.prog 119 [(vi a0)] [] (V_q13 r) (L_q13 r):=fOk (s:=S_q13 a0) Tryz.func119 rfl (by kernel_rfl) h
abbrev R_q14:=Bool
def V_q14 (x:R_q14):AV:=(vb x)
def L_q14 (_:R_q14):List Ob:=[]
def S_q14_b1 (a0:TBo) (iv1:Nat) (_:Unit):Scr Tryz.prog R_q14 (Step (Unit) R_q14) :=
.reg 3 [] [] [.pf (nn iv1),.ev 0] <|
.calld [(((a0.Reservations.getD iv1 default).Number) != (IntKind.i64.wrap ((iv1:Int)+1)))=false] default (@F_ql_ok ((a0.Reservations.getD iv1 default).Code)) fun rv2 cv2 =>
.calld [(bif (bif (bif (((a0.Reservations.getD iv1 default).Number) != (IntKind.i64.wrap ((iv1:Int)+1))) then true else (!rv2)) then true else (decide (((a0.Reservations.getD iv1 default).Year)<0))) then true else (decide (((a0.Reservations.getD iv1 default).Year)>99)))=false] default (@F_qs_ok ((a0.Reservations.getD iv1 default).Day)) fun rv3 cv3 =>
.calld [(bif (bif (bif (bif (((a0.Reservations.getD iv1 default).Number) != (IntKind.i64.wrap ((iv1:Int)+1))) then true else (!rv2)) then true else (decide (((a0.Reservations.getD iv1 default).Year)<0))) then true else (decide (((a0.Reservations.getD iv1 default).Year)>99))) then true else (!rv3))=false] default (@F_qt_ok ((a0.Reservations.getD iv1 default).Day)) fun rv4 cv4 =>
.calld [(bif (bif (bif (bif (bif (((a0.Reservations.getD iv1 default).Number) != (IntKind.i64.wrap ((iv1:Int)+1))) then true else (!rv2)) then true else (decide (((a0.Reservations.getD iv1 default).Year)<0))) then true else (decide (((a0.Reservations.getD iv1 default).Year)>99))) then true else (!rv3)) then true else (rv4 != ((a0.Reservations.getD iv1 default).Year)))=false] default (@F_q13_ok ((a0.Reservations.getD iv1 default).Amount)) fun rv5 cv5 =>
.reg 4 [] [(8,hc cv2 [] true),(24,hc cv3 [] true),(30,hc cv4 [] true),(38,hc cv5 [] true)] [.clg 6 [(((a0.Reservations.getD iv1 default).Number) != (IntKind.i64.wrap ((iv1:Int)+1)))=false] cv2 [] 2 true,.clg 4 [(bif (bif (bif (((a0.Reservations.getD iv1 default).Number) != (IntKind.i64.wrap ((iv1:Int)+1))) then true else (!rv2)) then true else (decide (((a0.Reservations.getD iv1 default).Year)<0))) then true else (decide (((a0.Reservations.getD iv1 default).Year)>99)))=false] cv3 [] 2 true,.clg 2 [(bif (bif (bif (bif (((a0.Reservations.getD iv1 default).Number) != (IntKind.i64.wrap ((iv1:Int)+1))) then true else (!rv2)) then true else (decide (((a0.Reservations.getD iv1 default).Year)<0))) then true else (decide (((a0.Reservations.getD iv1 default).Year)>99))) then true else (!rv3))=false] cv4 [] 2 true,.clg 0 [(bif (bif (bif (bif (bif (((a0.Reservations.getD iv1 default).Number) != (IntKind.i64.wrap ((iv1:Int)+1))) then true else (!rv2)) then true else (decide (((a0.Reservations.getD iv1 default).Year)<0))) then true else (decide (((a0.Reservations.getD iv1 default).Year)>99))) then true else (!rv3)) then true else (rv4 != ((a0.Reservations.getD iv1 default).Year)))=false] cv5 [] 2 true] <|
.ite (bif (bif (bif (bif (bif (bif (bif (bif (((a0.Reservations.getD iv1 default).Number) != (IntKind.i64.wrap ((iv1:Int)+1))) then true else (!rv2)) then true else (decide (((a0.Reservations.getD iv1 default).Year)<0))) then true else (decide (((a0.Reservations.getD iv1 default).Year)>99))) then true else (!rv3)) then true else (rv4 != ((a0.Reservations.getD iv1 default).Year))) then true else (!rv5)) then true else (decide (((a0.Reservations.getD iv1 default).Released)<0))) then true else (decide (((a0.Reservations.getD iv1 default).Released)>((a0.Reservations.getD iv1 default).Amount)))) (
.ret [] (.ret false)) (
.ret [] (.cont ()))
def S_q14 (a0:TBo):Scr Tryz.prog R_q14 R_q14 :=
.range (a0.Reservations.length:Int) a0.Reservations.length rfl (.slot 6) 8 [6,7] (fun (_:Unit)=>[]) (fun (_:Unit)=>[]) () (S_q14_b1 a0) (fun (_:Unit) => 
.ret [] true) id
def F_q14 (a0:TBo):Option R_q14:=(S_q14 a0).den
theorem F_q14_ok {a0:TBo} (r:R_q14) (h:F_q14 a0=some r):CallOk Tryz.prog 140 [(AV.d (TBo.e a0))] [] (V_q14 r) (L_q14 r):=fOk (s:=S_q14 a0) Tryz.func140 rfl (by kernel_rfl) h
abbrev R_qi:=Int
def V_qi (x:R_qi):AV:=(vi x)
def L_qi (_:R_qi):List Ob:=[]
def S_qi_b1 (a0:TBo) (a1:Int) (iv1:Nat) (sv2:Int):Scr Tryz.prog R_qi (Step (Int) R_qi) :=
.reg 8 [] [] [.pf (nn iv1),.ev 0] <|
.ite (((a0.Commitments.getD iv1 default).Reservation)==a1) (
.ret [] (.cont (IntKind.i64.wrap (sv2-((a0.Commitments.getD iv1 default).Amount))))) (
.ret [] (.cont sv2))
def S_qi_b2 (a0:TBo) (a1:Int) (iv3:Nat) (_:Unit):Scr Tryz.prog R_qi (Step (Unit) R_qi) :=
.reg 3 [] [] [.pf (nn iv3),.ev 0] <|
.ite (((a0.Reservations.getD iv3 default).Number)==a1) (
.range (a0.Commitments.length:Int) a0.Commitments.length rfl (.slot 27) 29 [1,27,28] (fun (sv2:Int)=>[(7,(vi sv2))]) (fun (_:Int)=>[]) (IntKind.i64.wrap (((a0.Reservations.getD iv3 default).Amount)-((a0.Reservations.getD iv3 default).Released))) (S_qi_b1 a0 a1) (fun (sv2:Int) => 
.ret [] (.ret sv2)) .ret) (
.ret [] (.cont ()))
def S_qi (a0:TBo) (a1:Int):Scr Tryz.prog R_qi R_qi :=
.range (a0.Reservations.length:Int) a0.Reservations.length rfl (.slot 11) 13 [1,2,11,12] (fun (_:Unit)=>[]) (fun (_:Unit)=>[]) () (S_qi_b2 a0 a1) (fun (_:Unit) => 
.ret [] 0) id
def F_qi (a0:TBo) (a1:Int):Option R_qi:=(S_qi a0 a1).den
theorem F_qi_ok {a0:TBo} {a1:Int} (r:R_qi) (h:F_qi a0 a1=some r):CallOk Tryz.prog 122 [(AV.d (TBo.e a0)),(vi a1)] [] (V_qi r) (L_qi r):=fOk (s:=S_qi a0 a1) Tryz.func122 rfl (by kernel_rfl) h
abbrev R_qb:=Bool
def V_qb (x:R_qb):AV:=(vb x)
def L_qb (_:R_qb):List Ob:=[]
def S_qb_b1 (a0:TBo) (iv1:Nat) (_:Unit):Scr Tryz.prog R_qb (Step (Unit) R_qb) :=
.reg 3 [] [] [.pf (nn iv1),.ev 0] <|
.calld [(bif (bif (((a0.Commitments.getD iv1 default).Number) != (IntKind.i64.wrap ((iv1:Int)+1))) then true else (decide (((a0.Commitments.getD iv1 default).Reservation)<1))) then true else (decide (((a0.Commitments.getD iv1 default).Reservation)>(a0.Reservations.length:Int))))=false] default (@F_qs_ok ((a0.Commitments.getD iv1 default).Day)) fun rv2 cv2 =>
.calld [(bif (bif (bif (((a0.Commitments.getD iv1 default).Number) != (IntKind.i64.wrap ((iv1:Int)+1))) then true else (decide (((a0.Commitments.getD iv1 default).Reservation)<1))) then true else (decide (((a0.Commitments.getD iv1 default).Reservation)>(a0.Reservations.length:Int)))) then true else (!rv2))=false] default (@F_q13_ok ((a0.Commitments.getD iv1 default).Amount)) fun rv3 cv3 =>
.calld [(bif (bif (bif (bif (bif (bif (bif (bif (((a0.Commitments.getD iv1 default).Number) != (IntKind.i64.wrap ((iv1:Int)+1))) then true else (decide (((a0.Commitments.getD iv1 default).Reservation)<1))) then true else (decide (((a0.Commitments.getD iv1 default).Reservation)>(a0.Reservations.length:Int)))) then true else (!rv2)) then true else (!rv3)) then true else (decide (((a0.Commitments.getD iv1 default).Released)<0))) then true else (decide (((a0.Commitments.getD iv1 default).Released)>((a0.Commitments.getD iv1 default).Amount)))) then true else (decide (((a0.Commitments.getD iv1 default).Payee)<1))) then true else (decide (((a0.Commitments.getD iv1 default).Payee)>1000000)))=false] default (@F_qs_ok ((a0.Commitments.getD iv1 default).Due)) fun rv4 cv4 =>
.reg 4 [] [(21,hc cv2 [] true),(27,hc cv3 [] true),(55,hc cv4 [] true)] [.clg 4 [(bif (bif (((a0.Commitments.getD iv1 default).Number) != (IntKind.i64.wrap ((iv1:Int)+1))) then true else (decide (((a0.Commitments.getD iv1 default).Reservation)<1))) then true else (decide (((a0.Commitments.getD iv1 default).Reservation)>(a0.Reservations.length:Int))))=false] cv2 [] 2 true,.clg 2 [(bif (bif (bif (((a0.Commitments.getD iv1 default).Number) != (IntKind.i64.wrap ((iv1:Int)+1))) then true else (decide (((a0.Commitments.getD iv1 default).Reservation)<1))) then true else (decide (((a0.Commitments.getD iv1 default).Reservation)>(a0.Reservations.length:Int)))) then true else (!rv2))=false] cv3 [] 2 true,.clg 0 [(bif (bif (bif (bif (bif (bif (bif (bif (((a0.Commitments.getD iv1 default).Number) != (IntKind.i64.wrap ((iv1:Int)+1))) then true else (decide (((a0.Commitments.getD iv1 default).Reservation)<1))) then true else (decide (((a0.Commitments.getD iv1 default).Reservation)>(a0.Reservations.length:Int)))) then true else (!rv2)) then true else (!rv3)) then true else (decide (((a0.Commitments.getD iv1 default).Released)<0))) then true else (decide (((a0.Commitments.getD iv1 default).Released)>((a0.Commitments.getD iv1 default).Amount)))) then true else (decide (((a0.Commitments.getD iv1 default).Payee)<1))) then true else (decide (((a0.Commitments.getD iv1 default).Payee)>1000000)))=false] cv4 [] 2 true] <|
.ite (bif (bif (bif (bif (bif (bif (bif (bif (bif (((a0.Commitments.getD iv1 default).Number) != (IntKind.i64.wrap ((iv1:Int)+1))) then true else (decide (((a0.Commitments.getD iv1 default).Reservation)<1))) then true else (decide (((a0.Commitments.getD iv1 default).Reservation)>(a0.Reservations.length:Int)))) then true else (!rv2)) then true else (!rv3)) then true else (decide (((a0.Commitments.getD iv1 default).Released)<0))) then true else (decide (((a0.Commitments.getD iv1 default).Released)>((a0.Commitments.getD iv1 default).Amount)))) then true else (decide (((a0.Commitments.getD iv1 default).Payee)<1))) then true else (decide (((a0.Commitments.getD iv1 default).Payee)>1000000))) then true else (!rv4)) (
.ret [] (.ret false)) (
.guard [(0:Int)≤(IntKind.i64.wrap (((a0.Commitments.getD iv1 default).Reservation)-1)),((IntKind.i64.wrap (((a0.Commitments.getD iv1 default).Reservation)-1))).toNat<a0.Reservations.length] <|
.reg 6 [] [] [.ev 0,.ev 1] <|
.calld [(decide (((a0.Commitments.getD iv1 default).Day)<((a0.Reservations.getD (((IntKind.i64.wrap (((a0.Commitments.getD iv1 default).Reservation)-1))).toNat) default).Day)))=false] default (@F_qt_ok ((a0.Commitments.getD iv1 default).Day)) fun rv5 cv5 =>
.reg 7 [] [(8,hc cv5 [] true)] [.clg 0 [(decide (((a0.Commitments.getD iv1 default).Day)<((a0.Reservations.getD (((IntKind.i64.wrap (((a0.Commitments.getD iv1 default).Reservation)-1))).toNat) default).Day)))=false] cv5 [] 3 true] <|
.ite (bif (decide (((a0.Commitments.getD iv1 default).Day)<((a0.Reservations.getD (((IntKind.i64.wrap (((a0.Commitments.getD iv1 default).Reservation)-1))).toNat) default).Day))) then true else (rv5 != ((a0.Reservations.getD (((IntKind.i64.wrap (((a0.Commitments.getD iv1 default).Reservation)-1))).toNat) default).Year))) (
.ret [] (.ret false)) (
.ret [] (.cont ())))
def S_qb_b2 (a0:TBo) (iv6:Nat) (_:Unit):Scr Tryz.prog R_qb (Step (Unit) R_qb) :=
.reg 12 [] [] [.pf (nn iv6),.ev 0] <|
.call (@F_qi_ok a0 ((a0.Reservations.getD iv6 default).Number)) fun rv7 cv7 =>
.reg 13 [] [(3,hc cv7 [] true)] [.cl 0 cv7 [] 2 true] <|
.ite (decide (rv7<0)) (
.ret [] (.ret false)) (
.ret [] (.cont ()))
def S_qb (a0:TBo):Scr Tryz.prog R_qb R_qb :=
.range (a0.Commitments.length:Int) a0.Commitments.length rfl (.slot 9) 11 [1,9,10] (fun (_:Unit)=>[]) (fun (_:Unit)=>[]) () (S_qb_b1 a0) (fun (_:Unit) => 
.range (a0.Reservations.length:Int) a0.Reservations.length rfl (.slot 96) 98 [1,96,97] (fun (_:Unit)=>[]) (fun (_:Unit)=>[]) () (S_qb_b2 a0) (fun (_:Unit) => 
.ret [] true) id) id
def F_qb (a0:TBo):Option R_qb:=(S_qb a0).den
theorem F_qb_ok {a0:TBo} (r:R_qb) (h:F_qb a0=some r):CallOk Tryz.prog 141 [(AV.d (TBo.e a0))] [] (V_qb r) (L_qb r):=fOk (s:=S_qb a0) Tryz.func141 rfl (by kernel_rfl) h
abbrev R_q1e:=Int
def V_q1e (x:R_q1e):AV:=(vi x)
def L_q1e (_:R_q1e):List Ob:=[]
def S_q1e (a0:TBo) (a1:Int):Scr Tryz.prog R_q1e R_q1e :=
.guard [(0:Int)≤(IntKind.i64.wrap (a1-1)),((IntKind.i64.wrap (a1-1))).toNat<a0.Commitments.length,(0:Int)≤(IntKind.i64.wrap (((a0.Commitments.getD (((IntKind.i64.wrap (a1-1))).toNat) default).Reservation)-1)),((IntKind.i64.wrap (((a0.Commitments.getD (((IntKind.i64.wrap (a1-1))).toNat) default).Reservation)-1))).toNat<a0.Reservations.length] <|
.reg 1 [] [] [.ev 0,.ev 1,.ev 2,.ev 3] <|
.ret [] ((a0.Reservations.getD (((IntKind.i64.wrap (((a0.Commitments.getD (((IntKind.i64.wrap (a1-1))).toNat) default).Reservation)-1))).toNat) default).Year)
def F_q1e (a0:TBo) (a1:Int):Option R_q1e:=(S_q1e a0 a1).den
theorem F_q1e_ok {a0:TBo} {a1:Int} (r:R_q1e) (h:F_q1e a0 a1=some r):CallOk Tryz.prog 123 [(AV.d (TBo.e a0)),(vi a1)] [] (V_q1e r) (L_q1e r):=fOk (s:=S_q1e a0 a1) Tryz.func123 rfl (by kernel_rfl) h
abbrev R_q15:=Int
def V_q15 (x:R_q15):AV:=(vi x)
def L_q15 (_:R_q15):List Ob:=[]
def S_q15_b1 (a0:TBo) (a1:TCo) (iv1:Nat) (sv2:Int):Scr Tryz.prog R_q15 (Step (Int) R_q15) :=
.reg 4 [] [] [.pf (nn iv1),.ev 0] <|
.ite (((a0.Verifications.getD iv1 default).Commitment)==a1.Number) (
.ret [] (.cont (IntKind.i64.wrap (sv2-((a0.Verifications.getD iv1 default).Amount))))) (
.ret [] (.cont sv2))
def S_q15 (a0:TBo) (a1:TCo):Scr Tryz.prog R_q15 R_q15 :=
.range (a0.Verifications.length:Int) a0.Verifications.length rfl (.slot 14) 16 [3,14,15] (fun (sv2:Int)=>[(5,(vi sv2))]) (fun (_:Int)=>[]) (IntKind.i64.wrap (a1.Amount-a1.Released)) (S_q15_b1 a0 a1) (fun (sv2:Int) => 
.ret [] sv2) id
def F_q15 (a0:TBo) (a1:TCo):Option R_q15:=(S_q15 a0 a1).den
theorem F_q15_ok {a0:TBo} {a1:TCo} (r:R_q15) (h:F_q15 a0 a1=some r):CallOk Tryz.prog 124 [(AV.d (TBo.e a0)),(AV.d (TCo.e a1))] [] (V_q15 r) (L_q15 r):=fOk (s:=S_q15 a0 a1) Tryz.func124 rfl (by kernel_rfl) h
abbrev R_q3:=Bool
def V_q3 (x:R_q3):AV:=(vb x)
def L_q3 (_:R_q3):List Ob:=[]
def S_q3_b1 (a0:TBo) (iv1:Nat) (_:Unit):Scr Tryz.prog R_q3 (Step (Unit) R_q3) :=
.reg 3 [] [] [.pf (nn iv1),.ev 0] <|
.calld [(bif (bif (((a0.Verifications.getD iv1 default).Number) != (IntKind.i64.wrap ((iv1:Int)+1))) then true else (decide (((a0.Verifications.getD iv1 default).Commitment)<1))) then true else (decide (((a0.Verifications.getD iv1 default).Commitment)>(a0.Commitments.length:Int))))=false] default (@F_qs_ok ((a0.Verifications.getD iv1 default).Day)) fun rv2 cv2 =>
.calld [(bif (bif (bif (((a0.Verifications.getD iv1 default).Number) != (IntKind.i64.wrap ((iv1:Int)+1))) then true else (decide (((a0.Verifications.getD iv1 default).Commitment)<1))) then true else (decide (((a0.Verifications.getD iv1 default).Commitment)>(a0.Commitments.length:Int)))) then true else (!rv2))=false] default (@F_q13_ok ((a0.Verifications.getD iv1 default).Amount)) fun rv3 cv3 =>
.calld [(bif (bif (bif (bif (bif (((a0.Verifications.getD iv1 default).Number) != (IntKind.i64.wrap ((iv1:Int)+1))) then true else (decide (((a0.Verifications.getD iv1 default).Commitment)<1))) then true else (decide (((a0.Verifications.getD iv1 default).Commitment)>(a0.Commitments.length:Int)))) then true else (!rv2)) then true else (!rv3)) then true else (decide (((a0.Verifications.getD iv1 default).Day)<((a0.Commitments.getD (((IntKind.i64.wrap (((a0.Verifications.getD iv1 default).Commitment)-1))).toNat) default).Day))))=false] default (@F_qt_ok ((a0.Verifications.getD iv1 default).Day)) fun rv4 cv4 =>
.calld [(bif (bif (bif (bif (bif (((a0.Verifications.getD iv1 default).Number) != (IntKind.i64.wrap ((iv1:Int)+1))) then true else (decide (((a0.Verifications.getD iv1 default).Commitment)<1))) then true else (decide (((a0.Verifications.getD iv1 default).Commitment)>(a0.Commitments.length:Int)))) then true else (!rv2)) then true else (!rv3)) then true else (decide (((a0.Verifications.getD iv1 default).Day)<((a0.Commitments.getD (((IntKind.i64.wrap (((a0.Verifications.getD iv1 default).Commitment)-1))).toNat) default).Day))))=false] default (@F_q1e_ok a0 ((a0.Verifications.getD iv1 default).Commitment)) fun rv5 cv5 =>
.guard [AllP [(bif (bif (bif (bif (((a0.Verifications.getD iv1 default).Number) != (IntKind.i64.wrap ((iv1:Int)+1))) then true else (decide (((a0.Verifications.getD iv1 default).Commitment)<1))) then true else (decide (((a0.Verifications.getD iv1 default).Commitment)>(a0.Commitments.length:Int)))) then true else (!rv2)) then true else (!rv3))=false]→((0:Int)≤(IntKind.i64.wrap (((a0.Verifications.getD iv1 default).Commitment)-1))),AllP [(bif (bif (bif (bif (((a0.Verifications.getD iv1 default).Number) != (IntKind.i64.wrap ((iv1:Int)+1))) then true else (decide (((a0.Verifications.getD iv1 default).Commitment)<1))) then true else (decide (((a0.Verifications.getD iv1 default).Commitment)>(a0.Commitments.length:Int)))) then true else (!rv2)) then true else (!rv3))=false]→(((IntKind.i64.wrap (((a0.Verifications.getD iv1 default).Commitment)-1))).toNat<a0.Commitments.length)] <|
.reg 4 [] [(21,hc cv2 [] true),(27,hc cv3 [] true),(46,hc cv4 [] true),(50,hc cv5 [] true)] [.clg 8 [(bif (bif (((a0.Verifications.getD iv1 default).Number) != (IntKind.i64.wrap ((iv1:Int)+1))) then true else (decide (((a0.Verifications.getD iv1 default).Commitment)<1))) then true else (decide (((a0.Verifications.getD iv1 default).Commitment)>(a0.Commitments.length:Int))))=false] cv2 [] 2 true,.clg 6 [(bif (bif (bif (((a0.Verifications.getD iv1 default).Number) != (IntKind.i64.wrap ((iv1:Int)+1))) then true else (decide (((a0.Verifications.getD iv1 default).Commitment)<1))) then true else (decide (((a0.Verifications.getD iv1 default).Commitment)>(a0.Commitments.length:Int)))) then true else (!rv2))=false] cv3 [] 2 true,.ev 0,.ev 1,.clg 4 [(bif (bif (bif (bif (bif (((a0.Verifications.getD iv1 default).Number) != (IntKind.i64.wrap ((iv1:Int)+1))) then true else (decide (((a0.Verifications.getD iv1 default).Commitment)<1))) then true else (decide (((a0.Verifications.getD iv1 default).Commitment)>(a0.Commitments.length:Int)))) then true else (!rv2)) then true else (!rv3)) then true else (decide (((a0.Verifications.getD iv1 default).Day)<((a0.Commitments.getD (((IntKind.i64.wrap (((a0.Verifications.getD iv1 default).Commitment)-1))).toNat) default).Day))))=false] cv4 [] 2 true,.clg 2 [(bif (bif (bif (bif (bif (((a0.Verifications.getD iv1 default).Number) != (IntKind.i64.wrap ((iv1:Int)+1))) then true else (decide (((a0.Verifications.getD iv1 default).Commitment)<1))) then true else (decide (((a0.Verifications.getD iv1 default).Commitment)>(a0.Commitments.length:Int)))) then true else (!rv2)) then true else (!rv3)) then true else (decide (((a0.Verifications.getD iv1 default).Day)<((a0.Commitments.getD (((IntKind.i64.wrap (((a0.Verifications.getD iv1 default).Commitment)-1))).toNat) default).Day))))=false] cv5 [] 2 true] <|
.ite (bif (bif (bif (bif (bif (bif (((a0.Verifications.getD iv1 default).Number) != (IntKind.i64.wrap ((iv1:Int)+1))) then true else (decide (((a0.Verifications.getD iv1 default).Commitment)<1))) then true else (decide (((a0.Verifications.getD iv1 default).Commitment)>(a0.Commitments.length:Int)))) then true else (!rv2)) then true else (!rv3)) then true else (decide (((a0.Verifications.getD iv1 default).Day)<((a0.Commitments.getD (((IntKind.i64.wrap (((a0.Verifications.getD iv1 default).Commitment)-1))).toNat) default).Day)))) then true else (decide (rv4>(IntKind.i64.wrap (rv5+1))))) (
.ret [] (.ret false)) (
.ret [] (.cont ()))
def S_q3_b2 (a0:TBo) (iv6:Nat) (_:Unit):Scr Tryz.prog R_q3 (Step (Unit) R_q3) :=
.reg 9 [] [] [.pf (nn iv6),.ev 0] <|
.call (@F_q15_ok a0 (a0.Commitments.getD iv6 default)) fun rv7 cv7 =>
.reg 10 [] [(2,hc cv7 [] true)] [.cl 0 cv7 [] 2 true] <|
.ite (decide (rv7<0)) (
.ret [] (.ret false)) (
.ret [] (.cont ()))
def S_q3_b3 (a0:TBo) (iv8:Nat) (iv9:Nat) (sv10:Int):Scr Tryz.prog R_q3 (Step (Int) R_q3) :=
.reg 24 [] [] [.pf (nn iv9),.ev 0] <|
.ite ((((a0.Orders.take iv8).getD iv9 default).Verification) != ((a0.Orders.getD iv8 default).Verification)) (
.ret [] (.cont sv10)) (
.ite (bif (!(((a0.Orders.take iv8).getD iv9 default).Back)) then true else (decide ((((a0.Orders.take iv8).getD iv9 default).Day)>((a0.Orders.getD iv8 default).Day)))) (
.ret [] (.ret false)) (
.ret [] (.cont (IntKind.i64.wrap (sv10+1)))))
def S_q3_b4 (a0:TBo) (iv8:Nat) (_:Unit):Scr Tryz.prog R_q3 (Step (Unit) R_q3) :=
.reg 15 [] [] [.pf (nn iv8),.ev 0] <|
.calld [(bif (bif (((a0.Orders.getD iv8 default).Number) != (IntKind.i64.wrap ((iv8:Int)+1))) then true else (decide (((a0.Orders.getD iv8 default).Verification)<1))) then true else (decide (((a0.Orders.getD iv8 default).Verification)>(a0.Verifications.length:Int))))=false] default (@F_qs_ok ((a0.Orders.getD iv8 default).Day)) fun rv11 cv11 =>
.reg 16 [] [(21,hc cv11 [] true)] [.clg 0 [(bif (bif (((a0.Orders.getD iv8 default).Number) != (IntKind.i64.wrap ((iv8:Int)+1))) then true else (decide (((a0.Orders.getD iv8 default).Verification)<1))) then true else (decide (((a0.Orders.getD iv8 default).Verification)>(a0.Verifications.length:Int))))=false] cv11 [] 2 true] <|
.ite (bif (bif (bif (((a0.Orders.getD iv8 default).Number) != (IntKind.i64.wrap ((iv8:Int)+1))) then true else (decide (((a0.Orders.getD iv8 default).Verification)<1))) then true else (decide (((a0.Orders.getD iv8 default).Verification)>(a0.Verifications.length:Int)))) then true else (!rv11)) (
.ret [] (.ret false)) (
.guard [(0:Int)≤(IntKind.i64.wrap (((a0.Orders.getD iv8 default).Verification)-1)),((IntKind.i64.wrap (((a0.Orders.getD iv8 default).Verification)-1))).toNat<a0.Verifications.length] <|
.reg 18 [] [] [.ev 0,.ev 1] <|
.calld [(decide (((a0.Orders.getD iv8 default).Day)<((a0.Verifications.getD (((IntKind.i64.wrap (((a0.Orders.getD iv8 default).Verification)-1))).toNat) default).Day)))=false] default (@F_qt_ok ((a0.Orders.getD iv8 default).Day)) fun rv12 cv12 =>
.calld [(decide (((a0.Orders.getD iv8 default).Day)<((a0.Verifications.getD (((IntKind.i64.wrap (((a0.Orders.getD iv8 default).Verification)-1))).toNat) default).Day)))=false] default (@F_q1e_ok a0 ((a0.Verifications.getD (((IntKind.i64.wrap (((a0.Orders.getD iv8 default).Verification)-1))).toNat) default).Commitment)) fun rv13 cv13 =>
.reg 19 [] [(8,hc cv12 [] true),(12,hc cv13 [] true)] [.clg 2 [(decide (((a0.Orders.getD iv8 default).Day)<((a0.Verifications.getD (((IntKind.i64.wrap (((a0.Orders.getD iv8 default).Verification)-1))).toNat) default).Day)))=false] cv12 [] 3 true,.clg 0 [(decide (((a0.Orders.getD iv8 default).Day)<((a0.Verifications.getD (((IntKind.i64.wrap (((a0.Orders.getD iv8 default).Verification)-1))).toNat) default).Day)))=false] cv13 [] 3 true] <|
.ite (bif (decide (((a0.Orders.getD iv8 default).Day)<((a0.Verifications.getD (((IntKind.i64.wrap (((a0.Orders.getD iv8 default).Verification)-1))).toNat) default).Day))) then true else (decide (rv12>(IntKind.i64.wrap (rv13+1))))) (
.ret [] (.ret false)) (
.guard [iv8≤a0.Orders.length] <|
.reg 22 [] [(3,hv (AV.d (eL TOr.e (a0.Orders.take iv8))))] [.pf (nn iv8),.ev 0,.der (fun (h0:iv8≤a0.Orders.length)=>lvT TOr.e a0.Orders h0) 0] <|
.range ((a0.Orders.take iv8).length:Int) ((a0.Orders.take iv8).length) rfl (.slot 146) 148 [1,8,89,90,91,146,147] (fun (sv10:Int)=>[(10,(vi sv10))]) (fun (_:Int)=>[]) 1 (S_q3_b3 a0 iv8) (fun (sv10:Int) => 
.ite (((a0.Orders.getD iv8 default).Attempt) != sv10) (
.ret [] (.ret false)) (
.ret [] (.cont ()))) .ret))
def S_q3 (a0:TBo):Scr Tryz.prog R_q3 R_q3 :=
.range (a0.Verifications.length:Int) a0.Verifications.length rfl (.slot 14) 16 [1,14,15] (fun (_:Unit)=>[]) (fun (_:Unit)=>[]) () (S_q3_b1 a0) (fun (_:Unit) => 
.range (a0.Commitments.length:Int) a0.Commitments.length rfl (.slot 77) 79 [1,77,78] (fun (_:Unit)=>[]) (fun (_:Unit)=>[]) () (S_q3_b2 a0) (fun (_:Unit) => 
.range (a0.Orders.length:Int) a0.Orders.length rfl (.slot 89) 91 [1,89,90] (fun (_:Unit)=>[]) (fun (_:Unit)=>[]) () (S_q3_b4 a0) (fun (_:Unit) => 
.ret [] true) id) id) id
def F_q3 (a0:TBo):Option R_q3:=(S_q3 a0).den
theorem F_q3_ok {a0:TBo} (r:R_q3) (h:F_q3 a0=some r):CallOk Tryz.prog 142 [(AV.d (TBo.e a0))] [] (V_q3 r) (L_q3 r):=fOk (s:=S_q3 a0) Tryz.func142 rfl (by kernel_rfl) h
abbrev R_q16:=Bool
def V_q16 (x:R_q16):AV:=(vb x)
def L_q16 (_:R_q16):List Ob:=[]
def S_q16 (a0:TBo):Scr Tryz.prog R_q16 R_q16 :=
.ite (bif (bif (bif (decide ((a0.Reservations.length:Int)>200)) then true else (decide ((a0.Commitments.length:Int)>200))) then true else (decide ((a0.Verifications.length:Int)>200))) then true else (decide ((a0.Orders.length:Int)>200))) (
.ret [] false) (
.call (@F_q14_ok a0) fun rv1 cv1 =>
.calld [rv1=true] default (@F_qb_ok a0) fun rv2 cv2 =>
.calld [(bif rv1 then rv2 else false)=true] default (@F_q3_ok a0) fun rv3 cv3 =>
.reg 3 [] [(1,hc cv1 [] true),(4,hc cv2 [] true),(8,hc cv3 [] true)] [.cl 4 cv1 [] 1 true,.clg 2 [rv1=true] cv2 [] 1 true,.clg 0 [(bif rv1 then rv2 else false)=true] cv3 [] 1 true] <|
.ret [] (bif (bif rv1 then rv2 else false) then rv3 else false))
def F_q16 (a0:TBo):Option R_q16:=(S_q16 a0).den
theorem F_q16_ok {a0:TBo} (r:R_q16) (h:F_q16 a0=some r):CallOk Tryz.prog 115 [(AV.d (TBo.e a0))] [] (V_q16 r) (L_q16 r):=fOk (s:=S_q16 a0) Tryz.func115 rfl (by kernel_rfl) h
abbrev R_q1s:=Bool
def V_q1s (x:R_q1s):AV:=(vb x)
def L_q1s (_:R_q1s):List Ob:=[]
def S_q1s (a0:Int):Scr Tryz.prog R_q1s R_q1s :=
.ret [] (bif (decide (a0≥0)) then (decide (a0≤1000000000000000)) else false)
def F_q1s (a0:Int):Option R_q1s:=(S_q1s a0).den
theorem F_q1s_ok {a0:Int} (r:R_q1s) (h:F_q1s a0=some r):CallOk Tryz.prog 143 [(vi a0)] [] (V_q1s r) (L_q1s r):=fOk (s:=S_q1s a0) Tryz.func143 rfl (by kernel_rfl) h
abbrev R_q2w:=Bool
def V_q2w (x:R_q2w):AV:=(vb x)
def L_q2w (_:R_q2w):List Ob:=[]
def S_q2w (a0:TRi):Scr Tryz.prog R_q2w R_q2w :=
.call (@F_ql_ok a0.Code) fun rv1 cv1 =>
.calld [(bif (bif rv1 then (decide (a0.Year≥0)) else false) then (decide (a0.Year≤99)) else false)=true] default (@F_q1s_ok a0.Granted) fun rv2 cv2 =>
.calld [(bif (bif (bif rv1 then (decide (a0.Year≥0)) else false) then (decide (a0.Year≤99)) else false) then rv2 else false)=true] default (@F_q1s_ok a0.Asked) fun rv3 cv3 =>
.reg 1 [] [(2,hc cv1 [] true),(16,hc cv2 [] true),(21,hc cv3 [] true)] [.cl 4 cv1 [] 1 true,.clg 2 [(bif (bif rv1 then (decide (a0.Year≥0)) else false) then (decide (a0.Year≤99)) else false)=true] cv2 [] 1 true,.clg 0 [(bif (bif (bif rv1 then (decide (a0.Year≥0)) else false) then (decide (a0.Year≤99)) else false) then rv2 else false)=true] cv3 [] 1 true] <|
.ret [] (bif (bif (bif (bif (bif (bif rv1 then (decide (a0.Year≥0)) else false) then (decide (a0.Year≤99)) else false) then rv2 else false) then rv3 else false) then (decide (a0.Returned≥0)) else false) then (decide (a0.Returned≤a0.Granted)) else false)
def F_q2w (a0:TRi):Option R_q2w:=(S_q2w a0).den
theorem F_q2w_ok {a0:TRi} (r:R_q2w) (h:F_q2w a0=some r):CallOk Tryz.prog 116 [(AV.d (TRi.e a0))] [] (V_q2w r) (L_q2w r):=fOk (s:=S_q2w a0) Tryz.func116 rfl (by kernel_rfl) h
abbrev R_qu:=Int
def V_qu (x:R_qu):AV:=(vi x)
def L_qu (_:R_qu):List Ob:=[]
def S_qu_b1 (a0:TOf) (a1:List UInt8) (a2:Int) (iv1:Nat) (_:Unit):Scr Tryz.prog R_qu (Step (Unit) R_qu) :=
.reg 3 [] [] [.pf (nn iv1),.ev 0] <|
.ite (bif (((a0.Rights.getD iv1 default).Code)==a1) then (((a0.Rights.getD iv1 default).Year)==a2) else false) (
.ret [] (.ret (iv1:Int))) (
.ret [] (.cont ()))
def S_qu (a0:TOf) (a1:List UInt8) (a2:Int):Scr Tryz.prog R_qu R_qu :=
.range (a0.Rights.length:Int) a0.Rights.length rfl (.slot 10) 12 [1,2,10,11] (fun (_:Unit)=>[]) (fun (_:Unit)=>[]) () (S_qu_b1 a0 a1 a2) (fun (_:Unit) => 
.ret [] (-1)) id
def F_qu (a0:TOf) (a1:List UInt8) (a2:Int):Option R_qu:=(S_qu a0 a1 a2).den
theorem F_qu_ok {a0:TOf} {a1:List UInt8} {a2:Int} (r:R_qu) (h:F_qu a0 a1 a2=some r):CallOk Tryz.prog 86 [(AV.d (TOf.e a0)),(AV.d (DV.str a1)),(vi a2)] [] (V_qu r) (L_qu r):=fOk (s:=S_qu a0 a1 a2) Tryz.func86 rfl (by kernel_rfl) h
abbrev R_q35:=TRi
def V_q35 (x:R_q35):AV:=(AV.d (TRi.e x))
def L_q35 (_:R_q35):List Ob:=[]
def S_q35 (a0:TOf) (a1:List UInt8) (a2:Int):Scr Tryz.prog R_q35 R_q35 :=
.call (@F_qu_ok a0 a1 a2) fun rv1 cv1 =>
.reg 1 [] [(3,hc cv1 [] true)] [.cl 0 cv1 [] 2 true] <|
.ite (decide (rv1≥0)) (
.guard [(0:Int)≤rv1,(rv1).toNat<a0.Rights.length] <|
.reg 3 [] [] [.ev 0,.ev 1] <|
.ret [] (a0.Rights.getD ((rv1).toNat) default)) (
.ret [] (⟨a1,a2,0,0,0⟩:TRi))
def F_q35 (a0:TOf) (a1:List UInt8) (a2:Int):Option R_q35:=(S_q35 a0 a1 a2).den
theorem F_q35_ok {a0:TOf} {a1:List UInt8} {a2:Int} (r:R_q35) (h:F_q35 a0 a1 a2=some r):CallOk Tryz.prog 121 [(AV.d (TOf.e a0)),(AV.d (DV.str a1)),(vi a2)] [] (V_q35 r) (L_q35 r):=fOk (s:=S_q35 a0 a1 a2) Tryz.func121 rfl (by kernel_rfl) h
abbrev R_qe:=Int
def V_qe (x:R_qe):AV:=(vi x)
def L_qe (_:R_qe):List Ob:=[]
def S_qe_b1 (a0:TBo) (iv1:Nat) (iv2:Nat) (sv3:Int):Scr Tryz.prog R_qe (Step (Int) R_qe) :=
.reg 9 [] [] [.pf (nn iv2),.ev 0] <|
.ite (((a0.Commitments.getD iv2 default).Reservation)==((a0.Reservations.getD iv1 default).Number)) (
.ret [] (.cont (IntKind.i64.wrap (sv3-((a0.Commitments.getD iv2 default).Released))))) (
.ret [] (.cont sv3))
def S_qe_b2 (a0:TBo) (a1:List UInt8) (a2:Int) (iv1:Nat) (sv4:Int):Scr Tryz.prog R_qe (Step (Int) R_qe) :=
.reg 4 [] [] [.pf (nn iv1),.ev 0] <|
.ite (bif (!(((a0.Reservations.getD iv1 default).Code)==a1)) then true else (((a0.Reservations.getD iv1 default).Year) != a2)) (
.ret [] (.cont sv4)) (
.range (a0.Commitments.length:Int) a0.Commitments.length rfl (.slot 37) 39 [1,2,3,9,13,14,15,37,38] (fun (sv3:Int)=>[(7,(vi sv3))]) (fun (_:Int)=>[]) (IntKind.i64.wrap (sv4+(IntKind.i64.wrap (((a0.Reservations.getD iv1 default).Amount)-((a0.Reservations.getD iv1 default).Released))))) (S_qe_b1 a0 iv1) (fun (sv3:Int) => 
.ret [] (.cont sv3)) .ret)
def S_qe (a0:TBo) (a1:List UInt8) (a2:Int):Scr Tryz.prog R_qe R_qe :=
.range (a0.Reservations.length:Int) a0.Reservations.length rfl (.slot 13) 15 [1,2,3,13,14] (fun (sv4:Int)=>[(7,(vi sv4))]) (fun (_:Int)=>[]) 0 (S_qe_b2 a0 a1 a2) (fun (sv4:Int) => 
.ret [] sv4) id
def F_qe (a0:TBo) (a1:List UInt8) (a2:Int):Option R_qe:=(S_qe a0 a1 a2).den
theorem F_qe_ok {a0:TBo} {a1:List UInt8} {a2:Int} (r:R_qe) (h:F_qe a0 a1 a2=some r):CallOk Tryz.prog 34 [(AV.d (TBo.e a0)),(AV.d (DV.str a1)),(vi a2)] [] (V_qe r) (L_qe r):=fOk (s:=S_qe a0 a1 a2) Tryz.func34 rfl (by kernel_rfl) h
abbrev R_q36:=Int
def V_q36 (x:R_q36):AV:=(vi x)
def L_q36 (_:R_q36):List Ob:=[]
def S_q36 (a0:TOf) (a1:List UInt8) (a2:Int):Scr Tryz.prog R_q36 R_q36 :=
.call (@F_q35_ok a0 a1 a2) fun rv1 cv1 =>
.reg 1 [] [(3,hc cv1 [] true)] [.cl 0 cv1 [] 1 true] <|
.call (@F_qe_ok a0.Book a1 a2) fun rv2 cv2 =>
.reg 2 [] [(9,hc cv2 [] true)] [.cl 0 cv2 [] 2 true] <|
.ret [] (IntKind.i64.wrap ((IntKind.i64.wrap (rv1.Granted-rv1.Returned))-rv2))
def F_q36 (a0:TOf) (a1:List UInt8) (a2:Int):Option R_q36:=(S_q36 a0 a1 a2).den
theorem F_q36_ok {a0:TOf} {a1:List UInt8} {a2:Int} (r:R_q36) (h:F_q36 a0 a1 a2=some r):CallOk Tryz.prog 78 [(AV.d (TOf.e a0)),(AV.d (DV.str a1)),(vi a2)] [] (V_q36 r) (L_q36 r):=fOk (s:=S_q36 a0 a1 a2) Tryz.func78 rfl (by kernel_rfl) h
theorem cz3:LeV (AV.full 0 fun _=>DV.b false) (vl ([])):=lvN (DV.i .i64)
abbrev R_qm:=(List Int)
def V_qm (x:R_qm):AV:=(vl x)
def L_qm (_:R_qm):List Ob:=[]
def S_qm_b1 (a0:List UInt8) (sv1:(List Int)×Int×Int×Int):Scr Tryz.prog R_qm (Step ((List Int)×Int×Int×Int) R_qm) :=
.ite (decide (sv1.2.2.2≤(a0.length:Int))) (
.guard [AllP [(sv1.2.2.2==(a0.length:Int))=false]→((0:Int)≤sv1.2.2.2),AllP [(sv1.2.2.2==(a0.length:Int))=false]→((sv1.2.2.2).toNat<a0.length)] <|
.reg 8 [] [] [.ev 0,.ev 1] <|
.ite (bif (sv1.2.2.2==(a0.length:Int)) then true else (((a0.getD ((sv1.2.2.2).toNat) 0).toNat:Int)==46)) (
.guard [AllP [(bif (sv1.2.2.1==0) then true else (decide (sv1.2.2.1>2)))=false]→((0:Int)≤(IntKind.i64.wrap (sv1.2.2.2-sv1.2.2.1))),AllP [(bif (sv1.2.2.1==0) then true else (decide (sv1.2.2.1>2)))=false]→(((IntKind.i64.wrap (sv1.2.2.2-sv1.2.2.1))).toNat<a0.length)] <|
.reg 9 [] [] [.ev 0,.ev 1] <|
.ite (bif (bif (sv1.2.2.1==0) then true else (decide (sv1.2.2.1>2))) then true else (((a0.getD (((IntKind.i64.wrap (sv1.2.2.2-sv1.2.2.1))).toNat) 0).toNat:Int)==48)) (
.ret [.pf cz3] (.ret ([]))) (
.guard [(sv1.1.length+1) * (2 * 8)≤2 ^ 48] <|
.reg 11 [] [(2,hv (vl ([sv1.2.1]:List Int))),(3,{ h:=.obj,cast:=some (AV.ref 0 ((sv1.1++([sv1.2.1]:List Int)).length) 0 ((sv1.1++([sv1.2.1]:List Int)).length)),obs:=[(0,(eS 1 (DV.i .i64) (sv1.1++([sv1.2.1]:List Int))))] })] [.pf (zd (DV.i .i64) ([sv1.2.1]:List Int)),.pf (Eq.refl sv1.1.length),.pf (Eq.refl sv1.1.length),.pf (p:=∀ k,k<1→(AV.d ((DV.i .i64) (([sv1.2.1]:List Int).getD k default))).wd=1) (fun _ _=>rfl),.ev 0,.pf (zy (o:=0) (l:=sv1.1) (x:=([sv1.2.1]:List Int))),.pf (zx (sz:=1) (e:=(DV.i .i64)) (l:=sv1.1) (x:=([sv1.2.1]:List Int)))] <|
.ret [] (.cont ((sv1.1++([sv1.2.1]:List Int)),0,0,(IntKind.i64.wrap (sv1.2.2.2+1)))))) (
.guard [(0:Int)≤sv1.2.2.2,(sv1.2.2.2).toNat<a0.length,AllP [(decide (((a0.getD ((sv1.2.2.2).toNat) 0).toNat:Int)<48))=false]→((0:Int)≤sv1.2.2.2),AllP [(decide (((a0.getD ((sv1.2.2.2).toNat) 0).toNat:Int)<48))=false]→((sv1.2.2.2).toNat<a0.length)] <|
.reg 13 [] [] [.ev 0,.ev 1,.ev 2,.ev 3] <|
.ite (bif (decide (((a0.getD ((sv1.2.2.2).toNat) 0).toNat:Int)<48)) then true else (decide (((a0.getD ((sv1.2.2.2).toNat) 0).toNat:Int)>57))) (
.ret [.pf cz3] (.ret ([]))) (
.reg 15 [] [] [.ev 1,.ev 2] <|
.ret [] (.cont (sv1.1,(IntKind.i64.wrap ((IntKind.i64.wrap (10 * sv1.2.1))+(IntKind.i64.wrap (IntKind.u8.wrap (((a0.getD ((sv1.2.2.2).toNat) 0).toNat:Int)-48))))),(IntKind.i64.wrap (sv1.2.2.1+1)),(IntKind.i64.wrap (sv1.2.2.2+1))))))) (
.ret [] (.brk (sv1.1,sv1.2.1,sv1.2.2.1,sv1.2.2.2)))
def S_qm (a0:List UInt8):Scr Tryz.prog R_qm R_qm :=
.ite (decide ((a0.length:Int)>12)) (
.ret [.pf cz3] ([])) (
.reg 5 [] [] [] <|
.bor 1 (fun j=>AV.d ((DV.i .i64) (([]:List Int).getD j default))) [3] <|
.iter [0] (fun (sv1:(List Int)×Int×Int×Int)=>[(3,(AV.ref 0 sv1.1.length 0 sv1.1.length)),(4,(vi sv1.2.1)),(5,(vi sv1.2.2.1)),(6,(vi sv1.2.2.2))]) (fun (sv1:(List Int)×Int×Int×Int)=>[(0,(eS 1 (DV.i .i64) sv1.1))]) (([]:List Int),0,0,0) (S_qm_b1 a0) (fun (sv1:(List Int)×Int×Int×Int) =>
.ite (decide ((sv1.1.length:Int)>4)) (
.ret [.pf cz3] ([])) (
.guard [sv1.1.length<2 ^ 63] <|
.reg 18 [] [] [] <|
.frz 0 (.ev 0) none [2] [] <|
.ret [] sv1.1)) id)
def F_qm (a0:List UInt8):Option R_qm:=(S_qm a0).den
theorem F_qm_ok {a0:List UInt8} (r:R_qm) (h:F_qm a0=some r):CallOk Tryz.prog 144 [(AV.d (DV.str a0))] [] (V_qm r) (L_qm r):=fOk (s:=S_qm a0) Tryz.func144 rfl (by kernel_rfl) h
abbrev R_qv:=Int
def V_qv (x:R_qv):AV:=(vi x)
def L_qv (_:R_qv):List Ob:=[]
def S_qv_b1 (rv1:R_qm) (rv2:R_qm) (sv3:Int):Scr Tryz.prog R_qv (Step (Int) R_qv) :=
.ite (bif (decide (sv3<(rv1.length:Int))) then (decide (sv3<(rv2.length:Int))) else false) (
.guard [(0:Int)≤sv3,(sv3).toNat<rv1.length,(sv3).toNat<rv2.length] <|
.reg 15 [] [] [.ev 0,.ev 1,.ev 0,.ev 2] <|
.ite (decide ((rv1.getD ((sv3).toNat) default)<(rv2.getD ((sv3).toNat) default))) (
.ret [] (.ret (-1))) (
.reg 17 [] [] [.ev 1,.ev 2,.ev 1,.ev 3] <|
.ite (decide ((rv1.getD ((sv3).toNat) default)>(rv2.getD ((sv3).toNat) default))) (
.ret [] (.ret 1)) (
.ret [] (.cont (IntKind.i64.wrap (sv3+1)))))) (
.ret [] (.brk sv3))
def S_qv (a0:List UInt8) (a1:List UInt8):Scr Tryz.prog R_qv R_qv :=
.call (@F_qm_ok a0) fun rv1 cv1 =>
.call (@F_qm_ok a1) fun rv2 cv2 =>
.reg 1 [] [(1,hc cv1 [] true),(3,hc cv2 [] true)] [.cl 1 cv1 [] 0 true,.cl 0 cv2 [] 0 true] <|
.ite (bif ((rv1.length:Int)==0) then true else ((rv2.length:Int)==0)) (
.ite (decide ((rv1.length:Int)>0)) (
.ret [] 1) (
.ite (decide ((rv2.length:Int)>0)) (
.ret [] (-1)) (
.ite (Op.bytesLess a0 a1) (
.ret [] (-1)) (
.ite (!(Op.bytesLess a0 a1||a0==a1)) (
.ret [] 1) (
.ret [] 0))))) (
.iter [5,6] (fun (sv3:Int)=>[(7,(vi sv3))]) (fun (_:Int)=>[]) 0 (S_qv_b1 rv1 rv2) (fun (_:Int) =>
.ite (decide ((rv1.length:Int)<(rv2.length:Int))) (
.ret [] (-1)) (
.ite (decide ((rv1.length:Int)>(rv2.length:Int))) (
.ret [] 1) (
.ret [] 0))) id)
def F_qv (a0:List UInt8) (a1:List UInt8):Option R_qv:=(S_qv a0 a1).den
theorem F_qv_ok {a0:List UInt8} {a1:List UInt8} (r:R_qv) (h:F_qv a0 a1=some r):CallOk Tryz.prog 117 [(AV.d (DV.str a0)),(AV.d (DV.str a1))] [] (V_qv r) (L_qv r):=fOk (s:=S_qv a0 a1) Tryz.func117 rfl (by kernel_rfl) h
abbrev R_q9:=Bool
def V_q9 (x:R_q9):AV:=(vb x)
def L_q9 (_:R_q9):List Ob:=[]
def S_q9_b1 (a0:TOf) (iv1:Nat) (_:Unit):Scr Tryz.prog R_q9 (Step (Unit) R_q9) :=
.reg 5 [] [] [.pf (nn iv1),.ev 0] <|
.call (@F_q2w_ok (a0.Rights.getD iv1 default)) fun rv2 cv2 =>
.calld [(!rv2)=false] default (@F_q36_ok a0 ((a0.Rights.getD iv1 default).Code) ((a0.Rights.getD iv1 default).Year)) fun rv3 cv3 =>
.reg 6 [] [(1,hc cv2 [] true),(9,hc cv3 [] true)] [.cl 2 cv2 [] 2 true,.clg 0 [(!rv2)=false] cv3 [] 2 true] <|
.ite (bif (!rv2) then true else (decide (rv3<0))) (
.ret [] (.ret false)) (
.ite (decide ((iv1:Int)>0)) (
.call (@F_qv_ok ((a0.Rights.getD (((IntKind.i64.wrap ((iv1:Int)-1))).toNat) default).Code) ((a0.Rights.getD iv1 default).Code)) fun rv4 cv4 =>
.guard [(0:Int)≤(IntKind.i64.wrap ((iv1:Int)-1)),((IntKind.i64.wrap ((iv1:Int)-1))).toNat<a0.Rights.length] <|
.reg 9 [] [(9,hc cv4 [] true)] [.ev 0,.ev 1,.cl 2 cv4 [] 2 true] <|
.guard [AllP [(rv4==0)=true,(decide (rv4>0))=false]→((0:Int)≤(IntKind.i64.wrap ((iv1:Int)-1))),AllP [(rv4==0)=true,(decide (rv4>0))=false]→(((IntKind.i64.wrap ((iv1:Int)-1))).toNat<a0.Rights.length)] <|
.reg 10 [] [] [.ev 0,.ev 1] <|
.ite (bif (decide (rv4>0)) then true else (bif (rv4==0) then (decide (((a0.Rights.getD (((IntKind.i64.wrap ((iv1:Int)-1))).toNat) default).Year)≥((a0.Rights.getD iv1 default).Year))) else false)) (
.ret [] (.ret false)) (
.ret [] (.cont ()))) (
.ret [] (.cont ())))
def S_q9_b2 (a0:TOf) (iv5:Nat) (_:Unit):Scr Tryz.prog R_q9 (Step (Unit) R_q9) :=
.reg 15 [] [] [.pf (nn iv5),.ev 0] <|
.call (@F_qu_ok a0 ((a0.Book.Reservations.getD iv5 default).Code) ((a0.Book.Reservations.getD iv5 default).Year)) fun rv6 cv6 =>
.reg 16 [] [(5,hc cv6 [] true)] [.cl 0 cv6 [] 2 true] <|
.ite (decide (rv6<0)) (
.ret [] (.ret false)) (
.ret [] (.cont ()))
def S_q9 (a0:TOf):Scr Tryz.prog R_q9 R_q9 :=
.calld [(bif (bif (decide (a0.Number<1)) then true else (decide (a0.Number>6))) then true else (decide ((a0.Rights.length:Int)>60)))=false] default (@F_q16_ok a0.Book) fun rv7 cv7 =>
.reg 1 [] [(17,hc cv7 [] true)] [.clg 0 [(bif (bif (decide (a0.Number<1)) then true else (decide (a0.Number>6))) then true else (decide ((a0.Rights.length:Int)>60)))=false] cv7 [] 1 true] <|
.ite (bif (bif (bif (decide (a0.Number<1)) then true else (decide (a0.Number>6))) then true else (decide ((a0.Rights.length:Int)>60))) then true else (!rv7)) (
.ret [] false) (
.range (a0.Rights.length:Int) a0.Rights.length rfl (.slot 29) 31 [1,29,30] (fun (_:Unit)=>[]) (fun (_:Unit)=>[]) () (S_q9_b1 a0) (fun (_:Unit) => 
.range (a0.Book.Reservations.length:Int) a0.Book.Reservations.length rfl (.slot 81) 83 [1,81,82] (fun (_:Unit)=>[]) (fun (_:Unit)=>[]) () (S_q9_b2 a0) (fun (_:Unit) => 
.ret [] true) id) id)
def F_q9 (a0:TOf):Option R_q9:=(S_q9 a0).den
theorem F_q9_ok {a0:TOf} (r:R_q9) (h:F_q9 a0=some r):CallOk Tryz.prog 76 [(AV.d (TOf.e a0))] [] (V_q9 r) (L_q9 r):=fOk (s:=S_q9 a0) Tryz.func76 rfl (by kernel_rfl) h
end
end Go.Proofs.YtclaojamgomjbaaGreatDoor
/- What the functions compute,and that their calls return it. No condition. -/
namespace Go.Proofs.YtclaojamgomjbaaGreatDoor
open Go Go.TA
noncomputable section
set_option maxRecDepth 100000
theorem cz4:OLe (bx (DV.agg [Z0,Z0,Z0,Z0])) (bx (TBo.e (⟨[],[],[],[]⟩:TBo))):=z4z (DLe.agg (DLeL.cons DLe.sl0 (DLeL.cons DLe.sl0 (DLeL.cons DLe.sl0 (DLeL.cons DLe.sl0 DLeL.nil)))))
abbrev R_q1f:=(List TRe)×(List TCo)×(List TVe)×(List TOr)
def V_q1f (x:R_q1f):AV:=(AV.agg [(AV.ref 2 x.1.length 0 x.1.length),(AV.ref 3 x.2.1.length 0 x.2.1.length),(AV.ref 4 x.2.2.1.length 0 x.2.2.1.length),(AV.ref 5 x.2.2.2.length 0 x.2.2.2.length)])
def L_q1f (x:R_q1f):List Ob:=[Ob.dead,(Ob.box (AV.agg [(AV.ref 2 x.1.length 0 x.1.length),(AV.ref 3 x.2.1.length 0 x.2.1.length),(AV.ref 4 x.2.2.1.length 0 x.2.2.1.length),(AV.ref 5 x.2.2.2.length 0 x.2.2.2.length)])),(eS 6 TRe.e x.1),(eS 7 TCo.e x.2.1),(eS 4 TVe.e x.2.2.1),(eS 5 TOr.e x.2.2.2)]
def S_q1f (a0:TBo):Scr Tryz.prog R_q1f R_q1f :=
.reg 0 [] [(1,{ obs:=[(1,(bx (TBo.e (⟨[],[],[],[]⟩:TBo))))] })] [.pf cz4] <|
.guard [a0.Reservations.length * (2 * 56)≤2 ^ 48,a0.Commitments.length * (2 * 56)≤2 ^ 48,a0.Verifications.length * (2 * 32)≤2 ^ 48,a0.Orders.length * (2 * 40)≤2 ^ 48] <|
.reg 1 [3,7,11,15,17] [(3,{ h:=.obj }),(7,{ h:=.obj }),(11,{ h:=.obj }),(15,{ h:=.obj })] [.pf (p:=∀ k,k<a0.Reservations.length→(AV.d (TRe.e (a0.Reservations.getD k default))).wd=6) (fun _ _=>rfl),.ev 0,.pf (p:=∀ k,k<a0.Commitments.length→(AV.d (TCo.e (a0.Commitments.getD k default))).wd=7) (fun _ _=>rfl),.ev 1,.pf (p:=∀ k,k<a0.Verifications.length→(AV.d (TVe.e (a0.Verifications.getD k default))).wd=4) (fun _ _=>rfl),.ev 2,.pf (p:=∀ k,k<a0.Orders.length→(AV.d (TOr.e (a0.Orders.getD k default))).wd=5) (fun _ _=>rfl),.ev 3] <|
.kill 0 <|
.ret [] (a0.Reservations,a0.Commitments,a0.Verifications,a0.Orders)
def F_q1f (a0:TBo):Option R_q1f:=(S_q1f a0).den
theorem F_q1f_ok {a0:TBo} (r:R_q1f) (h:F_q1f a0=some r):CallOk Tryz.prog 120 [(AV.d (TBo.e a0))] [] (V_q1f r) (L_q1f r):=fOk (s:=S_q1f a0) Tryz.func120 rfl (by kernel_rfl) h
theorem cz5:LeV (AV.d (DV.agg [Z0,Z0,Z0,Z0])) (AV.d (TBo.e (⟨[],[],[],[]⟩:TBo))):=z3p rfl (DLe.agg (DLeL.cons DLe.sl0 (DLeL.cons DLe.sl0 (DLeL.cons DLe.sl0 (DLeL.cons DLe.sl0 DLeL.nil)))))
abbrev R_q3m:=TBo×Int
def V_q3m (x:R_q3m):AV:=(AV.tup [(AV.d (TBo.e x.1)),(vi x.2)])
def L_q3m (_:R_q3m):List Ob:=[]
def S_q3m (a0:TBo) (a1:List UInt8) (a2:Int) (a3:Int) (a4:Int):Scr Tryz.prog R_q3m R_q3m :=
.reg 0 [] [(1,{ obs:=[(1,(bx (TBo.e (⟨[],[],[],[]⟩:TBo))))] })] [.pf cz4] <|
.call (@F_q16_ok a0) fun rv1 cv1 =>
.reg 1 [] [(1,hc cv1 [] true)] [.cl 0 cv1 [] 2 true] <|
.ite (!rv1) (
.reg 2 [] [(0,hv (AV.d (TBo.e (⟨[],[],[],[]⟩:TBo))))] [.pf cz5] <|
.ret [] ((⟨[],[],[],[]⟩:TBo),1)) (
.call (@F_ql_ok a1) fun rv2 cv2 =>
.reg 3 [] [(1,hc cv2 [] true)] [.cl 0 cv2 [] 2 true] <|
.ite (!rv2) (
.reg 4 [] [(0,hv (AV.d (TBo.e (⟨[],[],[],[]⟩:TBo))))] [.pf cz5] <|
.ret [] ((⟨[],[],[],[]⟩:TBo),5)) (
.calld [(bif (decide (a2<0)) then true else (decide (a2>99)))=false] default (@F_qs_ok a3) fun rv3 cv3 =>
.calld [(bif (bif (decide (a2<0)) then true else (decide (a2>99))) then true else (!rv3))=false] default (@F_q13_ok a4) fun rv4 cv4 =>
.reg 5 [] [(8,hc cv3 [] true),(13,hc cv4 [] true)] [.clg 2 [(bif (decide (a2<0)) then true else (decide (a2>99)))=false] cv3 [] 2 true,.clg 0 [(bif (bif (decide (a2<0)) then true else (decide (a2>99))) then true else (!rv3))=false] cv4 [] 2 true] <|
.ite (bif (bif (bif (decide (a2<0)) then true else (decide (a2>99))) then true else (!rv3)) then true else (!rv4)) (
.reg 6 [] [(0,hv (AV.d (TBo.e (⟨[],[],[],[]⟩:TBo))))] [.pf cz5] <|
.ret [] ((⟨[],[],[],[]⟩:TBo),2)) (
.call (@F_qt_ok a3) fun rv5 cv5 =>
.reg 7 [] [(1,hc cv5 [] true)] [.cl 0 cv5 [] 2 true] <|
.ite (rv5 != a2) (
.reg 8 [] [(0,hv (AV.d (TBo.e (⟨[],[],[],[]⟩:TBo))))] [.pf cz5] <|
.ret [] ((⟨[],[],[],[]⟩:TBo),16)) (
.ite ((a0.Reservations.length:Int)==200) (
.reg 10 [] [(0,hv (AV.d (TBo.e (⟨[],[],[],[]⟩:TBo))))] [.pf cz5] <|
.ret [] ((⟨[],[],[],[]⟩:TBo),3)) (
.call (@F_q1f_ok a0) fun rv6 cv6 =>
.reg 11 [] [(1,hc cv6 [] false),(2,{ h:=.obj })] [.cl 0 cv6 [] 2 false] <|
.kill 3 <|
.guard [rv6.2.1.length<2 ^ 63] <|
.frz 5 (.ev 0) none [] [8] <|
.guard [rv6.2.2.1.length<2 ^ 63] <|
.frz 6 (.ev 0) none [] [8] <|
.guard [rv6.2.2.2.length<2 ^ 63] <|
.frz 7 (.ev 0) none [] [8] <|
.guard [(rv6.1.length+1) * (2 * 56)≤2 ^ 48] <|
.reg 12 [] [(11,hv (AV.d (eL TRe.e ([(⟨(IntKind.i64.wrap ((a0.Reservations.length:Int)+1)),a1,a2,a3,a4,0⟩:TRe)]:List TRe)))),(12,{ cast:=some (AV.ref 4 ((rv6.1++([(⟨(IntKind.i64.wrap ((a0.Reservations.length:Int)+1)),a1,a2,a3,a4,0⟩:TRe)]:List TRe)).length) 0 ((rv6.1++([(⟨(IntKind.i64.wrap ((a0.Reservations.length:Int)+1)),a1,a2,a3,a4,0⟩:TRe)]:List TRe)).length)),obs:=[(4,(eS 6 TRe.e (rv6.1++([(⟨(IntKind.i64.wrap ((a0.Reservations.length:Int)+1)),a1,a2,a3,a4,0⟩:TRe)]:List TRe))))] })] [.pf (zd TRe.e ([(⟨(IntKind.i64.wrap ((a0.Reservations.length:Int)+1)),a1,a2,a3,a4,0⟩:TRe)]:List TRe)),.pf (Eq.refl rv6.1.length),.pf (Eq.refl rv6.1.length),.pf (p:=∀ k,k<1→(AV.d (TRe.e (([(⟨(IntKind.i64.wrap ((a0.Reservations.length:Int)+1)),a1,a2,a3,a4,0⟩:TRe)]:List TRe).getD k default))).wd=6) (fun _ _=>rfl),.ev 0,.pf (zy (o:=4) (l:=rv6.1) (x:=([(⟨(IntKind.i64.wrap ((a0.Reservations.length:Int)+1)),a1,a2,a3,a4,0⟩:TRe)]:List TRe))),.pf (zx (sz:=6) (e:=TRe.e) (l:=rv6.1) (x:=([(⟨(IntKind.i64.wrap ((a0.Reservations.length:Int)+1)),a1,a2,a3,a4,0⟩:TRe)]:List TRe)))] <|
.guard [(rv6.1++([(⟨(IntKind.i64.wrap ((a0.Reservations.length:Int)+1)),a1,a2,a3,a4,0⟩:TRe)]:List TRe)).length<2 ^ 63] <|
.reg 13 [] [] [] <|
.frz 4 (.ev 0) none [] [1,8] <|
.ret [] ((⟨(rv6.1++([(⟨(IntKind.i64.wrap ((a0.Reservations.length:Int)+1)),a1,a2,a3,a4,0⟩:TRe)]:List TRe)),rv6.2.1,rv6.2.2.1,rv6.2.2.2⟩:TBo),0))))))
def F_q3m (a0:TBo) (a1:List UInt8) (a2:Int) (a3:Int) (a4:Int):Option R_q3m:=(S_q3m a0 a1 a2 a3 a4).den
theorem F_q3m_ok {a0:TBo} {a1:List UInt8} {a2:Int} {a3:Int} {a4:Int} (r:R_q3m) (h:F_q3m a0 a1 a2 a3 a4=some r):CallOk Tryz.prog 77 [(AV.d (TBo.e a0)),(AV.d (DV.str a1)),(vi a2),(vi a3),(vi a4)] [] (V_q3m r) (L_q3m r):=fOk (s:=S_q3m a0 a1 a2 a3 a4) Tryz.func77 rfl (by kernel_rfl) h
abbrev R_q3n:=TBo×Int
def V_q3n (x:R_q3n):AV:=(AV.tup [(AV.d (TBo.e x.1)),(vi x.2)])
def L_q3n (_:R_q3n):List Ob:=[]
def S_q3n (a0:TBo) (a1:Int) (a2:Int) (a3:Int) (a4:Int) (a5:Int):Scr Tryz.prog R_q3n R_q3n :=
.reg 0 [] [(1,{ obs:=[(1,(bx (TBo.e (⟨[],[],[],[]⟩:TBo))))] })] [.pf cz4] <|
.call (@F_q16_ok a0) fun rv1 cv1 =>
.reg 1 [] [(1,hc cv1 [] true)] [.cl 0 cv1 [] 2 true] <|
.ite (!rv1) (
.reg 2 [] [(0,hv (AV.d (TBo.e (⟨[],[],[],[]⟩:TBo))))] [.pf cz5] <|
.ret [] ((⟨[],[],[],[]⟩:TBo),1)) (
.ite (bif (decide (a1<1)) then true else (decide (a1>(a0.Reservations.length:Int)))) (
.reg 4 [] [(0,hv (AV.d (TBo.e (⟨[],[],[],[]⟩:TBo))))] [.pf cz5] <|
.ret [] ((⟨[],[],[],[]⟩:TBo),6)) (
.call (@F_qs_ok a2) fun rv2 cv2 =>
.calld [(!rv2)=false] default (@F_q13_ok a3) fun rv3 cv3 =>
.calld [(bif (bif (bif (!rv2) then true else (!rv3)) then true else (decide (a4<1))) then true else (decide (a4>1000000)))=false] default (@F_qs_ok a5) fun rv4 cv4 =>
.reg 5 [] [(1,hc cv2 [] true),(5,hc cv3 [] true),(18,hc cv4 [] true)] [.cl 4 cv2 [] 2 true,.clg 2 [(!rv2)=false] cv3 [] 2 true,.clg 0 [(bif (bif (bif (!rv2) then true else (!rv3)) then true else (decide (a4<1))) then true else (decide (a4>1000000)))=false] cv4 [] 2 true] <|
.ite (bif (bif (bif (bif (!rv2) then true else (!rv3)) then true else (decide (a4<1))) then true else (decide (a4>1000000))) then true else (!rv4)) (
.reg 6 [] [(0,hv (AV.d (TBo.e (⟨[],[],[],[]⟩:TBo))))] [.pf cz5] <|
.ret [] ((⟨[],[],[],[]⟩:TBo),2)) (
.guard [(0:Int)≤(IntKind.i64.wrap (a1-1)),((IntKind.i64.wrap (a1-1))).toNat<a0.Reservations.length] <|
.reg 7 [] [] [.ev 0,.ev 1] <|
.call (@F_qt_ok a2) fun rv5 cv5 =>
.reg 8 [] [(1,hc cv5 [] true)] [.cl 0 cv5 [] 3 true] <|
.ite (rv5 != ((a0.Reservations.getD (((IntKind.i64.wrap (a1-1))).toNat) default).Year)) (
.reg 9 [] [(0,hv (AV.d (TBo.e (⟨[],[],[],[]⟩:TBo))))] [.pf cz5] <|
.ret [] ((⟨[],[],[],[]⟩:TBo),16)) (
.ite (decide (a2<((a0.Reservations.getD (((IntKind.i64.wrap (a1-1))).toNat) default).Day))) (
.reg 11 [] [(0,hv (AV.d (TBo.e (⟨[],[],[],[]⟩:TBo))))] [.pf cz5] <|
.ret [] ((⟨[],[],[],[]⟩:TBo),8)) (
.call (@F_qi_ok a0 a1) fun rv6 cv6 =>
.reg 12 [] [(3,hc cv6 [] true)] [.cl 0 cv6 [] 3 true] <|
.ite (decide (a3>rv6)) (
.reg 13 [] [(0,hv (AV.d (TBo.e (⟨[],[],[],[]⟩:TBo))))] [.pf cz5] <|
.ret [] ((⟨[],[],[],[]⟩:TBo),15)) (
.ite ((a0.Commitments.length:Int)==200) (
.reg 15 [] [(0,hv (AV.d (TBo.e (⟨[],[],[],[]⟩:TBo))))] [.pf cz5] <|
.ret [] ((⟨[],[],[],[]⟩:TBo),3)) (
.call (@F_q1f_ok a0) fun rv7 cv7 =>
.reg 16 [] [(1,hc cv7 [] false),(2,{ h:=.obj })] [.cl 0 cv7 [] 3 false] <|
.kill 4 <|
.guard [rv7.1.length<2 ^ 63] <|
.frz 5 (.ev 0) none [] [9] <|
.guard [rv7.2.2.1.length<2 ^ 63] <|
.frz 7 (.ev 0) none [] [9] <|
.guard [rv7.2.2.2.length<2 ^ 63] <|
.frz 8 (.ev 0) none [] [9] <|
.guard [(rv7.2.1.length+1) * (2 * 56)≤2 ^ 48] <|
.reg 17 [] [(12,hv (AV.d (eL TCo.e ([(⟨(IntKind.i64.wrap ((a0.Commitments.length:Int)+1)),a1,a2,a3,0,a4,a5⟩:TCo)]:List TCo)))),(13,{ cast:=some (AV.ref 6 ((rv7.2.1++([(⟨(IntKind.i64.wrap ((a0.Commitments.length:Int)+1)),a1,a2,a3,0,a4,a5⟩:TCo)]:List TCo)).length) 0 ((rv7.2.1++([(⟨(IntKind.i64.wrap ((a0.Commitments.length:Int)+1)),a1,a2,a3,0,a4,a5⟩:TCo)]:List TCo)).length)),obs:=[(6,(eS 7 TCo.e (rv7.2.1++([(⟨(IntKind.i64.wrap ((a0.Commitments.length:Int)+1)),a1,a2,a3,0,a4,a5⟩:TCo)]:List TCo))))] })] [.pf (zd TCo.e ([(⟨(IntKind.i64.wrap ((a0.Commitments.length:Int)+1)),a1,a2,a3,0,a4,a5⟩:TCo)]:List TCo)),.pf (Eq.refl rv7.2.1.length),.pf (Eq.refl rv7.2.1.length),.pf (p:=∀ k,k<1→(AV.d (TCo.e (([(⟨(IntKind.i64.wrap ((a0.Commitments.length:Int)+1)),a1,a2,a3,0,a4,a5⟩:TCo)]:List TCo).getD k default))).wd=7) (fun _ _=>rfl),.ev 0,.pf (zy (o:=6) (l:=rv7.2.1) (x:=([(⟨(IntKind.i64.wrap ((a0.Commitments.length:Int)+1)),a1,a2,a3,0,a4,a5⟩:TCo)]:List TCo))),.pf (zx (sz:=7) (e:=TCo.e) (l:=rv7.2.1) (x:=([(⟨(IntKind.i64.wrap ((a0.Commitments.length:Int)+1)),a1,a2,a3,0,a4,a5⟩:TCo)]:List TCo)))] <|
.guard [(rv7.2.1++([(⟨(IntKind.i64.wrap ((a0.Commitments.length:Int)+1)),a1,a2,a3,0,a4,a5⟩:TCo)]:List TCo)).length<2 ^ 63] <|
.reg 18 [] [] [] <|
.frz 6 (.ev 0) none [] [1,9] <|
.ret [] ((⟨rv7.1,(rv7.2.1++([(⟨(IntKind.i64.wrap ((a0.Commitments.length:Int)+1)),a1,a2,a3,0,a4,a5⟩:TCo)]:List TCo)),rv7.2.2.1,rv7.2.2.2⟩:TBo),0))))))))
def F_q3n (a0:TBo) (a1:Int) (a2:Int) (a3:Int) (a4:Int) (a5:Int):Option R_q3n:=(S_q3n a0 a1 a2 a3 a4 a5).den
theorem F_q3n_ok {a0:TBo} {a1:Int} {a2:Int} {a3:Int} {a4:Int} {a5:Int} (r:R_q3n) (h:F_q3n a0 a1 a2 a3 a4 a5=some r):CallOk Tryz.prog 79 [(AV.d (TBo.e a0)),(vi a1),(vi a2),(vi a3),(vi a4),(vi a5)] [] (V_q3n r) (L_q3n r):=fOk (s:=S_q3n a0 a1 a2 a3 a4 a5) Tryz.func79 rfl (by kernel_rfl) h
abbrev R_q3o:=TBo×Int
def V_q3o (x:R_q3o):AV:=(AV.tup [(AV.d (TBo.e x.1)),(vi x.2)])
def L_q3o (_:R_q3o):List Ob:=[]
def S_q3o (a0:TBo) (a1:Int) (a2:Int) (a3:Int):Scr Tryz.prog R_q3o R_q3o :=
.reg 0 [] [(1,{ obs:=[(1,(bx (TBo.e (⟨[],[],[],[]⟩:TBo))))] })] [.pf cz4] <|
.call (@F_q16_ok a0) fun rv1 cv1 =>
.reg 1 [] [(1,hc cv1 [] true)] [.cl 0 cv1 [] 2 true] <|
.ite (!rv1) (
.reg 2 [] [(0,hv (AV.d (TBo.e (⟨[],[],[],[]⟩:TBo))))] [.pf cz5] <|
.ret [] ((⟨[],[],[],[]⟩:TBo),1)) (
.ite (bif (decide (a1<1)) then true else (decide (a1>(a0.Commitments.length:Int)))) (
.reg 4 [] [(0,hv (AV.d (TBo.e (⟨[],[],[],[]⟩:TBo))))] [.pf cz5] <|
.ret [] ((⟨[],[],[],[]⟩:TBo),6)) (
.call (@F_qs_ok a2) fun rv2 cv2 =>
.calld [(!rv2)=false] default (@F_q13_ok a3) fun rv3 cv3 =>
.reg 5 [] [(1,hc cv2 [] true),(5,hc cv3 [] true)] [.cl 2 cv2 [] 2 true,.clg 0 [(!rv2)=false] cv3 [] 2 true] <|
.ite (bif (!rv2) then true else (!rv3)) (
.reg 6 [] [(0,hv (AV.d (TBo.e (⟨[],[],[],[]⟩:TBo))))] [.pf cz5] <|
.ret [] ((⟨[],[],[],[]⟩:TBo),2)) (
.call (@F_qt_ok a2) fun rv4 cv4 =>
.call (@F_q1e_ok a0 a1) fun rv5 cv5 =>
.reg 7 [] [(1,hc cv4 [] true),(4,hc cv5 [] true)] [.cl 1 cv4 [] 2 true,.cl 0 cv5 [] 2 true] <|
.ite (decide (rv4>(IntKind.i64.wrap (rv5+1)))) (
.reg 8 [] [(0,hv (AV.d (TBo.e (⟨[],[],[],[]⟩:TBo))))] [.pf cz5] <|
.ret [] ((⟨[],[],[],[]⟩:TBo),16)) (
.guard [(0:Int)≤(IntKind.i64.wrap (a1-1)),((IntKind.i64.wrap (a1-1))).toNat<a0.Commitments.length] <|
.reg 9 [] [] [.ev 0,.ev 1] <|
.ite (decide (a2<((a0.Commitments.getD (((IntKind.i64.wrap (a1-1))).toNat) default).Day))) (
.reg 10 [] [(0,hv (AV.d (TBo.e (⟨[],[],[],[]⟩:TBo))))] [.pf cz5] <|
.ret [] ((⟨[],[],[],[]⟩:TBo),8)) (
.call (@F_q15_ok a0 (a0.Commitments.getD (((IntKind.i64.wrap (a1-1))).toNat) default)) fun rv6 cv6 =>
.reg 11 [] [(8,hc cv6 [] true)] [.ev 2,.ev 3,.cl 0 cv6 [] 2 true] <|
.ite (decide (a3>rv6)) (
.reg 12 [] [(0,hv (AV.d (TBo.e (⟨[],[],[],[]⟩:TBo))))] [.pf cz5] <|
.ret [] ((⟨[],[],[],[]⟩:TBo),15)) (
.ite ((a0.Verifications.length:Int)==200) (
.reg 14 [] [(0,hv (AV.d (TBo.e (⟨[],[],[],[]⟩:TBo))))] [.pf cz5] <|
.ret [] ((⟨[],[],[],[]⟩:TBo),3)) (
.call (@F_q1f_ok a0) fun rv7 cv7 =>
.reg 15 [] [(1,hc cv7 [] false),(2,{ h:=.obj })] [.cl 0 cv7 [] 2 false] <|
.kill 3 <|
.guard [rv7.1.length<2 ^ 63] <|
.frz 4 (.ev 0) none [] [8] <|
.guard [rv7.2.1.length<2 ^ 63] <|
.frz 5 (.ev 0) none [] [8] <|
.guard [rv7.2.2.2.length<2 ^ 63] <|
.frz 7 (.ev 0) none [] [8] <|
.guard [(rv7.2.2.1.length+1) * (2 * 32)≤2 ^ 48] <|
.reg 16 [] [(10,hv (AV.d (eL TVe.e ([(⟨(IntKind.i64.wrap ((a0.Verifications.length:Int)+1)),a1,a2,a3⟩:TVe)]:List TVe)))),(11,{ cast:=some (AV.ref 6 ((rv7.2.2.1++([(⟨(IntKind.i64.wrap ((a0.Verifications.length:Int)+1)),a1,a2,a3⟩:TVe)]:List TVe)).length) 0 ((rv7.2.2.1++([(⟨(IntKind.i64.wrap ((a0.Verifications.length:Int)+1)),a1,a2,a3⟩:TVe)]:List TVe)).length)),obs:=[(6,(eS 4 TVe.e (rv7.2.2.1++([(⟨(IntKind.i64.wrap ((a0.Verifications.length:Int)+1)),a1,a2,a3⟩:TVe)]:List TVe))))] })] [.pf (zd TVe.e ([(⟨(IntKind.i64.wrap ((a0.Verifications.length:Int)+1)),a1,a2,a3⟩:TVe)]:List TVe)),.pf (Eq.refl rv7.2.2.1.length),.pf (Eq.refl rv7.2.2.1.length),.pf (p:=∀ k,k<1→(AV.d (TVe.e (([(⟨(IntKind.i64.wrap ((a0.Verifications.length:Int)+1)),a1,a2,a3⟩:TVe)]:List TVe).getD k default))).wd=4) (fun _ _=>rfl),.ev 0,.pf (zy (o:=6) (l:=rv7.2.2.1) (x:=([(⟨(IntKind.i64.wrap ((a0.Verifications.length:Int)+1)),a1,a2,a3⟩:TVe)]:List TVe))),.pf (zx (sz:=4) (e:=TVe.e) (l:=rv7.2.2.1) (x:=([(⟨(IntKind.i64.wrap ((a0.Verifications.length:Int)+1)),a1,a2,a3⟩:TVe)]:List TVe)))] <|
.guard [(rv7.2.2.1++([(⟨(IntKind.i64.wrap ((a0.Verifications.length:Int)+1)),a1,a2,a3⟩:TVe)]:List TVe)).length<2 ^ 63] <|
.reg 17 [] [] [] <|
.frz 6 (.ev 0) none [] [1,8] <|
.ret [] ((⟨rv7.1,rv7.2.1,(rv7.2.2.1++([(⟨(IntKind.i64.wrap ((a0.Verifications.length:Int)+1)),a1,a2,a3⟩:TVe)]:List TVe)),rv7.2.2.2⟩:TBo),0))))))))
def F_q3o (a0:TBo) (a1:Int) (a2:Int) (a3:Int):Option R_q3o:=(S_q3o a0 a1 a2 a3).den
theorem F_q3o_ok {a0:TBo} {a1:Int} {a2:Int} {a3:Int} (r:R_q3o) (h:F_q3o a0 a1 a2 a3=some r):CallOk Tryz.prog 80 [(AV.d (TBo.e a0)),(vi a1),(vi a2),(vi a3)] [] (V_q3o r) (L_q3o r):=fOk (s:=S_q3o a0 a1 a2 a3) Tryz.func80 rfl (by kernel_rfl) h
abbrev R_q1g:=TOr×Int
def V_q1g (x:R_q1g):AV:=(AV.tup [(AV.d (TOr.e x.1)),(vi x.2)])
def L_q1g (_:R_q1g):List Ob:=[]
def S_q1g_b1 (a0:TBo) (a1:Int) (iv1:Nat) (sv2:TOr×Int):Scr Tryz.prog R_q1g (Step (TOr×Int) R_q1g) :=
.reg 5 [] [] [.pf (nn iv1),.ev 0] <|
.ite (((a0.Orders.getD iv1 default).Verification)==a1) (
.ret [] (.cont ((a0.Orders.getD iv1 default),(IntKind.i64.wrap (sv2.2+1))))) (
.ret [] (.cont (sv2.1,sv2.2)))
def S_q1g (a0:TBo) (a1:Int):Scr Tryz.prog R_q1g R_q1g :=
.range (a0.Orders.length:Int) a0.Orders.length rfl (.slot 11) 13 [1,4,6,11,12] (fun (sv2:TOr×Int)=>[(7,(vi sv2.2))]) (fun (sv2:TOr×Int)=>[(2,(bx (TOr.e sv2.1)))]) ((⟨0,0,0,0,false⟩:TOr),0) (S_q1g_b1 a0 a1) (fun (sv2:TOr×Int) => 
.ret [] (sv2.1,sv2.2)) id
def F_q1g (a0:TBo) (a1:Int):Option R_q1g:=(S_q1g a0 a1).den
theorem F_q1g_ok {a0:TBo} {a1:Int} (r:R_q1g) (h:F_q1g a0 a1=some r):CallOk Tryz.prog 125 [(AV.d (TBo.e a0)),(vi a1)] [] (V_q1g r) (L_q1g r):=fOk (s:=S_q1g a0 a1) Tryz.func125 rfl (by kernel_rfl) h
abbrev R_q3p:=TBo×Int
def V_q3p (x:R_q3p):AV:=(AV.tup [(AV.d (TBo.e x.1)),(vi x.2)])
def L_q3p (_:R_q3p):List Ob:=[]
def S_q3p (a0:TBo) (a1:Int) (a2:Int):Scr Tryz.prog R_q3p R_q3p :=
.reg 0 [] [(1,{ obs:=[(1,(bx (TBo.e (⟨[],[],[],[]⟩:TBo))))] })] [.pf cz4] <|
.call (@F_q16_ok a0) fun rv1 cv1 =>
.reg 1 [] [(1,hc cv1 [] true)] [.cl 0 cv1 [] 2 true] <|
.ite (!rv1) (
.reg 2 [] [(0,hv (AV.d (TBo.e (⟨[],[],[],[]⟩:TBo))))] [.pf cz5] <|
.ret [] ((⟨[],[],[],[]⟩:TBo),1)) (
.ite (bif (decide (a1<1)) then true else (decide (a1>(a0.Verifications.length:Int)))) (
.reg 4 [] [(0,hv (AV.d (TBo.e (⟨[],[],[],[]⟩:TBo))))] [.pf cz5] <|
.ret [] ((⟨[],[],[],[]⟩:TBo),6)) (
.call (@F_qs_ok a2) fun rv2 cv2 =>
.reg 5 [] [(1,hc cv2 [] true)] [.cl 0 cv2 [] 2 true] <|
.ite (!rv2) (
.reg 6 [] [(0,hv (AV.d (TBo.e (⟨[],[],[],[]⟩:TBo))))] [.pf cz5] <|
.ret [] ((⟨[],[],[],[]⟩:TBo),2)) (
.guard [(0:Int)≤(IntKind.i64.wrap (a1-1)),((IntKind.i64.wrap (a1-1))).toNat<a0.Verifications.length] <|
.reg 7 [] [] [.ev 0,.ev 1] <|
.call (@F_q1g_ok a0 a1) fun rv3 cv3 =>
.reg 8 [] [(2,hc cv3 [] true)] [.cl 0 cv3 [] 3 true] <|
.call (@F_qt_ok a2) fun rv4 cv4 =>
.call (@F_q1e_ok a0 ((a0.Verifications.getD (((IntKind.i64.wrap (a1-1))).toNat) default).Commitment)) fun rv5 cv5 =>
.reg 9 [] [(1,hc cv4 [] true),(5,hc cv5 [] true)] [.cl 1 cv4 [] 4 true,.cl 0 cv5 [] 4 true] <|
.ite (decide (rv4>(IntKind.i64.wrap (rv5+1)))) (
.reg 10 [] [(0,hv (AV.d (TBo.e (⟨[],[],[],[]⟩:TBo))))] [.pf cz5] <|
.ret [] ((⟨[],[],[],[]⟩:TBo),16)) (
.ite (bif (decide (rv3.2>0)) then (!rv3.1.Back) else false) (
.reg 12 [] [(0,hv (AV.d (TBo.e (⟨[],[],[],[]⟩:TBo))))] [.pf cz5] <|
.ret [] ((⟨[],[],[],[]⟩:TBo),20)) (
.ite (bif (decide (a2<((a0.Verifications.getD (((IntKind.i64.wrap (a1-1))).toNat) default).Day))) then true else (bif (decide (rv3.2>0)) then (decide (a2<rv3.1.Day)) else false)) (
.reg 14 [] [(0,hv (AV.d (TBo.e (⟨[],[],[],[]⟩:TBo))))] [.pf cz5] <|
.ret [] ((⟨[],[],[],[]⟩:TBo),8)) (
.ite ((a0.Orders.length:Int)==200) (
.reg 16 [] [(0,hv (AV.d (TBo.e (⟨[],[],[],[]⟩:TBo))))] [.pf cz5] <|
.ret [] ((⟨[],[],[],[]⟩:TBo),3)) (
.call (@F_q1f_ok a0) fun rv6 cv6 =>
.reg 17 [] [(1,hc cv6 [] false),(2,{ h:=.obj })] [.cl 0 cv6 [] 4 false] <|
.kill 5 <|
.guard [rv6.1.length<2 ^ 63] <|
.frz 6 (.ev 0) none [] [10] <|
.guard [rv6.2.1.length<2 ^ 63] <|
.frz 7 (.ev 0) none [] [10] <|
.guard [rv6.2.2.1.length<2 ^ 63] <|
.frz 8 (.ev 0) none [] [10] <|
.guard [(rv6.2.2.2.length+1) * (2 * 40)≤2 ^ 48] <|
.reg 18 [] [(11,hv (AV.d (eL TOr.e ([(⟨(IntKind.i64.wrap ((a0.Orders.length:Int)+1)),a1,(IntKind.i64.wrap (rv3.2+1)),a2,false⟩:TOr)]:List TOr)))),(12,{ cast:=some (AV.ref 9 ((rv6.2.2.2++([(⟨(IntKind.i64.wrap ((a0.Orders.length:Int)+1)),a1,(IntKind.i64.wrap (rv3.2+1)),a2,false⟩:TOr)]:List TOr)).length) 0 ((rv6.2.2.2++([(⟨(IntKind.i64.wrap ((a0.Orders.length:Int)+1)),a1,(IntKind.i64.wrap (rv3.2+1)),a2,false⟩:TOr)]:List TOr)).length)),obs:=[(9,(eS 5 TOr.e (rv6.2.2.2++([(⟨(IntKind.i64.wrap ((a0.Orders.length:Int)+1)),a1,(IntKind.i64.wrap (rv3.2+1)),a2,false⟩:TOr)]:List TOr))))] })] [.pf (zd TOr.e ([(⟨(IntKind.i64.wrap ((a0.Orders.length:Int)+1)),a1,(IntKind.i64.wrap (rv3.2+1)),a2,false⟩:TOr)]:List TOr)),.pf (Eq.refl rv6.2.2.2.length),.pf (Eq.refl rv6.2.2.2.length),.pf (p:=∀ k,k<1→(AV.d (TOr.e (([(⟨(IntKind.i64.wrap ((a0.Orders.length:Int)+1)),a1,(IntKind.i64.wrap (rv3.2+1)),a2,false⟩:TOr)]:List TOr).getD k default))).wd=5) (fun _ _=>rfl),.ev 0,.pf (zy (o:=9) (l:=rv6.2.2.2) (x:=([(⟨(IntKind.i64.wrap ((a0.Orders.length:Int)+1)),a1,(IntKind.i64.wrap (rv3.2+1)),a2,false⟩:TOr)]:List TOr))),.pf (zx (sz:=5) (e:=TOr.e) (l:=rv6.2.2.2) (x:=([(⟨(IntKind.i64.wrap ((a0.Orders.length:Int)+1)),a1,(IntKind.i64.wrap (rv3.2+1)),a2,false⟩:TOr)]:List TOr)))] <|
.guard [(rv6.2.2.2++([(⟨(IntKind.i64.wrap ((a0.Orders.length:Int)+1)),a1,(IntKind.i64.wrap (rv3.2+1)),a2,false⟩:TOr)]:List TOr)).length<2 ^ 63] <|
.reg 19 [] [] [] <|
.frz 9 (.ev 0) none [] [1,10] <|
.ret [] ((⟨rv6.1,rv6.2.1,rv6.2.2.1,(rv6.2.2.2++([(⟨(IntKind.i64.wrap ((a0.Orders.length:Int)+1)),a1,(IntKind.i64.wrap (rv3.2+1)),a2,false⟩:TOr)]:List TOr))⟩:TBo),0))))))))
def F_q3p (a0:TBo) (a1:Int) (a2:Int):Option R_q3p:=(S_q3p a0 a1 a2).den
theorem F_q3p_ok {a0:TBo} {a1:Int} {a2:Int} (r:R_q3p) (h:F_q3p a0 a1 a2=some r):CallOk Tryz.prog 81 [(AV.d (TBo.e a0)),(vi a1),(vi a2)] [] (V_q3p r) (L_q3p r):=fOk (s:=S_q3p a0 a1 a2) Tryz.func81 rfl (by kernel_rfl) h
abbrev R_q3q:=TBo×Int
def V_q3q (x:R_q3q):AV:=(AV.tup [(AV.d (TBo.e x.1)),(vi x.2)])
def L_q3q (_:R_q3q):List Ob:=[]
def S_q3q (a0:TBo) (a1:Int) (a2:Int):Scr Tryz.prog R_q3q R_q3q :=
.reg 0 [] [(1,{ obs:=[(1,(bx (TBo.e (⟨[],[],[],[]⟩:TBo))))] })] [.pf cz4] <|
.call (@F_q16_ok a0) fun rv1 cv1 =>
.reg 1 [] [(1,hc cv1 [] true)] [.cl 0 cv1 [] 2 true] <|
.ite (!rv1) (
.reg 2 [] [(0,hv (AV.d (TBo.e (⟨[],[],[],[]⟩:TBo))))] [.pf cz5] <|
.ret [] ((⟨[],[],[],[]⟩:TBo),1)) (
.ite (bif (decide (a1<1)) then true else (decide (a1>(a0.Reservations.length:Int)))) (
.reg 4 [] [(0,hv (AV.d (TBo.e (⟨[],[],[],[]⟩:TBo))))] [.pf cz5] <|
.ret [] ((⟨[],[],[],[]⟩:TBo),6)) (
.call (@F_q13_ok a2) fun rv2 cv2 =>
.reg 5 [] [(1,hc cv2 [] true)] [.cl 0 cv2 [] 2 true] <|
.ite (!rv2) (
.reg 6 [] [(0,hv (AV.d (TBo.e (⟨[],[],[],[]⟩:TBo))))] [.pf cz5] <|
.ret [] ((⟨[],[],[],[]⟩:TBo),2)) (
.call (@F_qi_ok a0 a1) fun rv3 cv3 =>
.reg 7 [] [(3,hc cv3 [] true)] [.cl 0 cv3 [] 2 true] <|
.ite (decide (a2>rv3)) (
.reg 8 [] [(0,hv (AV.d (TBo.e (⟨[],[],[],[]⟩:TBo))))] [.pf cz5] <|
.ret [] ((⟨[],[],[],[]⟩:TBo),15)) (
.call (@F_q1f_ok a0) fun rv4 cv4 =>
.reg 9 [] [(1,hc cv4 [] false),(2,{ obs:=[(8,(bx (TBo.e (⟨[],[],[],[]⟩:TBo))))] })] [.cl 0 cv4 [] 2 false,.pf cz4] <|
.kill 3 <|
.guard [rv4.2.1.length<2 ^ 63] <|
.frz 5 (.ev 0) none [] [8] <|
.guard [rv4.2.2.1.length<2 ^ 63] <|
.frz 6 (.ev 0) none [] [8] <|
.guard [rv4.2.2.2.length<2 ^ 63] <|
.frz 7 (.ev 0) none [] [8] <|
.guard [(0:Int)≤(IntKind.i64.wrap (a1-1)),((IntKind.i64.wrap (a1-1))).toNat<rv4.1.length,(0+((IntKind.i64.wrap (a1-1))).toNat)<rv4.1.length] <|
.reg 10 [] [(11,{ obs:=[(4,(eS 6 TRe.e (rv4.1.set (0+((IntKind.i64.wrap (a1-1))).toNat) (⟨(rv4.1.getD (0+((IntKind.i64.wrap (a1-1))).toNat) default).Number,(rv4.1.getD (0+((IntKind.i64.wrap (a1-1))).toNat) default).Code,(rv4.1.getD (0+((IntKind.i64.wrap (a1-1))).toNat) default).Year,(rv4.1.getD (0+((IntKind.i64.wrap (a1-1))).toNat) default).Day,(rv4.1.getD (0+((IntKind.i64.wrap (a1-1))).toNat) default).Amount,(IntKind.i64.wrap (((rv4.1.getD (0+((IntKind.i64.wrap (a1-1))).toNat) default).Released)+a2))⟩:TRe))))] })] [.pf (Eq.refl rv4.1.length),.ev 0,.ev 1,.pf (Eq.refl rv4.1.length),.pf (Eq.refl rv4.1.length),.ev 2,.pf (Eq.refl rv4.1.length),.ev 0,.ev 1,.pf (Eq.refl rv4.1.length),.pf (Eq.refl rv4.1.length),.ev 2,.pf (z19 (sz:=6) (e:=TRe.e) (l:=rv4.1) (i:=(0+((IntKind.i64.wrap (a1-1))).toNat)) (x:=(⟨(rv4.1.getD (0+((IntKind.i64.wrap (a1-1))).toNat) default).Number,(rv4.1.getD (0+((IntKind.i64.wrap (a1-1))).toNat) default).Code,(rv4.1.getD (0+((IntKind.i64.wrap (a1-1))).toNat) default).Year,(rv4.1.getD (0+((IntKind.i64.wrap (a1-1))).toNat) default).Day,(rv4.1.getD (0+((IntKind.i64.wrap (a1-1))).toNat) default).Amount,(IntKind.i64.wrap (((rv4.1.getD (0+((IntKind.i64.wrap (a1-1))).toNat) default).Released)+a2))⟩:TRe)) (fun _=>rfl))] <|
.cst (A:=True) (.pf trivial) [(6,(vp 1)),(8,(vp 8))] [(6,(vp 1)),(8,(vp 8))] [(bx (TBo.e a0)),(bx (TBo.e (⟨[],[],[],[]⟩:TBo))),Ob.dead,Ob.dead,(eS 6 TRe.e (rv4.1.set (0+((IntKind.i64.wrap (a1-1))).toNat) (⟨(rv4.1.getD (0+((IntKind.i64.wrap (a1-1))).toNat) default).Number,(rv4.1.getD (0+((IntKind.i64.wrap (a1-1))).toNat) default).Code,(rv4.1.getD (0+((IntKind.i64.wrap (a1-1))).toNat) default).Year,(rv4.1.getD (0+((IntKind.i64.wrap (a1-1))).toNat) default).Day,(rv4.1.getD (0+((IntKind.i64.wrap (a1-1))).toNat) default).Amount,(IntKind.i64.wrap (((rv4.1.getD (0+((IntKind.i64.wrap (a1-1))).toNat) default).Released)+a2))⟩:TRe))),Ob.dead,Ob.dead,Ob.dead,(Ob.box (AV.agg [(AV.ref 4 rv4.1.length 0 rv4.1.length),(AV.d (eL TCo.e rv4.2.1)),(AV.d (eL TVe.e rv4.2.2.1)),(AV.d (eL TOr.e rv4.2.2.2))]))] [(bx (TBo.e a0)),(bx (TBo.e (⟨[],[],[],[]⟩:TBo))),Ob.dead,Ob.dead,(eS 6 TRe.e (rv4.1.set (0+((IntKind.i64.wrap (a1-1))).toNat) (⟨(rv4.1.getD (0+((IntKind.i64.wrap (a1-1))).toNat) default).Number,(rv4.1.getD (0+((IntKind.i64.wrap (a1-1))).toNat) default).Code,(rv4.1.getD (0+((IntKind.i64.wrap (a1-1))).toNat) default).Year,(rv4.1.getD (0+((IntKind.i64.wrap (a1-1))).toNat) default).Day,(rv4.1.getD (0+((IntKind.i64.wrap (a1-1))).toNat) default).Amount,(IntKind.i64.wrap (((rv4.1.getD (0+((IntKind.i64.wrap (a1-1))).toNat) default).Released)+a2))⟩:TRe))),Ob.dead,Ob.dead,Ob.dead,(Ob.box (AV.agg [(AV.ref 4 ((rv4.1.set (0+((IntKind.i64.wrap (a1-1))).toNat) (⟨(rv4.1.getD (0+((IntKind.i64.wrap (a1-1))).toNat) default).Number,(rv4.1.getD (0+((IntKind.i64.wrap (a1-1))).toNat) default).Code,(rv4.1.getD (0+((IntKind.i64.wrap (a1-1))).toNat) default).Year,(rv4.1.getD (0+((IntKind.i64.wrap (a1-1))).toNat) default).Day,(rv4.1.getD (0+((IntKind.i64.wrap (a1-1))).toNat) default).Amount,(IntKind.i64.wrap (((rv4.1.getD (0+((IntKind.i64.wrap (a1-1))).toNat) default).Released)+a2))⟩:TRe)).length) 0 ((rv4.1.set (0+((IntKind.i64.wrap (a1-1))).toNat) (⟨(rv4.1.getD (0+((IntKind.i64.wrap (a1-1))).toNat) default).Number,(rv4.1.getD (0+((IntKind.i64.wrap (a1-1))).toNat) default).Code,(rv4.1.getD (0+((IntKind.i64.wrap (a1-1))).toNat) default).Year,(rv4.1.getD (0+((IntKind.i64.wrap (a1-1))).toNat) default).Day,(rv4.1.getD (0+((IntKind.i64.wrap (a1-1))).toNat) default).Amount,(IntKind.i64.wrap (((rv4.1.getD (0+((IntKind.i64.wrap (a1-1))).toNat) default).Released)+a2))⟩:TRe)).length)),(AV.d (eL TCo.e rv4.2.1)),(AV.d (eL TVe.e rv4.2.2.1)),(AV.d (eL TOr.e rv4.2.2.2))]))] (fun _=>⟨by simp only,by simp only[List.length_set]⟩) <|
.guard [(rv4.1.set (0+((IntKind.i64.wrap (a1-1))).toNat) (⟨(rv4.1.getD (0+((IntKind.i64.wrap (a1-1))).toNat) default).Number,(rv4.1.getD (0+((IntKind.i64.wrap (a1-1))).toNat) default).Code,(rv4.1.getD (0+((IntKind.i64.wrap (a1-1))).toNat) default).Year,(rv4.1.getD (0+((IntKind.i64.wrap (a1-1))).toNat) default).Day,(rv4.1.getD (0+((IntKind.i64.wrap (a1-1))).toNat) default).Amount,(IntKind.i64.wrap (((rv4.1.getD (0+((IntKind.i64.wrap (a1-1))).toNat) default).Released)+a2))⟩:TRe)).length<2 ^ 63] <|
.reg 11 [] [] [] <|
.frz 4 (.ev 0) none [] [1,8] <|
.ret [] ((⟨(rv4.1.set (0+((IntKind.i64.wrap (a1-1))).toNat) (⟨(rv4.1.getD (0+((IntKind.i64.wrap (a1-1))).toNat) default).Number,(rv4.1.getD (0+((IntKind.i64.wrap (a1-1))).toNat) default).Code,(rv4.1.getD (0+((IntKind.i64.wrap (a1-1))).toNat) default).Year,(rv4.1.getD (0+((IntKind.i64.wrap (a1-1))).toNat) default).Day,(rv4.1.getD (0+((IntKind.i64.wrap (a1-1))).toNat) default).Amount,(IntKind.i64.wrap (((rv4.1.getD (0+((IntKind.i64.wrap (a1-1))).toNat) default).Released)+a2))⟩:TRe)),rv4.2.1,rv4.2.2.1,rv4.2.2.2⟩:TBo),0)))))
def F_q3q (a0:TBo) (a1:Int) (a2:Int):Option R_q3q:=(S_q3q a0 a1 a2).den
theorem F_q3q_ok {a0:TBo} {a1:Int} {a2:Int} (r:R_q3q) (h:F_q3q a0 a1 a2=some r):CallOk Tryz.prog 82 [(AV.d (TBo.e a0)),(vi a1),(vi a2)] [] (V_q3q r) (L_q3q r):=fOk (s:=S_q3q a0 a1 a2) Tryz.func82 rfl (by kernel_rfl) h
abbrev R_q3r:=TBo×Int
def V_q3r (x:R_q3r):AV:=(AV.tup [(AV.d (TBo.e x.1)),(vi x.2)])
def L_q3r (_:R_q3r):List Ob:=[]
def S_q3r (a0:TBo) (a1:Int) (a2:Int):Scr Tryz.prog R_q3r R_q3r :=
.reg 0 [] [(1,{ obs:=[(1,(bx (TBo.e (⟨[],[],[],[]⟩:TBo))))] })] [.pf cz4] <|
.call (@F_q16_ok a0) fun rv1 cv1 =>
.reg 1 [] [(1,hc cv1 [] true)] [.cl 0 cv1 [] 2 true] <|
.ite (!rv1) (
.reg 2 [] [(0,hv (AV.d (TBo.e (⟨[],[],[],[]⟩:TBo))))] [.pf cz5] <|
.ret [] ((⟨[],[],[],[]⟩:TBo),1)) (
.ite (bif (decide (a1<1)) then true else (decide (a1>(a0.Commitments.length:Int)))) (
.reg 4 [] [(0,hv (AV.d (TBo.e (⟨[],[],[],[]⟩:TBo))))] [.pf cz5] <|
.ret [] ((⟨[],[],[],[]⟩:TBo),6)) (
.call (@F_q13_ok a2) fun rv2 cv2 =>
.reg 5 [] [(1,hc cv2 [] true)] [.cl 0 cv2 [] 2 true] <|
.ite (!rv2) (
.reg 6 [] [(0,hv (AV.d (TBo.e (⟨[],[],[],[]⟩:TBo))))] [.pf cz5] <|
.ret [] ((⟨[],[],[],[]⟩:TBo),2)) (
.call (@F_q15_ok a0 (a0.Commitments.getD (((IntKind.i64.wrap (a1-1))).toNat) default)) fun rv3 cv3 =>
.guard [(0:Int)≤(IntKind.i64.wrap (a1-1)),((IntKind.i64.wrap (a1-1))).toNat<a0.Commitments.length] <|
.reg 7 [] [(8,hc cv3 [] true)] [.ev 0,.ev 1,.cl 2 cv3 [] 2 true] <|
.ite (decide (a2>rv3)) (
.reg 8 [] [(0,hv (AV.d (TBo.e (⟨[],[],[],[]⟩:TBo))))] [.pf cz5] <|
.ret [] ((⟨[],[],[],[]⟩:TBo),15)) (
.call (@F_q1f_ok a0) fun rv4 cv4 =>
.reg 9 [] [(1,hc cv4 [] false),(2,{ obs:=[(8,(bx (TBo.e (⟨[],[],[],[]⟩:TBo))))] })] [.cl 0 cv4 [] 2 false,.pf cz4] <|
.kill 3 <|
.guard [rv4.1.length<2 ^ 63] <|
.frz 4 (.ev 0) none [] [8] <|
.guard [rv4.2.2.1.length<2 ^ 63] <|
.frz 6 (.ev 0) none [] [8] <|
.guard [rv4.2.2.2.length<2 ^ 63] <|
.frz 7 (.ev 0) none [] [8] <|
.guard [((IntKind.i64.wrap (a1-1))).toNat<rv4.2.1.length,(0+((IntKind.i64.wrap (a1-1))).toNat)<rv4.2.1.length] <|
.reg 10 [] [(11,{ obs:=[(5,(eS 7 TCo.e (rv4.2.1.set (0+((IntKind.i64.wrap (a1-1))).toNat) (⟨(rv4.2.1.getD (0+((IntKind.i64.wrap (a1-1))).toNat) default).Number,(rv4.2.1.getD (0+((IntKind.i64.wrap (a1-1))).toNat) default).Reservation,(rv4.2.1.getD (0+((IntKind.i64.wrap (a1-1))).toNat) default).Day,(rv4.2.1.getD (0+((IntKind.i64.wrap (a1-1))).toNat) default).Amount,(IntKind.i64.wrap (((rv4.2.1.getD (0+((IntKind.i64.wrap (a1-1))).toNat) default).Released)+a2)),(rv4.2.1.getD (0+((IntKind.i64.wrap (a1-1))).toNat) default).Payee,(rv4.2.1.getD (0+((IntKind.i64.wrap (a1-1))).toNat) default).Due⟩:TCo))))] })] [.pf (Eq.refl rv4.2.1.length),.ev 7,.ev 0,.pf (Eq.refl rv4.2.1.length),.pf (Eq.refl rv4.2.1.length),.ev 1,.pf (Eq.refl rv4.2.1.length),.ev 7,.ev 0,.pf (Eq.refl rv4.2.1.length),.pf (Eq.refl rv4.2.1.length),.ev 1,.pf (z19 (sz:=7) (e:=TCo.e) (l:=rv4.2.1) (i:=(0+((IntKind.i64.wrap (a1-1))).toNat)) (x:=(⟨(rv4.2.1.getD (0+((IntKind.i64.wrap (a1-1))).toNat) default).Number,(rv4.2.1.getD (0+((IntKind.i64.wrap (a1-1))).toNat) default).Reservation,(rv4.2.1.getD (0+((IntKind.i64.wrap (a1-1))).toNat) default).Day,(rv4.2.1.getD (0+((IntKind.i64.wrap (a1-1))).toNat) default).Amount,(IntKind.i64.wrap (((rv4.2.1.getD (0+((IntKind.i64.wrap (a1-1))).toNat) default).Released)+a2)),(rv4.2.1.getD (0+((IntKind.i64.wrap (a1-1))).toNat) default).Payee,(rv4.2.1.getD (0+((IntKind.i64.wrap (a1-1))).toNat) default).Due⟩:TCo)) (fun _=>rfl))] <|
.cst (A:=True) (.pf trivial) [(6,(vp 1)),(8,(vp 8))] [(6,(vp 1)),(8,(vp 8))] [(bx (TBo.e a0)),(bx (TBo.e (⟨[],[],[],[]⟩:TBo))),Ob.dead,Ob.dead,Ob.dead,(eS 7 TCo.e (rv4.2.1.set (0+((IntKind.i64.wrap (a1-1))).toNat) (⟨(rv4.2.1.getD (0+((IntKind.i64.wrap (a1-1))).toNat) default).Number,(rv4.2.1.getD (0+((IntKind.i64.wrap (a1-1))).toNat) default).Reservation,(rv4.2.1.getD (0+((IntKind.i64.wrap (a1-1))).toNat) default).Day,(rv4.2.1.getD (0+((IntKind.i64.wrap (a1-1))).toNat) default).Amount,(IntKind.i64.wrap (((rv4.2.1.getD (0+((IntKind.i64.wrap (a1-1))).toNat) default).Released)+a2)),(rv4.2.1.getD (0+((IntKind.i64.wrap (a1-1))).toNat) default).Payee,(rv4.2.1.getD (0+((IntKind.i64.wrap (a1-1))).toNat) default).Due⟩:TCo))),Ob.dead,Ob.dead,(Ob.box (AV.agg [(AV.d (eL TRe.e rv4.1)),(AV.ref 5 rv4.2.1.length 0 rv4.2.1.length),(AV.d (eL TVe.e rv4.2.2.1)),(AV.d (eL TOr.e rv4.2.2.2))]))] [(bx (TBo.e a0)),(bx (TBo.e (⟨[],[],[],[]⟩:TBo))),Ob.dead,Ob.dead,Ob.dead,(eS 7 TCo.e (rv4.2.1.set (0+((IntKind.i64.wrap (a1-1))).toNat) (⟨(rv4.2.1.getD (0+((IntKind.i64.wrap (a1-1))).toNat) default).Number,(rv4.2.1.getD (0+((IntKind.i64.wrap (a1-1))).toNat) default).Reservation,(rv4.2.1.getD (0+((IntKind.i64.wrap (a1-1))).toNat) default).Day,(rv4.2.1.getD (0+((IntKind.i64.wrap (a1-1))).toNat) default).Amount,(IntKind.i64.wrap (((rv4.2.1.getD (0+((IntKind.i64.wrap (a1-1))).toNat) default).Released)+a2)),(rv4.2.1.getD (0+((IntKind.i64.wrap (a1-1))).toNat) default).Payee,(rv4.2.1.getD (0+((IntKind.i64.wrap (a1-1))).toNat) default).Due⟩:TCo))),Ob.dead,Ob.dead,(Ob.box (AV.agg [(AV.d (eL TRe.e rv4.1)),(AV.ref 5 ((rv4.2.1.set (0+((IntKind.i64.wrap (a1-1))).toNat) (⟨(rv4.2.1.getD (0+((IntKind.i64.wrap (a1-1))).toNat) default).Number,(rv4.2.1.getD (0+((IntKind.i64.wrap (a1-1))).toNat) default).Reservation,(rv4.2.1.getD (0+((IntKind.i64.wrap (a1-1))).toNat) default).Day,(rv4.2.1.getD (0+((IntKind.i64.wrap (a1-1))).toNat) default).Amount,(IntKind.i64.wrap (((rv4.2.1.getD (0+((IntKind.i64.wrap (a1-1))).toNat) default).Released)+a2)),(rv4.2.1.getD (0+((IntKind.i64.wrap (a1-1))).toNat) default).Payee,(rv4.2.1.getD (0+((IntKind.i64.wrap (a1-1))).toNat) default).Due⟩:TCo)).length) 0 ((rv4.2.1.set (0+((IntKind.i64.wrap (a1-1))).toNat) (⟨(rv4.2.1.getD (0+((IntKind.i64.wrap (a1-1))).toNat) default).Number,(rv4.2.1.getD (0+((IntKind.i64.wrap (a1-1))).toNat) default).Reservation,(rv4.2.1.getD (0+((IntKind.i64.wrap (a1-1))).toNat) default).Day,(rv4.2.1.getD (0+((IntKind.i64.wrap (a1-1))).toNat) default).Amount,(IntKind.i64.wrap (((rv4.2.1.getD (0+((IntKind.i64.wrap (a1-1))).toNat) default).Released)+a2)),(rv4.2.1.getD (0+((IntKind.i64.wrap (a1-1))).toNat) default).Payee,(rv4.2.1.getD (0+((IntKind.i64.wrap (a1-1))).toNat) default).Due⟩:TCo)).length)),(AV.d (eL TVe.e rv4.2.2.1)),(AV.d (eL TOr.e rv4.2.2.2))]))] (fun _=>⟨by simp only,by simp only[List.length_set]⟩) <|
.guard [(rv4.2.1.set (0+((IntKind.i64.wrap (a1-1))).toNat) (⟨(rv4.2.1.getD (0+((IntKind.i64.wrap (a1-1))).toNat) default).Number,(rv4.2.1.getD (0+((IntKind.i64.wrap (a1-1))).toNat) default).Reservation,(rv4.2.1.getD (0+((IntKind.i64.wrap (a1-1))).toNat) default).Day,(rv4.2.1.getD (0+((IntKind.i64.wrap (a1-1))).toNat) default).Amount,(IntKind.i64.wrap (((rv4.2.1.getD (0+((IntKind.i64.wrap (a1-1))).toNat) default).Released)+a2)),(rv4.2.1.getD (0+((IntKind.i64.wrap (a1-1))).toNat) default).Payee,(rv4.2.1.getD (0+((IntKind.i64.wrap (a1-1))).toNat) default).Due⟩:TCo)).length<2 ^ 63] <|
.reg 11 [] [] [] <|
.frz 5 (.ev 0) none [] [1,8] <|
.ret [] ((⟨rv4.1,(rv4.2.1.set (0+((IntKind.i64.wrap (a1-1))).toNat) (⟨(rv4.2.1.getD (0+((IntKind.i64.wrap (a1-1))).toNat) default).Number,(rv4.2.1.getD (0+((IntKind.i64.wrap (a1-1))).toNat) default).Reservation,(rv4.2.1.getD (0+((IntKind.i64.wrap (a1-1))).toNat) default).Day,(rv4.2.1.getD (0+((IntKind.i64.wrap (a1-1))).toNat) default).Amount,(IntKind.i64.wrap (((rv4.2.1.getD (0+((IntKind.i64.wrap (a1-1))).toNat) default).Released)+a2)),(rv4.2.1.getD (0+((IntKind.i64.wrap (a1-1))).toNat) default).Payee,(rv4.2.1.getD (0+((IntKind.i64.wrap (a1-1))).toNat) default).Due⟩:TCo)),rv4.2.2.1,rv4.2.2.2⟩:TBo),0)))))
def F_q3r (a0:TBo) (a1:Int) (a2:Int):Option R_q3r:=(S_q3r a0 a1 a2).den
theorem F_q3r_ok {a0:TBo} {a1:Int} {a2:Int} (r:R_q3r) (h:F_q3r a0 a1 a2=some r):CallOk Tryz.prog 83 [(AV.d (TBo.e a0)),(vi a1),(vi a2)] [] (V_q3r r) (L_q3r r):=fOk (s:=S_q3r a0 a1 a2) Tryz.func83 rfl (by kernel_rfl) h
end
end Go.Proofs.YtclaojamgomjbaaGreatDoor
/- What the functions compute,and that their calls return it. No condition. -/
namespace Go.Proofs.YtclaojamgomjbaaGreatDoor
open Go Go.TA
noncomputable section
set_option maxRecDepth 100000
abbrev R_q3s:=TBo×Int
def V_q3s (x:R_q3s):AV:=(AV.tup [(AV.d (TBo.e x.1)),(vi x.2)])
def L_q3s (_:R_q3s):List Ob:=[]
def S_q3s (a0:TBo) (a1:Int):Scr Tryz.prog R_q3s R_q3s :=
.reg 0 [] [(1,{ obs:=[(1,(bx (TBo.e (⟨[],[],[],[]⟩:TBo))))] })] [.pf cz4] <|
.call (@F_q16_ok a0) fun rv1 cv1 =>
.reg 1 [] [(1,hc cv1 [] true)] [.cl 0 cv1 [] 2 true] <|
.ite (!rv1) (
.reg 2 [] [(0,hv (AV.d (TBo.e (⟨[],[],[],[]⟩:TBo))))] [.pf cz5] <|
.ret [] ((⟨[],[],[],[]⟩:TBo),1)) (
.ite (bif (decide (a1<1)) then true else (decide (a1>(a0.Verifications.length:Int)))) (
.reg 4 [] [(0,hv (AV.d (TBo.e (⟨[],[],[],[]⟩:TBo))))] [.pf cz5] <|
.ret [] ((⟨[],[],[],[]⟩:TBo),6)) (
.call (@F_q1g_ok a0 a1) fun rv2 cv2 =>
.reg 5 [] [(2,hc cv2 [] true)] [.cl 0 cv2 [] 2 true] <|
.ite (bif (rv2.2==0) then true else rv2.1.Back) (
.reg 7 [] [(0,hv (AV.d (TBo.e (⟨[],[],[],[]⟩:TBo))))] [.pf cz5] <|
.ret [] ((⟨[],[],[],[]⟩:TBo),9)) (
.call (@F_q1f_ok a0) fun rv3 cv3 =>
.reg 8 [] [(1,hc cv3 [] false),(2,{ obs:=[(9,(bx (TBo.e (⟨[],[],[],[]⟩:TBo))))] })] [.cl 0 cv3 [] 3 false,.pf cz4] <|
.kill 4 <|
.guard [rv3.1.length<2 ^ 63] <|
.frz 5 (.ev 0) none [] [9] <|
.guard [rv3.2.1.length<2 ^ 63] <|
.frz 6 (.ev 0) none [] [9] <|
.guard [rv3.2.2.1.length<2 ^ 63] <|
.frz 7 (.ev 0) none [] [9] <|
.guard [(0:Int)≤(IntKind.i64.wrap (rv2.1.Number-1)),((IntKind.i64.wrap (rv2.1.Number-1))).toNat<rv3.2.2.2.length,(0+((IntKind.i64.wrap (rv2.1.Number-1))).toNat)<rv3.2.2.2.length] <|
.reg 9 [] [(7,{ obs:=[(8,(eS 5 TOr.e (rv3.2.2.2.set (0+((IntKind.i64.wrap (rv2.1.Number-1))).toNat) (⟨(rv3.2.2.2.getD (0+((IntKind.i64.wrap (rv2.1.Number-1))).toNat) default).Number,(rv3.2.2.2.getD (0+((IntKind.i64.wrap (rv2.1.Number-1))).toNat) default).Verification,(rv3.2.2.2.getD (0+((IntKind.i64.wrap (rv2.1.Number-1))).toNat) default).Attempt,(rv3.2.2.2.getD (0+((IntKind.i64.wrap (rv2.1.Number-1))).toNat) default).Day,true⟩:TOr))))] })] [.pf (Eq.refl rv3.2.2.2.length),.ev 0,.ev 1,.pf (Eq.refl rv3.2.2.2.length),.pf (Eq.refl rv3.2.2.2.length),.ev 2,.pf (z19 (sz:=5) (e:=TOr.e) (l:=rv3.2.2.2) (i:=(0+((IntKind.i64.wrap (rv2.1.Number-1))).toNat)) (x:=(⟨(rv3.2.2.2.getD (0+((IntKind.i64.wrap (rv2.1.Number-1))).toNat) default).Number,(rv3.2.2.2.getD (0+((IntKind.i64.wrap (rv2.1.Number-1))).toNat) default).Verification,(rv3.2.2.2.getD (0+((IntKind.i64.wrap (rv2.1.Number-1))).toNat) default).Attempt,(rv3.2.2.2.getD (0+((IntKind.i64.wrap (rv2.1.Number-1))).toNat) default).Day,true⟩:TOr)) (fun _=>rfl))] <|
.cst (A:=True) (.pf trivial) [(4,(vp 1)),(8,(vp 9))] [(4,(vp 1)),(8,(vp 9))] [(bx (TBo.e a0)),(bx (TBo.e (⟨[],[],[],[]⟩:TBo))),(bx (TOr.e rv2.1)),Ob.dead,Ob.dead,Ob.dead,Ob.dead,Ob.dead,(eS 5 TOr.e (rv3.2.2.2.set (0+((IntKind.i64.wrap (rv2.1.Number-1))).toNat) (⟨(rv3.2.2.2.getD (0+((IntKind.i64.wrap (rv2.1.Number-1))).toNat) default).Number,(rv3.2.2.2.getD (0+((IntKind.i64.wrap (rv2.1.Number-1))).toNat) default).Verification,(rv3.2.2.2.getD (0+((IntKind.i64.wrap (rv2.1.Number-1))).toNat) default).Attempt,(rv3.2.2.2.getD (0+((IntKind.i64.wrap (rv2.1.Number-1))).toNat) default).Day,true⟩:TOr))),(Ob.box (AV.agg [(AV.d (eL TRe.e rv3.1)),(AV.d (eL TCo.e rv3.2.1)),(AV.d (eL TVe.e rv3.2.2.1)),(AV.ref 8 rv3.2.2.2.length 0 rv3.2.2.2.length)]))] [(bx (TBo.e a0)),(bx (TBo.e (⟨[],[],[],[]⟩:TBo))),(bx (TOr.e rv2.1)),Ob.dead,Ob.dead,Ob.dead,Ob.dead,Ob.dead,(eS 5 TOr.e (rv3.2.2.2.set (0+((IntKind.i64.wrap (rv2.1.Number-1))).toNat) (⟨(rv3.2.2.2.getD (0+((IntKind.i64.wrap (rv2.1.Number-1))).toNat) default).Number,(rv3.2.2.2.getD (0+((IntKind.i64.wrap (rv2.1.Number-1))).toNat) default).Verification,(rv3.2.2.2.getD (0+((IntKind.i64.wrap (rv2.1.Number-1))).toNat) default).Attempt,(rv3.2.2.2.getD (0+((IntKind.i64.wrap (rv2.1.Number-1))).toNat) default).Day,true⟩:TOr))),(Ob.box (AV.agg [(AV.d (eL TRe.e rv3.1)),(AV.d (eL TCo.e rv3.2.1)),(AV.d (eL TVe.e rv3.2.2.1)),(AV.ref 8 ((rv3.2.2.2.set (0+((IntKind.i64.wrap (rv2.1.Number-1))).toNat) (⟨(rv3.2.2.2.getD (0+((IntKind.i64.wrap (rv2.1.Number-1))).toNat) default).Number,(rv3.2.2.2.getD (0+((IntKind.i64.wrap (rv2.1.Number-1))).toNat) default).Verification,(rv3.2.2.2.getD (0+((IntKind.i64.wrap (rv2.1.Number-1))).toNat) default).Attempt,(rv3.2.2.2.getD (0+((IntKind.i64.wrap (rv2.1.Number-1))).toNat) default).Day,true⟩:TOr)).length) 0 ((rv3.2.2.2.set (0+((IntKind.i64.wrap (rv2.1.Number-1))).toNat) (⟨(rv3.2.2.2.getD (0+((IntKind.i64.wrap (rv2.1.Number-1))).toNat) default).Number,(rv3.2.2.2.getD (0+((IntKind.i64.wrap (rv2.1.Number-1))).toNat) default).Verification,(rv3.2.2.2.getD (0+((IntKind.i64.wrap (rv2.1.Number-1))).toNat) default).Attempt,(rv3.2.2.2.getD (0+((IntKind.i64.wrap (rv2.1.Number-1))).toNat) default).Day,true⟩:TOr)).length))]))] (fun _=>⟨by simp only,by simp only[List.length_set]⟩) <|
.guard [(rv3.2.2.2.set (0+((IntKind.i64.wrap (rv2.1.Number-1))).toNat) (⟨(rv3.2.2.2.getD (0+((IntKind.i64.wrap (rv2.1.Number-1))).toNat) default).Number,(rv3.2.2.2.getD (0+((IntKind.i64.wrap (rv2.1.Number-1))).toNat) default).Verification,(rv3.2.2.2.getD (0+((IntKind.i64.wrap (rv2.1.Number-1))).toNat) default).Attempt,(rv3.2.2.2.getD (0+((IntKind.i64.wrap (rv2.1.Number-1))).toNat) default).Day,true⟩:TOr)).length<2 ^ 63] <|
.reg 10 [] [] [] <|
.frz 8 (.ev 0) none [] [1,9] <|
.ret [] ((⟨rv3.1,rv3.2.1,rv3.2.2.1,(rv3.2.2.2.set (0+((IntKind.i64.wrap (rv2.1.Number-1))).toNat) (⟨(rv3.2.2.2.getD (0+((IntKind.i64.wrap (rv2.1.Number-1))).toNat) default).Number,(rv3.2.2.2.getD (0+((IntKind.i64.wrap (rv2.1.Number-1))).toNat) default).Verification,(rv3.2.2.2.getD (0+((IntKind.i64.wrap (rv2.1.Number-1))).toNat) default).Attempt,(rv3.2.2.2.getD (0+((IntKind.i64.wrap (rv2.1.Number-1))).toNat) default).Day,true⟩:TOr))⟩:TBo),0))))
def F_q3s (a0:TBo) (a1:Int):Option R_q3s:=(S_q3s a0 a1).den
theorem F_q3s_ok {a0:TBo} {a1:Int} (r:R_q3s) (h:F_q3s a0 a1=some r):CallOk Tryz.prog 84 [(AV.d (TBo.e a0)),(vi a1)] [] (V_q3s r) (L_q3s r):=fOk (s:=S_q3s a0 a1) Tryz.func84 rfl (by kernel_rfl) h
abbrev R_q2x:=TRi×Int
def V_q2x (x:R_q2x):AV:=(AV.tup [(AV.d (TRi.e x.1)),(vi x.2)])
def L_q2x (_:R_q2x):List Ob:=[]
def S_q2x (a0:TRi) (a1:TMe):Scr Tryz.prog R_q2x R_q2x :=
.call (@F_q2w_ok a0) fun rv1 cv1 =>
.reg 1 [] [(1,hc cv1 [] true)] [.cl 0 cv1 [] 3 true] <|
.ite (bif (bif (bif (!rv1) then true else (a1.From != 0)) then true else (!(a1.Code==a0.Code))) then true else (a1.Year != a0.Year)) (
.ret [] ((⟨[],0,0,0,0⟩:TRi),1)) (
.call (@F_q1s_ok a1.Granted) fun rv2 cv2 =>
.calld [(!rv2)=false] default (@F_q1s_ok a1.Asked) fun rv3 cv3 =>
.reg 3 [] [(2,hc cv2 [] true),(7,hc cv3 [] true)] [.cl 2 cv2 [] 3 true,.clg 0 [(!rv2)=false] cv3 [] 3 true] <|
.ite (bif (!rv2) then true else (!rv3)) (
.ret [] ((⟨[],0,0,0,0⟩:TRi),2)) (
.reg 5 [11,13] [] [] <|
.ret [] ((⟨a0.Code,a0.Year,(if a1.Granted>a0.Granted then a1.Granted else a0.Granted),(if a1.Asked>a0.Asked then a1.Asked else a0.Asked),a0.Returned⟩:TRi),0)))
def F_q2x (a0:TRi) (a1:TMe):Option R_q2x:=(S_q2x a0 a1).den
theorem F_q2x_ok {a0:TRi} {a1:TMe} (r:R_q2x) (h:F_q2x a0 a1=some r):CallOk Tryz.prog 126 [(AV.d (TRi.e a0)),(AV.d (TMe.e a1))] [] (V_q2x r) (L_q2x r):=fOk (s:=S_q2x a0 a1) Tryz.func126 rfl (by kernel_rfl) h
theorem cz6:∀ k,k<1→(AV.d (TRi.e (([(⟨[],0,0,0,0⟩:TRi)]:List TRi).getD k default))).wd=5:=fun _ _=>rfl
abbrev R_q17:=TOf×Int
def V_q17 (x:R_q17):AV:=(AV.tup [(AV.d (TOf.e x.1)),(vi x.2)])
def L_q17 (_:R_q17):List Ob:=[]
def S_q17_b1 (a0:TOf) (rv1:R_q2x) (sv2:Int):Scr Tryz.prog R_q17 (Step (Int) R_q17) :=
.ite (decide (sv2<(a0.Rights.length:Int))) (
.call (@F_qv_ok ((a0.Rights.getD (0+(sv2).toNat) default).Code) rv1.1.Code) fun rv3 cv3 =>
.guard [(0:Int)≤sv2,(sv2).toNat<a0.Rights.length,(0+(sv2).toNat)<a0.Rights.length] <|
.reg 15 [] [(7,hc cv3 [] true)] [.pf (Eq.refl a0.Rights.length),.ev 0,.ev 1,.pf (Eq.refl a0.Rights.length),.pf (Eq.refl a0.Rights.length),.ev 2,.cl 3 cv3 [] 5 true] <|
.guard [AllP [(rv3==0)=true,(decide (rv3>0))=false]→((0:Int)≤sv2),AllP [(rv3==0)=true,(decide (rv3>0))=false]→((sv2).toNat<a0.Rights.length),AllP [(rv3==0)=true,(decide (rv3>0))=false]→((0+(sv2).toNat)<a0.Rights.length)] <|
.reg 16 [] [] [.pf (p:=AllP [(rv3==0)=true,(decide (rv3>0))=false]→(a0.Rights.length=a0.Rights.length)) (fun _=>rfl),.ev 0,.ev 1,.pf (p:=AllP [(rv3==0)=true,(decide (rv3>0))=false]→(a0.Rights.length=a0.Rights.length)) (fun _=>rfl),.pf (p:=AllP [(rv3==0)=true,(decide (rv3>0))=false]→(a0.Rights.length=a0.Rights.length)) (fun _=>rfl),.ev 2] <|
.ite (bif (decide (rv3>0)) then true else (bif (rv3==0) then (decide (((a0.Rights.getD (0+(sv2).toNat) default).Year)>rv1.1.Year)) else false)) (
.ret [] (.brk sv2)) (
.ret [] (.cont (IntKind.i64.wrap (sv2+1))))) (
.ret [] (.brk sv2))
def S_q17 (a0:TOf) (a1:TOp):Scr Tryz.prog R_q17 R_q17 :=
.reg 0 [] [(2,{ obs:=[(2,(bx (TOf.e (⟨0,[],(⟨[],[],[],[]⟩:TBo)⟩:TOf))))] })] [.pf cz1] <|
.call (@F_ql_ok a1.Code) fun rv4 cv4 =>
.reg 1 [] [(2,hc cv4 [] true)] [.cl 0 cv4 [] 3 true] <|
.ite (!rv4) (
.reg 2 [] [(0,hv (AV.d (TOf.e (⟨0,[],(⟨[],[],[],[]⟩:TBo)⟩:TOf))))] [.pf cz2] <|
.ret [] ((⟨0,[],(⟨[],[],[],[]⟩:TBo)⟩:TOf),5)) (
.ite (bif (decide (a1.Year<0)) then true else (decide (a1.Year>99))) (
.reg 4 [] [(0,hv (AV.d (TOf.e (⟨0,[],(⟨[],[],[],[]⟩:TBo)⟩:TOf))))] [.pf cz2] <|
.ret [] ((⟨0,[],(⟨[],[],[],[]⟩:TBo)⟩:TOf),2)) (
.call (@F_qu_ok a0 a1.Code a1.Year) fun rv5 cv5 =>
.reg 5 [] [(5,hc cv5 [] true)] [.cl 0 cv5 [] 3 true] <|
.ite (bif (decide (rv5<0)) then ((a0.Rights.length:Int)==60) else false) (
.reg 7 [] [(0,hv (AV.d (TOf.e (⟨0,[],(⟨[],[],[],[]⟩:TBo)⟩:TOf))))] [.pf cz2] <|
.ret [] ((⟨0,[],(⟨[],[],[],[]⟩:TBo)⟩:TOf),3)) (
.call (@F_q35_ok a0 a1.Code a1.Year) fun rv6 cv6 =>
.call (@F_q2x_ok rv6 (⟨0,0,a1.Code,a1.Year,a1.Granted,a1.AskedBack,0,0⟩:TMe)) fun rv1 cv1 =>
.reg 8 [19,20] [(5,hc cv6 [] true),(15,hc cv1 [] true)] [.cl 1 cv6 [] 3 true,.cl 1 cv6 [] 4 true,.cl 0 cv1 [] 3 true,.cl 0 cv1 [] 4 true] <|
.ite (rv1.2 != 0) (
.reg 10 [] [(0,hv (AV.d (TOf.e (⟨0,[],(⟨[],[],[],[]⟩:TBo)⟩:TOf))))] [.pf cz2] <|
.ret [] ((⟨0,[],(⟨[],[],[],[]⟩:TBo)⟩:TOf),rv1.2)) (
.guard [a0.Rights.length * (2 * 48)≤2 ^ 48] <|
.reg 11 [] [(3,{ h:=.obj })] [.pf (p:=∀ k,k<a0.Rights.length→(AV.d (TRi.e (a0.Rights.getD k default))).wd=5) (fun _ _=>rfl),.ev 0] <|
.cut none [2,4,7] (fun (sv7:(List TRi)×Int)=>[(6,(vi sv7.2)),(9,(AV.ref 4 sv7.1.length 0 sv7.1.length))]) (fun (sv7:(List TRi)×Int)=>[(4,(eS 5 TRi.e sv7.1))]) (
.ite (decide (rv5<0)) (
.iter [2,4,7,9] (fun (sv2:Int)=>[(6,(vi sv2))]) (fun (_:Int)=>[]) 0 (S_q17_b1 a0 rv1) (fun (sv2:Int) =>
.guard [(a0.Rights.length+1) * (2 * 48)≤2 ^ 48] <|
.reg 18 [] [(2,hv (AV.d (eL TRi.e ([(⟨[],0,0,0,0⟩:TRi)]:List TRi)))),(3,{ h:=.obj,cast:=some (AV.ref 4 ((a0.Rights++([(⟨[],0,0,0,0⟩:TRi)]:List TRi)).length) 0 ((a0.Rights++([(⟨[],0,0,0,0⟩:TRi)]:List TRi)).length)),obs:=[(4,(eS 5 TRi.e (a0.Rights++([(⟨[],0,0,0,0⟩:TRi)]:List TRi))))] })] [.pf (zd TRi.e ([(⟨[],0,0,0,0⟩:TRi)]:List TRi)),.pf (Eq.refl a0.Rights.length),.pf (Eq.refl a0.Rights.length),.pf cz6,.ev 0,.pf (zy (o:=4) (l:=a0.Rights) (x:=([(⟨[],0,0,0,0⟩:TRi)]:List TRi))),.pf (zx (sz:=5) (e:=TRi.e) (l:=a0.Rights) (x:=([(⟨[],0,0,0,0⟩:TRi)]:List TRi)))] <|
.guard [(0:Int)≤(IntKind.i64.wrap (sv2+1)),((IntKind.i64.wrap (sv2+1))).toNat≤(a0.Rights++([(⟨[],0,0,0,0⟩:TRi)]:List TRi)).length,(0:Int)≤sv2,(sv2).toNat≤(a0.Rights++([(⟨[],0,0,0,0⟩:TRi)]:List TRi)).length] <|
.reg 19 [7] [(7,{ obs:=[(4,(eS 5 TRi.e (copyL (a0.Rights++([(⟨[],0,0,0,0⟩:TRi)]:List TRi)) (0+((IntKind.i64.wrap (sv2+1))).toNat) (min ((a0.Rights++([(⟨[],0,0,0,0⟩:TRi)]:List TRi)).length-(sv2).toNat) ((a0.Rights++([(⟨[],0,0,0,0⟩:TRi)]:List TRi)).length-((IntKind.i64.wrap (sv2+1))).toNat)) (fun i=>((a0.Rights++([(⟨[],0,0,0,0⟩:TRi)]:List TRi)).getD ((0+(sv2).toNat)+i) default)))))] })] [.ev 0,.ev 1,.pf (Eq.refl ((a0.Rights++([(⟨[],0,0,0,0⟩:TRi)]:List TRi)).length)),.ev 2,.ev 3,.pf (Eq.refl ((a0.Rights++([(⟨[],0,0,0,0⟩:TRi)]:List TRi)).length)),.pf (Eq.refl ((a0.Rights++([(⟨[],0,0,0,0⟩:TRi)]:List TRi)).length)),.pf (Eq.refl ((a0.Rights++([(⟨[],0,0,0,0⟩:TRi)]:List TRi)).length)),.pf (p:=∀ k,k<((a0.Rights++([(⟨[],0,0,0,0⟩:TRi)]:List TRi)).length-(sv2).toNat)→(AV.d (TRi.e ((a0.Rights++([(⟨[],0,0,0,0⟩:TRi)]:List TRi)).getD ((0+(sv2).toNat)+k) default))).wd=5) (fun _ _=>rfl),.pf (zef (sz:=5) (e:=TRi.e) (l:=(a0.Rights++([(⟨[],0,0,0,0⟩:TRi)]:List TRi))) (off:=(0+((IntKind.i64.wrap (sv2+1))).toNat)) (k:=(min ((a0.Rights++([(⟨[],0,0,0,0⟩:TRi)]:List TRi)).length-(sv2).toNat) ((a0.Rights++([(⟨[],0,0,0,0⟩:TRi)]:List TRi)).length-((IntKind.i64.wrap (sv2+1))).toNat))) (s:=(fun i=>((a0.Rights++([(⟨[],0,0,0,0⟩:TRi)]:List TRi)).getD ((0+(sv2).toNat)+i) default))))] <|
.cst (A:=True) (.pf trivial) [(2,(vp 0)),(4,(vp 2)),(6,(vi sv2)),(7,(vp 3)),(9,(AV.ref 4 ((a0.Rights++([(⟨[],0,0,0,0⟩:TRi)]:List TRi)).length) 0 ((a0.Rights++([(⟨[],0,0,0,0⟩:TRi)]:List TRi)).length)))] [(2,(vp 0)),(4,(vp 2)),(6,(vi sv2)),(7,(vp 3)),(9,(AV.ref 4 ((copyL (a0.Rights++([(⟨[],0,0,0,0⟩:TRi)]:List TRi)) (0+((IntKind.i64.wrap (sv2+1))).toNat) (min ((a0.Rights++([(⟨[],0,0,0,0⟩:TRi)]:List TRi)).length-(sv2).toNat) ((a0.Rights++([(⟨[],0,0,0,0⟩:TRi)]:List TRi)).length-((IntKind.i64.wrap (sv2+1))).toNat)) (fun i=>((a0.Rights++([(⟨[],0,0,0,0⟩:TRi)]:List TRi)).getD ((0+(sv2).toNat)+i) default))).length) 0 ((copyL (a0.Rights++([(⟨[],0,0,0,0⟩:TRi)]:List TRi)) (0+((IntKind.i64.wrap (sv2+1))).toNat) (min ((a0.Rights++([(⟨[],0,0,0,0⟩:TRi)]:List TRi)).length-(sv2).toNat) ((a0.Rights++([(⟨[],0,0,0,0⟩:TRi)]:List TRi)).length-((IntKind.i64.wrap (sv2+1))).toNat)) (fun i=>((a0.Rights++([(⟨[],0,0,0,0⟩:TRi)]:List TRi)).getD ((0+(sv2).toNat)+i) default))).length)))] [(bx (TOf.e a0)),(bx (TOp.e a1)),(bx (TOf.e (⟨0,[],(⟨[],[],[],[]⟩:TBo)⟩:TOf))),(bx (TRi.e rv1.1)),(eS 5 TRi.e (copyL (a0.Rights++([(⟨[],0,0,0,0⟩:TRi)]:List TRi)) (0+((IntKind.i64.wrap (sv2+1))).toNat) (min ((a0.Rights++([(⟨[],0,0,0,0⟩:TRi)]:List TRi)).length-(sv2).toNat) ((a0.Rights++([(⟨[],0,0,0,0⟩:TRi)]:List TRi)).length-((IntKind.i64.wrap (sv2+1))).toNat)) (fun i=>((a0.Rights++([(⟨[],0,0,0,0⟩:TRi)]:List TRi)).getD ((0+(sv2).toNat)+i) default))))] [(bx (TOf.e a0)),(bx (TOp.e a1)),(bx (TOf.e (⟨0,[],(⟨[],[],[],[]⟩:TBo)⟩:TOf))),(bx (TRi.e rv1.1)),(eS 5 TRi.e (copyL (a0.Rights++([(⟨[],0,0,0,0⟩:TRi)]:List TRi)) (0+((IntKind.i64.wrap (sv2+1))).toNat) (min ((a0.Rights++([(⟨[],0,0,0,0⟩:TRi)]:List TRi)).length-(sv2).toNat) ((a0.Rights++([(⟨[],0,0,0,0⟩:TRi)]:List TRi)).length-((IntKind.i64.wrap (sv2+1))).toNat)) (fun i=>((a0.Rights++([(⟨[],0,0,0,0⟩:TRi)]:List TRi)).getD ((0+(sv2).toNat)+i) default))))] (fun _=>⟨by simp only[z1d],by rfl⟩) <|
.ret [] (.next ((copyL (a0.Rights++([(⟨[],0,0,0,0⟩:TRi)]:List TRi)) (0+((IntKind.i64.wrap (sv2+1))).toNat) (min ((a0.Rights++([(⟨[],0,0,0,0⟩:TRi)]:List TRi)).length-(sv2).toNat) ((a0.Rights++([(⟨[],0,0,0,0⟩:TRi)]:List TRi)).length-((IntKind.i64.wrap (sv2+1))).toNat)) (fun i=>((a0.Rights++([(⟨[],0,0,0,0⟩:TRi)]:List TRi)).getD ((0+(sv2).toNat)+i) default))),sv2))) .ret) (
.ret [] (.next (a0.Rights,rv5)))) fun (sv7:(List TRi)×Int) =>
.guard [(0:Int)≤sv7.2,(sv7.2).toNat<sv7.1.length,(0+(sv7.2).toNat)<sv7.1.length] <|
.reg 20 [] [(4,{ obs:=[(4,(eS 5 TRi.e (sv7.1.set (0+(sv7.2).toNat) rv1.1)))] })] [.pf (Eq.refl sv7.1.length),.ev 0,.ev 1,.pf (Eq.refl sv7.1.length),.ev 2,.pf (z19 (sz:=5) (e:=TRi.e) (l:=sv7.1) (i:=(0+(sv7.2).toNat)) (x:=rv1.1) (fun _=>rfl))] <|
.cst (A:=True) (.pf trivial) [(2,(vp 0)),(4,(vp 2)),(9,(AV.ref 4 sv7.1.length 0 sv7.1.length))] [(2,(vp 0)),(4,(vp 2)),(9,(AV.ref 4 ((sv7.1.set (0+(sv7.2).toNat) rv1.1).length) 0 ((sv7.1.set (0+(sv7.2).toNat) rv1.1).length)))] [(bx (TOf.e a0)),(bx (TOp.e a1)),(bx (TOf.e (⟨0,[],(⟨[],[],[],[]⟩:TBo)⟩:TOf))),(bx (TRi.e rv1.1)),(eS 5 TRi.e (sv7.1.set (0+(sv7.2).toNat) rv1.1))] [(bx (TOf.e a0)),(bx (TOp.e a1)),(bx (TOf.e (⟨0,[],(⟨[],[],[],[]⟩:TBo)⟩:TOf))),(bx (TRi.e rv1.1)),(eS 5 TRi.e (sv7.1.set (0+(sv7.2).toNat) rv1.1))] (fun _=>⟨by simp only[List.length_set],by rfl⟩) <|
.guard [(sv7.1.set (0+(sv7.2).toNat) rv1.1).length<2 ^ 63] <|
.reg 22 [] [] [] <|
.frz 4 (.ev 0) none [] [0,2] <|
.ret [] ((⟨a0.Number,(sv7.1.set (0+(sv7.2).toNat) rv1.1),a0.Book⟩:TOf),0)))))
def F_q17 (a0:TOf) (a1:TOp):Option R_q17:=(S_q17 a0 a1).den
theorem F_q17_ok {a0:TOf} {a1:TOp} (r:R_q17) (h:F_q17 a0 a1=some r):CallOk Tryz.prog 85 [(AV.d (TOf.e a0)),(AV.d (TOp.e a1))] [] (V_q17 r) (L_q17 r):=fOk (s:=S_q17 a0 a1) Tryz.func85 rfl (by kernel_rfl) h
abbrev R_q3t:=TRi×Int
def V_q3t (x:R_q3t):AV:=(AV.tup [(AV.d (TRi.e x.1)),(vi x.2)])
def L_q3t (_:R_q3t):List Ob:=[]
def S_q3t (a0:TRi) (a1:Int) (a2:Int):Scr Tryz.prog R_q3t R_q3t :=
.call (@F_q2w_ok a0) fun rv1 cv1 =>
.reg 1 [] [(1,hc cv1 [] true)] [.cl 0 cv1 [] 2 true] <|
.ite (bif (bif (!rv1) then true else (decide (a1<0))) then true else (decide (a1>(IntKind.i64.wrap (a0.Granted-a0.Returned))))) (
.ret [] ((⟨[],0,0,0,0⟩:TRi),1)) (
.ite (bif (decide (a2<1)) then true else (decide (a2>1000000000000000))) (
.ret [] ((⟨[],0,0,0,0⟩:TRi),2)) (
.ite (decide (a2>(IntKind.i64.wrap ((IntKind.i64.wrap (a0.Granted-a0.Returned))-a1)))) (
.ret [] ((⟨[],0,0,0,0⟩:TRi),15)) (
.ret [] ((⟨a0.Code,a0.Year,a0.Granted,a0.Asked,(IntKind.i64.wrap (a0.Returned+a2))⟩:TRi),0))))
def F_q3t (a0:TRi) (a1:Int) (a2:Int):Option R_q3t:=(S_q3t a0 a1 a2).den
theorem F_q3t_ok {a0:TRi} {a1:Int} {a2:Int} (r:R_q3t) (h:F_q3t a0 a1 a2=some r):CallOk Tryz.prog 87 [(AV.d (TRi.e a0)),(vi a1),(vi a2)] [] (V_q3t r) (L_q3t r):=fOk (s:=S_q3t a0 a1 a2) Tryz.func87 rfl (by kernel_rfl) h
abbrev R_q2e:=TOf×Int
def V_q2e (x:R_q2e):AV:=(AV.tup [(AV.d (TOf.e x.1)),(vi x.2)])
def L_q2e (_:R_q2e):List Ob:=[]
def S_q2e (a0:TOf) (a1:TOp):Scr Tryz.prog R_q2e R_q2e :=
.reg 0 [] [(2,{ obs:=[(2,(bx (TOf.e (⟨0,[],(⟨[],[],[],[]⟩:TBo)⟩:TOf))))] })] [.pf cz1] <|
.call (@F_q9_ok a0) fun rv1 cv1 =>
.reg 1 [] [(1,hc cv1 [] true)] [.cl 0 cv1 [] 3 true] <|
.ite (!rv1) (
.reg 2 [] [(0,hv (AV.d (TOf.e (⟨0,[],(⟨[],[],[],[]⟩:TBo)⟩:TOf))))] [.pf cz2] <|
.ret [] ((⟨0,[],(⟨[],[],[],[]⟩:TBo)⟩:TOf),1)) (
.reg 3 [] [(2,{ obs:=[(3,(bx (TBo.e (⟨[],[],[],[]⟩:TBo))))] })] [.pf cz4] <|
.cut (some 0) [2,4,6] (fun (sv2:TBo×Int)=>[(7,(vi sv2.2))]) (fun (sv2:TBo×Int)=>[(3,(bx (TBo.e sv2.1)))]) (
.ite (a1.Kind==1) (
.call (@F_q3m_ok a0.Book a1.Code a1.Year a1.Day a1.Amount) fun rv3 cv3 =>
.reg 7 [] [(10,hc cv3 [] true)] [.cl 0 cv3 [] 4 true] <|
.calld [(rv3.2==0)=true] default (@F_q36_ok a0 a1.Code a1.Year) fun rv4 cv4 =>
.reg 8 [] [(10,hc cv4 [] true)] [.clg 0 [(rv3.2==0)=true] cv4 [] 4 true] <|
.ite (bif (rv3.2==0) then (decide (a1.Amount>rv4)) else false) (
.ret [] (.next (rv3.1,15))) (
.ret [] (.next (rv3.1,rv3.2)))) (
.ite (a1.Kind==2) (
.call (@F_q3n_ok a0.Book a1.Of a1.Day a1.Amount a1.Payee a1.Due) fun rv5 cv5 =>
.reg 11 [] [(12,hc cv5 [] true)] [.cl 0 cv5 [] 4 true] <|
.ret [] (.next (rv5.1,rv5.2))) (
.ite (a1.Kind==3) (
.call (@F_q3o_ok a0.Book a1.Of a1.Day a1.Amount) fun rv6 cv6 =>
.reg 13 [] [(8,hc cv6 [] true)] [.cl 0 cv6 [] 4 true] <|
.ret [] (.next (rv6.1,rv6.2))) (
.ite (a1.Kind==4) (
.call (@F_q3p_ok a0.Book a1.Of a1.Day) fun rv7 cv7 =>
.reg 15 [] [(6,hc cv7 [] true)] [.cl 0 cv7 [] 4 true] <|
.ret [] (.next (rv7.1,rv7.2))) (
.ite (a1.Kind==5) (
.call (@F_q3q_ok a0.Book a1.Of a1.Amount) fun rv8 cv8 =>
.reg 17 [] [(6,hc cv8 [] true)] [.cl 0 cv8 [] 4 true] <|
.ret [] (.next (rv8.1,rv8.2))) (
.ite (a1.Kind==6) (
.call (@F_q3r_ok a0.Book a1.Of a1.Amount) fun rv9 cv9 =>
.reg 19 [] [(6,hc cv9 [] true)] [.cl 0 cv9 [] 4 true] <|
.ret [] (.next (rv9.1,rv9.2))) (
.ite (a1.Kind==9) (
.call (@F_q3s_ok a0.Book a1.Of) fun rv10 cv10 =>
.reg 21 [] [(4,hc cv10 [] true)] [.cl 0 cv10 [] 4 true] <|
.ret [] (.next (rv10.1,rv10.2))) (
.ite (a1.Kind==8) (
.call (@F_q17_ok a0 a1) fun rv11 cv11 =>
.reg 23 [] [(2,hc cv11 [] true)] [.cl 0 cv11 [] 4 true] <|
.ret [] (.ret (rv11.1,rv11.2))) (
.ite (a1.Kind==7) (
.call (@F_qu_ok a0 a1.Code a1.Year) fun rv12 cv12 =>
.reg 25 [] [(5,hc cv12 [] true)] [.cl 0 cv12 [] 4 true] <|
.ite (decide (rv12<0)) (
.reg 27 [] [(0,hv (AV.d (TOf.e (⟨0,[],(⟨[],[],[],[]⟩:TBo)⟩:TOf))))] [.pf cz2] <|
.ret [] (.ret ((⟨0,[],(⟨[],[],[],[]⟩:TBo)⟩:TOf),6))) (
.call (@F_qe_ok a0.Book a1.Code a1.Year) fun rv13 cv13 =>
.call (@F_q3t_ok (a0.Rights.getD ((rv12).toNat) default) rv13 a1.Amount) fun rv14 cv14 =>
.guard [(0:Int)≤rv12,(rv12).toNat<a0.Rights.length] <|
.reg 28 [18,19] [(11,hc cv13 [] true),(14,hc cv14 [] true)] [.ev 0,.ev 1,.ev 0,.ev 1,.cl 3 cv13 [] 4 true,.cl 3 cv13 [] 5 true,.cl 2 cv14 [] 4 true,.cl 2 cv14 [] 5 true] <|
.ite (rv14.2 != 0) (
.reg 30 [] [(0,hv (AV.d (TOf.e (⟨0,[],(⟨[],[],[],[]⟩:TBo)⟩:TOf))))] [.pf cz2] <|
.ret [] (.ret ((⟨0,[],(⟨[],[],[],[]⟩:TBo)⟩:TOf),rv14.2))) (
.guard [a0.Rights.length * (2 * 48)≤2 ^ 48] <|
.reg 31 [] [(3,{ h:=.obj })] [.pf (p:=∀ k,k<a0.Rights.length→(AV.d (TRi.e (a0.Rights.getD k default))).wd=5) (fun _ _=>rfl),.ev 0] <|
.guard [(0+(rv12).toNat)<a0.Rights.length] <|
.reg 32 [] [(5,{ obs:=[(5,(eS 5 TRi.e (a0.Rights.set (0+(rv12).toNat) rv14.1)))] })] [.pf (Eq.refl a0.Rights.length),.ev 3,.ev 4,.pf (Eq.refl a0.Rights.length),.ev 0,.pf (z19 (sz:=5) (e:=TRi.e) (l:=a0.Rights) (i:=(0+(rv12).toNat)) (x:=rv14.1) (fun _=>rfl))] <|
.cst (A:=True) (.pf trivial) [(2,(vp 0)),(4,(vp 2))] [(2,(vp 0)),(4,(vp 2))] [(Ob.box (AV.agg [(vi a0.Number),(AV.ref 5 a0.Rights.length 0 a0.Rights.length),(AV.d (TBo.e a0.Book))])),(bx (TOp.e a1)),(bx (TOf.e (⟨0,[],(⟨[],[],[],[]⟩:TBo)⟩:TOf))),(bx (TBo.e a0.Book)),(bx (TRi.e rv14.1)),(eS 5 TRi.e (a0.Rights.set (0+(rv12).toNat) rv14.1))] [(Ob.box (AV.agg [(vi a0.Number),(AV.ref 5 ((a0.Rights.set (0+(rv12).toNat) rv14.1).length) 0 ((a0.Rights.set (0+(rv12).toNat) rv14.1).length)),(AV.d (TBo.e a0.Book))])),(bx (TOp.e a1)),(bx (TOf.e (⟨0,[],(⟨[],[],[],[]⟩:TBo)⟩:TOf))),(bx (TBo.e a0.Book)),(bx (TRi.e rv14.1)),(eS 5 TRi.e (a0.Rights.set (0+(rv12).toNat) rv14.1))] (fun _=>⟨by simp only,by simp only[List.length_set]⟩) <|
.guard [(a0.Rights.set (0+(rv12).toNat) rv14.1).length<2 ^ 63] <|
.reg 33 [] [] [] <|
.frz 5 (.ev 0) none [] [0,2] <|
.ret [] (.ret ((⟨a0.Number,(a0.Rights.set (0+(rv12).toNat) rv14.1),a0.Book⟩:TOf),0))))) (
.ret [] (.next (a0.Book,1)))))))))))) fun (sv2:TBo×Int) =>
.ite (sv2.2 != 0) (
.reg 35 [] [(0,hv (AV.d (TOf.e (⟨0,[],(⟨[],[],[],[]⟩:TBo)⟩:TOf))))] [.pf cz2] <|
.ret [] ((⟨0,[],(⟨[],[],[],[]⟩:TBo)⟩:TOf),sv2.2)) (
.ret [] ((⟨a0.Number,a0.Rights,sv2.1⟩:TOf),0)))
def F_q2e (a0:TOf) (a1:TOp):Option R_q2e:=(S_q2e a0 a1).den
theorem F_q2e_ok {a0:TOf} {a1:TOp} (r:R_q2e) (h:F_q2e a0 a1=some r):CallOk Tryz.prog 32 [(AV.d (TOf.e a0)),(AV.d (TOp.e a1))] [] (V_q2e r) (L_q2e r):=fOk (s:=S_q2e a0 a1) Tryz.func32 rfl (by kernel_rfl) h
abbrev R_q37:=List UInt8×TTape
def V_q37 (x:R_q37):AV:=(AV.d (DV.str x.1))
def L_q37 (x:R_q37):List Ob:=[(bx (TTape.e x.2))]
def S_q37 (p0:TTape):Scr Tryz.prog R_q37 R_q37 :=
.call (@F_q0_ok 3 p0) fun rv1 cv1 =>
.guard [(0:Int)≤rv1.1,(rv1.1).toNat<3] <|
.reg 1 [] [(0,hv (AV.d (eL DV.str ([[49],[49,46,50],[50]]:List (List UInt8))))),(2,hc cv1 [0] false)] [.pf (zd DV.str ([[49],[49,46,50],[50]]:List (List UInt8))),.cl 2 cv1 [0] 1 false,.ev 0,.ev 1] <|
.ret [] ((([[49],[49,46,50],[50]]:List (List UInt8)).getD ((rv1.1).toNat) default),rv1.2)
def F_q37 (p0:TTape):Option R_q37:=(S_q37 p0).den
theorem F_q37_ok {p0:TTape} (r:R_q37) (h:F_q37 p0=some r):CallOk Tryz.prog 88 [(vp 0)] [(bx (TTape.e p0))] (V_q37 r) (L_q37 r):=fOk (s:=S_q37 p0) Tryz.func88 rfl (by kernel_rfl) h
abbrev R_q2y:=TOp×TTape
def V_q2y (x:R_q2y):AV:=(AV.d (TOp.e x.1))
def L_q2y (x:R_q2y):List Ob:=[(bx (TTape.e x.2))]
def S_q2y (a1:TOf) (a2:Int) (p0:TTape):Scr Tryz.prog R_q2y R_q2y :=
.call (@F_q4_ok ([1,1,1,2,2,2,3,3,3,4,4,5,6,7,8,8,9]:List Int) p0) fun rv1 cv1 =>
.call (@F_q37_ok rv1.2) fun rv2 cv2 =>
.call (@F_q6_ok 1 120 rv2.2) fun rv3 cv3 =>
.call (@F_q4_ok ([10,50,rv3.1]:List Int) rv3.2) fun rv4 cv4 =>
.reg 1 [] [(1,hv (vl ([1,1,1,2,2,2,3,3,3,4,4,5,6,7,8,8,9]:List Int))),(2,hc cv1 [0] false),(4,hc cv2 [0] false),(10,hc cv3 [0] false),(11,hv (vl ([10,50,rv3.1]:List Int))),(12,hc cv4 [0] false)] [.pf (zd (DV.i .i64) ([1,1,1,2,2,2,3,3,3,4,4,5,6,7,8,8,9]:List Int)),.cl 3 cv1 [0] 3 false,.cl 2 cv2 [0] 3 false,.pf (p:=(360:Int)≠0) (by decide),.cl 1 cv3 [0] 3 false,.pf (zd (DV.i .i64) ([10,50,rv3.1]:List Int)),.cl 0 cv4 [0] 3 false] <|
.cut (some 0) [0,2,6,7] (fun (_:TTape×TOp)=>[]) (fun (sv5:TTape×TOp)=>[(0,(bx (TTape.e sv5.1))),(3,(bx (TOp.e sv5.2)))]) (
.cut none [0,2,4,6,7,23] (fun (sv6:Bool)=>[(24,(vb sv6))]) (fun (_:Bool)=>[]) (
.ite (rv1.1==2) (
.ret [] (.next (rv1.1==2))) (
.ret [] (.next (rv1.1==5)))) fun (sv6:Bool) =>
.ite sv6 (
.call (@F_q6_ok 1 (if (a1.Book.Reservations.length:Int)>1 then (a1.Book.Reservations.length:Int) else 1) rv4.2) fun rv7 cv7 =>
.reg 5 [] [(6,hc cv7 [0] false)] [.cl 0 cv7 [0] 4 false] <|
.ret [] (.next (rv7.2,(⟨rv1.1,rv2.1,(IntKind.i64.wrap (a2.tdiv 360)),a2,rv7.1,rv4.1,0,0,0,0⟩:TOp)))) (
.cut none [0,2,4,6,7,23] (fun (sv8:Bool)=>[(35,(vb sv8))]) (fun (_:Bool)=>[]) (
.ite (rv1.1==3) (
.ret [] (.next (rv1.1==3))) (
.ret [] (.next (rv1.1==6)))) fun (sv8:Bool) =>
.ite sv8 (
.call (@F_q6_ok 1 (if (a1.Book.Commitments.length:Int)>1 then (a1.Book.Commitments.length:Int) else 1) rv4.2) fun rv9 cv9 =>
.reg 8 [] [(6,hc cv9 [0] false)] [.cl 0 cv9 [0] 4 false] <|
.ret [] (.next (rv9.2,(⟨rv1.1,rv2.1,(IntKind.i64.wrap (a2.tdiv 360)),a2,rv9.1,rv4.1,0,0,0,0⟩:TOp)))) (
.cut none [0,2,4,6,7,23] (fun (sv10:Bool)=>[(46,(vb sv10))]) (fun (_:Bool)=>[]) (
.ite (rv1.1==4) (
.ret [] (.next (rv1.1==4))) (
.ret [] (.next (rv1.1==9)))) fun (sv10:Bool) =>
.ite sv10 (
.call (@F_q6_ok 1 (if (a1.Book.Verifications.length:Int)>1 then (a1.Book.Verifications.length:Int) else 1) rv4.2) fun rv11 cv11 =>
.reg 11 [] [(6,hc cv11 [0] false)] [.cl 0 cv11 [0] 4 false] <|
.ret [] (.next (rv11.2,(⟨rv1.1,rv2.1,(IntKind.i64.wrap (a2.tdiv 360)),a2,rv11.1,rv4.1,0,0,0,0⟩:TOp)))) (
.ite (rv1.1==8) (
.call (@F_q0_ok 1000 rv4.2) fun rv12 cv12 =>
.call (@F_q4_ok ([100,400,rv12.1]:List Int) rv12.2) fun rv13 cv13 =>
.call (@F_q0_ok 200 rv13.2) fun rv14 cv14 =>
.call (@F_q4_ok ([0,0,rv14.1]:List Int) rv14.2) fun rv15 cv15 =>
.reg 13 [] [(2,hc cv12 [0] false),(3,hv (vl ([100,400,rv12.1]:List Int))),(4,hc cv13 [0] false),(7,hc cv14 [0] false),(8,hv (vl ([0,0,rv14.1]:List Int))),(9,hc cv15 [0] false)] [.cl 3 cv12 [0] 4 false,.pf (zd (DV.i .i64) ([100,400,rv12.1]:List Int)),.cl 2 cv13 [0] 4 false,.cl 1 cv14 [0] 4 false,.pf (zd (DV.i .i64) ([0,0,rv14.1]:List Int)),.cl 0 cv15 [0] 4 false] <|
.ret [] (.next (rv15.2,(⟨rv1.1,rv2.1,(IntKind.i64.wrap (a2.tdiv 360)),a2,0,rv4.1,0,0,rv13.1,rv15.1⟩:TOp)))) (
.ret [] (.next (rv4.2,(⟨rv1.1,rv2.1,(IntKind.i64.wrap (a2.tdiv 360)),a2,0,rv4.1,0,0,0,0⟩:TOp)))))))) fun (sv5:TTape×TOp) =>
.cut none [6,7] (fun (_:TTape×TOp)=>[]) (fun (sv16:TTape×TOp)=>[(0,(bx (TTape.e sv16.1))),(3,(bx (TOp.e sv16.2)))]) (
.ite (sv5.2.Kind==2) (
.call (@F_q6_ok 1 4 sv5.1) fun rv17 cv17 =>
.call (@F_q0_ok 60 rv17.2) fun rv18 cv18 =>
.reg 15 [] [(1,hc cv17 [0] false),(4,hc cv18 [0] false)] [.cl 1 cv17 [0] 4 false,.cl 0 cv18 [0] 4 false] <|
.ret [] (.next (rv18.2,(⟨sv5.2.Kind,sv5.2.Code,sv5.2.Year,sv5.2.Day,sv5.2.Of,sv5.2.Amount,rv17.1,(IntKind.i64.wrap (a2+rv18.1)),sv5.2.Granted,sv5.2.AskedBack⟩:TOp)))) (
.ret [] (.next (sv5.1,sv5.2)))) fun (sv16:TTape×TOp) =>
.ret [] (sv16.2,sv16.1)
def F_q2y (a1:TOf) (a2:Int) (p0:TTape):Option R_q2y:=(S_q2y a1 a2 p0).den
theorem F_q2y_ok {a1:TOf} {a2:Int} {p0:TTape} (r:R_q2y) (h:F_q2y a1 a2 p0=some r):CallOk Tryz.prog 33 [(vp 0),(AV.d (TOf.e a1)),(vi a2)] [(bx (TTape.e p0))] (V_q2y r) (L_q2y r):=fOk (s:=S_q2y a1 a2 p0) Tryz.func33 rfl (by kernel_rfl) h
abbrev R_qj:=TOf×TTape
def V_qj (x:R_qj):AV:=(AV.d (TOf.e x.1))
def L_qj (x:R_qj):List Ob:=[(bx (TTape.e x.2))]
def S_qj_b1 (sv1:TTape×TOf×Int):Scr Tryz.prog R_qj (Step (TTape×TOf×Int) R_qj) :=
.ite (decide (sv1.2.2<2)) (
.call (@F_q0_ok 800 sv1.1) fun rv2 cv2 =>
.call (@F_q4_ok ([300,rv2.1]:List Int) rv2.2) fun rv3 cv3 =>
.call (@F_q2e_ok sv1.2.1 (⟨8,(([[49],[50]]:List (List UInt8)).getD ((sv1.2.2).toNat) default),12,0,0,0,0,0,rv3.1,0⟩:TOp)) fun rv4 cv4 =>
.guard [(0:Int)≤sv1.2.2,(sv1.2.2).toNat<2] <|
.reg 6 [7,9,15] [(1,hv (AV.d (eL DV.str ([[49],[50]]:List (List UInt8))))),(7,hc cv2 [0] false),(8,hv (vl ([300,rv2.1]:List Int))),(9,hc cv3 [0] false),(11,hc cv4 [] true)] [.pf (zd DV.str ([[49],[50]]:List (List UInt8))),.pf (zd DV.str ([[49],[50]]:List (List UInt8))),.pf (zd DV.str ([[49],[50]]:List (List UInt8))),.ev 0,.ev 1,.ev 0,.ev 1,.ev 0,.ev 1,.cl 4 cv2 [0] 3 false,.pf (zd (DV.i .i64) ([300,rv2.1]:List Int)),.cl 3 cv3 [0] 3 false,.cl 2 cv4 [] 3 true] <|
.ret [] (.cont (rv3.2,rv4.1,(IntKind.i64.wrap (sv1.2.2+1))))) (
.ret [] (.brk (sv1.1,sv1.2.1,sv1.2.2)))
def S_qj_b2 (sv5:TTape×TOf×Int×Int):Scr Tryz.prog R_qj (Step (TTape×TOf×Int×Int) R_qj) :=
.ite (decide (sv5.2.2.2>0)) (
.call (@F_q0_ok 25 sv5.1) fun rv6 cv6 =>
.call (@F_q4_ok ([0,1,rv6.1]:List Int) rv6.2) fun rv7 cv7 =>
.reg 10 [] [(3,hc cv6 [0] false),(4,hv (vl ([0,1,rv6.1]:List Int))),(5,hc cv7 [0] false)] [.cl 1 cv6 [0] 3 false,.pf (zd (DV.i .i64) ([0,1,rv6.1]:List Int)),.cl 0 cv7 [0] 3 false] <|
.sh (H:=NoH) (A:=True) (.pf trivial) [(0,(vp 0)),(4,(vp 1)),(5,(vp 2)),(7,(vi (IntKind.i64.wrap (sv5.2.2.1+rv7.1)))),(9,(vi sv5.2.2.2))] [(0,(vp 0)),(4,(vp 1)),(5,(vp 2)),(7,(vi (IntKind.i64.wrap (sv5.2.2.1+rv7.1)))),(9,(vi sv5.2.2.2))] [(bx (TTape.e rv7.2)),(bx (TOf.e (⟨0,[],(⟨[],[],[],[]⟩:TBo)⟩:TOf))),(bx (TOf.e sv5.2.1))] [(bx (TTape.e rv7.2)),(bx (TOf.e (⟨0,[],(⟨[],[],[],[]⟩:TBo)⟩:TOf))),(bx (TOf.e sv5.2.1)),Ob.unb] (fun _=>z5w) (z59 _) <|
.call (@F_q2y_ok sv5.2.1 (IntKind.i64.wrap (sv5.2.2.1+rv7.1)) rv7.2) fun rv8 cv8 =>
.call (@F_q2e_ok sv5.2.1 rv8.1) fun rv9 cv9 =>
.reg 11 [4,9,10] [(4,hc cv8 [0] false),(5,hc cv9 [] true),(9,{ h:=.born 3 false,obs:=[(3,(bx (TOf.e (⟨0,[],(⟨[],[],[],[]⟩:TBo)⟩:TOf))))] })] [.cl 1 cv8 [0] 4 false,.cl 1 cv8 [0] 4 false,.cl 0 cv9 [] 4 true,.cl 0 cv9 [] 4 true,.pf cz1,.pf cz1] <|
.ite (rv9.2==0) (
.ret [] (.cont (rv8.2,rv9.1,(IntKind.i64.wrap (sv5.2.2.1+rv7.1)),(IntKind.i64.wrap (sv5.2.2.2-1))))) (
.ret [] (.cont (rv8.2,sv5.2.1,(IntKind.i64.wrap (sv5.2.2.1+rv7.1)),(IntKind.i64.wrap (sv5.2.2.2-1)))))) (
.ret [] (.brk (sv5.1,sv5.2.1,sv5.2.2.1,sv5.2.2.2)))
def S_qj (a1:Int) (p0:TTape):Scr Tryz.prog R_qj R_qj :=
.reg 0 [] [(0,{ obs:=[(1,(bx (TOf.e (⟨0,[],(⟨[],[],[],[]⟩:TBo)⟩:TOf))))] })] [.pf cz1] <|
.call (@F_q6_ok 1 3 p0) fun rv10 cv10 =>
.call (@F_q3l_ok rv10.1) fun rv11 cv11 =>
.reg 1 [] [(1,hc cv10 [0] false),(2,hc cv11 [] true),(6,{ obs:=[(2,(bx (TOf.e (⟨0,[],(⟨[],[],[],[]⟩:TBo)⟩:TOf))))] })] [.cl 1 cv10 [0] 2 false,.cl 0 cv11 [] 2 true,.pf cz1] <|
.call (@F_q0_ok 50 rv10.2) fun rv12 cv12 =>
.reg 2 [] [(1,hc cv12 [0] false)] [.cl 0 cv12 [0] 3 false] <|
.iter [0,1,4,5,7] (fun (sv1:TTape×TOf×Int)=>[(8,(vi sv1.2.2))]) (fun (sv1:TTape×TOf×Int)=>[(0,(bx (TTape.e sv1.1))),(2,(bx (TOf.e sv1.2.1)))]) (rv12.2,rv11.1,0) S_qj_b1 (fun (sv1:TTape×TOf×Int) =>
.call (@F_q0_ok (IntKind.i64.wrap (a1+1)) sv1.1) fun rv13 cv13 =>
.reg 7 [] [(3,hc cv13 [0] false)] [.cl 0 cv13 [0] 3 false] <|
.iter [0,4,5] (fun (sv5:TTape×TOf×Int×Int)=>[(7,(vi sv5.2.2.1)),(9,(vi sv5.2.2.2))]) (fun (sv5:TTape×TOf×Int×Int)=>[(0,(bx (TTape.e sv5.1))),(2,(bx (TOf.e sv5.2.1)))]) (rv13.2,sv1.2.1,(IntKind.i64.wrap (4320+rv12.1)),rv13.1) S_qj_b2 (fun (sv5:TTape×TOf×Int×Int) =>
.ret [] (sv5.2.1,sv5.1)) id) id
def F_qj (a1:Int) (p0:TTape):Option R_qj:=(S_qj a1 p0).den
theorem F_qj_ok {a1:Int} {p0:TTape} (r:R_qj) (h:F_qj a1 p0=some r):CallOk Tryz.prog 35 [(vp 0),(vi a1)] [(bx (TTape.e p0))] (V_qj r) (L_qj r):=fOk (s:=S_qj a1 p0) Tryz.func35 rfl (by kernel_rfl) h
abbrev R_q1h:=(List Int)×TTape
def V_q1h (x:R_q1h):AV:=(AV.d (eL (DV.i .u64) x.1))
def L_q1h (x:R_q1h):List Ob:=[(bx (TTape.e x.2))]
def S_q1h_b1 (a1:Int) (sv1:TTape×(List Int)×Int):Scr Tryz.prog R_q1h (Step (TTape×(List Int)×Int) R_q1h) :=
.ite (decide (sv1.2.2<(IntKind.i64.wrap (2 * a1)))) (
.call (@F_q0_ok 1000 sv1.1) fun rv2 cv2 =>
.guard [(sv1.2.1.length+1) * (2 * 8)≤2 ^ 48] <|
.reg 5 [] [(2,hc cv2 [0] false),(9,hv (AV.d (eL (DV.i .u64) ([(IntKind.u64.wrap ((IntKind.u64.wrap ((IntKind.u64.wrap rv2.1) * 2654435761))+(IntKind.u64.wrap ((IntKind.u64.wrap sv1.2.2) * 7919))))]:List Int)))),(10,{ h:=.obj,cast:=some (AV.ref 1 ((sv1.2.1++([(IntKind.u64.wrap ((IntKind.u64.wrap ((IntKind.u64.wrap rv2.1) * 2654435761))+(IntKind.u64.wrap ((IntKind.u64.wrap sv1.2.2) * 7919))))]:List Int)).length) 0 ((sv1.2.1++([(IntKind.u64.wrap ((IntKind.u64.wrap ((IntKind.u64.wrap rv2.1) * 2654435761))+(IntKind.u64.wrap ((IntKind.u64.wrap sv1.2.2) * 7919))))]:List Int)).length)),obs:=[(1,(eS 1 (DV.i .u64) (sv1.2.1++([(IntKind.u64.wrap ((IntKind.u64.wrap ((IntKind.u64.wrap rv2.1) * 2654435761))+(IntKind.u64.wrap ((IntKind.u64.wrap sv1.2.2) * 7919))))]:List Int))))] })] [.cl 1 cv2 [0] 2 false,.pf (zd (DV.i .u64) ([(IntKind.u64.wrap ((IntKind.u64.wrap ((IntKind.u64.wrap rv2.1) * 2654435761))+(IntKind.u64.wrap ((IntKind.u64.wrap sv1.2.2) * 7919))))]:List Int)),.pf (Eq.refl sv1.2.1.length),.pf (Eq.refl sv1.2.1.length),.pf (p:=∀ k,k<1→(AV.d ((DV.i .u64) (([(IntKind.u64.wrap ((IntKind.u64.wrap ((IntKind.u64.wrap rv2.1) * 2654435761))+(IntKind.u64.wrap ((IntKind.u64.wrap sv1.2.2) * 7919))))]:List Int).getD k default))).wd=1) (fun _ _=>rfl),.ev 0,.pf (zy (o:=1) (l:=sv1.2.1) (x:=([(IntKind.u64.wrap ((IntKind.u64.wrap ((IntKind.u64.wrap rv2.1) * 2654435761))+(IntKind.u64.wrap ((IntKind.u64.wrap sv1.2.2) * 7919))))]:List Int))),.pf (zx (sz:=1) (e:=(DV.i .u64)) (l:=sv1.2.1) (x:=([(IntKind.u64.wrap ((IntKind.u64.wrap ((IntKind.u64.wrap rv2.1) * 2654435761))+(IntKind.u64.wrap ((IntKind.u64.wrap sv1.2.2) * 7919))))]:List Int)))] <|
.ret [] (.cont (rv2.2,(sv1.2.1++([(IntKind.u64.wrap ((IntKind.u64.wrap ((IntKind.u64.wrap rv2.1) * 2654435761))+(IntKind.u64.wrap ((IntKind.u64.wrap sv1.2.2) * 7919))))]:List Int)),(IntKind.i64.wrap (sv1.2.2+1))))) (
.ret [] (.brk (sv1.1,sv1.2.1,sv1.2.2)))
def S_q1h (a1:Int) (p0:TTape):Scr Tryz.prog R_q1h R_q1h :=
.reg 2 [] [] [] <|
.bor 1 (fun j=>AV.d ((DV.i .u64) (([]:List Int).getD j default))) [5] <|
.iter [0,1] (fun (sv1:TTape×(List Int)×Int)=>[(5,(AV.ref 1 sv1.2.1.length 0 sv1.2.1.length)),(6,(vi sv1.2.2))]) (fun (sv1:TTape×(List Int)×Int)=>[(0,(bx (TTape.e sv1.1))),(1,(eS 1 (DV.i .u64) sv1.2.1))]) (p0,([]:List Int),0) (S_q1h_b1 a1) (fun (sv1:TTape×(List Int)×Int) =>
.guard [sv1.2.1.length<2 ^ 63] <|
.reg 6 [] [] [] <|
.frz 1 (.ev 0) none [4] [] <|
.ret [] (sv1.2.1,sv1.1)) id
def F_q1h (a1:Int) (p0:TTape):Option R_q1h:=(S_q1h a1 p0).den
theorem F_q1h_ok {a1:Int} {p0:TTape} (r:R_q1h) (h:F_q1h a1 p0=some r):CallOk Tryz.prog 36 [(vp 0),(vi a1)] [(bx (TTape.e p0))] (V_q1h r) (L_q1h r):=fOk (s:=S_q1h a1 p0) Tryz.func36 rfl (by kernel_rfl) h
end
end Go.Proofs.YtclaojamgomjbaaGreatDoor
