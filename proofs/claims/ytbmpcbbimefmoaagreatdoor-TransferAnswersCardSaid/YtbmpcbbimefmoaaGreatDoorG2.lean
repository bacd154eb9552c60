/- A part of the proof: what the functions compute, and that their calls return it. No condition. -/
import Derived.Test.YtbmpcbbimefmoaaGreatDoorG1
import Derived.Test.YtbmpcbbimefmoaaGreatDoorT4
namespace Go.Proofs.YtbmpcbbimefmoaaGreatDoor
open Go Go.TA Go.RowKit
theorem zob (x:Y8) (s:List Int) (hx:x.length<=1099511627776) (hs:s.length<=1099511627776):(z5z x s).den=some (match pv x with
  | none=>.ret []
  | some n=>.cont (s++[n])):=by
 have hsz:(s.length+1) * (2 * 8)<=2 ^ 48:=om
 have h91:F_q5h x=some (atoiF x):=z6 om
 simp only[z5z,Scr.den,h91,y1t]
 cases ha:Lib.atoiAll x with
 | ok v =>
  have e:atoiF x=(v,false):=by simp[atoiF,ha]
  rw[e]
  simp only[y69]
  rcases zn1 ha with ⟨h1,h2,h3,h4⟩ | ⟨h1,h2⟩
  ·have d1:decide (v<1)=false:=y19 om
   have d2:decide (v>99)=false:=y19 om
   have e92:F_q5d v=some (Lib.decDigits v.toNat):=z6 ⟨om,om⟩
   simp only[d1,d2,y69]
   rw[show optD [True] (F_q5d v) dF=some (Lib.decDigits v.toNat) by unfold optD; rw[y7 ⟨trivial,trivial⟩,e92]]
   simp only[y1t,h4,h1]
   simp[z6,AllP,hsz]
  ·by_cases hb:(cO (decide (v<1)) (decide (v>99)))=true
   ·rw[hb]
    rw[show optD [true=false] (F_q5d v) dF=some dF by unfold optD; rw[y6 (by simp[AllP])]]
    simp[h1]
   ·have hb':(cO (decide (v<1)) (decide (v>99)))=false:=by simpa using hb
    have hv:¬ v<1/\¬ v>99:=by
     cases h:decide (v<1) <;> simp[h] at hb'
     simp at h
     exact⟨om,om⟩
    have e92:F_q5d v=some (Lib.decDigits v.toNat):=z6 ⟨om,om⟩
    rw[hb']
    rw[show optD [false=false] (F_q5d v) dF=some (Lib.decDigits v.toNat) by unfold optD; rw[y7 ⟨rfl,trivial⟩,e92]]
    have hne:Lib.decDigits v.toNat≠x:=by
     rcases h2 with h2 | h2 | h2
     ·exact absurd h2 hv.1
     ·exact absurd h2 hv.2
     ·exact h2
    simp[h1,hne]
 | range =>
  have e:atoiF x=(Lib.atoiSat x,true):=by simp[atoiF,ha]
  have hp:=zjh (w:=x) (fun v=>by rw[ha]; simp)
  rw[e]
  simp only[cond_true]
  rw[show optD [true=false] (F_q5d (Lib.atoiSat x)) dF=some dF by unfold optD; rw[y6 (by simp[AllP])]]
  simp[hp]
 | _ =>
  have e:atoiF x=(0,true):=by simp[atoiF,ha]
  have hp:=zjh (w:=x) (fun v=>by rw[ha]; simp)
  rw[e]
  simp only[cond_true]
  rw[show optD [true=false] (F_q5d 0) dF=some dF by unfold optD; rw[y6 (by simp[AllP])]]
  simp[hp]
noncomputable def F_q5g (l:Y8):Option (List Int):=guardP (l.length<=1099511627776) (some (parts l))
theorem zoc {l:Y8} (hl:l.length<=1099511627776):∃ out,foldR (fun x s=>(z5z x s).den) (pieces l) []=some out/\(∀ s,out = .next s->(za0 s).den=some (parts l))/\∀ y,out = .ret y->y=parts l:=by
 obtain⟨h1,h2⟩:=zax l
 refine⟨_,zay (B:=1099511627776) zob (pieces l) [] (fun x hx=>y2c (h2 x hx) hl) sk,?_⟩
 unfold parts
 cases hn:nums (pieces l) with
 | none=>exact⟨fun s e=>(by cases e),fun y e=>(by cases e; rfl)⟩
 | some ns =>
  refine⟨fun s e=>?_,fun y e=>(by cases e)⟩
  cases e
  simp only[y2e]
  have hlen:ns.length<=(pieces l).length:=by
   have:∀ (ws:List Y8) (ns:List Int),nums ws=some ns->ns.length=ws.length:=by
    intro ws
    induction ws with
    | nil=>intro ns h; simp[nums] at h; subst h; rfl
    | cons x ws ih =>
     intro ns h
     simp only[nums] at h
     split at h
     ·cases h
     ·cases hw:nums ws with
      | none=>simp[hw] at h
      | some ms=>simp[hw] at h; subst h; simp[ih ms hw]
   rw[this _ _ hn]; exact yc _
  simp only[za0,Scr.den]
  by_cases h4:ns.length>4
  ·have:decide ((ns.length:Int)>4)=true:=y11 om
   simp[this,h4]
  ·have:decide ((ns.length:Int)>4)=false:=y19 om
   simp[this,h4,AllP]
   exact z6 om
noncomputable def regOps:Code->Array Oper
 | .region _ ops _=>ops
 | _=>#[]
noncomputable def z3m:Code:=cL (cL z95)
noncomputable def opAt (ops : Array Oper) (i : Nat) : Oper := (ops[i]?).getD { dst := none, op := .move (.tmp 0), type := 0, pos := "", after := #[], guard := none }
theorem zox (l:Y8):AW none Tryz.prog Tryz.f116.ntmps zdt (fun e fr L=>e = .normal/\fr=[(2,vp 0),(0,.d (.str l))]/\L=[.box (.d (eL (.i .i64) ([]:List Int)))]) [(0,.d (.str l))] []:=by
 rw[show zdt = .region 0 (regOps zdt) false from kj]
 exact z6b (hs:=[(0,{ obs:=[(0,.box (.d (eL (.i .i64) ([]:List Int))))] })]) (fr':=[(2,vp 0),(0,.d (.str l))]) (L':=[.box (.d (eL (.i .i64) ([]:List Int)))])
  (C:=[OLe (.box (.d (.sl 0 fun _=>.b false))) (.box (.d (eL (.i .i64) ([]:List Int))))]) kj ⟨z8y DLe.sl0,trivial⟩ ⟨rfl,rfl,rfl⟩
theorem zoy (l:Y8):AW none Tryz.prog Tryz.f116.ntmps zdu (fun e fr L=>e = .normal/\fr=[(3,vp 1),(2,vp 0),(0,.d (.str l))]/\L=[.box (.d (eL (.i .i64) ([]:List Int))),.box (.full 0 fun _=>.b false)])
  [(2,vp 0),(0,.d (.str l))] [.box (.d (eL (.i .i64) ([]:List Int)))]:=by
 rw[show zdu = .region 1 (regOps zdu) false from kj]
 exact z6b (hs:=[(0,{ h:=.obj })]) (fr':=[(3,vp 1),(2,vp 0),(0,.d (.str l))]) (L':=[.box (.d (eL (.i .i64) ([]:List Int))),.box (.full 0 fun _=>.b false)]) (C:=[]) kj trivial ⟨rfl,rfl,rfl⟩
end Go.Proofs.YtbmpcbbimefmoaaGreatDoor
namespace Go.Proofs.YtbmpcbbimefmoaaGreatDoor
open Go Go.TA Go.RowKit
variable {a:Act} {c:Cx} {fr:Fr}
theorem zes {t:Nat} {v:Value} (hf:FrIs c fr.up a.tmps) (ht:∀ x∈fr,x.1≠t):FrIs c fr.up (a.put (some t) v).tmps:=fun x hx=>by
 obtain⟨y,hy,rfl⟩:=yz.1 hx
 obtain⟨k1,k2,k3⟩:=hf _ hx
 have hne:=ht y hy
 have e:(a.put (some t) v).tmps.getD y.1 undef=a.tmps.getD y.1 undef:=by
  simp only[Act.put,y1g]
  rw[y2s (fun e=>hne e.symm)]
 exact⟨by simpa [Act.put] using k1,fun hh=>by simp only; rw[e]; exact k2 (fun z hz=>by cases hz),fun hh=>absurd (fun z hz=>by cases hz) hh⟩
theorem zn2 {fr':Fr} {tmps:Array Value} (hf:FrIs c fr.up tmps) (h:∀ x∈fr',x∈fr):FrIs c fr'.up tmps:=fun x hx=>by
 obtain⟨y,hy,rfl⟩:=yz.1 hx
 exact hf _ (yz.2 ⟨y,h y hy,rfl⟩)
variable {n:Nat} {P:Program} {Q:Exit->Act->World->Prop} {o:Oper} {w:World}
theorem zcw {ops:Array Oper} {i:Nat} {r:List Nat} (h:ops[i]? = some o) (hg:o.guard=none) (hw:o.wpIn Fence.wide n P a w (wpOpsIn Fence.wide n P ops Q r) Q):wpOpsIn Fence.wide n P ops Q (i :: r) a w:=by
 simp only[wpOpsIn,h]
 rw[y7 (by simp[Region.wanted,hg])]
 exact hw
theorem zn3 {K:Act->World->Prop} {f:FuncId} {args:Array Value} (hx:(execOp a.eval o).run P w = .ok (.enter f args) w) (h:CallsIn Fence.wide (n-1) P f args w fun e w'=>∃ v,e = .returned v/\K (a.put o.dst v) w'):o.wpIn Fence.wide n P a w K Q:=by
 refine⟨fun f _=>trivial,?_⟩
 rw[show Fence.wide.round=(fenceOf none).round from rfl,z5v (z:=none) hx sj]
 refine⟨z9f none n,h.mono ?_⟩
 rintro e w' ⟨v,rfl,hk⟩
 exact hk
theorem F_q5g_ok {l:Y8} (r:List Int) (h:F_q5g l=some r):CallOk Tryz.prog 116 [.d (.str l)] [] (vl r) []:=by
 obtain⟨hl,h⟩:=z2x h
 obtain rfl:=y15 h
 obtain⟨out,hout,hout1,hout2⟩:=zoc hl
 intro X ms w us hr hus
 obtain rfl:=zeq hus
 refine y5g.1 (callsIn_of_wp_marks (n:=3) Tryz.func116 zo8 trivial ?_)
 have hN:Tryz.f116.ntmps=39:=kj
 obtain⟨o,ha0⟩:∃ o:Act,o={ tmps:=[Value.string ⟨l.toArray⟩].toArray++Array.replicate (Tryz.f116.ntmps - [Value.string ⟨l.toArray⟩].toArray.size) undef,defers:=[] }:=⟨_,rfl⟩
 rw[<- ha0]
 have hsz0:o.tmps.size=Tryz.f116.ntmps:=by rw[ha0,hN]; simp
 have hd0:o.defers=[]:=by rw[ha0]
 have hf0:FrIs (cxOf X ms [] w) (Fr.up [(0,.d (.str l))]) o.tmps:=by
  have:=z7d (c:=cxOf X ms [] w) 0 o.tmps hus (fun k hk=>by
   have hk0:k=0:=by simpa using hk
   subst hk0
   refine⟨?_,by rw[hsz0,hN]; decide⟩
   rw[ha0]
   simp only[y1h,y1g]
   rw[y4m sj]
   simp)
  exact this
 obtain⟨Qf,hQf⟩:∃ Qf,Qf=bodyPostM Fence.wide 3 Tryz.prog Tryz.f116 fun e w'=>∃ u ms',e = .returned u/\Rel X ms' [] w'/\Ext ms w ms' w'/\(cxOf X ms [] w).le (cxOf X ms' [] w')/\AV.IsV (cxOf X ms' [] w') (vl (parts l)) u:=⟨_,rfl⟩
 rw[<- hQf]
 -- the head
 refine y57 (y32 (zox l 3 [] X ms w o hr hf0 hsz0 hd0) ?_)
 rintro e0 aA wA ⟨msA,frA,LA,⟨rfl,rfl,rfl⟩,rA,eA,cA',fA',nA,dA⟩
 refine y57 (y32 (zoy l 3 [] X msA wA aA rA fA' nA dA) ?_)
 rintro e1 aB wB ⟨msB,frB,LB,⟨rfl,rfl,rfl⟩,rB,eB,cB',fB,nB,dB⟩
 -- the nil slice becomes a row
 obtain⟨ms1,r1,x1,c1,_⟩:=z1z (sz:=1) (f:=fun j=>.d (.i .i64 (([]:List Int).getD j dF)))
  (L:=[.box (.d (eL (.i .i64) ([]:List Int))),.box (.full 0 fun _=>.b false)]) (L':=[.box (.d (eL (.i .i64) ([]:List Int))),.box (.ref 2 0 0 0)])
  (.keep _ _ _ _ dk (.box _ _ _ _ _ dk TrV.born (.nil _))) X msB wB rB
 have hL1:([.box (.d (eL (.i .i64) ([]:List Int))),.box (.ref 2 0 0 0)]++[.seq 1 0 fun j=>.d (.i .i64 (([]:List Int).getD j dF))]:List Ob)=pLI []:=rfl
 rw[hL1] at r1 c1
 have fB1:=fB.mono c1
 have eTot:Ext ms w ms1 wB:=(eA.trans eB).trans x1
 have cTot:(cxOf X ms [] w).le (cxOf X ms1 (pLI []) wB):=(cA'.trans cB').trans c1
 have hstr:aB.tmps.getD 0 undef = .string ⟨l.toArray⟩:=by
  have:=(fB1 (0,[],.d (.str l)) (by simp[Fr.up])).2.1 (fun z hz=>by cases hz)
  exact IsV.str this
 -- the iterator is made
 refine y57 (y57 ?_)
 rw[show cL (cL z95) = .region 2 (regOps z3m) false from kj]
 refine y5v ?_
 rw[show List.range (regOps z3m).size=[0,1] from kj]
 have h0:(regOps z3m)[0]? = some (opAt (regOps z3m) 0):=kj
 have h1:(regOps z3m)[1]? = some (opAt (regOps z3m) 1):=kj
 have g0:(opAt (regOps z3m) 0).guard=none:=kj
 have g1:(opAt (regOps z3m) 1).guard=none:=kj
 have d0:(opAt (regOps z3m) 0).dst=some 7:=kj
 have d1:(opAt (regOps z3m) 1).dst=some 8:=kj
 have x0:∀ (a:Act) (w:World),(execOp a.eval (opAt (regOps z3m) 0)).run Tryz.prog w = .ok (.value (a.tmps.getD 0 undef)) w:=fun a w=>kj
 have x1':∀ (a:Act) (w:World),(execOp a.eval (opAt (regOps z3m) 1)).run Tryz.prog w = .ok (.enter 152 #[a.tmps.getD 7 undef,.string ⟨#[46]⟩]) w:=fun a w=>kj
 have h7:(aB.put (some 7) (.string ⟨l.toArray⟩)).tmps.getD 7 undef = .string ⟨l.toArray⟩:=by
  simp only[Act.put,y1g]
  rw[y2o (by rw[nB,hN]; omega)]
  rfl
 refine zcw h0 g0 (OpOk.value (z:=none) (x0 aB wB) ?_)
 rw[hstr,d0]
 refine zcw h1 g1 (zn3 (x1' _ wB) ?_)
 rw[h7,d1]
 refine (zdn 0 ⟨l.toArray⟩ wB).mono ?_
 rintro e w2 ⟨rfl,hw2⟩
 refine⟨_,rfl,?_⟩
 obtain⟨g,ha2⟩:∃ g:Act,g=(aB.put (some 7) (.string ⟨l.toArray⟩)).put (some 8) (.func (.func 195) #[] #[.pointer (some ⟨wB.heap.size+1,0,none⟩),.pointer (some ⟨wB.heap.size,0,none⟩),.pointer (some ⟨wB.heap.size+2,0,none⟩)]):=⟨_,rfl⟩
 show (Code.block 0 _).wpIn _ _ _ _ ((aB.put (some 7) (.string ⟨l.toArray⟩)).put (some 8) _) w2
 rw[<- ha2]
 have hgrow:Grow wB w2:=by rw[hw2]; exact (Grow.alloc _ _).trans ((Grow.alloc _ _).trans (Grow.alloc _ _))
 have hsz2:w2.heap.size=wB.heap.size+3:=by rw[hw2]; simp
 have f2:FrIs (cxOf X ms1 (pLI []) wB) (Fr.up [(3,vp 1),(2,vp 0),(0,.d (.str l))]) g.tmps:=by
  rw[ha2]
  refine zes (zes fB1 ?_) ?_ <;> (intro x hx; simp only[yv,y2x,y4g] at hx; rcases hx with rfl | rfl | rfl <;> simp)
 have n2:g.tmps.size=Tryz.f116.ntmps:=by rw[ha2]; simpa [Act.put] using nB
 have dd2:g.defers=[]:=by rw[ha2]; exact dB
 have h8:g.eval (.tmp 8) = .func (.func 195) #[] #[.pointer (some ⟨wB.heap.size+1,0,none⟩),.pointer (some ⟨wB.heap.size,0,none⟩),.pointer (some ⟨wB.heap.size+2,0,none⟩)]:=by
  show g.tmps.getD 8 undef=_
  rw[ha2]
  simp only[Act.put,y1g]
  rw[y2o (by rw[Array.size_setIfInBounds,nB,hN]; decide)]
  rfl
 have b0:w2.heap[wB.heap.size]? = some (.cells #[.string ⟨l.toArray⟩] 9 (0,0)):=by
  rw[hw2]
  exact (Below.heap_alloc _ _ _ sk).trans ((Below.heap_alloc _ _ _ sj).trans (World.alloc_heap_new wB _))
 have b1:w2.heap[wB.heap.size+1]? = some (.cells #[.string ⟨#[46]⟩] 9 (0,0)):=by
  rw[hw2]
  have:=World.alloc_heap_new (wB.alloc (.cells #[.string ⟨l.toArray⟩] 9)) (.cells #[.string ⟨#[46]⟩] 9)
  rw[y59] at this
  exact (Below.heap_alloc _ _ _ sj).trans this
 have b2:w2.heap[wB.heap.size+2]? = some (.cells #[.int .i64 0] 3 (0,0)):=by
  rw[hw2]
  have:=World.alloc_heap_new ((wB.alloc (.cells #[.string ⟨l.toArray⟩] 9)).alloc (.cells #[.string ⟨#[46]⟩] 9)) (.cells #[.int .i64 0] 3)
  rw[y59,y59] at this
  exact this
 have hseq:=zer zo7 (n:=1) (w:=w2) (bsep:=wB.heap.size+1) (bs:=wB.heap.size) (bsv:=wB.heap.size+2) (l:=l)
  (by simp[World.cell?,b1]) (by simp[World.cell?,b0,encS]) (by simp[World.frozen?,b0]) (by simp[World.cell?,b2]) om om om
 -- how the function leaves
 have hD:∀ W:World,w2.heap.size<W.heap.size->XY X wB.heap.size 5 W w2.heap.size:=fun W hW=>.inr ⟨om,om,hW⟩
 refine wpIn_block ?_
 have hdef:({ g with defers:={ target:=.collected w2.heap.size,args:=#[] } :: g.defers }:Act).defers=[{ target:=.collected w2.heap.size,args:=#[] }]:=by simp[dd2]
 have leave:∀ (Y:Nat->Prop) (A:Act) (W:World) (ms3:Blocks) (L3:List Ob) (fr3:Fr),(∀ k,X k->Y k)->Y w2.heap.size->Rel Y ms3 L3 W->Ext ms w ms3 W->(cxOf X ms [] w).le (cxOf Y ms3 L3 W) ->
   FrIs (cxOf Y ms3 L3 W) fr3.up A.tmps->FR Tryz.prog Tryz.f116 (vl (parts l)) [] fr3 L3->A.defers=[{ target:=.collected w2.heap.size,args:=#[] }]->W.heap[w2.heap.size]? = some (.deferred (some [])) ->
   Qf .ret A W/\Qf .normal A W:=fun Y A W ms3 L3 fr3 y1 y2 q1 q2 q3 q4 q5 q6 q7=>by
  have:=leaveM (n:=3) q1 y1 y2 (by have:=eTot.size; omega) q2 q3 q4 q5 rfl q6 q7
  rw[hQf]
  exact⟨this,this⟩
 refine zjg (n:=2) (N:=Tryz.f116.ntmps) (m:=5) r1 f2 dd2 hgrow om (T:=fun k=>k=wB.heap.size) (caps:=[wB.heap.size+1,wB.heap.size,wB.heap.size+2]) (fun k hk=>om) (fun k hk=>by simp at hk; omega) hseq h8 (fun args w=>kj) rfl
   (fun x s=>(z5z x s).den) (pieces l) (fun xs h=>h) (fun pre h=>h) [] out hout pLI rfl (fun s=>rfl)
   (fun x=>{ tmps:=((g.tmps.setIfInBounds 9 (encS x)).setIfInBounds 4 (encS x)),defers:=[] }) ?_ (fun x=>[(4,.d (.str x)),(2,vp 0),(3,vp 1)]) ?_ (fun x=>⟨by simpa using n2,rfl⟩) (fun y _ L=>∃ J,L=[.box (.d (eL (.i .i64) y))]++J) ?_ _ ?_ ?_
 ·-- the assignment
  intro lp x W K hK
  rw[show cA z60 = .region 3 (regOps (cA z60)) false from kj]
  refine y5v ?_
  rw[show List.range (regOps (cA z60)).size=[0] from kj]
  have k0:(regOps (cA z60))[0]? = some (opAt (regOps (cA z60)) 0):=kj
  have k1:(opAt (regOps (cA z60)) 0).guard=none:=kj
  have k2:(opAt (regOps (cA z60)) 0).dst=some 4:=kj
  have k3:∀ (a:Act) (w:World),(execOp a.eval (opAt (regOps (cA z60)) 0)).run Tryz.prog w = .ok (.value (a.tmps.getD 9 undef)) w:=fun a w=>kj
  simp only[wpOpsIn,k0]
  rw[y7 (by simp[Region.wanted,k1])]
  refine OpOk.value (z:=some lp) (k3 _ W) ?_
  rw[k2]
  have hz:((#[9]:Array Tmp).zip #[encS x]).foldl (fun t (p,v)=>t.setIfInBounds p v) g.tmps=g.tmps.setIfInBounds 9 (encS x):=kj
  have h9:(g.tmps.setIfInBounds 9 (encS x)).getD 9 undef=encS x:=by
   simp only[y1g]
   rw[y2o (by rw[n2,hN]; omega)]
   rfl
  show K _ W
  simp only[hz,h9,Act.put]
  exact hK
 ·intro c x hf q hq
  obtain⟨y,hy,rfl⟩:=yz.1 hq
  have hs:((g.tmps.setIfInBounds 9 (encS x)).setIfInBounds 4 (encS x)).size=39:=by simp[n2]
  have get:∀ t,t≠4->t≠9->((g.tmps.setIfInBounds 9 (encS x)).setIfInBounds 4 (encS x)).getD t undef=g.tmps.getD t undef:=fun t h4 h9=>by
   simp only[y1g]
   rw[y2s (fun e=>h4 e.symm),y2s (fun e=>h9 e.symm)]
  simp only[yv,y2x,y4g] at hy
  rcases hy with rfl | rfl | rfl
  ·refine⟨by rw[hs]; show 4<39; decide,fun _=>?_,fun hh=>absurd (fun z hz=>by cases hz) hh⟩
   show AV.IsV c _ (((g.tmps.setIfInBounds 9 (encS x)).setIfInBounds 4 (encS x)).getD 4 undef)
   have:((g.tmps.setIfInBounds 9 (encS x)).setIfInBounds 4 (encS x)).getD 4 undef=encS x:=by
    simp only[y1g]
    rw[y2o (by simp[n2])]
    rfl
   rw[this]
   exact z5u x
  ·have:=hf (2,[],vp 0) (by simp[Fr.up])
   refine⟨by rw[hs]; show 2<39; decide,fun hh=>?_,fun hh=>absurd (fun z hz=>by cases hz) hh⟩
   show AV.IsV c _ (((g.tmps.setIfInBounds 9 (encS x)).setIfInBounds 4 (encS x)).getD 2 undef)
   rw[get 2 dk dk]
   exact this.2.1 (fun z hz=>by cases hz)
  ·have:=hf (3,[],vp 1) (by simp[Fr.up])
   refine⟨by rw[hs]; show 3<39; decide,fun hh=>?_,fun hh=>absurd (fun z hz=>by cases hz) hh⟩
   show AV.IsV c _ (((g.tmps.setIfInBounds 9 (encS x)).setIfInBounds 4 (encS x)).getD 3 undef)
   rw[get 3 dk dk]
   exact this.2.1 (fun z hz=>by cases hz)
 ·intro lp x s r hr
  exact zo9 (some lp) x s hr
 ·-- the loop ends
  rintro s W rfl ⟨ms',L',rfl,rr,re,rc⟩ hlt hk
  have f3:=zn2 (fr':=[(2,vp 0),(3,vp 1)]) (f2.mono rc) sj
  refine y32 (zoa s (hout1 s rfl) 3 _ _ ms' W { g with defers:={ target:=.collected w2.heap.size,args:=#[] } :: g.defers } rr f3 n2 rfl) ?_
  rintro e A W3 ⟨ms3,fr3,L3,⟨he,hfr⟩,r3,e3,c3,f4,n3,d3⟩
  have hsame:∀ k,XY X wB.heap.size 5 W k->W3.heap[k]? = W.heap[k]? := fun k hk=>(e3.keep k (rr.xlt k hk) (fun ho=>(rr.lt k ho).2 hk)).1
  have hq:=leave (XY X wB.heap.size 5 W) A W3 ms3 L3 fr3 (fun k hk=>.inl hk) (hD W hlt) r3 ((eTot.trans re).trans e3) ((cTot.trans rc).trans c3) f4 hfr (by rw[d3,dd2]) ((hsame _ (hD W hlt)).trans hk)
  rcases he with rfl | rfl
  ·exact hq.2
  ·exact hq.1
 ·-- a round returns
  rintro y W hy ⟨ms',L',⟨J,rfl⟩,rr,re,rc⟩ hlt hk
  have hp:=hout2 y hy
  subst hp
  exact (leave (XY X wB.heap.size 5 W) { g with defers:={ target:=.collected w2.heap.size,args:=#[] } :: g.defers } W ms' _ [(3,vp 1),(2,vp 0),(0,.d (.str l))] (fun k hk=>.inl hk) (hD W hlt) rr (eTot.trans re) (cTot.trans rc) (f2.mono rc) ⟨vl (parts l),[],[.box (.d (eL (.i .i64) (parts l)))]++J,kj,trivial,LeV.refl _,rfl⟩ (by rw[dd2]) hk).1
end Go.Proofs.YtbmpcbbimefmoaaGreatDoor
