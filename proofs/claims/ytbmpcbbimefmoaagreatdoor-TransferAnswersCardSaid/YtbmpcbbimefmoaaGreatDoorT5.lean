/- A part of the proof: laws over any program of the abstract machine. No condition. -/
import Derived.Test.YtbmpcbbimefmoaaGreatDoorT3
import Derived.OrdersIn
import Derived.Lib.Overlaps
namespace Go.TA
open Go
def preQ (Q:Exit->Act->World->Prop) (R:Act->World->Prop):Exit->Act->World->Prop
 | .normal,a,w=>R a w
 | .ret,a,w=>Q .ret a w
 | .exit i,a,w=>Q (.exit i) a w
 | .panic c,a,w=>Q (.panic c) a w
 | e,a,w=>Q e a w
variable {P:Program} {w:World} {n:Nat} {a:Act} {o:Oper} {Q:Exit->Act->World->Prop} {F:Fence}
theorem zhh {K K':Act->World->Prop} {R:Act->World->Prop} (h:o.wpIn F n P a w K (preQ Q R)) (hK:∀ a w,K a w->K' a w):o.wpIn F n P a w K' Q:=by
 refine⟨h.1,?_⟩
 have h2:=h.2
 revert h2
 generalize (o.semAt F.round a.eval).run P w=r
 intro h2
 cases r with
 | ok nx w' =>
  cases nx with
  | value v=>exact hK _ _ h2
  | skip=>exact hK _ _ h2
  | defer d=>exact hK _ _ h2
  | enter f args =>
   refine⟨h2.1,h2.2.mono fun e w'' he=>?_⟩
   cases e with
   | returned v=>exact hK _ _ he
   | panicked c=>exact he
   | outgrown=>exact he
  | row row args=>exact⟨h2.1,h2.2.mono fun e w'' he=>hK _ _ he⟩
  | round l f tmps assign body =>
   refine⟨h2.1,h2.2.mono fun e w'' he=>?_⟩
   cases e with
   | returned v=>exact hK _ _ he
   | panicked c=>exact he
   | outgrown=>exact he
  | _=>exact h2
 | halt s w' =>
  cases s with
  | panic v=>exact h2
  | _=>exact h2
theorem z50 {F:Fence} {n:Nat} {P:Program} {ops:Array Oper} {Q:Exit->Act->World->Prop} {l2:List Nat}:∀ (l1:List Nat) (a:Act) (w:World),
  wpOpsIn F n P ops (preQ Q fun a w=>wpOpsIn F n P ops Q l2 a w) l1 a w->wpOpsIn F n P ops Q (l1++l2) a w
 | [],a,w,h=>h
 | i :: r,a,w,h=>by
  simp only[wpOpsIn,y2f] at h |-
  cases ho:ops[i]? with
  | none=>simp only[ho] at h |-; exact z50 r a w h
  | some o =>
   simp only[ho] at h |-
   split at h
   ·rename_i hw
    rw[y7 hw]
    exact zhh h fun a w hk=>z50 r a w hk
   ·rename_i hw
    rw[y6 hw]
    exact⟨h.1,z50 r _ w h.2⟩
variable {L:List Ob} {X:Nat->Prop} {ms:Blocks} {ops:Array Oper} {N:Nat} {hs:List (Nat×HE)} {C:List Prop}
theorem zcx {z:Option Nat} {zn:Nat} {l1 l2:List Nat} {G G1:GFr} {L1:List Ob} (h:runOps P ops N hs l1 G L=some (G1,L1,C)) (hc:AllP C) (hr:Rel X ms L w) (hf:FrIs (cxOf X ms L w) G a.tmps) (hN:a.tmps.size=N) (hQ:∀ a' ms' w',Rel X ms' L1 w'->Ext ms w ms' w'->(cxOf X ms L w).le (cxOf X ms' L1 w')->FrIs (cxOf X ms' L1 w') G1 a'.tmps->a'.tmps.size=N->a'.defers=a.defers->wpOpsIn (fenceOf z) zn P ops Q l2 a' w') :
  wpOpsIn (fenceOf z) zn P ops Q (l1++l2) a w :=
 z50 l1 a w (z2i z zn l1 G L G1 L1 C ms w a h hc hr hf hN fun a' ms' w' q1 q2 q3 q4 q5 q6=>hQ a' ms' w' q1 q2 q3 q4 q5 q6)
theorem zg8 {i:Nat} {r:List Nat} (ho:ops[i]? = some o) (hg:o.guard=none) (h:o.wpIn F n P a w (wpOpsIn F n P ops Q r) Q):wpOpsIn F n P ops Q (i :: r) a w:=by
 simp only[wpOpsIn,ho]
 rw[y7 (by simp[Region.wanted,hg])]
 exact h
variable {te:TypeId}
theorem zn4 {x:Operand} {t:TypeId} {b:Option Addr} {c:Nat} (ho:o.op = .call ⟨.builtin .cap,#[x],#[t]⟩) (hu:P.underlying t=some (.slice te)) (hx:a.eval x = .slice b n c):(execOp a.eval o).run P w = .ok (.value (.int .i64 c)) w:=by
 obtain⟨dst,op,ty,pos,after,guard⟩:=o
 subst ho
 exact zx (s:=Builtin.cap_ #[t] ty (#[x].map a.eval)) (by simp[Builtin.cap_,zl hu w,hx,goInt])
def garb (sz:Nat):AV:=.agg (List.replicate sz .bot)
theorem zbw {c:Cx}:∀ {l:List Value},(∀ v∈l,v.oneCell'=true)->AV.IsL c (List.replicate l.length .bot) l
 | [],_=>.nil
 | v :: l,h=>.cons .bot _ [v] l (.bot v (h v sj)) (zbw fun u hu=>h u (by simp[hu]))
variable {sz:Nat}
theorem Rel.room {o n' b tc:Nat} {f:Nat->AV} (hr:Rel X ms L w) (hL:L[o]? = some (.seq sz n f)) (hm:ms[o]? = some (some (b,tc))) (h1:n<=n') (h2:n'<=tc) :
  Rel X ms (L.set o (.seq sz n' fun j=>if j<n then f j else garb sz)) w/\(cxOf X ms L w).le (cxOf X ms (L.set o (.seq sz n' fun j=>if j<n then f j else garb sz)) w):=by
 obtain⟨arr,e,cs,g1,g2,g3,g4,g5,g6⟩:=hr.seq hL hm
 have hone:=hr.seqOne hL hm g1
 have hcl:∀ j,j<n'->((arr.toList.drop (j * sz)).take sz).length=sz:=fun j hj=>by
  have:(j+1) * sz<=tc * sz:=yo sz om
  rw[y1r] at this
  simp only[yx,y21,y22,g3]
  omega
 obtain⟨q1,_,q3⟩:=hr.setOb (w':=w) (obj':=.seq sz n' fun j=>if j<n then f j else garb sz) hL hm rfl ⟨SameOut.refl w,fun _ _=>rfl⟩ rfl (fun s hs=>⟨n',rfl,by simp[Ob.stamp] at hs; omega⟩) (fun hcx=>by
  refine .inr ⟨b,tc,arr,e,fun j=>if j<n then cs j else (arr.toList.drop (j * sz)).take sz,hm,g1,h2,⟨g3,hone⟩,fun j hj=>?_,fun j hj=>?_,fun j hj q hq=>?_⟩
  ·by_cases hjn:j<n
   ·simp only[y7 hjn]; exact (g4 j hjn).mono hcx
   ·simp only[y6 hjn,garb]
    have:=zbw (c:=cxOf X ms (L.set o (.seq sz n' fun j=>if j<n then f j else garb sz)) w) (l:=(arr.toList.drop (j * sz)).take sz) fun v hv=>hone v (y3e (y17 hv))
    rw[hcl j hj] at this
    exact .agg _ _ this
  ·by_cases hjn:j<n
   ·simp only[y7 hjn]; exact g5 j hjn
   ·simp only[y6 hjn]; exact hcl j hj
  ·by_cases hjn:j<n
   ·simp only[y7 hjn]; exact g6 j hjn q hq
   ·simp only[y6 hjn]
    rw[y1s hq,y3u,y1e])
 exact⟨q1,q3⟩
variable {fn:Func} {f:FuncId}
theorem zfq {tS tR : TypeId} {z1 z2 o1 o2 s1 s2 off1 off2 n1 n2 : Nat} {f1 f2 : Nat -> AV} (hf : P.funcs[f]? = some fn) (hname : (fn.name == "runtime.NumGoroutine") = false) (hb : fn.body.isNone = true) (hn : Extern.findNext fn = none) (he : Extern.find fn = some (Extern.SlicesOverlaps.overlaps #[tS, tS] #[tR])) (ht : P.underlying tS = some (.slice te)) (hz : ∀ w, (Go.sizeOf te).run P w = .ok sz w) (hne : o1 ≠ o2) (hL1 : L[o1]? = some (.seq z1 s1 f1)) (hL2 : L[o2]? = some (.seq z2 s2 f2)) (hn1 : 0 < n1) (ho1 : off1 = 0) (hn2 : 0 < n2) (ho2 : off2 < s2) (hz2 : 0 < z2) : ExtOk P f [.ref o1 s1 off1 n1, .ref o2 s2 off2 n2] L (.d (.b false)) := by
 subst ho1
 intro X ms w us hr hu
 cases hu with
 | cons _ _ u1 _ h1 h2 =>
 cases h2 with
 | cons _ _ u2 _ h2 h3 =>
 cases h3
 have h1':=IsV.is1 rfl sj sj h1
 have h2':=IsV.is1 rfl sj sj h2
 cases h1' with
 | ref _ _ _ _ _ hr1 =>
 cases h2' with
 | ref _ _ _ _ _ hr2 =>
 obtain⟨_,⟨a1,c1,rfl⟩,_,k1⟩:=hr1
 obtain⟨_,⟨a2,c2,rfl⟩,_,k2⟩:=hr2
 obtain⟨_,k1⟩:=k1 z1 f1 hL1
 obtain⟨_,k2⟩:=k2 z2 f2 hL2
 rcases k1 with ⟨_,_,e1⟩ | ⟨e1,_⟩ | ⟨b1,tc1,m1,l1,e1⟩
 ·simp only[y3f] at e1; omega
 ·exact absurd rfl e1
 rcases k2 with ⟨_,_,e2⟩ | ⟨_,e2⟩ | ⟨b2,tc2,m2,l2,e2⟩
 ·simp only[y3f] at e2; omega
 ·omega
 simp only[y3f] at e1 e2
 obtain⟨rfl,_,_⟩:=e1
 obtain⟨rfl,_,_⟩:=e2
 obtain⟨ar1,t1,_,g1,_,g3,_⟩:=hr.seq hL1 m1
 obtain⟨ar2,t2,_,i1,i2,i3,_⟩:=hr.seq hL2 m2
 have hbb:b1≠b2:=fun h=>hne (hr.inj o1 o2 b1 tc1 tc2 m1 (h▸m2))
 have hk2:ar2.size≠0:=by
  rw[i3]
  exact Nat.mul_ne_zero om om
 have hrun:=Lib.run_overlaps_apart (P:=P) w tS tR te ht sz hz ⟨b1,0 * z1,none⟩ ⟨b2,off2 * z2,none⟩ n1 c1 n2 c2 hbb t1 t2 ar1.size ar2.size (by simp[World.shape?,g1]) (by simp[World.shape?,i1]) hk2 (by simp[World.frozen?,g1]) (by simp[World.frozen?,g1])
 refine⟨.bool false,?_,.one _ _ rfl (.d _ _ (.b _))⟩
 simp only[callFunc,y14,run_program,yp,hf,hname,hb,hn,he,run_mark,y2d,yl,y2g,y3h]
 rw[hrun]
 rfl
variable {ρ:Type} {V:ρ->AV} {Lr:ρ->List Ob} {c:Code} {fr:Fr} {s:Scr P ρ ρ} {r:ρ}
theorem pTailG (h:vc none P fn V Lr false 1000 _ [.c c] (funHd P fn V Lr false) [] fr L s=vc none P fn V Lr true 1000 _ [.c c] (funHd P fn V Lr true) [] fr L s) (hr:s.den=some r) :
  AW none P fn.ntmps c (FQ P fn (V r) (Lr r)) fr L:=by
 have ht:vc none P fn V Lr true 1000 _ [.c c] (funHd P fn V Lr true) [] fr L s:=z4n _ _ _ _ _ _ _ _ fun Ev e fr L ws a=>by cases e <;> first | trivial | exact z4l
 rw[<- h] at ht
 exact z1m (z4m _ _ _ _ _ _ _ _ z9w ht trivial r hr) fun _ _ h=>h
variable {L':List Ob}
theorem zn5 {Q:Post} {fr' fr2:Fr} {id:Nat} (h:regionRun P ops N hs fr L=some (fr',L',C)) (hc:AllP C) (hm:∀ q∈fr2,q∈fr') (k:Q .normal fr2 L'):AW none P N (.region id ops false) Q fr L:=by
 intro zn df X ms w a hr hf hN hd
 refine y32 (z6b (z:=none) (Q:=fun e fr1 L1=>e = .normal/\fr1=fr'/\L1=L') h hc ⟨rfl,rfl,rfl⟩ zn df X ms w a hr hf hN hd) ?_
 rintro e a2 w2 ⟨ms2,fr1,L1,⟨rfl,rfl,rfl⟩,r2,e2,c2,f2,n2,d2⟩
 refine⟨ms2,fr2,L1,k,r2,e2,c2,fun q hq=>?_,n2,d2⟩
 obtain⟨y,hy,rfl⟩:=yz.1 hq
 exact f2 _ (yz.2 ⟨y,hm y hy,rfl⟩)
theorem zl6 {args:List AV} {L3:List Ob} {v v3:AV} (hf:P.funcs[f]? = some fn) (hb:fn.body=some c) (hn:args.length<=fn.ntmps) (hl:L.length<=L'.length) (hv:v.lt L'.length=true) (hLb:∀ (o:Nat) (obj:Ob),L'[o]? = some obj->obj.lt L'.length) (hl3:L.length<=L3.length) (hv3:v3.lt L3.length=true) (hLb3:∀ (o:Nat) (obj:Ob),L3[o]? = some obj->obj.lt L3.length) (h:AW none P fn.ntmps c (fun e fr1 L1=>FQ P fn v L' e fr1 L1\/FQ P fn v3 L3 e fr1 L1) (argFr args 0) L) {us:List Value} (hr:Rel X ms L w) (hu:AV.IsVs (cxOf X ms L w) args us) :
  Calls P f us.toArray w fun e w'=>(∃ u ms',e = .returned u/\Rel X ms' L' w'/\Ext ms w ms' w'/\(cxOf X ms L w).le (cxOf X ms' L' w')/\AV.IsV (cxOf X ms' L' w') v u) \/
   (∃ u ms',e = .returned u/\Rel X ms' L3 w'/\Ext ms w ms' w'/\(cxOf X ms L w).le (cxOf X ms' L3 w')/\AV.IsV (cxOf X ms' L3 w') v3 u):=by
 refine calls_of_wp hf hb (wpIn_wide (n:=0).1 ?_)
 have hlen:∀ {as:List AV} {us:List Value},AV.IsVs (cxOf X ms L w) as us->us.length=as.length:=by
  intro as us h
  induction as generalizing us with
  | nil=>cases h; rfl
  | cons x xs ih=>cases h with | cons _ _ _ _ _ ht=>simp[ih ht]
 have hul:=hlen hu
 have hfr:FrIs (cxOf X ms L w) (argFr args 0).up (us.toArray++Array.replicate (fn.ntmps-us.toArray.size) undef) :=
  z7d 0 _ hu (fun k hk=>by
   refine⟨?_,sk⟩
   simp only[y1h,y1g]
   rw[y4m (by simpa using hk)]
   simp[List.getD])
 refine y32 (h 0 [] X ms w _ hr hfr sk rfl) ?_
 rintro e a1 w1 ⟨ms1,fr1,L1,hor,r1,e1,c1,f1,_,d1⟩
 rcases hor with ⟨he,v1,C,J,hres,hC,hle,rfl⟩ | ⟨he,v1,C,J,hres,hC,hle,rfl⟩
 ·obtain⟨u,k1,k2⟩:=z8x r1 f1 hres hC
  have hpost:∃ v',(results fn a1.tmps).run P w1 = .ok v' w1/\((∃ u ms',Ending.returned v' = .returned u/\Rel X ms' L' w1/\Ext ms w ms' w1/\(cxOf X ms L w).le (cxOf X ms' L' w1)/\AV.IsV (cxOf X ms' L' w1) v u) \/
    (∃ u ms',Ending.returned v' = .returned u/\Rel X ms' L3 w1/\Ext ms w ms' w1/\(cxOf X ms L w).le (cxOf X ms' L3 w1)/\AV.IsV (cxOf X ms' L3 w1) v3 u)) :=
   ⟨u,k1,.inl ⟨u,ms1.take L'.length,rfl,r1.forget hLb,e1.forget _,c1.forget hl,(hle _ _ k2).cut z54 hv⟩⟩
  rcases he with rfl | rfl
  ·exact⟨d1,hpost⟩
  ·exact⟨d1,hpost⟩
 ·obtain⟨u,k1,k2⟩:=z8x r1 f1 hres hC
  have hpost:∃ v',(results fn a1.tmps).run P w1 = .ok v' w1/\((∃ u ms',Ending.returned v' = .returned u/\Rel X ms' L' w1/\Ext ms w ms' w1/\(cxOf X ms L w).le (cxOf X ms' L' w1)/\AV.IsV (cxOf X ms' L' w1) v u) \/
    (∃ u ms',Ending.returned v' = .returned u/\Rel X ms' L3 w1/\Ext ms w ms' w1/\(cxOf X ms L w).le (cxOf X ms' L3 w1)/\AV.IsV (cxOf X ms' L3 w1) v3 u)) :=
   ⟨u,k1,.inr ⟨u,ms1.take L3.length,rfl,r1.forget hLb3,e1.forget _,c1.forget hl3,(hle _ _ k2).cut z54 hv3⟩⟩
  rcases he with rfl | rfl
  ·exact⟨d1,hpost⟩
  ·exact⟨d1,hpost⟩
variable {α:Type} {e:α->DV} {l:List α}
theorem zg9 [Inhabited α] {c c':Cx} {o o':Nat} (h:ObIs c w o (eS sz e l)) (hm:c'.ms[o']? = c.ms[o]?) (hM:c.M.le c'.M):ObIs c' w o' (eS sz e l):=by
 rcases h with ⟨h1,h2⟩ | ⟨b,tc,arr,t,cs,h1,h2,h3,h4,h5,h6,h7⟩
 ·exact .inl ⟨hm.trans h1,h2⟩
 ·refine .inr ⟨b,tc,arr,t,cs,hm.trans h1,h2,h3,h4,fun i hi=>?_,h6,h7⟩
  have:=h5 i hi
  cases this with
  | d _ _ h=>exact .d _ _ (h.mono hM)
theorem third [Inhabited α] {l1 l2:List α} {ms':Blocks} {w':World} {u:Value} (_hr0:Rel X ms [eS sz e l,eS sz e l1] w) (hlen:l2.length=l.length+1) (hr:Rel X ms' [eS sz e l,eS sz e l1,eS sz e l2] w') (he:Ext ms w ms' w') (hc:(cxOf X ms [eS sz e l,eS sz e l1] w).le (cxOf X ms' [eS sz e l,eS sz e l1,eS sz e l2] w')) (hu:AV.IsV (cxOf X ms' [eS sz e l,eS sz e l1,eS sz e l2] w') (.ref 2 l2.length 0 l2.length) u) :
  ∃ ms'',Rel X ms'' [eS sz e l2,eS sz e l1] w'/\Ext ms w ms'' w'/\(cxOf X ms [eS sz e l,eS sz e l1] w).le (cxOf X ms'' [eS sz e l2,eS sz e l1] w')/\AV.IsV (cxOf X ms'' [eS sz e l2,eS sz e l1] w') (.ref 0 l2.length 0 l2.length) u:=by
 have hl:=hr.len
 obtain⟨m0,m1,m2,rfl⟩:∃ m0 m1 m2,ms'=[m0,m1,m2]:=by
  match ms',hl with
  | [m0,m1,m2],_=>exact⟨m0,m1,m2,rfl⟩
 have hown:∀ b,owned [m2,m1] b->owned [m0,m1,m2] b:=fun b ⟨o,tc,h⟩=>by
  match o,h with
  | 0,h=>exact⟨2,tc,h⟩
  | 1,h=>exact⟨1,tc,h⟩
 have hM:(memOf X [m0,m1,m2] w').le (memOf X [m2,m1] w'):=fun b arr h=>by
  obtain⟨h1,h2,e',fz,h3⟩:=z26 h
  exact z1j h1 (fun ho=>h2 (hown b ho)) h3
 have hrel:Rel X [m2,m1] [eS sz e l2,eS sz e l1] w':=by
  refine⟨rfl,fun b hb=>hr.lt b (hown b hb),hr.xlt,fun o o' b tc tc' h h'=>?_,fun o obj h=>?_,hr.glob.mono hM⟩
  ·match o,o',h,h' with
   | 0,0,_,_=>rfl
   | 1,1,_,_=>rfl
   | 0,1,h,h'=>have:=hr.inj 2 1 b tc tc' h h'; omega
   | 1,0,h,h'=>have:=hr.inj 1 2 b tc tc' h h'; omega
  ·match o,h with
   | 0,h =>
    obtain rfl:eS sz e l2=obj:=y15 h
    exact zg9 (hr.obs 2 (eS sz e l2) rfl) rfl hM
   | 1,h =>
    obtain rfl:eS sz e l1=obj:=y15 h
    exact zg9 (hr.obs 1 (eS sz e l1) rfl) rfl hM
 refine⟨[m2,m1],hrel,⟨he.1,fun b hb ho=>⟨(he.2 b hb ho).1,fun h=>(he.2 b hb ho).2 (hown b h)⟩,he.3⟩,⟨hc.M.trans hM,yc _,fun o obj' ho h hs=>?_⟩,?_⟩
 ·match o,h with
  | 0,h =>
   obtain rfl:eS sz e l2=obj':=y15 h
   refine⟨eS sz e l,rfl,rfl,fun s hs=>⟨l2.length,rfl,?_⟩,fun h=>?_⟩
   ·simp[eS,Ob.stamp] at hs; omega
   ·simp[eS,Ob.stamp] at h; omega
  | 1,h =>
   obtain rfl:eS sz e l1=obj':=y15 h
   refine⟨eS sz e l1,rfl,rfl,fun s hs=>⟨s,hs,yc _⟩,fun _=>?_⟩
   obtain⟨obj,k1,_,_,k4⟩:=hc.ob 1 (eS sz e l1) (by simp[cxOf]) rfl (by simp[eS,Ob.stamp])
   obtain rfl:eS sz e l1=obj:=y15 k1
   exact k4 rfl
 ·have hu':=IsV.is1 rfl sj sj hu
  cases hu' with
  | ref _ _ _ _ _ h =>
  obtain⟨_,h2,_,h4⟩:=h
  refine .one _ _ rfl (.ref _ _ _ _ _ ⟨by simp[cxOf],h2,fun obj s h hs=>?_,fun sz' f' h=>?_⟩)
  ·obtain rfl:eS sz e l2=obj:=y15 h
   simp[eS,Ob.stamp] at hs; omega
  ·exact h4 sz' f' h
def retHd (P:Program) (fn:Func) (V:ρ->AV) (Lr:ρ->List Ob) (fl:Bool):Hd ρ ρ where
 chk Ev e fr L ws r:=match e with
  | .ret=>funChk P fn V Lr fl Ev fr L ws r
  | _=>bad fl
 inj x:=x
 post r:=fun e fr L=>e = .ret/\FR P fn (V r) (Lr r) fr L
theorem zl7:HdOk (FRel P fn V Lr) (retHd P fn V Lr false) where
 f Ev e fr L ws a h hE:=by
  cases e with
  | ret=>exact z1v ⟨rfl,z5y h hE⟩
  | _=>exact h.elim
 i x fr L h:=⟨rfl,h⟩
 g a l fr L h:=by cases h.1
theorem pTailR (h:vc none P fn V Lr false 1000 _ [.c c] (retHd P fn V Lr false) [] fr L s=vc none P fn V Lr true 1000 _ [.c c] (retHd P fn V Lr true) [] fr L s) (hr:s.den=some r) :
  AW none P fn.ntmps c (fun e fr L=>e = .ret/\FR P fn (V r) (Lr r) fr L) fr L:=by
 have ht:vc none P fn V Lr true 1000 _ [.c c] (retHd P fn V Lr true) [] fr L s:=z4n _ _ _ _ _ _ _ _ fun Ev e fr L ws a=>by cases e <;> first | trivial | exact z4l
 rw[<- h] at ht
 exact z1m (z4m _ _ _ _ _ _ _ _ zl7 ht trivial r hr) fun _ _ h=>h
end Go.TA
