/- A part of the proof: laws over any program of the abstract machine. No condition. -/
import Derived.Test.YtiohhffifhaboaaGreatDoorT1
import Derived.Scope
namespace Go.TA
open Go
def elemsOf (L:List Ob):AV->Option (Nat×(Nat->AV)×List Prop)
 | .d (.sl n f)=>some (n,fun i=>.d (f i),[])
 | .full n f=>some (n,fun i=>.d (f i),[])
 | .ref o st 0 n=>match L[o]? with
  | some (.seq _ m f)=>some (n,f,[m=st])
  | _=>none
 | .ref o st off n=>match L[o]? with
  | some (.seq _ m f)=>some (n,fun i=>f (off+i),[m=st])
  | _=>none
 | _=>none
variable {n sz j:Nat} {ks:Nat->List Value}
theorem zlz (hl:∀ i,i<n->(ks i).length=sz) {v:Value} (h:((List.range n).flatMap ks)[j]? = some v) :
  0<sz/\j / sz<n/\(ks (j / sz))[j % sz]? = some v:=by
 have hlen:=zd n sz ks hl
 have hj:j<n * sz:=by
  rcases yp j (n * sz) with h' | h'
  ·exact h'
  ·rw[yi om] at h; cases h
 have hsz:0<sz:=by
  rcases y3v sz with h0 | h0
  ·subst h0; simp at hj
  ·exact h0
 have hq:j / sz<n:=y3a (by rw[y23]; exact hj)
 refine⟨hsz,hq,?_⟩
 have e:=zh? n sz ks hl (j / sz) (j % sz) hq (y37 _ hsz)
 have:j / sz * sz+j % sz=j:=by rw[y23]; exact y4a j sz
 rw[this] at e
 rw[<- e]; exact h
variable {P:Program} {w:World} {cap b off:Nat}
theorem z3c {w1:World} (hw1:w1.heap=w.heap) {arr:Array Value} {e:TypeId} {fz:Nat×Nat} (hb:w.heap[b]? = some (.cells arr e fz)) (hl:∀ i,i<n->(ks i).length=sz) (hc:∀ i,i<n->∀ j,j<sz->arr[off+i * sz+j]? = (ks i)[j]?) (len':Nat) :
  (Builtin.firstCells sz n (.slice (some ⟨b,off,none⟩) len' cap)).run P w1 = .ok ((List.range n).flatMap ks).toArray w1:=by
 have hlen:=zd n sz ks hl
 rw[<- hw1] at hb
 have:=y55 (P:=P) w1 ⟨b,off,none⟩ ((List.range n).flatMap ks) (fun j v hv=>by
  obtain⟨hsz,hq,hr⟩:=zlz hl hv
  rw[z2d,z5c hb,<- hr,<- hc (j / sz) hq (j % sz) (y37 _ hsz),y36]
  congr 2
  rw[y23]; exact (y4a j sz).symm)
 rw[hlen] at this
 exact this
variable {L:List Ob} {C:List Prop} {X:Nat->Prop} {ms:Blocks} {u:Value}
theorem z3d (hr:Rel X ms L w) {x:AV} {f:Nat->AV} (h:elemsOf L x=some (n,f,C)) (hc:AllP C) (hu:AV.IsV (cxOf X ms L w) x u) (hw:∀ i,i<n->(f i).wd=sz) :
  ∃ a cap ks,u = .slice a n cap/\(∀ i,i<n->AV.Is (cxOf X ms L w) (f i) (ks i))/\(∀ i,i<n->(ks i).length=sz) /\
   ∀ w1:World,w1.heap=w.heap->(Builtin.firstCells sz n u).run P w1 = .ok ((List.range n).flatMap ks).toArray w1:=by
 have hsl:∀ (g:Nat->DV),f=(fun i=>AV.d (g i))->DV.Is (cxOf X ms L w).M (.sl n g) [u] ->
   ∃ a cap ks,u = .slice a n cap/\(∀ i,i<n->AV.Is (cxOf X ms L w) (f i) (ks i))/\(∀ i,i<n->(ks i).length=sz) /\
    ∀ w1:World,w1.heap=w.heap->(Builtin.firstCells sz n u).run P w1 = .ok ((List.range n).flatMap ks).toArray w1:=fun g hg hd=>by
  subst hg
  cases hd with
  | slNil=>exact⟨_,_,fun _=>[],rfl,fun i hi=>om,fun i hi=>om,fun w1 _=>by simp[Builtin.firstCells]⟩
  | slEmpty _ a cap =>
   refine⟨_,_,fun _=>[],rfl,fun i hi=>om,fun i hi=>om,fun w1 _=>?_⟩
   simp[Builtin.firstCells,loadCells,loadCellsFrom]
  | sl _ _ b off cap sz' arr cs h1 h2 hb hh hl hcs =>
   obtain⟨_,_,e,fz,hheap⟩:=z1o hb
   have hs:∀ i,i<n->(cs i).length=sz:=fun i hi=>by rw[(hh i hi).len]; exact hw i hi
   by_cases h0:n=0
   ·subst h0
    exact⟨_,_,cs,rfl,fun i hi=>om,fun i hi=>om,fun w1 _=>by simp[Builtin.firstCells,loadCells,loadCellsFrom]⟩
   ·have hsz:sz'=sz:=by rw[<- hl 0 om,hs 0 om]
    subst hsz
    exact⟨_,_,cs,rfl,fun i hi=>.d _ _ (hh i hi),hs,fun w1 hw1=>z3c hw1 hheap hs hcs n⟩
 have href:∀ (o st off:Nat) (g:Nat->AV) (sz' m:Nat),x = .ref o st off n->L[o]? = some (.seq sz' m g)->m=st->(∀ i,f i=g (off+i)) ->
   ∃ a cap ks,u = .slice a n cap/\(∀ i,i<n->AV.Is (cxOf X ms L w) (f i) (ks i))/\(∀ i,i<n->(ks i).length=sz) /\
    ∀ w1:World,w1.heap=w.heap->(Builtin.firstCells sz n u).run P w1 = .ok ((List.range n).flatMap ks).toArray w1:=fun o st off g sz' m hx hL hm hf=>by
  subst hx; subst hm
  have hu':=IsV.is1 rfl sj sj hu
  cases hu' with
  | ref _ _ _ _ _ hr' =>
  obtain⟨r1,⟨ra,rcap,rfl⟩,r3,r4⟩:=hr'
  obtain⟨r5,r6⟩:=r4 sz' g hL
  rcases r6 with ⟨r7,ra',r6⟩ | ⟨_,r6⟩ | ⟨b,tc,r6,r7,r8⟩
  ·cases r6
   refine⟨_,_,fun _=>[],rfl,fun i hi=>om,fun i hi=>om,fun w1 _=>?_⟩
   cases ra <;> simp[Builtin.firstCells,loadCells,loadCellsFrom]
  ·subst r6
   refine⟨_,_,fun _=>[],rfl,fun i hi=>om,fun i hi=>om,fun w1 _=>?_⟩
   cases ra <;> simp[Builtin.firstCells,loadCells,loadCellsFrom]
  ·cases r8
   obtain⟨arr,e,cs,h1,h2,h3,h4,h5,h6⟩:=hr.seq hL r6
   have hs:∀ i,i<n->(cs (off+i)).length=sz:=fun i hi=>by rw[(h4 (off+i) om).len,<- hf i]; exact hw i hi
   by_cases h0:n=0
   ·subst h0
    refine⟨_,_,fun i=>cs (off+i),rfl,fun i hi=>om,fun i hi=>om,fun w1 _=>?_⟩
    simp[Builtin.firstCells,loadCells,loadCellsFrom]
   ·have hsz:sz'=sz:=by rw[<- h5 (off+0) om,hs 0 om]
    subst hsz
    refine⟨_,_,fun i=>cs (off+i),rfl,fun i hi=>by rw[hf i]; exact h4 _ om,hs,fun w1 hw1=>z3c hw1 h1 hs (fun i hi j hj=>?_) n⟩
    have:=h6 (off+i) om j hj
    rw[<- this]; congr 1; rw[y1s]
 unfold elemsOf at h
 split at h
 ·cases h
  have hu':=IsV.is1 rfl sj sj hu
  cases hu' with
  | d _ _ hd=>exact hsl _ rfl hd
 ·cases h
  have hu':=IsV.is1 rfl sj sj hu
  cases hu' with
  | full _ _ _ hd=>exact hsl _ rfl hd
 ·split at h
  ·rename_i hL
   cases h
   exact href _ _ 0 _ _ _ rfl hL hc.1 (fun i=>sj)
  ·cases h
 ·split at h
  ·rename_i hL
   cases h
   exact href _ _ _ _ _ _ rfl hL hc.1 (fun i=>rfl)
  ·cases h
 ·cases h
theorem zch (need:Nat):∀ (r c:Nat),c<=need->256<=c->Builtin.growBy need r c<=2 * need
 | 0,c,h,_=>by simp[Builtin.growBy]; omega
 | r+1,c,h,h'=>by
  simp only[Builtin.growBy]
  split
  ·omega
  ·by_cases h2:c+(c+768) / 4<=need
   ·exact zch need r _ h2 om
   ·cases r with
    | zero=>simp[Builtin.growBy]; omega
    | succ r=>simp only[Builtin.growBy]; rw[y9 om]; omega
theorem z64 {need old:Nat} (h:old<need):Builtin.nextslicecap need old<=2 * need:=by
 unfold Builtin.nextslicecap
 split
 ·omega
 ·split
  ·omega
  ·exact zch need 4 old om om
variable {elem ty:TypeId} {m:Nat}
theorem z6z {st:TypeId} {i:TypeInfo} {z:Value} {a:Option Addr} {x:Value} {new old:List Value} (hst:P.underlying st=some (.slice elem)) (hi:P.info? elem=some i) (hz:i.zero=some z) (hx:∃ b c,x = .slice b m c) (hnew:∀ w1:World,w1.heap=w.heap->(Builtin.firstCells i.size m x).run P w1 = .ok new.toArray w1) (hold:∀ w1:World,w1.heap=w.heap->(Builtin.firstCells i.size n (.slice a n cap)).run P w1 = .ok old.toArray w1) (hlen:(n+m) * (2 * i.bytes)<=2 ^ 48) (hcap:¬ n+m<=cap) (hb:0<i.bytes) :
  ∃ nc w',n+m<=nc/\(Builtin.append_ #[st,st] ty #[.slice a n cap,x]).run P w = .ok (.slice (some ⟨w.heap.size,0,none⟩) (n+m) nc) w'/\Grow w w' /\
   w'.heap[w.heap.size]? = some (.cells (old.toArray++new.toArray++Builtin.zeroCells z.cells (nc-(n+m))) elem (0,0))/\w.heap.size<w'.heap.size:=by
 obtain⟨b,c,rfl⟩:=hx
 have hsz:szOf P elem=some i.size:=by simp[szOf,hi]
 have hnc:=z64 (need:=n+m) (old:=cap) om
 have hbig:¬ Builtin.nextslicecap (n+m) cap * i.bytes>2 ^ 48:=by
  have:=ym i.bytes hnc
  have e:2 * (n+m) * i.bytes=(n+m) * (2 * i.bytes):=by rw[y23 2 (n+m),Nat.mul_assoc]
  omega
 have hti:∀ w:World,(typeInfo elem).run P w = .ok i w:=fun w=>by simp[typeInfo,hi]
 have hzero:∀ w:World,(zeroValue elem).run P w = .ok z w:=fun w=>by simp[zeroValue,hti,hz]
 refine⟨n+m+w.tape w.drawn (.appendCap (n+m) cap elem) % (2 ^ 63-(n+m)),(w.drew).alloc (.cells (old.toArray++new.toArray++Builtin.zeroCells z.cells (w.tape w.drawn (.appendCap (n+m) cap elem) % (2 ^ 63-(n+m)))) elem),om,?_,(Grow.drew w).trans (Grow.alloc _ _),?_,sj⟩
 ·have hold':=hold w.drew rfl
  have hnew':=hnew w.drew rfl
  have hb0:¬ i.bytes=0:=om
  simp[Builtin.append_,zl hst,z18 hsz,Builtin.lenOf,hcap,hti,hb0,hbig,Question.forced,Question.cut,hold',hnew',hzero,newRow]
  congr 2
  apply Array.ext'
  simp
 ·have:=z2e w.drew (.cells (old.toArray++new.toArray++Builtin.zeroCells z.cells (w.tape w.drawn (.appendCap (n+m) cap elem) % (2 ^ 63-(n+m)))) elem)
  rw[show w.drew.heap.size=w.heap.size from rfl] at this
  rw[this]
  congr 4
  omega
def elemInfo (P:Program) (t:TypeId):Option (TypeId×TypeInfo):=match P.underlying t with
 | some (.slice elem)=>(P.info? elem).map fun i=>(elem,i)
 | _=>none
variable {t:TypeId}
theorem z1v {i:TypeInfo} (h:elemInfo P t=some (elem,i)):P.underlying t=some (.slice elem)/\P.info? elem=some i:=by
 unfold elemInfo at h
 split at h
 ·rename_i e hu
  cases hi:P.info? e with
  | none=>simp[hi] at h
  | some j=>simp[hi] at h; obtain⟨rfl,rfl⟩:=h; exact⟨hu,hi⟩
 ·cases h
variable {α:Type}
def catF (n:Nat) (f g:Nat->α):Nat->α:=match n with
 | 0=>g
 | n+1=>fun i=>if i<n+1 then f i else g (i-(n+1))
variable {i:Nat} {g:Nat->α}
theorem z25 {f:Nat->α} (h:i<n):catF n f g i=f i:=by
 cases n with
 | zero=>omega
 | succ n=>simp[catF,h]
theorem z2c {f:Nat->α} (h:n<=i):catF n f g i=g (i-n):=by
 cases n with
 | zero=>rfl
 | succ n=>simp only[catF]; rw[y8 om]
def dataF (f:Nat->AV):Nat->DV:=fun i=>match f i with
 | .d x=>x
 | _=>.b false
theorem z34 {st:TypeId} {i:TypeInfo} {a:Option Addr} {x:Value} (hst:P.underlying st=some (.slice elem)) (hi:P.info? elem=some i) (hx:∃ b c,x = .slice b 0 c) (hcap:n<=cap) (hnew:∀ w1:World,w1.heap=w.heap->(Builtin.firstCells i.size 0 x).run P w1 = .ok #[] w1) :
  (Builtin.append_ #[st,st] ty #[.slice a n cap,x]).run P w = .ok (.slice a n cap) w:=by
 obtain⟨b,c,rfl⟩:=hx
 have hsz:szOf P elem=some i.size:=by simp[szOf,hi]
 have:=hnew w rfl
 cases a <;> simp[Builtin.append_,zl hst,z18 hsz,Builtin.lenOf,hcap,this,storeCells]
def eAppImm (P:Program) (L:List Ob) (t:TypeId) (n:Nat) (f:Nat->DV) (x:AV):Option (AV×List Prop) :=
 match elemInfo P t,elemsOf L x with
 | some (_,i),some (m,g,C) =>
  if 0<i.bytes/\i.zero.isSome then some (.d (.sl (n+m) (catF n f (dataF g))),C++[∀ k,k<m->g k = .d (dataF g k)/\(dataF g k).wd=i.size,∀ k,k<n->(f k).wd=i.size,(n+m) * (2 * i.bytes)<=2 ^ 48]) else none
 | _,_=>none
variable {G:GFr} {ch:Chain} {o:Oper} {av xv:AV} {x s:Operand}
theorem zju {f:Nat->DV} (ho:o.op = .call ⟨.builtin .append,#[s,x],#[t,t]⟩) (hs:opnd G ch s=some (.full n f)) (hx:opnd G ch x=some xv) (h:eAppImm P L t n f xv=some (av,C)) (hc:AllP C):OpOk P G ch L o av L:=by
 intro z zn X ms w a K Q hr hf hh hK
 unfold eAppImm at h
 split at h
 ·rename_i elem i m g C' he hm
  split at h
  ·rename_i hz
   cases h
   obtain⟨hz0,hz1⟩:=hz
   obtain⟨z,hz⟩:=y2z.1 hz1
   obtain⟨hc1,hc2,hc3,hc4,_⟩:=ze.1 hc
   obtain⟨hu,hi⟩:=z1v he
   have hsv:=zg hs hf hh
   have hxv:=zg hx hf hh
   obtain⟨xa,xc,ks,e1,e2,e3,e4⟩:=z3d (P:=P) hr (sz:=i.size) hm hc1 hxv (fun k hk=>by rw[(hc2 k hk).1]; exact (hc2 k hk).2)
   have hsr:=IsV.is1 rfl sj sj hsv
   obtain⟨sa,hse⟩:∃ sa,a.eval s = .slice sa n n/\DV.Is (cxOf X ms L w).M (.sl n f) [.slice sa n n]:=by
    generalize a.eval s=u at hsr
    cases hsr with
    | full _ _ sa hd=>exact⟨sa,rfl,hd⟩
   obtain⟨hse,hsd⟩:=hse
   obtain⟨_,_,js,d1,d2,d3,d4⟩:=z3d (P:=P) hr (sz:=i.size) (x:=.full n f) (u:=.slice sa n n) (C:=[]) rfl trivial (.one _ _ rfl (.full _ _ _ hsd)) (fun k hk=>hc3 k hk)
   have hexec:∀ v w',(Builtin.append_ #[t,t] o.type #[.slice sa n n,a.eval x]).run P w = .ok v w'->(execOp a.eval o).run P w = .ok (.value v) w':=fun v w' hv=>by
    obtain⟨dst,op,ty,pos,after,guard⟩:=o
    subst ho
    exact zy (s:=Builtin.append_ #[t,t] ty (#[s,x].map a.eval)) (by simpa [hse] using hv)
   by_cases hm0:m=0
   ·subst hm0
    have hrun:=z34 (P:=P) (w:=w) (ty:=o.type) (a:=sa) (n:=n) (cap:=n) (x:=a.eval x) hu hi ⟨_,_,e1⟩ (yf _) (fun w1 hw1=>by simpa using e4 w1 hw1)
    refine OpOk.value (hexec _ _ hrun) (hK _ ms w hr (Ext.refl _ _) (Cx.le.refl _) (.one _ _ rfl (.d _ _ ?_)))
    have:DV.Is (cxOf X ms L w).M (.sl n (catF n f (dataF g))) [.slice sa n n]:=by
     cases hsd with
     | slNil=>exact .slNil _
     | slEmpty=>exact .slEmpty _ _ _
     | sl _ _ b off cap sz arr cs h1 h2 hb hh' hl hcs =>
      exact .sl n _ b off _ sz arr cs h1 h2 hb (fun k hk=>by rw[z25 hk]; exact hh' k hk) hl hcs
    simpa using this
   ·obtain⟨nc,w',r1,r2,r3,r4,r5⟩:=z6z (P:=P) (w:=w) (ty:=o.type) (a:=sa) (n:=n) (cap:=n) (m:=m) (x:=a.eval x) hu hi hz ⟨_,_,e1⟩ e4 d4 hc4 om hz0
    obtain⟨k1,k2⟩:=hr.grow r3
    refine OpOk.value (hexec _ _ r2) (hK _ ms w' k1 (r3.ext ms) k2 (.one _ _ rfl (.d _ _ ?_)))
    have hM:(cxOf X ms L w').M w.heap.size=some (((List.range n).flatMap js).toArray++((List.range m).flatMap ks).toArray++Builtin.zeroCells z.cells (nc-(n+m))) :=
     z19 (fun hx=>by have:=hr.xlt _ hx; omega) (fun ho=>by have:=(hr.lt _ ho).1; omega) r4
    have hjl:=zd n i.size js d3
    have hkl:=zd m i.size ks e3
    have hbytes:(n+m)<2 ^ 63:=by
     have:n+m<=(n+m) * (2 * i.bytes):=Nat.le_mul_of_pos_right _ om
     omega
    refine .sl _ _ w.heap.size 0 nc i.size _ (catF n js ks) r1 hbytes hM (fun k hk=>?_) (fun k hk=>?_) (fun k hk j hj=>?_)
    ·by_cases hkn:k<n
     ·rw[z25 hkn,z25 hkn]
      have:=(d2 k hkn).mono k2
      cases this with
      | d _ _ h=>exact h
     ·rw[z2c om,z2c om]
      have:=(e2 (k-n) om).mono k2
      rw[(hc2 (k-n) om).1] at this
      cases this with
      | d _ _ h=>exact h
    ·by_cases hkn:k<n
     ·rw[z25 hkn]; exact d3 k hkn
     ·rw[z2c om]; exact e3 _ om
    ·rw[y14,<- y16]
     simp only[y35,y1u]
     by_cases hkn:k<n
     ·rw[z25 hkn,yk (by
       rw[hjl]
       have:(k+1) * i.size<=n * i.size:=ym _ hkn
       rw[y1d] at this; omega)]
      exact zh? n i.size js d3 k j hkn hj
     ·have hk':k-n<m:=om
      have hkm:(k-n) * i.size+n * i.size=k * i.size:=by rw[<- y1s]; congr 1; omega
      rw[z2c om,y1c (by rw[hjl]; omega),hjl,yk (by
       rw[hkl]
       have:(k-n+1) * i.size<=m * i.size:=ym _ hk'
       rw[y1d] at this; omega)]
      have:=zh? m i.size ks e3 (k-n) j hk' hj
      rw[<- this]; congr 1; omega
  ·cases h
 ·cases h
theorem zjv {js:Nat->List Value} (hj:∀ k,k<n->(js k).length=sz) (hk:∀ k,k<m->(ks k).length=sz) {rest:List Value} (k:Nat) (hkk:k<n+m) (j:Nat) (hjj:j<sz) :
  ((List.range n).flatMap js++((List.range m).flatMap ks++rest))[k * sz+j]? = (catF n js ks k)[j]? := by
 have hjl:=zd n sz js hj
 have hkl:=zd m sz ks hk
 by_cases hkn:k<n
 ·rw[z25 hkn,yk (by
   rw[hjl]
   have:(k+1) * sz<=n * sz:=ym _ hkn
   rw[y1d] at this; omega)]
  exact zh? n sz js hj k j hkn hjj
 ·have hk':k-n<m:=om
  have hkm:(k-n) * sz+n * sz=k * sz:=by rw[<- y1s]; congr 1; omega
  rw[z2c om,y1c (by rw[hjl]; omega),hjl,yk (by
   rw[hkl]
   have:(k-n+1) * sz<=m * sz:=ym _ hk'
   rw[y1d] at this; omega)]
  have:=zh? m sz ks hk (k-n) j hk' hjj
  rw[<- this]; congr 1; omega
def eAppRef (P:Program) (L:List Ob) (t:TypeId) (o st n:Nat) (x:AV):Option (AV×List Ob×List Prop) :=
 match elemInfo P t,elemsOf L x,L[o]? with
 | some (_,i),some (m,g,C),some (.seq sz m' f) =>
  if 0<i.bytes/\i.zero.isSome/\i.size=sz/\((i.zero.map fun z=>z.cells.size)=some sz)/\((i.zero.map fun z=>z.cells.toList.all fun v=>v.oneCell')=some true) then
   some (.ref o (n+m) 0 (n+m),L.set o (.seq sz (n+m) (catF n f g)),C++[m'=st,n=st,∀ k,k<m->(g k).wd=sz,(n+m) * (2 * i.bytes)<=2 ^ 48]) else none
 | _,_,_=>none
variable {L':List Ob} {st r:Nat}
theorem zjw (ho:o.op = .call ⟨.builtin .append,#[s,x],#[t,t]⟩) (hs:opnd G ch s=some (.ref r st 0 n)) (hx:opnd G ch x=some xv) (h:eAppRef P L t r st n xv=some (av,L',C)) (hc:AllP C):OpOk P G ch L o av L':=by
 intro zz zn X ms w a K Q hr hf hh hK
 unfold eAppRef at h
 split at h
 ·rename_i elem i m g C' sz m' f he hm hL
  split at h
  ·rename_i hz
   cases h
   obtain⟨hz0,hz1,rfl,hz3,hz4⟩:=hz
   obtain⟨z,hz⟩:=y2z.1 hz1
   have hzs:z.cells.size=i.size:=by simpa [hz] using hz3
   have hzone:∀ v∈z.cells.toList,v.oneCell'=true:=by rw[hz] at hz4; exact y1i.1 (yn hz4)
   obtain⟨hc1,hms,hns,hc2,hc4,_⟩:=ze.1 hc
   subst hms
   subst hns
   obtain⟨hu,hi⟩:=z1v he
   have hsv:=zg hs hf hh
   have hxv:=zg hx hf hh
   obtain⟨xa,xc,ks,e1,e2,e3,e4⟩:=z3d (P:=P) hr (sz:=i.size) hm hc1 hxv hc2
   have hro:r<L.length:=by
    rcases yp r L.length with h' | h'
    ·exact h'
    ·rw[yi h'] at hL; cases hL
   have hsr:=IsV.is1 rfl sj sj hsv
   have hexec:∀ u v w',a.eval s=u->(Builtin.append_ #[t,t] o.type #[u,a.eval x]).run P w = .ok v w'->(execOp a.eval o).run P w = .ok (.value v) w':=fun u v w' hse hv=>by
    obtain⟨dst,op,ty,pos,after,guard⟩:=o
    subst ho
    exact zy (s:=Builtin.append_ #[t,t] ty (#[s,x].map a.eval)) (by simpa [hse] using hv)
   generalize hse:a.eval s=u at hsr
   cases hsr with
   | ref _ _ _ _ _ hrr =>
   obtain⟨r1,⟨ra,rcap,rfl⟩,r3,r4⟩:=hrr
   obtain⟨r5,r6⟩:=r4 i.size f hL
   -- the value that is left,if the object lies in a block
   have mkRef:∀ (msn:Blocks) (wn:World) (b tc:Nat),msn[r]? = some (some (b,tc))->n+m<=tc ->
     AV.IsV (cxOf X msn (L.set r (.seq i.size (n+m) (catF n f g))) wn) (.ref r (n+m) 0 (n+m)) (.slice (some ⟨b,0,none⟩) (n+m) tc):=fun msn wn b tc h1 h2=>by
    refine .one _ _ rfl (.ref _ _ _ _ _ ⟨by simpa [cxOf] using hro,⟨_,_,rfl⟩,fun obj s' ho' hs'=>?_,fun sz' f' hL'=>⟨om,.inr (.inr ⟨b,tc,h1,h2,sj⟩)⟩⟩)
    simp only[cxOf] at ho'
    rw[yx hro] at ho'
    cases ho'
    simp[Ob.stamp] at hs'; omega
   -- growing: to a new block
   have grow:∀ (js:Nat->List Value),(∀ k,k<n->AV.Is (cxOf X ms L w) (f k) (js k))->(∀ k,k<n->(js k).length=i.size) ->
     (∀ w1:World,w1.heap=w.heap->(Builtin.firstCells i.size n (.slice ra n rcap)).run P w1 = .ok ((List.range n).flatMap js).toArray w1)->¬ n+m<=rcap->0<m ->
     o.wpIn (fenceOf zz) zn P a w K Q:=fun js d2 d3 d4 hno hm0=>by
    obtain⟨nc,w',k1,k2,k3,k4,k5⟩:=z6z (P:=P) (w:=w) (ty:=o.type) (a:=ra) (n:=n) (cap:=rcap) (m:=m) (x:=a.eval x) hu hi hz ⟨_,_,e1⟩ e4 d4 hc4 hno hz0
    have hsize:(((List.range n).flatMap js).toArray++((List.range m).flatMap ks).toArray++Builtin.zeroCells z.cells (nc-(n+m))).size=nc * i.size:=by
     have h1:=zd n i.size js d3
     have h2:=zd m i.size ks e3
     have h3:=y4i z.cells (nc-(n+m))
     rw[y3l,y3l,y26,y26,h1,h2,h3,hzs,<- y1s,<- y1s]
     congr 1; omega
    obtain⟨q1,q2,q3⟩:=hr.moveOb (obj':=.seq i.size (n+m) (catF n f g)) (tc:=nc) k3 hL (b:=w.heap.size) ⟨yf _,k5⟩ rfl ⟨n,n+m,rfl,rfl,om⟩ (fun hcx=>by
     refine .inr ⟨w.heap.size,nc,_,elem,catF n js ks,by simp[cxOf,hr.len,hro],k4,k1,⟨hsize,?_⟩,fun k hk=>?_,fun k hk=>?_,fun k hk j hj=>?_⟩
     ·simp only[y35,y1b]; rintro v ((hv | hv) | hv)
      ·exact z2v d2 v hv
      ·exact z2v e2 v hv
      ·exact z3s hzone _ v hv
     ·by_cases hkn:k<n
      ·rw[z25 hkn,z25 hkn]; exact (d2 k hkn).mono hcx
      ·rw[z2c om,z2c om]; exact (e2 _ om).mono hcx
     ·by_cases hkn:k<n
      ·rw[z25 hkn]; exact d3 k hkn
      ·rw[z2c om]; exact e3 _ om
     ·rw[<- y16]
      simp only[y35,y1u]
      exact zjv d3 e3 k hk j hj)
    exact OpOk.value (hexec _ _ _ hse k2) (hK _ _ _ q1 q2 q3 (mkRef _ _ _ _ (by simp[hr.len,hro]) k1))
   rcases r6 with ⟨r7,ra',r6⟩ | ⟨r7,_⟩ | ⟨b,tc,r6,r7,r8⟩
   ·-- nothing yet
    simp only[y33] at r6
    obtain⟨rfl,rfl,rfl⟩:=r6
    by_cases hm0:m=0
    ·subst hm0
     have hrun:=z34 (P:=P) (w:=w) (ty:=o.type) (a:=ra) (n:=0) (cap:=0) (x:=a.eval x) hu hi ⟨_,_,e1⟩ (yf _) (fun w1 hw1=>by simpa using e4 w1 hw1)
     have hcxx:(cxOf X ms L w).le (cxOf X ms (L.set r (.seq i.size (0+0) (catF 0 f g))) w):=⟨fun _ _ h=>h,by simp[cxOf],fun j obj' hj hl hs'=>by
      simp only[cxOf] at hl |-
      by_cases hjr:r=j
      ·subst hjr
       rw[yx hro] at hl
       cases hl
       exact⟨_,hL,rfl,fun s' hs'=>⟨s',hs',yf _⟩,fun _=>trivial⟩
      ·rw[yz hjr] at hl
       exact⟨obj',hl,rfl,fun s' hs'=>⟨s',hs',yf _⟩,fun _=>trivial⟩⟩
     have hrel:=hr.step (ms':=ms) (L':=L.set r (.seq i.size (0+0) (catF 0 f g))) (w':=w) (Ext.refl _ _) (by simp[hr.len]) hr.lt hr.inj sj hcxx.ob (fun j obj' hl=>by
      by_cases hjr:r=j
      ·subst hjr
       rw[yx hro] at hl
       cases hl
       exact .inr fun _=>.inl ⟨r7,rfl⟩
      ·rw[yz hjr] at hl
       exact .inl ⟨hl,rfl,fun _ _ _=>rfl⟩)
     refine OpOk.value (hexec _ _ _ hse hrun) (hK _ _ _ hrel.1 (Ext.refl _ _) hrel.2 (.one _ _ rfl (.ref _ _ _ _ _ ⟨by simpa [cxOf] using hro,⟨_,_,rfl⟩,fun _ _ _ _=>y4k _,fun sz' f' _=>⟨yf _,.inl ⟨r7,_,rfl⟩⟩⟩)))
    ·exact grow (fun _=>[]) (fun k hk=>om) (fun k hk=>om) (fun w1 _=>by cases ra <;> simp[Builtin.firstCells,loadCells,loadCellsFrom]) om om
   ·omega
   ·simp only[y33,y3q,Nat.sub_zero] at r8
    obtain⟨rfl,_,rfl⟩:=r8
    obtain⟨arr,e,cs,h1,h2,h3,h4,h5,h6⟩:=hr.seq hL r6
    by_cases hfit:n+m<=rcap
    ·-- in place
     have hroom:=z1u (P:=P) (b:=b) (e:=e) ((List.range m).flatMap ks) (n * i.size) 0 arr.toList w (by simpa using h1) (by
      rw[zd m i.size ks e3,y1q (xs:=arr),h3,y2y,<- y1s]
      exact ym _ hfit) (fun v hv=>by
       obtain⟨k,hk,hvk⟩:=y3z.1 hv
       exact (e2 k (y27.1 hk)).one v hvk)
     obtain⟨w',k1,k2,k3,k4⟩:=hroom
     have hkl:=zd m i.size ks e3
     have hbl:n * i.size+((List.range m).flatMap ks).length<=arr.toList.length:=by
      rw[hkl,y1q (xs:=arr),h3,<- y1s]
      exact ym _ hfit
     have hrun:(Builtin.append_ #[t,t] o.type #[.slice (some ⟨b,0,none⟩) n rcap,a.eval x]).run P w = .ok (.slice (some ⟨b,0,none⟩) (n+m) rcap) w':=by
      have hsz:szOf P elem=some i.size:=by simp[szOf,hi]
      have h4':=e4 w rfl
      rw[e1] at h4' |-
      simp[Builtin.append_,zl hu,z18 hsz,Builtin.lenOf,hfit,h4',z2d,k1]
     obtain⟨q1,q2,q3⟩:=hr.setOb (obj':=.seq i.size (n+m) (catF n f g)) hL r6 k3 k4 rfl (fun s' hs'=>⟨n+m,rfl,by simp[Ob.stamp] at hs'; omega⟩) (fun hcx=>by
      refine .inr ⟨b,rcap,_,e,catF n cs ks,r6,k2,hfit,⟨?_,z45 (hr.seqOne hL r6 h1) (z2v e2)⟩,fun k hk=>?_,fun k hk=>?_,fun k hk j hj=>?_⟩
      ·have:(splice arr.toList (n * i.size) ((List.range m).flatMap ks)).length=arr.size:=by rw[z1p hbl]; simp
       simpa [this] using h3
      ·by_cases hkn:k<n
       ·rw[z25 hkn,z25 hkn]; exact (h4 k hkn).mono hcx
       ·rw[z2c om,z2c om]; exact (e2 _ om).mono hcx
      ·by_cases hkn:k<n
       ·rw[z25 hkn]; exact h5 k hkn
       ·rw[z2c om]; exact e3 _ om
      ·simp only[y20,y2y]
       rw[zr? hbl]
       by_cases hkn:k<n
       ·rw[z25 hkn,y8,y16]
        ·exact h6 k hkn j hj
        ·intro ⟨q,_⟩
         have:(k+1) * i.size<=n * i.size:=ym _ hkn
         rw[y1d] at this; omega
       ·have hk':k-n<m:=om
        have hkm:(k-n) * i.size+n * i.size=k * i.size:=by rw[<- y1s]; congr 1; omega
        rw[z2c om,y9]
        ·have:=zh? m i.size ks e3 (k-n) j hk' hj
         rw[<- this]; congr 1; omega
        ·rw[hkl]
         have:(k-n+1) * i.size<=m * i.size:=ym _ hk'
         rw[y1d] at this; omega)
     exact OpOk.value (hexec _ _ _ hse hrun) (hK _ _ _ q1 q2 q3 (mkRef _ _ _ _ r6 hfit))
    ·exact grow cs h4 h5 (fun w1 hw1=>z3c hw1 h1 h5 (fun k hk j hj=>by simpa using h6 k hk j hj) n) hfit om
  ·cases h
 ·cases h
def eAppNew (P:Program) (L:List Ob) (t:TypeId) (x:AV):Option (AV×List Ob×List Prop) :=
 match elemInfo P t,elemsOf L x with
 | some (_,i),some (m,g,C) =>
  if 0<i.bytes/\i.zero.isSome/\((i.zero.map fun z=>z.cells.size)=some i.size)/\((i.zero.map fun z=>z.cells.toList.all fun v=>v.oneCell')=some true) then
   some (.ref L.length m 0 m,L++[.seq i.size m g],C++[∀ k,k<m->(g k).wd=i.size,m * (2 * i.bytes)<=2 ^ 48]) else none
 | _,_=>none
variable {w':World}
theorem z6r {tc:Nat} {f:Nat->AV} (hl:ms.length=L.length) (hle:n<=tc) :
  AV.IsV (cxOf X (ms++[some (b,tc)]) (L++[.seq sz n f]) w') (.ref L.length n 0 n) (.slice (some ⟨b,0,none⟩) n tc):=by
 refine .one _ _ rfl (.ref _ _ _ _ _ ⟨by simp[cxOf],⟨_,_,rfl⟩,fun obj s ho hs=>?_,fun sz' f' _=>⟨om,.inr (.inr ⟨b,tc,by simp[cxOf,<- hl],hle,sj⟩)⟩⟩)
 simp[cxOf] at ho
 subst ho
 simp[Ob.stamp] at hs
 omega
theorem zjx {f:Nat->DV} (ho:o.op = .call ⟨.builtin .append,#[s,x],#[t,t]⟩) (hs:opnd G ch s=some (.full 0 f)) (hx:opnd G ch x=some xv) (h:eAppNew P L t xv=some (av,L',C)) (hc:AllP C):OpOk P G ch L o av L':=by
 intro z zn X ms w a K Q hr hf hh hK
 unfold eAppNew at h
 split at h
 ·rename_i elem i m g C' he hm
  split at h
  ·rename_i hz
   cases h
   obtain⟨hz0,hz1,hz3,hz4⟩:=hz
   obtain⟨z,hz⟩:=y2z.1 hz1
   have hzs:z.cells.size=i.size:=by simpa [hz] using hz3
   have hzone:∀ v∈z.cells.toList,v.oneCell'=true:=by rw[hz] at hz4; exact y1i.1 (yn hz4)
   obtain⟨hc1,hc2,hc4,_⟩:=ze.1 hc
   obtain⟨hu,hi⟩:=z1v he
   have hsv:=zg hs hf hh
   have hxv:=zg hx hf hh
   obtain⟨xa,xc,ks,e1,e2,e3,e4⟩:=z3d (P:=P) hr (sz:=i.size) hm hc1 hxv hc2
   have hsr:=IsV.is1 rfl sj sj hsv
   obtain⟨sa,hse⟩:∃ sa,a.eval s = .slice sa 0 0:=by
    generalize a.eval s=u at hsr
    cases hsr with
    | full _ _ sa hd=>exact⟨sa,rfl⟩
   have hexec:∀ v w',(Builtin.append_ #[t,t] o.type #[.slice sa 0 0,a.eval x]).run P w = .ok v w'->(execOp a.eval o).run P w = .ok (.value v) w':=fun v w' hv=>by
    obtain⟨dst,op,ty,pos,after,guard⟩:=o
    subst ho
    exact zy (s:=Builtin.append_ #[t,t] ty (#[s,x].map a.eval)) (by simpa [hse] using hv)
   by_cases hm0:m=0
   ·subst hm0
    have hrun:=z34 (P:=P) (w:=w) (ty:=o.type) (a:=sa) (n:=0) (cap:=0) (x:=a.eval x) hu hi ⟨_,_,e1⟩ (yf _) (fun w1 hw1=>by simpa using e4 w1 hw1)
    obtain⟨k1,k2,k3⟩:=hr.push (m:=none) (obj:=.seq i.size 0 g) (Grow.refl w) (fun b tc e=>by cases e) (fun _=>.inl ⟨by simp[cxOf,<- hr.len],rfl⟩)
    refine OpOk.value (hexec _ _ hrun) (hK _ _ _ k1 k2 k3 (.one _ _ rfl (.ref _ _ _ _ _ ⟨by simp[cxOf],⟨_,_,rfl⟩,fun _ _ _ _=>y4k _,fun sz' f' _=>⟨yf _,.inl ⟨by simp[cxOf,<- hr.len],_,rfl⟩⟩⟩)))
   ·obtain⟨nc,w',k1,k2,k3,k4,k5⟩:=z6z (P:=P) (w:=w) (ty:=o.type) (a:=sa) (n:=0) (cap:=0) (m:=m) (old:=[]) (x:=a.eval x) hu hi hz ⟨_,_,e1⟩ e4
     (fun w1 _=>by cases sa <;> simp[Builtin.firstCells,loadCells,loadCellsFrom]) (by simpa using hc4) om hz0
    rw[y14] at k1 k2 k4
    have hkl:=zd m i.size ks e3
    have hsize:(([]:List Value).toArray++((List.range m).flatMap ks).toArray++Builtin.zeroCells z.cells (nc-m)).size=nc * i.size:=by
     rw[y3l,y3l,y26,y26,hkl,y4i,hzs,yl,y14,<- y1s]
     congr 1; omega
    obtain⟨q1,q2,q3⟩:=hr.push (m:=some (w.heap.size,nc)) (obj:=.seq i.size m g) k3 (fun b tc e=>by cases e; exact⟨yf _,k5⟩) (fun hcx=>by
     refine .inr ⟨w.heap.size,nc,_,elem,ks,by simp[cxOf,<- hr.len],k4,k1,⟨hsize,?_⟩,fun k hk=>(e2 k hk).mono hcx,e3,fun k hk j hj=>?_⟩
     ·simp only[y35,y1y,y1b]; rintro v (hv | hv)
      ·exact z2v e2 v hv
      ·exact z3s hzone _ v hv
     rw[<- y16]
     simp only[y35,y1y]
     rw[yk (by
      rw[hkl]
      have:(k+1) * i.size<=m * i.size:=ym _ hk
      rw[y1d] at this; omega)]
     exact zh? m i.size ks e3 k j hk hj)
    exact OpOk.value (hexec _ _ k2) (hK _ _ _ q1 q2 q3 (z6r hr.len k1))
  ·cases h
 ·cases h
theorem z70 (zc:List Value) (n:Nat) (h:0<zc.length) :
  (Array.range (n * zc.length)).map (fun i=>zc.toArray[i % zc.toArray.size]!)=((List.range n).flatMap fun _=>zc).toArray:=by
 have hl:=zd n zc.length (fun _=>zc) (fun _ _=>rfl)
 apply Array.ext
 ·simp[hl]
 ·intro j h1 h2
  simp only[Array.getElem_map,Array.getElem_range,y26,List.getElem_toArray]
  have hj:j<n * zc.length:=by simpa using h1
  have hq:j / zc.length<n:=y3a (by rw[y23]; exact hj)
  have hm:j % zc.length<zc.length:=y37 _ h
  have e:=zh? n zc.length (fun _=>zc) (fun _ _=>rfl) (j / zc.length) (j % zc.length) hq hm
  have:j / zc.length * zc.length+j % zc.length=j:=by rw[y23]; exact y4a j _
  rw[this,yc (by simpa using h2),yc hm] at e
  rw[yn e]
  simp[hm]
theorem z82 {c:Cx} {x:AV} {zc:List Value} (h:AV.Is c x zc):∀ n,AV.IsL c (List.replicate n x) ((List.range n).flatMap fun _=>zc)
 | 0=>.nil
 | n+1=>by
  rw[List.replicate_succ,List.range_succ_eq_map,List.flatMap_cons,List.flatMap_map]
  exact .cons _ _ _ _ h (z82 h n)
def listF (d:α) (l:List α):Nat->α:=fun i=>l.getD i d
def bsOffs (len sz:Nat) (i:Nat):Option (Stp×Nat):=if i<len then some (.f i (i * sz),sz) else none
def bsParts (P:Program) (t:TypeId) (len:Nat) (parts:List (Nat×AV)):Option (Nat×List AV) :=
 match elemInfo P t with
 | some (elem,i)=>match zeroOf P elem with
  | some z=>if z.wd=i.size/\0<i.size/\len * i.size<=2 ^ 24 then match setParts (bsOffs len i.size) parts (.agg (List.replicate len (.d z))) with
    | some (.agg xs)=>if xs.length=len/\xs.all (fun x=>x.wd==i.size) then some (i.size,xs) else none
    | _=>none
   else none
  | none=>none
 | none=>none
variable {c:Cx}
theorem AV.IsL.cells:∀ {xs:List AV} {cs:List Value},AV.IsL c xs cs->xs.all (fun x=>x.wd==sz)=true->∀ (k:Nat) (x:AV),xs[k]? = some x ->
  ∃ l,AV.Is c x l/\l.length=sz/\∀ j,j<sz->cs[k * sz+j]? = l[j]?
 | _,_,.nil,_,k,x,hx=>by simp at hx
 | _,_,.cons y ys l ls h ht,hall,0,x,hx=>by
  simp at hx; subst hx
  simp only[y4m,yg,y1a] at hall
  have hl:l.length=sz:=by rw[h.len]; exact hall.1
  exact⟨l,h,hl,fun j hj=>by rw[y3q,y14,yk om]⟩
 | _,_,.cons y ys l ls h ht,hall,k+1,x,hx=>by
  simp at hx
  simp only[y4m,yg,y1a] at hall
  have hl:l.length=sz:=by rw[h.len]; exact hall.1
  obtain⟨l',h1,h2,h3⟩:=AV.IsL.cells ht hall.2 k x hx
  refine⟨l',h1,h2,fun j hj=>?_⟩
  rw[y1c (by rw[hl,y1d]; omega),hl,<- h3 j hj]
  congr 1
  rw[y1d]; omega
theorem ze7 {offs:Nat->Option (Stp×Nat)} (ho:∀ i s n,offs i=some (s,n)->∃ k o,s = .f k o):∀ (parts:List (Nat×AV)) (a:AV),AllP (partsL offs parts a)
 | [],_=>trivial
 | (i,v) :: r,a=>by
  simp only[partsL]
  cases h:offs i with
  | none=>trivial
  | some p =>
   obtain⟨s,n⟩:=p
   obtain⟨k,o,rfl⟩:=ho i s n h
   rw[ze]
   refine⟨?_,?_⟩
   ·simp only[AV.getL,ze]
    refine⟨?_,?_⟩
    ·unfold AV.intoL
     split
     ·rename_i he; cases he
     ·trivial
    ·split <;> trivial
   ·split
    ·exact ze7 ho r _
    ·trivial
variable {len:Nat} {parts:List (Nat×AV)} {vs:Array (Nat×Value)}
theorem ze8 {xs:List AV} (h:bsParts P t len parts=some (sz,xs)) (hp:PartsIs c parts vs.toList) :
  ∃ cs elem,(Instr.buildSlice t len vs).run P w = .ok (.slice (some ⟨w.heap.size,0,none⟩) len len) (w.alloc (.cells cs.toArray elem))/\AV.IsL c xs cs/\xs.length=len /\
   xs.all (fun x=>x.wd==sz)=true/\cs.length=len * sz/\0<sz:=by
 unfold bsParts at h
 split at h
 ·rename_i elem i he
  split at h
  ·rename_i z hz
   split at h
   ·rename_i hty
    obtain⟨h1,h2,h3⟩:=hty
    split at h
    ·rename_i ys hs
     split at h
     ·rename_i hl
      cases h
      obtain⟨hu,hi⟩:=z1v he
      obtain⟨zv,z1,z2⟩:=z2t hz
      have hzc:=IsV.cells (c:=c) (av:=.d z) rfl (z2 c)
      have hzl:zv.cells.toList.length=i.size:=by rw[hzc.len]; exact h1
      have hsz:szOf P elem=some i.size:=by simp[szOf,hi]
      obtain⟨cs',f1,f2⟩:=z2z (c:=c) (place:=fun k=>some (k * i.size,i.size)) (offs:=bsOffs len i.size) (by
       intro k s n ho
       unfold bsOffs at ho
       split at ho
       ·cases ho; rfl
       ·cases ho) parts vs.toList _ _ _ hp (.agg _ _ (z82 hzc len)) hs (ze7 (fun k s n ho=>by
        unfold bsOffs at ho
        split at ho
        ·cases ho; exact⟨_,_,rfl⟩
        ·cases ho) parts _)
      cases f2 with
      | agg _ _ f2 =>
      have hcl:cs'.length=len * i.size:=by
       have hw:∀ (l:List AV),l.all (fun x=>x.wd==i.size)=true->AV.wdL l=l.length * i.size:=by
        intro l
        induction l with
        | nil=>intro _; simp[AV.wdL]
        | cons x l ih =>
         intro hx
         simp only[y4m,yg,y1a] at hx
         simp only[AV.wdL,yd,hx.1,ih hx.2,y1d]; omega
       rw[f2.len,hw xs hl.2,hl.1]
      refine⟨cs',elem,?_,f2,hl.1,hl.2,hcl,h2⟩
      have hzf:=z70 zv.cells.toList len om
      rw[hzl] at hzf
      simp only[y3m] at hzf f1
      have hno:¬ len * i.size>2 ^ 24:=om
      by_cases h0:len * i.size=0
      ·have hlen:len=0:=by
        rcases Nat.mul_eq_zero.1 h0 with h | h
        ·exact h
        ·omega
       subst hlen
       simp at f1
       simp[Instr.buildSlice,zl hu w,z18 hsz w,show Array.range 0 = #[] from rfl,f1,newRow]
      ·have hzf':Array.map (fun j=>zv.cells[j % zv.cells.size]!) (Array.range (len * i.size))=(List.flatMap (fun _=>zv.cells.toList) (List.range len)).toArray:=hzf
       simp only[Instr.buildSlice,y12,zl hu w,yq,z18 hsz w,y8 hno,y8 h0,z1,y24,hzf',f1]
       simp[newRow]
     ·cases h
    ·cases h
   ·cases h
  ·cases h
 ·cases h
def allD:List AV->Option (List DV)
 | []=>some []
 | .d x :: r=>(allD r).map (x :: ·)
 | _ :: _=>none
theorem za3:∀ {xs:List AV} {ds:List DV},allD xs=some ds->xs=ds.map AV.d
 | [],ds,h=>by simp[allD] at h; subst h; rfl
 | x :: r,ds,h=>by
  cases x with
  | d y =>
   simp only[allD] at h
   cases hr:allD r with
   | none=>simp[hr] at h
   | some es =>
    simp[hr] at h
    subst h
    simp[za3 hr]
  | _=>simp[allD] at h
def eBsImm (P:Program) (t:TypeId) (len:Nat) (parts:List (Nat×AV)):Option AV :=
 match bsParts P t len parts with
 | some (_,xs)=>(allD xs).map fun ds=>if len=0 then .full 0 fun _=>.b false else .d (.sl len (listF (.b false) ds))
 | none=>none
variable {ps:Array (Nat×Operand)} {pv:List (Nat×AV)}
theorem zm0 (ho:o.op = .buildSlice t len ps) (hp:partsO G ch ps.toList=some pv) (h:eBsImm P t len pv=some av) (hb:len<2 ^ 63):OpOk P G ch L o av L:=by
 intro z zn X ms w a K Q hr hf hh hK
 unfold eBsImm at h
 split at h
 ·rename_i sz xs hbs
  cases hd:allD xs with
  | none=>simp[hd] at h
  | some ds =>
   simp[hd] at h
   subst h
   have hpv:=z3y hf hh hp
   obtain⟨cs,elem,r1,r2,r3,r4,r5,r6⟩:=ze8 (P:=P) (w:=w) (vs:=ps.map fun (i,x)=>(i,a.eval x)) hbs (by simpa using hpv)
   have hexec:(execOp a.eval o).run P w = .ok (.value (.slice (some ⟨w.heap.size,0,none⟩) len len)) (w.alloc (.cells cs.toArray elem)):=by
    obtain⟨dst,op,ty,pos,after,guard⟩:=o
    subst ho
    exact zy r1
   obtain⟨k1,k2⟩:=hr.grow (Grow.alloc w (.cells cs.toArray elem))
   by_cases hz:len=0
   ·subst hz
    exact OpOk.value hexec (hK _ ms _ k1 ((Grow.alloc w _).ext ms) k2 (.one _ _ rfl (.full 0 _ _ (.slEmpty _ _ _))))
   rw[y8 hz] at hK
   refine OpOk.value hexec (hK _ ms _ k1 ((Grow.alloc w _).ext ms) k2 (.one _ _ rfl (.d _ _ ?_)))
   have hM:(cxOf X ms L (w.alloc (.cells cs.toArray elem))).M w.heap.size=some cs.toArray :=
    z19 (fun hx=>by have:=hr.xlt _ hx; omega) (fun ho=>by have:=(hr.lt _ ho).1; omega) (z2e w _)
   have hxs:=za3 hd
   have hch:∀ k,k<len->∃ l,DV.Is (cxOf X ms L (w.alloc (.cells cs.toArray elem))).M (listF (.b false) ds k) l/\l.length=sz/\∀ j,j<sz->cs[k * sz+j]? = l[j]? := fun k hk=>by
    have hk':k<ds.length:=by rw[hxs,y1x] at r3; omega
    obtain⟨l,l1,l2,l3⟩:=r2.cells r4 k (.d ds[k]) (by rw[hxs]; simp[hk'])
    have:=l1.mono k2
    cases this with
    | d _ _ h =>
    refine⟨l,?_,l2,l3⟩
    rw[show listF (.b false) ds k=ds[k] by simp[listF,List.getD,hk']]
    exact h
   refine .sl len _ w.heap.size 0 len sz _ (fun k=>if h:k<len then (hch k h).choose else []) (yf _) hb hM (fun k hk=>?_) (fun k hk=>?_) (fun k hk j hj=>?_)
   ·simp only[hk,y3j]; exact (hch k hk).choose_spec.1
   ·simp only[hk,y3j]; exact (hch k hk).choose_spec.2.1
   ·simp only[hk,y3j,y14,y20]; exact (hch k hk).choose_spec.2.2 j hj
 ·cases h
def eBsObj (P:Program) (L:List Ob) (t:TypeId) (len:Nat) (parts:List (Nat×AV)):Option (AV×List Ob) :=
 match bsParts P t len parts with
 | some (sz,xs)=>some (.ref L.length len 0 len,L++[.seq sz len (listF .bot xs)])
 | none=>none
theorem zm1 (ho:o.op = .buildSlice t len ps) (hp:partsO G ch ps.toList=some pv) (h:eBsObj P L t len pv=some (av,L')):OpOk P G ch L o av L':=by
 intro z zn X ms w a K Q hr hf hh hK
 unfold eBsObj at h
 split at h
 ·rename_i sz xs hbs
  cases h
  have hpv:=z3y hf hh hp
  obtain⟨cs,elem,r1,r2,r3,r4,r5,r6⟩:=ze8 (P:=P) (w:=w) (vs:=ps.map fun (i,x)=>(i,a.eval x)) hbs (by simpa using hpv)
  have hexec:(execOp a.eval o).run P w = .ok (.value (.slice (some ⟨w.heap.size,0,none⟩) len len)) (w.alloc (.cells cs.toArray elem)):=by
   obtain⟨dst,op,ty,pos,after,guard⟩:=o
   subst ho
   exact zy r1
  have hch:∀ k,k<len->∃ l,AV.Is (cxOf X ms L w) (listF .bot xs k) l/\l.length=sz/\∀ j,j<sz->cs[k * sz+j]? = l[j]? := fun k hk=>by
   obtain⟨l,l1,l2,l3⟩:=r2.cells r4 k (xs[k]'om) sj
   refine⟨l,?_,l2,l3⟩
   rw[show listF .bot xs k=xs[k]'om by simp[listF,List.getD,r3,hk]]
   exact l1
  obtain⟨q1,q2,q3⟩:=hr.push (m:=some (w.heap.size,len)) (obj:=.seq sz len (listF .bot xs)) (Grow.alloc w (.cells cs.toArray elem)) (fun b tc e=>by cases e; exact⟨yf _,sj⟩) (fun hcx=>by
   refine .inr ⟨w.heap.size,len,_,elem,fun k=>if h:k<len then (hch k h).choose else [],by simp[cxOf,<- hr.len],z2e w _,yf _,⟨by simpa using r5,r2.one⟩,fun k hk=>?_,fun k hk=>?_,fun k hk j hj=>?_⟩
   ·simp only[hk,y3j]; exact (hch k hk).choose_spec.1.mono hcx
   ·simp only[hk,y3j]; exact (hch k hk).choose_spec.2.1
   ·simp only[hk,y3j,y20]; exact (hch k hk).choose_spec.2.2 j hj)
  exact OpOk.value hexec (hK _ _ _ q1 q2 q3 (z6r hr.len (yf _)))
 ·cases h
def eBsBorn (P:Program) (L:List Ob) (t:TypeId) (k len:Nat) (parts:List (Nat×AV)):Option (AV×List Ob) :=
 match L[k]?,bsParts P t len parts with
 | some (.seq sz' 0 _),some (sz,xs)=>if sz'=sz/\0<len then some (.ref k len 0 len,L.set k (.seq sz len (listF .bot xs))) else none
 | _,_=>none
variable {k:Nat}
theorem zjy (ho:o.op = .buildSlice t len ps) (hp:partsO G ch ps.toList=some pv) (h:eBsBorn P L t k len pv=some (av,L')):OpOk P G ch L o av L':=by
 intro z zn X ms w a K Q hr hf hh hK
 unfold eBsBorn at h
 split at h
 ·rename_i sz' f0 sz xs hL hbs
  split at h
  ·rename_i hc
   obtain⟨rfl,h0⟩:=hc
   cases h
   have hpv:=z3y hf hh hp
   obtain⟨cs,elem,r1,r2,r3,r4,r5,r6⟩:=ze8 (P:=P) (w:=w) (vs:=ps.map fun (i,x)=>(i,a.eval x)) hbs (by simpa using hpv)
   have hlt:k<L.length:=by
    rcases yp k L.length with h' | h'
    ·exact h'
    ·rw[yi h'] at hL; cases hL
   have hltm:k<ms.length:=by rw[hr.len]; exact hlt
   have hexec:(execOp a.eval o).run P w = .ok (.value (.slice (some ⟨w.heap.size,0,none⟩) len len)) (w.alloc (.cells cs.toArray elem)):=by
    obtain⟨dst,op,ty,pos,after,guard⟩:=o
    subst ho
    exact zy r1
   have hch:∀ k,k<len->∃ l,AV.Is (cxOf X ms L w) (listF .bot xs k) l/\l.length=sz'/\∀ j,j<sz'->cs[k * sz'+j]? = l[j]? := fun k hk=>by
    obtain⟨l,l1,l2,l3⟩:=r2.cells r4 k (xs[k]'om) sj
    refine⟨l,?_,l2,l3⟩
    rw[show listF .bot xs k=xs[k]'om by simp[listF,List.getD,r3,hk]]
    exact l1
   obtain⟨q1,q2,q3⟩:=hr.moveOb (w':=w.alloc (.cells cs.toArray elem)) (b:=w.heap.size) (tc:=len) (obj':=.seq sz' len (listF .bot xs)) (Grow.alloc w _) hL ⟨yf _,sj⟩ rfl ⟨0,len,rfl,rfl,h0⟩
    (fun hcx=>.inr ⟨w.heap.size,len,_,elem,fun k=>if h:k<len then (hch k h).choose else [],by simp[cxOf,hltm],z2e w _,yf _,⟨by simpa using r5,r2.one⟩,fun k hk=>by
     simp only[hk,y3j]; exact (hch k hk).choose_spec.1.mono hcx,fun k hk=>by
     simp only[hk,y3j]; exact (hch k hk).choose_spec.2.1,fun k hk j hj=>by
     simp only[hk,y3j,y20]; exact (hch k hk).choose_spec.2.2 j hj⟩)
   refine OpOk.value hexec (hK _ _ _ q1 q2 q3 (.one _ _ rfl (.ref _ _ _ _ _ ⟨by simpa [cxOf] using hlt,⟨_,_,rfl⟩,fun obj s ho hst=>?_,fun sz2 f2 _=>⟨om,.inr (.inr ⟨w.heap.size,len,by simp[cxOf,hltm],yf _,sj⟩)⟩⟩)))
   simp[cxOf,List.getElem?_set_self hlt] at ho
   subst ho
   simp[Ob.stamp] at hst
   omega
  ·cases h
 ·cases h
def eMake (P:Program) (L:List Ob) (t:TypeId) (l c:AV):Option (AV×List Ob×List Prop) :=
 match elemInfo P t,l,c with
 | some (elem,i),.d (.i .i64 n),.d (.i .i64 m)=>match zeroOf P elem with
  | some z=>if z.wd=i.size/\0<i.size/\0<i.bytes then
    some (.ref L.length n.toNat 0 n.toNat,L++[.seq i.size n.toNat fun _=>.d z],[0<=n,n<=m,m * i.bytes<=2 ^ 47]) else none
  | none=>none
 | _,_,_=>none
variable {l:Operand} {lv cv:AV}
theorem zny {c:Operand} (ho:o.op = .makeSlice t l c) (hl:opnd G ch l=some lv) (hcv:opnd G ch c=some cv) (h:eMake P L t lv cv=some (av,L',C)) (hc:AllP C):OpOk P G ch L o av L':=by
 intro z zn X ms w a K Q hr hf hh hK
 unfold eMake at h
 split at h
 ·rename_i elem i n m he
  split at h
  ·rename_i z hz
   split at h
   ·rename_i hty
    cases h
    obtain⟨h0,h1,h2⟩:=hty
    obtain⟨c0,c1,c2,_⟩:=hc
    obtain⟨hu,hi⟩:=z1v he
    obtain⟨zv,z1,z2⟩:=z2t hz
    have hzc:=IsV.cells (c:=cxOf X ms L w) (av:=.d z) rfl (z2 _)
    have hzl:zv.cells.toList.length=i.size:=by rw[hzc.len]; exact h0
    have hsz:szOf P elem=some i.size:=by simp[szOf,hi]
    have hel:=IsV.i (zg hl hf hh)
    have hec:=IsV.i (zg hcv hf hh)
    have hti:(typeInfo elem).run P w = .ok i w:=by simp[typeInfo,hi]
    have hmb:m<=2 ^ 47:=by
     have:m * 1<=m * i.bytes:=Int.mul_le_mul_of_nonneg_left om om
     omega
    have wn:IntKind.i64.wrap n=n:=y52 _ om
    have wm:IntKind.i64.wrap m=m:=y52 _ om
    have hbm:¬ ((i.bytes:Int) * m>2 ^ 48):=by rw[Int.mul_comm]; omega
    have hzf:=z70 zv.cells.toList m.toNat om
    rw[hzl] at hzf
    have hrun:(Instr.makeSlice t (.int .i64 n) (.int .i64 m)).run P w = .ok (.slice (some ⟨w.heap.size,0,none⟩) n.toNat m.toNat)
      (w.alloc (.cells ((List.range m.toNat).flatMap fun _=>zv.cells.toList).toArray elem)):=by
     have hcond:((decide (m<0)||decide ((i.bytes:Int) * m>2 ^ 48))||decide (n<0)||decide (n>m))=false:=by
      simp only[y3n,yo]
      exact⟨⟨⟨om,hbm⟩,om⟩,om⟩
     have hzf':Array.map (fun j=>zv.cells[j % zv.cells.size]!) (Array.range (m.toNat * i.size))=(List.flatMap (fun _=>zv.cells.toList) (List.range m.toNat)).toArray:=hzf
     simp only[Instr.makeSlice,y12,zl hu w,yq,asInt,asIntOf,y24,hti,wn,wm,hcond,y1j,y32,run_askRoom,z18 hsz w]
     by_cases hm0:m.toNat * i.size=0
     ·rw[y9 hm0]
      rw[hm0] at hzf' |-
      rw[<- hzf']
      have e0:∀ f:Nat->Value,Array.map f (Array.range 0) = #[]:=fun f=>by rw[show Array.range 0 = #[] from rfl]; simp
      simp[newRow,e0]
     ·rw[y8 hm0]
      simp only[y12,z1,yq,y24,hzf']
      rfl
    have hexec:(execOp a.eval o).run P w = .ok (.value (.slice (some ⟨w.heap.size,0,none⟩) n.toNat m.toNat)) (w.alloc (.cells ((List.range m.toNat).flatMap fun _=>zv.cells.toList).toArray elem)):=by
     obtain⟨dst,op,ty,pos,after,guard⟩:=o
     subst ho
     exact zy (s:=Instr.makeSlice t (a.eval l) (a.eval c)) (by rw[hel,hec]; exact hrun)
    have hfl:=zd m.toNat i.size (fun _=>zv.cells.toList) (fun _ _=>hzl)
    obtain⟨q1,q2,q3⟩:=hr.push (m:=some (w.heap.size,m.toNat)) (obj:=.seq i.size n.toNat fun _=>.d z) (Grow.alloc w (.cells ((List.range m.toNat).flatMap fun _=>zv.cells.toList).toArray elem))
     (fun b tc e=>by cases e; exact⟨yf _,sj⟩) (fun hcx=>by
     refine .inr ⟨w.heap.size,m.toNat,_,elem,fun _=>zv.cells.toList,by simp[cxOf,<- hr.len],z2e w _,om,⟨by simpa using hfl,fun v hv=>by obtain⟨_,_,hv⟩:=y3z.1 (show v∈(List.range m.toNat).flatMap fun _=>zv.cells.toList from hv); exact hzc.one v hv⟩,fun k hk=>hzc.mono hcx,fun _ _=>hzl,fun k hk j hj=>?_⟩
     rw[y20]
     exact zh? m.toNat i.size (fun _=>zv.cells.toList) (fun _ _=>hzl) k j om hj)
    exact OpOk.value hexec (hK _ _ _ q1 q2 q3 (z6r hr.len om))
   ·cases h
  ·cases h
 ·cases h
theorem z7u {z:Array Value} (hi:i<n) (hj:j<z.size):(Builtin.zeroCells z n).toList[i * z.size+j]? = z.toList[j]? := by
 have hlt:i * z.size+j<n * z.size:=by
  have:(i+1) * z.size<=n * z.size:=ym _ hi
  rw[y1d] at this; omega
 have hm:(i * z.size+j) % z.size=j:=by
  rw[y23,Nat.mul_add_mod,y2m hj]
 simp only[Builtin.zeroCells,Array.toList_map,Array.toList_range,y25,y4z hlt,y1k,hm]
 simp[hj]
theorem za4 {L:List α} {x:α} (h:L[i]? = some x):L.set i x=L:=by
 apply y2q
 intro j
 by_cases hj:i=j
 ·subst hj
  have hlt:i<L.length:=by
   rcases yp i L.length with h' | h'
   ·exact h'
   ·rw[yi h'] at h; cases h
  rw[yx hlt,h]
 ·rw[yz hj]
def eClear (P:Program) (L:List Ob) (t:TypeId) (x:AV):Option (AV×List Ob×List Prop) :=
 match P.underlying t,x with
 | some (.slice elem),.ref o st off n=>match L[o]?,zeroOf P elem with
  | some (.seq sz m f),some z=>if 0<sz/\z.wd=sz then some (.bot,L.set o (.seq sz m fun j=>if off<=j/\j<off+n then .d z else f j),[m=st]) else none
  | _,_=>none
 | _,_=>none
theorem zm2 (ho:o.op = .call ⟨.builtin .clear,#[x],#[t]⟩) (hx:opnd G ch x=some xv) (h:eClear P L t xv=some (av,L',C)) (hc:AllP C):OpOk P G ch L o av L':=by
 intro z zn X ms w a K Q hr hf hh hK
 unfold eClear at h
 split at h
 ·rename_i elem i st off n ht
  split at h
  ·rename_i sz m f z hL hz
   split at h
   ·rename_i hsz
    cases h
    obtain⟨hs0,hwd⟩:=hsz
    obtain⟨rfl,_⟩:=hc
    have hxv:=IsV.is1 rfl sj sj (zg hx hf hh)
    have hexec:∀ w',(Builtin.clear_ #[t] o.type #[a.eval x]).run P w = .ok (.tuple #[]) w'->(execOp a.eval o).run P w = .ok (.value (.tuple #[])) w':=fun w' hv=>by
     obtain⟨dst,op,ty,pos,after,guard⟩:=o
     subst ho
     exact zy (s:=Builtin.clear_ #[t] ty (#[x].map a.eval)) (by simpa using hv)
    generalize hse:a.eval x=u at hxv
    rw[hse] at hexec
    obtain⟨zv,hz1,hz2⟩:=z2t hz
    have hzc:DV.Is (fun _=>none) z zv.cells.toList:=by
     have:=IsV.cells (av:=.d z) rfl (hz2 ⟨[],fun _=>none,[]⟩)
     cases this with
     | d _ _ h=>exact h
    have hzl:zv.cells.size=sz:=by have:=hzc.len; rw[hwd] at this; simpa using this
    cases hxv with
    | ref _ _ _ _ _ hx' =>
    obtain⟨h1,⟨ad,cap,rfl⟩,h0,h3⟩:=hx'
    have hsame:n=0->(fun j=>if off<=j/\j<off+n then AV.d z else f j)=f:=fun hn=>by
     funext j; rw[y8 om]
    by_cases hn:n=0
    ·subst hn
     rw[hsame rfl,za4 hL] at hK
     refine OpOk.value (hexec w ?_) (hK _ ms w hr (Ext.refl _ _) (Cx.le.refl _) (.bot _))
     cases ad <;> simp[Builtin.clear_,zl ht w]
    ·obtain⟨hb,hcase⟩:=h3 sz f hL
     rcases hcase with ⟨_,a',he⟩ | ⟨_,he⟩ | ⟨b,tc,hms,hle,he⟩
     ·cases he; exact absurd rfl hn
     ·exact absurd he hn
     ·cases he
      obtain⟨arr,e,cs,g1,g2,g3,g4,g5,g6⟩:=hr.seq hL hms
      have hzs:=y4i zv.cells n
      have hbl:off * sz+(Builtin.zeroCells zv.cells n).toList.length<=arr.toList.length:=by
       rw[y1q,y1q,hzs,hzl,g3,<- y1s]
       exact ym sz om
      have hone:∀ v∈(Builtin.zeroCells zv.cells n).toList,v.oneCell'=true:=fun v hv=>by
       obtain⟨q,hq,e⟩:=y3f hv
       have hq':q<n * zv.cells.size:=by rw[y1q,hzs] at hq; exact hq
       have hpos:0<zv.cells.size:=om
       have hj:=y37 q hpos
       have hi:q / zv.cells.size<n:=y3a (by rw[y23]; exact hq')
       have h:=z7u (z:=zv.cells) hi hj
       rw[y23 (q / zv.cells.size),y4a,yc hq,e] at h
       exact hzc.one v (y31 h.symm)
      obtain⟨w',r1,r2,r3,r4⟩:=z1u (P:=P) (Builtin.zeroCells zv.cells n).toList (off * sz) 0 arr.toList w (by simpa using g1) om hone
      obtain⟨q1,q2,q3⟩:=hr.setOb (w':=w') (obj':=.seq sz m fun j=>if off<=j/\j<off+n then .d z else f j) hL hms r3 r4 rfl (fun s hs=>⟨s,hs,yf _⟩) (fun hcx=>by
       refine .inr ⟨b,tc,_,e,fun j=>if off<=j/\j<off+n then zv.cells.toList else cs j,hms,r2,g2,⟨?_,z45 (hr.seqOne hL hms g1) hone⟩,?_,?_,?_⟩
       ·have:(splice arr.toList (off * sz+0) (Builtin.zeroCells zv.cells n).toList).length=arr.size:=by rw[z1p (by simpa using hbl)]; simp
        rw[y26,this]; exact g3
       ·intro j hj
        by_cases hjo:off<=j/\j<off+n
        ·simp only[y9 hjo]
         exact .d _ _ (hzc.mono (fun _ _ h=>by cases h))
        ·simp only[y8 hjo]
         exact (g4 j hj).mono hcx
       ·intro j hj
        by_cases hjo:off<=j/\j<off+n
        ·simp only[y9 hjo]; rw[y1q]; exact hzl
        ·simp only[y8 hjo]; exact g5 j hj
       ·intro j hj q hq
        simp only[y20,y2y]
        rw[zr? hbl]
        by_cases hjo:off<=j/\j<off+n
        ·have k1:off * sz<=j * sz:=ym sz hjo.1
         have k2:(j+1) * sz<=(off+n) * sz:=ym sz om
         rw[y1d,y1s] at k2
         rw[y9 (by rw[y1q,hzs,hzl]; omega)]
         simp only[y9 hjo]
         have k3:j * sz+q-off * sz=(j-off) * sz+q:=by rw[Nat.sub_mul]; omega
         rw[k3]
         have:=z7u (z:=zv.cells) (n:=n) (i:=j-off) (j:=q) om om
         rw[hzl] at this
         exact this
        ·rw[y8,y16]
         ·simp only[y8 hjo]; exact g6 j hj q hq
         ·rw[y1q,hzs,hzl]
          intro ⟨q1,q2⟩
          rcases yp j off with hlt | hge
          ·have:(j+1) * sz<=off * sz:=ym sz hlt
           rw[y1d] at this; omega
          ·have:(off+n) * sz<=j * sz:=ym sz om
           rw[y1s] at this; omega)
      refine OpOk.value (hexec w' ?_) (hK _ _ _ q1 q2 q3 (.bot _))
      obtain⟨n',rfl⟩:=Nat.exists_eq_succ_of_ne_zero hn
      simp[Builtin.clear_,zl ht w,hz1,r1]
   ·cases h
  ·cases h
 ·cases h
def vBuildF (P:Program) (t:TypeId) (parts:List (Nat×AV)):Option (AV×List Prop) :=
 match zeroA P t true,P.underlying t with
 | some z,some (.struct fields) =>
  let offs:Nat->Option (Stp×Nat):=fun i=>(fields[i]?).bind fun f=>(szOf P f.type).map fun n=>(Stp.f i f.offset,n)
  if fields.toList.all (fun f=>(szOf P f.type).isSome) then
   (setParts offs parts z).bind fun av=>if av.isAgg then some (av,partsL offs parts z) else none
  else none
 | _,_=>none
theorem zi7 (hv:vBuildF P t parts=some (av,C)) (hc:AllP C) (hp:PartsIs c parts vs.toList) :
  ∃ v,(Instr.build t vs).run P w = .ok v w/\AV.IsV c av v:=by
 unfold vBuildF at hv
 split at hv
 ·rename_i z fields hz hu
  simp only at hv
  split at hv
  ·rename_i hall
   cases hs:setParts (fun i=>(fields[i]?).bind fun f=>(szOf P f.type).map fun n=>(Stp.f i f.offset,n)) parts z with
   | none=>simp[hs] at hv
   | some a' =>
    simp only[hs,y1e] at hv
    split at hv
    ·rename_i hag
     cases hv
     obtain⟨hsol,zv,h1,h2⟩:=za2 hz
     have hzc:=IsV.cells (c:=c) (av:=z) hsol (h2 c)
     have hm:=z6x (P:=P) (w:=w) fields.toList hall
     obtain⟨cs',h3,h4⟩:=z2z (c:=c) (place:=fun i=>((fields.toList.map fun f=>(f.offset,(szOf P f.type).getD 0)).toArray)[i]?) (by
      intro i s sz ho
      cases hf:fields[i]? with
      | none=>simp[hf] at ho
      | some f =>
       cases hn:szOf P f.type with
       | none=>simp[hf,hn] at ho
       | some n =>
        simp[hf,hn] at ho
        obtain⟨rfl,rfl⟩:=ho
        simp[hf,hn,Stp.off]) parts vs.toList _ _ _ hp hzc hs hc
     refine⟨.agg cs'.toArray,?_,.agg _ _ hag h4⟩
     have hm':(fields.mapM (fun f=>do pure (f.offset,<- sizeOf f.type):Field->Sem (Nat×Nat))).run P w =
       .ok (fields.toList.map fun f=>(f.offset,(szOf P f.type).getD 0)).toArray w:=by
      rw[y4b,Sem.run_map,hm,yq]
     simp only[y3m] at h3
     simp only[Instr.build,y12,h1 w,yq,zl hu w,hm',h3]
     rfl
    ·cases hv
  ·cases hv
 ·cases hv
theorem zjz (ho:o.op = .build t ps) (hx:partsO G ch ps.toList=some pv) (h:vBuildF P t pv=some (av,C)) (hc:AllP C):OpOk P G ch L o av L:=by
 intro z zn X ms w a K Q hr hf hh hK
 have:=z3y hf hh hx
 obtain⟨v,h1,h2⟩:=zi7 (P:=P) (w:=w) (vs:=ps.map fun (i,x)=>(i,a.eval x)) h hc (by simpa using this)
 refine OpOk.value (u:=v) (w':=w) ?_ (hK v ms w hr (Ext.refl _ _) (Cx.le.refl _) h2)
 obtain⟨dst,op,ty,pos,after,guard⟩:=o
 subst ho
 exact zy h1
def eMakeImm (P:Program) (t:TypeId) (l c:AV):Option (AV×List Prop) :=
 match elemInfo P t,l,c with
 | some (elem,i),.d (.i .i64 n),.d (.i .i64 m)=>match zeroOf P elem with
  | some z=>if z.wd=i.size/\0<i.size/\0<i.bytes then
    some (.d (.sl n.toNat fun _=>z),[0<=n,n<=m,m * i.bytes<=2 ^ 47]) else none
  | none=>none
 | _,_,_=>none
theorem zi8 {c:Operand} (ho:o.op = .makeSlice t l c) (hl:opnd G ch l=some lv) (hcv:opnd G ch c=some cv) (h:eMakeImm P t lv cv=some (av,C)) (hc:AllP C):OpOk P G ch L o av L:=by
 intro z zn X ms w a K Q hr hf hh hK
 unfold eMakeImm at h
 split at h
 ·rename_i elem i n m he
  split at h
  ·rename_i z hz
   split at h
   ·rename_i hty
    cases h
    obtain⟨h0,h1,h2⟩:=hty
    obtain⟨c0,c1,c2,_⟩:=hc
    obtain⟨hu,hi⟩:=z1v he
    obtain⟨zv,z1,z2⟩:=z2t hz
    have hzc:=IsV.cells (c:=cxOf X ms L w) (av:=.d z) rfl (z2 _)
    have hzl:zv.cells.toList.length=i.size:=by rw[hzc.len]; exact h0
    have hsz:szOf P elem=some i.size:=by simp[szOf,hi]
    have hel:=IsV.i (zg hl hf hh)
    have hec:=IsV.i (zg hcv hf hh)
    have hti:(typeInfo elem).run P w = .ok i w:=by simp[typeInfo,hi]
    have hmb:m<=2 ^ 47:=by
     have:m * 1<=m * i.bytes:=Int.mul_le_mul_of_nonneg_left om om
     omega
    have wn:IntKind.i64.wrap n=n:=y52 _ om
    have wm:IntKind.i64.wrap m=m:=y52 _ om
    have hbm:¬ ((i.bytes:Int) * m>2 ^ 48):=by rw[Int.mul_comm]; omega
    have hzf:=z70 zv.cells.toList m.toNat om
    rw[hzl] at hzf
    have hrun:(Instr.makeSlice t (.int .i64 n) (.int .i64 m)).run P w = .ok (.slice (some ⟨w.heap.size,0,none⟩) n.toNat m.toNat)
      (w.alloc (.cells ((List.range m.toNat).flatMap fun _=>zv.cells.toList).toArray elem)):=by
     have hcond:((decide (m<0)||decide ((i.bytes:Int) * m>2 ^ 48))||decide (n<0)||decide (n>m))=false:=by
      simp only[y3n,yo]
      exact⟨⟨⟨om,hbm⟩,om⟩,om⟩
     have hzf':Array.map (fun j=>zv.cells[j % zv.cells.size]!) (Array.range (m.toNat * i.size))=(List.flatMap (fun _=>zv.cells.toList) (List.range m.toNat)).toArray:=hzf
     simp only[Instr.makeSlice,y12,zl hu w,yq,asInt,asIntOf,y24,hti,wn,wm,hcond,y1j,y32,run_askRoom,z18 hsz w]
     by_cases hm0:m.toNat * i.size=0
     ·rw[y9 hm0]
      rw[hm0] at hzf' |-
      rw[<- hzf']
      have e0:∀ f:Nat->Value,Array.map f (Array.range 0) = #[]:=fun f=>by rw[show Array.range 0 = #[] from rfl]; simp
      simp[newRow,e0]
     ·rw[y8 hm0]
      simp only[y12,z1,yq,y24,hzf']
      rfl
    have hexec:(execOp a.eval o).run P w = .ok (.value (.slice (some ⟨w.heap.size,0,none⟩) n.toNat m.toNat)) (w.alloc (.cells ((List.range m.toNat).flatMap fun _=>zv.cells.toList).toArray elem)):=by
     obtain⟨dst,op,ty,pos,after,guard⟩:=o
     subst ho
     exact zy (s:=Instr.makeSlice t (a.eval l) (a.eval c)) (by rw[hel,hec]; exact hrun)
    have hfl:=zd m.toNat i.size (fun _=>zv.cells.toList) (fun _ _=>hzl)
    obtain⟨k1,k2⟩:=hr.grow (Grow.alloc w (.cells ((List.range m.toNat).flatMap fun _=>zv.cells.toList).toArray elem))
    refine OpOk.value hexec (hK _ ms _ k1 ((Grow.alloc w _).ext ms) k2 (.one _ _ rfl (.d _ _ ?_)))
    have hM:(cxOf X ms L (w.alloc (.cells ((List.range m.toNat).flatMap fun _=>zv.cells.toList).toArray elem))).M w.heap.size=some ((List.range m.toNat).flatMap fun _=>zv.cells.toList).toArray :=
     z19 (fun hx=>by have:=hr.xlt _ hx; omega) (fun ho=>by have:=(hr.lt _ ho).1; omega) (z2e w _)
    refine .sl n.toNat _ w.heap.size 0 m.toNat i.size _ (fun _=>zv.cells.toList) om om hM (fun k hk=>?_) (fun _ _=>hzl) (fun k hk j hj=>?_)
    ·have:=hzc.mono k2
     cases this with
     | d _ _ h=>exact h
    ·rw[y14,y20]
     exact zh? m.toNat i.size (fun _=>zv.cells.toList) (fun _ _=>hzl) k j om hj
   ·cases h
  ·cases h
 ·cases h
def elemsO (L:List Ob):AV->Option (Nat×(Nat->AV)×List Prop)
 | .d (.sl n f)=>some (n,fun i=>.d (f i),[])
 | .full n f=>some (n,fun i=>.d (f i),[])
 | .ref o st off n=>match L[o]? with
  | some (.seq _ m f)=>some (n,fun i=>f (off+i),[m=st])
  | _=>none
 | _=>none
theorem zci (L:List Ob) (x:AV):elemsOf L x=elemsO L x:=by
 unfold elemsOf elemsO
 split
 ·rfl
 ·rfl
 ·first | (simp only[y14]; rfl) | simp only[y14]
 ·rfl
 ·rename_i h1 h2 h3 h4
  split
  ·exact absurd rfl (h1 _ _)
  ·exact absurd rfl (h2 _ _)
  ·exact absurd rfl (h4 _ _ _ _)
  ·rfl
theorem zk0 (_hr:Rel X ms L w) {x:AV} {f:Nat->AV} (h:elemsO L x=some (n,f,C)) (hk:k<=n) (hc:AllP C) (hu:AV.IsV (cxOf X ms L w) x u):∃ x' C' a cap,u = .slice a n cap/\elemsOf L x'=some (k,f,C')/\AllP C'/\AV.IsV (cxOf X ms L w) x' (.slice a k cap):=by
 unfold elemsO at h
 split at h
 ·cases h
  have hu':=IsV.is1 rfl sj sj hu
  cases hu' with
  | d _ _ hd =>
  obtain⟨a,cap,rfl,hle⟩:=z6i hd
  rename_i g
  refine⟨.d (.sl k g),[],a,cap,rfl,rfl,trivial,.one _ _ rfl (.d _ _ ?_)⟩
  cases hd with
  | slNil =>
   obtain rfl:k=0:=om
   exact .slNil _
  | slEmpty =>
   obtain rfl:k=0:=om
   exact .slEmpty _ _ _
  | sl _ _ b off cap sz arr cs h1 h2 hb hh hl hcs=>exact .sl _ _ b off cap sz arr cs om om hb (fun i hi=>hh i om) (fun i hi=>hl i om) (fun i hi=>hcs i om)
 ·cases h
  have hu':=IsV.is1 rfl sj sj hu
  cases hu' with
  | full _ _ a hd =>
  rename_i g
  refine⟨.d (.sl k g),[],a,_,rfl,rfl,trivial,.one _ _ rfl (.d _ _ ?_)⟩
  cases hd with
  | slNil =>
   obtain rfl:k=0:=om
   exact .slNil _
  | slEmpty =>
   obtain rfl:k=0:=om
   exact .slEmpty _ _ _
  | sl _ _ b off cap sz arr cs h1 h2 hb hh hl hcs=>exact .sl _ _ b off _ sz arr cs om om hb (fun i hi=>hh i om) (fun i hi=>hl i om) (fun i hi=>hcs i om)
 ·rename_i o st off n'
  split at h
  ·rename_i sz m g hL
   cases h
   have hu':=IsV.is1 rfl sj sj hu
   cases hu' with
   | ref _ _ _ _ _ hr' =>
   obtain⟨r1,⟨ra,rcap,rfl⟩,r3,r4⟩:=hr'
   refine⟨.ref o st off k,[m=st],ra,rcap,rfl,?_,hc,.one _ _ rfl (.ref _ _ _ _ _ ⟨r1,⟨_,_,rfl⟩,r3,fun sz' f' hL'=>?_⟩)⟩
   ·rw[zci]; simp[elemsO,hL]
   ·obtain⟨q1,q2⟩:=r4 sz' f' hL'
    refine⟨om,?_⟩
    rcases q2 with ⟨q2,a',q3⟩ | ⟨q2,q3⟩ | ⟨b,tc,q2,q3,q4⟩
    ·cases q3
     obtain rfl:k=0:=om
     exact .inl ⟨q2,_,rfl⟩
    ·exact .inr (.inl ⟨q2,om⟩)
    ·cases q4
     exact .inr (.inr ⟨b,tc,q2,q3,rfl⟩)
  ·cases h
 ·cases h
theorem zbk {a:Option Addr}:Builtin.firstCells sz k (.slice a n cap)=Builtin.firstCells sz k (.slice a m cap):=by
 cases a <;> rfl
def eCopy (P:Program) (L:List Ob) (t:TypeId) (d x:AV):Option (AV×List Ob×List Prop) :=
 match elemInfo P t,d,elemsO L x with
 | some (_,i),.ref o st off n,some (m,g,C)=>match L[o]? with
  | some (.seq sz m' f)=>if i.size=sz then some (.d (.i .i64 ((min m n:Nat):Int)),L.set o (.seq sz m' fun j=>if off<=j/\j<off+min m n then g (j-off) else f j),C++[m'=st,∀ k,k<m->(g k).wd=sz]) else none
  | _=>none
 | _,_,_=>none
theorem znz {d:Operand} {t':TypeId} {dv:AV} (ho:o.op = .call ⟨.builtin .copy,#[d,x],#[t,t']⟩) (hd:opnd G ch d=some dv) (hx:opnd G ch x=some xv) (h:eCopy P L t dv xv=some (av,L',C)) (hc:AllP C):OpOk P G ch L o av L':=by
 intro z zn X ms w a K Q hr hf hh hK
 unfold eCopy at h
 split at h
 ·rename_i elem i r st off n m g C' he hm
  split at h
  ·rename_i sz m' f hL
   split at h
   ·rename_i hsz
    cases h
    subst hsz
    obtain⟨hc1,hms,hwd,_⟩:=ze.1 hc
    subst hms
    obtain⟨hu,hi⟩:=z1v he
    have hsz:szOf P elem=some i.size:=by simp[szOf,hi]
    have hdv:=IsV.is1 rfl sj sj (zg hd hf hh)
    obtain⟨x',C2,sa,scap,e1,e2,e3,e4⟩:=zk0 hr hm (Nat.min_le_left m n) hc1 (zg hx hf hh)
    obtain⟨sa',scap',ks,e5,e6,e7,e8⟩:=z3d (P:=P) hr (sz:=i.size) e2 e3 e4 (fun k hk=>hwd k om)
    have hexec:∀ dw w',a.eval d=dw->(Builtin.copy_ #[t,t'] o.type #[dw,a.eval x]).run P w = .ok (.int .i64 ((min m n:Nat):Int)) w'->(execOp a.eval o).run P w = .ok (.value (.int .i64 ((min m n:Nat):Int))) w':=fun dw w' hde hv=>by
     obtain⟨dst,op,ty,pos,after,guard⟩:=o
     subst ho
     exact zy (s:=Builtin.copy_ #[t,t'] ty (#[d,x].map a.eval)) (by simpa [hde] using hv)
    generalize hse:a.eval d=u at hdv
    have hro:r<L.length:=by
     rcases yp r L.length with h' | h'
     ·exact h'
     ·rw[yi h'] at hL; cases hL
    cases hdv with
    | ref _ _ _ _ _ hx' =>
    obtain⟨h1,⟨ad,cap,rfl⟩,h0,h3⟩:=hx'
    have hfc:∀ w1:World,w1.heap=w.heap->(Builtin.firstCells i.size (min m n) (a.eval x)).run P w1 = .ok ((List.range (min m n)).flatMap ks).toArray w1:=fun w1 hw1=>by
     rw[e1,zbk (m:=min m n)]
     exact e8 w1 hw1
    have hlen:(Builtin.lenOf (a.eval x)).run P w = .ok m w:=by rw[e1]; simp[Builtin.lenOf]
    by_cases hn:min m n=0
    ·have hsame:(fun j=>if off<=j/\j<off+min m n then g (j-off) else f j)=f:=by
      funext j; rw[y8 om]
     rw[hsame,za4 hL] at hK
     refine OpOk.value (hexec _ w hse ?_) (hK _ ms w hr (Ext.refl _ _) (Cx.le.refl _) (z33 _ _))
     have hfc':=hfc w rfl
     rw[hn] at hfc'
     have hmn:(m.min n)=0:=hn
     cases ad <;> simp[Builtin.copy_,zl hu w,z18 hsz w,hlen,hmn,hfc',goInt,storeCells]
    ·obtain⟨hb,hcase⟩:=h3 i.size f hL
     rcases hcase with ⟨_,a',he'⟩ | ⟨_,he'⟩ | ⟨b,tc,hms,hle,he'⟩
     ·cases he'; omega
     ·omega
     ·cases he'
      obtain⟨arr,e,cs,g1,g2,g3,g4,g5,g6⟩:=hr.seq hL hms
      have hkl:=zd (min m n) i.size ks e7
      have hbl:off * i.size+((List.range (min m n)).flatMap ks).length<=arr.toList.length:=by
       rw[hkl,y1q,g3,<- y1s]
       exact ym i.size om
      obtain⟨w',r1,r2,r3,r4⟩:=z1u (P:=P) ((List.range (min m n)).flatMap ks) (off * i.size) 0 arr.toList w (by simpa using g1) om (z2v e6)
      obtain⟨q1,q2,q3⟩:=hr.setOb (w':=w') (obj':=.seq i.size m' fun j=>if off<=j/\j<off+min m n then g (j-off) else f j) hL hms r3 r4 rfl (fun s hs=>⟨s,hs,yf _⟩) (fun hcx=>by
       refine .inr ⟨b,tc,_,e,fun j=>if off<=j/\j<off+min m n then ks (j-off) else cs j,hms,r2,g2,⟨?_,z45 (hr.seqOne hL hms g1) (z2v e6)⟩,?_,?_,?_⟩
       ·have:(splice arr.toList (off * i.size+0) ((List.range (min m n)).flatMap ks)).length=arr.size:=by rw[z1p (by simpa using hbl)]; simp
        rw[y26,this]; exact g3
       ·intro j hj
        by_cases hjo:off<=j/\j<off+min m n
        ·simp only[y9 hjo]
         exact (e6 (j-off) om).mono hcx
        ·simp only[y8 hjo]
         exact (g4 j hj).mono hcx
       ·intro j hj
        by_cases hjo:off<=j/\j<off+min m n
        ·simp only[y9 hjo]; exact e7 (j-off) om
        ·simp only[y8 hjo]; exact g5 j hj
       ·intro j hj q hq
        simp only[y20,y2y]
        rw[zr? hbl]
        by_cases hjo:off<=j/\j<off+min m n
        ·have k1:off * i.size<=j * i.size:=ym i.size hjo.1
         have k2:(j+1) * i.size<=(off+min m n) * i.size:=ym i.size om
         rw[y1d,y1s] at k2
         rw[y9 (by rw[hkl]; omega)]
         simp only[y9 hjo]
         have k3:j * i.size+q-off * i.size=(j-off) * i.size+q:=by rw[Nat.sub_mul]; omega
         rw[k3]
         exact zh? (min m n) i.size ks e7 (j-off) q om hq
        ·rw[y8,y16]
         ·simp only[y8 hjo]; exact g6 j hj q hq
         ·rw[hkl]
          intro ⟨q1,q2⟩
          rcases yp j off with hlt | hge
          ·have:(j+1) * i.size<=off * i.size:=ym i.size hlt
           rw[y1d] at this; omega
          ·have:(off+min m n) * i.size<=j * i.size:=ym i.size om
           rw[y1s] at this; omega)
      refine OpOk.value (hexec _ w' hse ?_) (hK _ _ _ q1 q2 q3 (z33 _ _))
      have hfc':=hfc w rfl
      have hmn:(m.min n)=min m n:=rfl
      simp[Builtin.copy_,zl hu w,z18 hsz w,hlen,hmn,hfc',goInt,r1]
   ·cases h
  ·cases h
 ·cases h
def eAppPre (P:Program) (L:List Ob) (t:TypeId) (r st n:Nat) (x:AV):Option (AV×List Ob×List Prop) :=
 match elemInfo P t,elemsO L x,L[r]? with
 | some (_,i),some (m,g,C),some (.seq sz m' f) =>
  if i.size=sz then some (.ref r st 0 (n+m),L.set r (.seq sz m' fun j=>if n<=j/\j<n+m then g (j-n) else f j),C++[m'=st,n+m<=st,∀ k,k<m->(g k).wd=sz]) else none
 | _,_,_=>none
theorem zk1 (ho:o.op = .call ⟨.builtin .append,#[s,x],#[t,t]⟩) (hs:opnd G ch s=some (.ref r st 0 n)) (hx:opnd G ch x=some xv) (h:eAppPre P L t r st n xv=some (av,L',C)) (hc:AllP C):OpOk P G ch L o av L':=by
 intro zz zn X ms w a K Q hr hf hh hK
 unfold eAppPre at h
 split at h
 ·rename_i elem i m g C' sz m' f he hm hL
  split at h
  ·rename_i hsz
   cases h
   subst hsz
   obtain⟨hc1,hms,hns,hwd,_⟩:=ze.1 hc
   subst hms
   obtain⟨hu,hi⟩:=z1v he
   have hsz:szOf P elem=some i.size:=by simp[szOf,hi]
   have hsr:=IsV.is1 rfl sj sj (zg hs hf hh)
   obtain⟨sa,scap,ks,e1,e6,e7,e8⟩:=z3d (P:=P) hr (sz:=i.size) ((zci L xv).trans hm) hc1 (zg hx hf hh) hwd
   have hexec:∀ u v w',a.eval s=u->(Builtin.append_ #[t,t] o.type #[u,a.eval x]).run P w = .ok v w'->(execOp a.eval o).run P w = .ok (.value v) w':=fun u v w' hse hv=>by
    obtain⟨dst,op,ty,pos,after,guard⟩:=o
    subst ho
    exact zy (s:=Builtin.append_ #[t,t] ty (#[s,x].map a.eval)) (by simpa [hse] using hv)
   generalize hse:a.eval s=u at hsr
   cases hsr with
   | ref _ _ _ _ _ hrr =>
   obtain⟨r1,⟨ra,rcap,rfl⟩,r3,r4⟩:=hrr
   obtain⟨r5,r6⟩:=r4 i.size f hL
   by_cases hm0:m=0
   ·subst hm0
    have hsame:(fun j=>if n<=j/\j<n+0 then g (j-n) else f j)=f:=by
     funext j; rw[y8 om]
    rw[hsame,za4 hL] at hK
    have hcap:n<=rcap:=by
     rcases r6 with ⟨_,a',he'⟩ | ⟨h',_⟩ | ⟨b,tc,_,hle,he'⟩
     ·cases he'; exact yf _
     ·exact absurd rfl h'
     ·cases he'; omega
    have hrun:=z34 (P:=P) (w:=w) (ty:=o.type) (a:=ra) (n:=n) (cap:=rcap) (x:=a.eval x) hu hi ⟨_,_,e1⟩ hcap (fun w1 hw1=>by simpa using e8 w1 hw1)
    exact OpOk.value (hexec _ _ _ hse hrun) (hK _ ms w hr (Ext.refl _ _) (Cx.le.refl _) (.one _ _ rfl (.ref _ _ _ _ _ ⟨r1,⟨_,_,rfl⟩,r3,r4⟩)))
   ·rcases r6 with ⟨r7,a',he'⟩ | ⟨h',_⟩ | ⟨b,tc,hms,hle,he'⟩
    ·have:m'=0:=by
      rcases hr.obs r _ hL with ⟨_,h'⟩ | ⟨b',tc',arr',e',cs',h1',_⟩
      ·exact h'
      ·exact absurd (r7.symm.trans h1') sj
     omega
    ·exact absurd rfl h'
    ·simp only[y33,y3q,Nat.sub_zero] at he'
     obtain⟨rfl,_,rfl⟩:=he'
     obtain⟨arr,e,cs,g1,g2,g3,g4,g5,g6⟩:=hr.seq hL hms
     have hkl:=zd m i.size ks e7
     have hbl:n * i.size+((List.range m).flatMap ks).length<=arr.toList.length:=by
      rw[hkl,y1q,g3,<- y1s]
      exact ym i.size om
     obtain⟨w',k1,k2,k3,k4⟩:=z1u (P:=P) ((List.range m).flatMap ks) (n * i.size) 0 arr.toList w (by simpa using g1) om (z2v e6)
     have hfit:n+m<=rcap:=om
     have hrun:(Builtin.append_ #[t,t] o.type #[.slice (some ⟨b,0,none⟩) n rcap,a.eval x]).run P w = .ok (.slice (some ⟨b,0,none⟩) (n+m) rcap) w':=by
      have h4':=e8 w rfl
      rw[e1] at h4' |-
      simp[Builtin.append_,zl hu,z18 hsz,Builtin.lenOf,hfit,h4',z2d,k1]
     obtain⟨q1,q2,q3⟩:=hr.setOb (w':=w') (obj':=.seq i.size m' fun j=>if n<=j/\j<n+m then g (j-n) else f j) hL hms k3 k4 rfl (fun s hs=>⟨s,hs,yf _⟩) (fun hcx=>by
      refine .inr ⟨b,rcap,_,e,fun j=>if n<=j/\j<n+m then ks (j-n) else cs j,hms,k2,g2,⟨?_,z45 (hr.seqOne hL hms g1) (z2v e6)⟩,?_,?_,?_⟩
      ·have:(splice arr.toList (n * i.size+0) ((List.range m).flatMap ks)).length=arr.size:=by rw[z1p (by simpa using hbl)]; simp
       rw[y26,this]; exact g3
      ·intro j hj
       by_cases hjo:n<=j/\j<n+m
       ·simp only[y9 hjo]
        exact (e6 (j-n) om).mono hcx
       ·simp only[y8 hjo]
        exact (g4 j hj).mono hcx
      ·intro j hj
       by_cases hjo:n<=j/\j<n+m
       ·simp only[y9 hjo]; exact e7 (j-n) om
       ·simp only[y8 hjo]; exact g5 j hj
      ·intro j hj q hq
       simp only[y20,y2y]
       rw[zr? hbl]
       by_cases hjo:n<=j/\j<n+m
       ·have k1:n * i.size<=j * i.size:=ym i.size hjo.1
        have k2:(j+1) * i.size<=(n+m) * i.size:=ym i.size om
        rw[y1d,y1s] at k2
        rw[y9 (by rw[hkl]; omega)]
        simp only[y9 hjo]
        have k3:j * i.size+q-n * i.size=(j-n) * i.size+q:=by rw[Nat.sub_mul]; omega
        rw[k3]
        exact zh? m i.size ks e7 (j-n) q om hq
       ·rw[y8,y16]
        ·simp only[y8 hjo]; exact g6 j hj q hq
        ·rw[hkl]
         intro ⟨q1,q2⟩
         rcases yp j n with hlt | hge
         ·have:(j+1) * i.size<=n * i.size:=ym i.size hlt
          rw[y1d] at this; omega
         ·have:(n+m) * i.size<=j * i.size:=ym i.size om
          rw[y1s] at this; omega)
     have hro:r<L.length:=r1
     refine OpOk.value (hexec _ _ _ hse hrun) (hK _ _ _ q1 q2 q3 (.one _ _ rfl (.ref _ _ _ _ _ ⟨by simpa [cxOf] using hro,⟨_,_,rfl⟩,fun obj s' ho' hs'=>?_,fun sz' f' hL'=>⟨om,.inr (.inr ⟨b,rcap,hms,g2,sj⟩)⟩⟩)))
     simp only[cxOf] at ho'
     rw[yx hro] at ho'
     cases ho'
     simp[Ob.stamp] at hs'; omega
  ·cases h
 ·cases h
section
variable {α β:Type} [BEq α]
end
def LookOk (P:Program) (L:List Ob) (t:TypeId) (x k:AV) (ok:Bool) (v:AV):Prop :=
 ∀ (X:Nat->Prop) (ms:Blocks) (w:World) (ux uk:Value),Rel X ms L w->AV.IsV (cxOf X ms L w) x ux->AV.IsV (cxOf X ms L w) k uk ->
  ∃ r,(Instr.lookup t ux uk ok).run P w = .ok r w/\AV.IsV (cxOf X ms L w) v r
def EntOk (P:Program) (L:List Ob) (t:TypeId) (m k v:AV) (L':List Ob):Prop :=
 ∀ (X:Nat->Prop) (ms:Blocks) (w:World) (um uk:Value),Rel X ms L w->AV.IsV (cxOf X ms L w) m um->AV.IsV (cxOf X ms L w) k uk ->
  ∃ r w',(Instr.mapEntry t um uk).run P w = .ok r w'/\Rel X ms L' w'/\Ext ms w ms w'/\(cxOf X ms L w).le (cxOf X ms L' w')/\AV.IsV (cxOf X ms L' w') v r
def StoOk (P:Program) (L:List Ob) (t:TypeId) (m s x:AV) (L':List Ob):Prop :=
 ∀ (X:Nat->Prop) (ms:Blocks) (w:World) (um us ux:Value),Rel X ms L w->AV.IsV (cxOf X ms L w) m um->AV.IsV (cxOf X ms L w) s us->AV.IsV (cxOf X ms L w) x ux ->
  ∃ w',(Instr.entryStore t um us ux).run P w = .ok () w'/\Rel X ms L' w'/\Ext ms w ms w'/\(cxOf X ms L w).le (cxOf X ms L' w')
def UpdOk (P:Program) (L:List Ob) (t:TypeId) (m k x:AV) (L':List Ob):Prop :=
 ∀ (X:Nat->Prop) (ms:Blocks) (w:World) (um uk ux:Value),Rel X ms L w->AV.IsV (cxOf X ms L w) m um->AV.IsV (cxOf X ms L w) k uk->AV.IsV (cxOf X ms L w) x ux ->
  ∃ w',(Instr.mapUpdate t um uk ux).run P w = .ok () w'/\Rel X ms L' w'/\Ext ms w ms w'/\(cxOf X ms L w).le (cxOf X ms L' w')
section
variable {α β:Type} [BEq α] {P:Program} {L:List Ob} {t kt et:TypeId} {o:Nat} {eK:α->DV} {eV:β->DV} {l:List (α×β)}
end
section
variable {α β:Type} [BEq α] {P:Program} {L:List Ob} {t:TypeId} {o:Nat} {eK:α->DV} {eV:β->DV} {l:List (α×β)}
end
def AV.isBot:AV->Prop
 | .bot=>True
 | _=>False
instance (v:AV):Decidable v.isBot:=by cases v <;> unfold AV.isBot <;> infer_instance
theorem zi9 (ho:o.op = .makeMap t none):OpOk P G ch L o (.map L.length) (L++[.map []]):=by
 intro z zn X ms w a K Q hr hf hh hK
 obtain⟨h1,h2,h3⟩:=hr.push (w':=w.alloc (.map #[] 0)) (m:=some (w.heap.size,0)) (obj:=.map []) (Grow.alloc w _)
  (fun b tc e=>by cases e; exact⟨yf _,sj⟩)
  (fun hc=>⟨w.heap.size,0,#[],0,by simp[cxOf,<- hr.len],z2e w _,trivial,rfl,fun i e he=>by simp at he⟩)
 refine OpOk.value (u:=.map (some w.heap.size)) (w':=w.alloc (.map #[] 0)) ?_ (hK _ _ _ h1 h2 h3 (.one _ _ rfl (.map _ _ ⟨by simp[cxOf],rfl,fun es _=>⟨w.heap.size,0,by simp[cxOf,<- hr.len],rfl⟩⟩)))
 obtain⟨dst,op,ty,pos,after,guard⟩:=o
 subst ho
 exact zy (by simp[Instr.makeMap])
variable {v kv:AV}
theorem zo0 {k:Operand} {ok:Bool} (ho:o.op = .lookup t x k ok) (hx:opnd G ch x=some xv) (hk:opnd G ch k=some kv) (h:LookOk P L t xv kv ok v):OpOk P G ch L o v L:=by
 intro z zn X ms w a K Q hr hf hh hK
 obtain⟨r,h1,h2⟩:=h X ms w _ _ hr (zg hx hf hh) (zg hk hf hh)
 refine OpOk.value (u:=r) (w':=w) ?_ (hK _ _ _ hr (Ext.refl _ _) (Cx.le.refl _) h2)
 obtain⟨dst,op,ty,pos,after,guard⟩:=o
 subst ho
 exact zy h1
variable {mv:AV}
theorem zp8 {m k:Operand} (ho:o.op = .mapEntry t m k) (hm:opnd G ch m=some mv) (hk:opnd G ch k=some kv) (h:EntOk P L t mv kv v L'):OpOk P G ch L o v L':=by
 intro z zn X ms w a K Q hr hf hh hK
 obtain⟨r,w',h1,h2,h3,h4,h5⟩:=h X ms w _ _ hr (zg hm hf hh) (zg hk hf hh)
 refine OpOk.value (u:=r) (w':=w') ?_ (hK _ _ _ h2 h3 h4 h5)
 obtain⟨dst,op,ty,pos,after,guard⟩:=o
 subst ho
 exact zy h1
theorem znj {s:Sem Unit} (h:s.run P w = .ok () w'):(do s; pure .skip:Sem Next).run P w = .ok .skip w':=by
 simp[h]
variable {sv:AV}
theorem zp9 {m:Operand} (ho:o.op = .entryStore t m s x) (hm:opnd G ch m=some mv) (hs:opnd G ch s=some sv) (hx:opnd G ch x=some xv) (hv:v.isBot) (h:StoOk P L t mv sv xv L'):OpOk P G ch L o v L':=by
 intro z zn X ms w a K Q hr hf hh hK
 obtain⟨w',h1,h2,h3,h4⟩:=h X ms w _ _ _ hr (zg hm hf hh) (zg hs hf hh) (zg hx hf hh)
 cases v <;> simp[AV.isBot] at hv
 refine OpOk.skip (w':=w') ?_ (hK _ _ _ h2 h3 h4 (.bot _))
 obtain⟨dst,op,ty,pos,after,guard⟩:=o
 subst ho
 exact znj h1
theorem zpa {m:Operand} (ho:o.op = .mapUpdate t m s x) (hm:opnd G ch m=some mv) (hs:opnd G ch s=some sv) (hx:opnd G ch x=some xv) (hv:v.isBot) (h:UpdOk P L t mv sv xv L'):OpOk P G ch L o v L':=by
 intro z zn X ms w a K Q hr hf hh hK
 obtain⟨w',h1,h2,h3,h4⟩:=h X ms w _ _ _ hr (zg hm hf hh) (zg hs hf hh) (zg hx hf hh)
 cases v <;> simp[AV.isBot] at hv
 refine OpOk.skip (w':=w') ?_ (hK _ _ _ h2 h3 h4 (.bot _))
 obtain⟨dst,op,ty,pos,after,guard⟩:=o
 subst ho
 exact znj h1
def CallOk (P:Program) (f:FuncId) (args:List AV) (L:List Ob) (v:AV) (L':List Ob):Prop :=
 ∀ (X:Nat->Prop) (ms:Blocks) (w:World) (us:List Value),Rel X ms L w->AV.IsVs (cxOf X ms L w) args us ->
  Calls P f us.toArray w fun e w'=>∃ u ms',e = .returned u/\Rel X ms' L' w'/\Ext ms w ms' w'/\(cxOf X ms L w).le (cxOf X ms' L' w')/\AV.IsV (cxOf X ms' L' w') v u
def callable (P:Program) (f:FuncId):Bool:=match P.funcs[f]? with
 | some fn => !(fn.name == "runtime.NumGoroutine") && fn.body.isSome
 | none=>false
theorem AV.IsVs.append:∀ {as:List AV} {us:List Value} {bs:List AV} {vs:List Value},AV.IsVs c as us->AV.IsVs c bs vs->AV.IsVs c (as++bs) (us++vs)
 | _,_,_,_,.nil,h=>h
 | _,_,_,_,.cons _ _ _ _ h ht,h'=>.cons _ _ _ _ h (AV.IsVs.append ht h')
variable {f:FuncId} {as caps:List AV} {fo:Operand} {args:Array Operand} {ts:Array TypeId}
theorem z5e (ho:o.op = .call ⟨.value fo,args,ts⟩) (hf0:opnd G ch fo=some (.fn f caps)) (ha:opnds G ch args.toList=some as) (hcall:callable P f=true) (h:CallOk P f (as++caps) L v L'):OpOk P G ch L o v L':=by
 intro z zn X ms w a K Q hr hf hh hK
 have hfv:=IsV.is1 rfl sj sj (zg hf0 hf hh)
 have hav:=z4d hf hh ha
 generalize hfo:a.eval fo=u at hfv
 cases hfv with
 | fn _ _ vs hvs =>
 unfold callable at hcall
 split at hcall
 ·rename_i fn hfn
  simp only[yg,yv,y2u,ne_eq] at hcall
  have hexec:(execOp a.eval o).run P w = .ok (.enter f (args.toList.map a.eval++vs).toArray) w:=by
   obtain⟨dst,op,ty,pos,after,guard⟩:=o
   subst ho
   have hb:fn.body.isNone=false:=by
    cases hbd:fn.body with
    | none=>simp[hbd] at hcall
    | some _=>rfl
   simp only[execOp,resolve,hfo,Deferred.ofValue,y12,y24,yq,invoke,callFunc,run_program,hfn,hb,y1j,y32]
   rw[y8 (by simpa using hcall.1)]
   simp
  refine⟨fun f _=>z3w z f,?_⟩
  rw[z5i hexec sj]
  refine⟨z9l z zn,zdf ?_⟩
  refine (h X ms w _ hr (hav.append hvs)).mono fun e w' ⟨u,ms',he,h1,h2,h3,h4⟩=>?_
  subst he
  exact hK u ms' w' h1 h2 h3 h4
 ·cases hcall
def LeV (v v':AV):Prop:=∀ c u,AV.IsV c v u->AV.IsV c v' u
theorem LeV.refl (v:AV):LeV v v:=fun _ _ h=>h
structure OLe (x y:Ob):Prop where
 kind:x.kind=y.kind
 stamp:x.stamp=y.stamp
 is:∀ c w o,ObIs c w o x->ObIs c w o y
theorem Rel.recast (h:Rel X ms L w) {o:Nat} {x y:Ob} (hL:L[o]? = some x) (hxy:OLe x y) :
  Rel X ms (L.set o y) w/\(cxOf X ms L w).le (cxOf X ms (L.set o y) w):=by
 have hlt:o<L.length:=by
  rcases yp o L.length with h' | h'
  ·exact h'
  ·rw[yi h'] at hL; cases hL
 have hr:=h.step (ms':=ms) (L':=L.set o y) (w':=w) (Ext.refl _ _) (by simp[h.len]) h.lt h.inj sj (fun i x' hi hl hs=>by
  by_cases hio:o=i
  ·subst hio
   rw[yx hlt] at hl
   cases hl
   exact⟨x,hL,hxy.kind,fun s hs=>⟨s,by rw[<- hxy.stamp]; exact hs,yf _⟩,fun _=>rfl⟩
  ·rw[yz hio] at hl
   exact⟨x',hl,rfl,fun s hs=>⟨s,hs,yf _⟩,fun _=>rfl⟩) (fun i x' hl=>by
  by_cases hio:o=i
  ·subst hio
   rw[yx hlt] at hl
   cases hl
   exact .inr fun hc=>hxy.is _ _ _ ((h.obs o x hL).mono hc rfl (fun _ _ _=>rfl))
  ·rw[yz hio] at hl
   exact .inl ⟨hl,rfl,fun _ _ _=>rfl⟩)
 exact hr
mutual
def AV.ren (ρ:Nat->Nat):AV->AV
 | .agg fs=>.agg (AV.renL ρ fs)
 | .ptr o st p=>.ptr (ρ o) st p
 | .ref o st off n=>.ref (ρ o) st off n
 | .map o=>.map (ρ o)
 | .fn f caps=>.fn f (AV.renL ρ caps)
 | .tup vs=>.tup (AV.renL ρ vs)
 | .d x=>.d x
 | .full n f=>.full n f
 | .nq b n f=>.nq b n f
 | .err b=>.err b
 | .imm x=>.imm x
 | .bot=>.bot
 | .sel b sz x y=>.sel b sz (x.ren ρ) (y.ren ρ)
def AV.renL (ρ:Nat->Nat):List AV->List AV
 | []=>[]
 | x :: xs=>x.ren ρ :: AV.renL ρ xs
end
def Ob.ren (ρ:Nat->Nat):Ob->Ob
 | .box x=>.box (x.ren ρ)
 | .seq sz n f=>.seq sz n fun i=>(f i).ren ρ
 | .map es=>.map es
 | .dead=>.dead
 | .unb=>.unb
theorem Ob.ren_stamp (ρ:Nat->Nat) (o:Ob):(o.ren ρ).stamp=o.stamp:=by cases o <;> rfl
theorem Ob.ren_kind (ρ:Nat->Nat) (o:Ob):(o.ren ρ).kind=o.kind:=by cases o <;> rfl
theorem AV.ren_isAgg (ρ:Nat->Nat) (x:AV):(x.ren ρ).isAgg=x.isAgg:=by
 cases x <;> simp[AV.ren,AV.isAgg]
structure Ren (cc c:Cx) (ρ:Nat->Nat):Prop where
 M:cc.M=c.M
 lt:∀ k,k<cc.L.length->ρ k<c.L.length
 ge:∀ k,cc.L.length<=k->c.L.length<=ρ k
 L:∀ k,k<cc.L.length->c.L[ρ k]? = (cc.L[k]?).map (Ob.ren ρ)
 ms:∀ k,k<cc.L.length->c.ms[ρ k]? = cc.ms[k]?
section
variable {cc c:Cx} {ρ:Nat->Nat}
theorem Ren.bound (h:Ren cc c ρ) {o:Nat}:ρ o<c.L.length↔o<cc.L.length :=
 ⟨fun ho=>by
  rcases yp o cc.L.length with h' | h'
  ·exact h'
  ·have:=h.ge o h'; omega,h.lt o⟩
theorem Ren.ptr (h:Ren cc c ρ) {o:Nat} {p:List Stp} {v:Value}:PtrOk c (ρ o) st p v↔PtrOk cc o st p v:=by
 unfold PtrOk
 rw[h.bound]
 constructor
 ·rintro⟨h1,h2,h3,h4⟩
  refine⟨h1,h2,fun obj s ho hs=>h3 (obj.ren ρ) s (by rw[h.L o h1,ho]; rfl) (by rw[Ob.ren_stamp]; exact hs),fun obj ho hs=>?_⟩
  rw[<- h.ms o h1]
  exact h4 (obj.ren ρ) (by rw[h.L o h1,ho]; rfl) (by rw[Ob.ren_stamp]; exact hs)
 ·rintro⟨h1,h2,h3,h4⟩
  refine⟨h1,h2,fun obj s ho hs=>?_,fun obj ho hs=>?_⟩
  ·rw[h.L o h1] at ho
   cases hk:cc.L[o]? with
   | none=>rw[hk] at ho; cases ho
   | some x =>
    rw[hk] at ho; cases ho
    exact h3 x s hk (by rw[<- Ob.ren_stamp ρ]; exact hs)
  ·rw[h.L o h1] at ho
   cases hk:cc.L[o]? with
   | none=>rw[hk] at ho; cases ho
   | some x =>
    rw[hk] at ho; cases ho
    rw[h.ms o h1]
    exact h4 x hk (by rw[<- Ob.ren_stamp ρ]; exact hs)
theorem Ren.ref (h:Ren cc c ρ) {o:Nat} {v:Value}:RefOk c (ρ o) st off n v↔RefOk cc o st off n v:=by
 unfold RefOk
 rw[h.bound]
 constructor
 ·rintro⟨h1,h2,h3,h4⟩
  refine⟨h1,h2,fun obj s ho hs=>h3 (obj.ren ρ) s (by rw[h.L o h1,ho]; rfl) (by rw[Ob.ren_stamp]; exact hs),fun sz f ho=>?_⟩
  rw[<- h.ms o h1]
  exact h4 sz _ (by rw[h.L o h1,ho]; rfl)
 ·rintro⟨h1,h2,h3,h4⟩
  refine⟨h1,h2,fun obj s ho hs=>?_,fun sz f ho=>?_⟩
  ·rw[h.L o h1] at ho
   cases hk:cc.L[o]? with
   | none=>rw[hk] at ho; cases ho
   | some x =>
    rw[hk] at ho; cases ho
    exact h3 x s hk (by rw[<- Ob.ren_stamp ρ]; exact hs)
  ·rw[h.L o h1] at ho
   cases hk:cc.L[o]? with
   | none=>rw[hk] at ho; cases ho
   | some x =>
    rw[hk] at ho
    cases x <;> simp[Ob.ren] at ho
    obtain⟨rfl,rfl,_⟩:=ho
    rw[h.ms o h1]
    exact h4 _ _ hk
theorem Ren.map (h:Ren cc c ρ) {o:Nat} {v:Value}:MapOk c (ρ o) v↔MapOk cc o v:=by
 unfold MapOk
 rw[h.bound]
 constructor
 ·rintro⟨h1,h2,h3⟩
  refine⟨h1,h2,fun es ho=>?_⟩
  rw[<- h.ms o h1]
  exact h3 _ (by rw[h.L o h1,ho]; rfl)
 ·rintro⟨h1,h2,h3⟩
  refine⟨h1,h2,fun es ho=>?_⟩
  rw[h.L o h1] at ho
  cases hk:cc.L[o]? with
  | none=>rw[hk] at ho; cases ho
  | some x =>
   rw[hk] at ho
   cases x <;> simp[Ob.ren] at ho
   rw[h.ms o h1]
   exact h3 _ hk
mutual
theorem AV.Is.out (h:Ren cc c ρ) {x:AV} {cs:List Value}:AV.Is cc x cs->AV.Is c (x.ren ρ) cs
 | .d x cs hx=>by rw[AV.ren]; exact .d x cs (h.M▸hx)
 | .full n f a hx=>by rw[AV.ren]; exact .full n f a (h.M▸hx)
 | .nq b n f v hx hb=>by rw[AV.ren]; exact .nq b n f v (h.M▸hx) hb
 | .err b v hx=>by rw[AV.ren]; exact .err b v hx
 | .agg gs cs hx=>by rw[AV.ren]; exact .agg _ cs (AV.IsL.out h hx)
 | .ptr o st path v hx=>by rw[AV.ren]; exact .ptr _ st path v (h.ptr.2 hx)
 | .imm x b off ar cs hb hx hc'=>by rw[AV.ren]; exact .imm x b off ar cs (h.M▸hb) (h.M▸hx) hc'
 | .ref o st off n v hx=>by rw[AV.ren]; exact .ref _ st off n v (h.ref.2 hx)
 | .map o v hx=>by rw[AV.ren]; exact .map _ v (h.map.2 hx)
 | .fn f caps vs hx=>by rw[AV.ren]; exact .fn f _ vs (AV.IsVs.out h hx)
 | .bot v hx=>by rw[AV.ren]; exact .bot v hx
 | .selT sz x y cs hx hl=>by rw[AV.ren]; exact .selT sz _ _ cs (AV.Is.out h hx) hl
 | .selF sz x y cs hx hl=>by rw[AV.ren]; exact .selF sz _ _ cs (AV.Is.out h hx) hl
theorem AV.IsL.out (h:Ren cc c ρ) {xs:List AV} {cs:List Value}:AV.IsL cc xs cs->AV.IsL c (AV.renL ρ xs) cs
 | .nil=>by rw[AV.renL]; exact .nil
 | .cons x xs k ks hx ht=>by rw[AV.renL]; exact .cons _ _ k ks (AV.Is.out h hx) (AV.IsL.out h ht)
theorem AV.IsV.out (h:Ren cc c ρ) {x:AV} {v:Value}:AV.IsV cc x v->AV.IsV c (x.ren ρ) v
 | .agg av cs ha hx=>.agg _ cs (by rw[AV.ren_isAgg]; exact ha) (AV.Is.out h hx)
 | .one av v ha hx=>.one _ v (by rw[AV.ren_isAgg]; exact ha) (AV.Is.out h hx)
 | .tup vs us hx=>by rw[AV.ren]; exact .tup _ us (AV.IsVs.out h hx)
 | .bot v=>by rw[AV.ren]; exact .bot v
theorem AV.IsVs.out (h:Ren cc c ρ) {xs:List AV} {vs:List Value}:AV.IsVs cc xs vs->AV.IsVs c (AV.renL ρ xs) vs
 | .nil=>by rw[AV.renL]; exact .nil
 | .cons x xs v vs hx ht=>by rw[AV.renL]; exact .cons _ _ v vs (AV.IsV.out h hx) (AV.IsVs.out h ht)
end
theorem AV.IsV.into1 (x:AV) (v:Value) (h1:∀ vs,x≠.tup vs) (h2:x≠.bot) (hi:∀ cs,AV.Is c (x.ren ρ) cs->AV.Is cc x cs) (hx:AV.IsV c (x.ren ρ) v):AV.IsV cc x v:=by
 generalize hy:x.ren ρ=y at hx
 cases hx with
 | agg _ cs ha hx=>subst hy; exact .agg _ cs (by rw[<- AV.ren_isAgg ρ]; exact ha) (hi cs hx)
 | one _ _ ha hx=>subst hy; exact .one _ _ (by rw[<- AV.ren_isAgg ρ]; exact ha) (hi _ hx)
 | tup vs us _=>cases x <;> simp[AV.ren] at hy; exact absurd rfl (h1 _)
 | bot=>cases x <;> simp[AV.ren] at hy; exact absurd rfl h2
mutual
theorem AV.Is.into (h:Ren cc c ρ):∀ (x:AV) (cs:List Value),AV.Is c (x.ren ρ) cs->AV.Is cc x cs
 | .d x,cs,hx=>by
  rw[AV.ren] at hx
  cases hx with
  | d _ _ hx=>exact .d _ _ (h.M▸hx)
 | .full n f,cs,hx=>by
  rw[AV.ren] at hx
  cases hx with
  | full _ _ a hx=>exact .full _ _ a (h.M▸hx)
 | .nq b n f,cs,hx=>by
  rw[AV.ren] at hx
  cases hx with
  | nq _ _ _ v hx hb=>exact .nq _ _ _ v (h.M▸hx) hb
 | .err b,cs,hx=>by
  rw[AV.ren] at hx
  cases hx with
  | err _ v hx=>exact .err _ v hx
 | .agg gs,cs,hx=>by
  rw[AV.ren] at hx
  cases hx with
  | agg _ _ hx=>exact .agg _ _ (AV.IsL.into h gs cs hx)
 | .ptr o st p,cs,hx=>by
  rw[AV.ren] at hx
  cases hx with
  | ptr _ _ _ v hx=>exact .ptr _ _ _ v (h.ptr.1 hx)
 | .imm x,cs,hx=>by
  rw[AV.ren] at hx
  cases hx with
  | imm _ b off ar ks hb hx hc=>exact .imm _ b off ar ks (h.M▸hb) (h.M▸hx) hc
 | .ref o st off n,cs,hx=>by
  rw[AV.ren] at hx
  cases hx with
  | ref _ _ _ _ v hx=>exact .ref _ _ _ _ v (h.ref.1 hx)
 | .map o,cs,hx=>by
  rw[AV.ren] at hx
  cases hx with
  | map _ v hx=>exact .map _ v (h.map.1 hx)
 | .fn f caps,cs,hx=>by
  rw[AV.ren] at hx
  cases hx with
  | fn _ _ vs hx=>exact .fn _ _ vs (AV.IsVs.into h caps vs hx)
 | .tup vs,cs,hx=>by
  rw[AV.ren] at hx
  cases hx
 | .bot,cs,hx=>by
  rw[AV.ren] at hx
  cases hx with
  | bot v hx=>exact .bot v hx
 | .sel b sz x y,cs,hx=>by
  rw[AV.ren] at hx
  cases hx with
  | selT _ _ _ _ hx hl=>exact .selT _ _ _ _ (AV.Is.into h x cs hx) hl
  | selF _ _ _ _ hx hl=>exact .selF _ _ _ _ (AV.Is.into h y cs hx) hl
theorem AV.IsL.into (h:Ren cc c ρ):∀ (xs:List AV) (cs:List Value),AV.IsL c (AV.renL ρ xs) cs->AV.IsL cc xs cs
 | [],cs,hx=>by
  rw[AV.renL] at hx
  cases hx
  exact .nil
 | x :: xs,cs,hx=>by
  rw[AV.renL] at hx
  cases hx with
  | cons _ _ k ks hx ht=>exact .cons _ _ k ks (AV.Is.into h x k hx) (AV.IsL.into h xs ks ht)
theorem AV.IsV.into (h:Ren cc c ρ):∀ (x:AV) (v:Value),AV.IsV c (x.ren ρ) v->AV.IsV cc x v
 | .tup vs,v,hx=>by
  rw[AV.ren] at hx
  cases hx with
  | agg _ _ ha=>cases ha
  | one _ _ ha hx=>cases hx
  | tup _ us hx=>exact .tup _ us (AV.IsVs.into h vs us hx)
 | .bot,v,hx=>.bot v
 | .d x,v,hx=>AV.IsV.into1 (.d x) v sj sj (fun cs=>AV.Is.into h (.d x) cs) hx
 | .err b,v,hx=>AV.IsV.into1 (.err b) v sj sj (fun cs=>AV.Is.into h (.err b) cs) hx
 | .nq b n f,v,hx=>AV.IsV.into1 (.nq b n f) v sj sj (fun cs=>AV.Is.into h (.nq b n f) cs) hx
 | .full n f,v,hx=>AV.IsV.into1 (.full n f) v sj sj (fun cs=>AV.Is.into h (.full n f) cs) hx
 | .agg gs,v,hx=>AV.IsV.into1 (.agg gs) v sj sj (fun cs=>AV.Is.into h (.agg gs) cs) hx
 | .ptr o st p,v,hx=>AV.IsV.into1 (.ptr o st p) v sj sj (fun cs=>AV.Is.into h (.ptr o st p) cs) hx
 | .imm x,v,hx=>AV.IsV.into1 (.imm x) v sj sj (fun cs=>AV.Is.into h (.imm x) cs) hx
 | .ref o st off n,v,hx=>AV.IsV.into1 (.ref o st off n) v sj sj (fun cs=>AV.Is.into h (.ref o st off n) cs) hx
 | .map o,v,hx=>AV.IsV.into1 (.map o) v sj sj (fun cs=>AV.Is.into h (.map o) cs) hx
 | .sel b sz x y,v,hx=>AV.IsV.into1 (.sel b sz x y) v sj sj (fun cs=>AV.Is.into h (.sel b sz x y) cs) hx
 | .fn f caps,v,hx=>AV.IsV.into1 (.fn f caps) v sj sj (fun cs=>AV.Is.into h (.fn f caps) cs) hx
theorem AV.IsVs.into (h:Ren cc c ρ):∀ (xs:List AV) (vs:List Value),AV.IsVs c (AV.renL ρ xs) vs->AV.IsVs cc xs vs
 | [],vs,hx=>by
  rw[AV.renL] at hx
  cases hx
  exact .nil
 | x :: xs,vs,hx=>by
  rw[AV.renL] at hx
  cases hx with
  | cons _ _ v vs hx ht=>exact .cons _ _ v vs (AV.IsV.into h x v hx) (AV.IsVs.into h xs vs ht)
end
end
def setAll {α:Type}:List α->List Nat->List α->List α
 | L,[],_=>L
 | L,i :: σ,x :: xs=>setAll (L.set i x) σ xs
 | L,_ :: _,[]=>L
theorem z2j {α:Type}:∀ (σ:List Nat) (xs L:List α),(setAll L σ xs).length=L.length
 | [],xs,L=>by simp[setAll]
 | i :: σ,[],L=>by simp[setAll]
 | i :: σ,x :: xs,L=>by simp[setAll,z2j σ xs]
theorem z71 {α:Type}:∀ (σ:List Nat) (xs L:List α) (i:Nat),i ∉ σ->(setAll L σ xs)[i]? = L[i]?
 | [],xs,L,i,_=>by simp[setAll]
 | j :: σ,[],L,i,_=>by simp[setAll]
 | j :: σ,x :: xs,L,i,h=>by
  simp only[yu,y4g] at h
  rw[setAll,z71 σ xs _ i h.2,yz (fun e=>h.1 e.symm)]
theorem zar {α:Type}:∀ (σ:List Nat) (xs L:List α) (k i:Nat),σ.Nodup->σ[k]? = some i->k<xs.length->i<L.length->(setAll L σ xs)[i]? = xs[k]?
 | [],xs,L,k,i,_,h,_,_=>by simp at h
 | j :: σ,[],L,k,i,_,_,h,_=>by simp at h
 | j :: σ,x :: xs,L,0,i,hn,h,_,hi=>by
  simp at h; subst h
  rw[setAll,z71 σ xs _ j (List.nodup_cons.1 hn).1,yx hi]
  simp
 | j :: σ,x :: xs,L,k+1,i,hn,h,hk,hi=>by
  rw[setAll,zar σ xs _ k i (List.nodup_cons.1 hn).2 (by simpa using h) (by simpa using hk) (by simpa using hi)]
  simp
def glue (L:List α) (σ:List Nat) (xs:List α):List α:=setAll L σ xs++xs.drop σ.length
def rho (σ:List Nat) (n k:Nat):Nat:=(σ[k]?).getD (n+(k-σ.length))
variable {σ:List Nat}
theorem z2p (hk:k<σ.length):σ[k]? = some (rho σ n k):=by
 simp[rho,List.getElem?_eq_getElem hk]
theorem z83 (hk:σ.length<=k):rho σ n k=n+(k-σ.length):=by
 simp[rho,List.getElem?_eq_none hk]
variable {xs:List α}
theorem z2o {L:List α} (hn:σ.Nodup) (hlt:∀ i∈σ,i<L.length) (hk:k<xs.length) :
  (glue L σ xs)[rho σ L.length k]? = xs[k]? := by
 unfold glue
 rcases yp k σ.length with h | h
 ·have e:=z2p (n:=L.length) h
  have:=hlt _ (y31 e)
  rw[yk (by rw[z2j]; exact this),zar σ xs L k _ hn e hk this]
 ·rw[z83 h,y1c (by rw[z2j]; omega),z2j,y2i]
  congr 1; omega
theorem z1z {L:List α}:(glue L σ xs).length=L.length+(xs.length-σ.length):=by simp[glue,z2j]
theorem z2w {L:List α} (h:i ∉ σ) (hi:i<L.length):(glue L σ xs)[i]? = L[i]? := by
 unfold glue
 rw[yk (by rw[z2j]; exact hi),z71 _ _ _ _ h]
theorem zk2 {L:List α} (hlt:∀ i∈σ,i<L.length) (hk:k<xs.length):rho σ L.length k<L.length+(xs.length-σ.length):=by
 rcases yp k σ.length with h | h
 ·have:=hlt _ (y31 (z2p (n:=L.length) h)); omega
 ·rw[z83 h]; omega
theorem z56 {L:List α} (hl:σ.length<=xs.length) (hi:i<L.length+(xs.length-σ.length)):(∃ k,k<xs.length/\i=rho σ L.length k)\/(i<L.length/\i ∉ σ):=by
 by_cases h:i∈σ
 ·obtain⟨k,hk,e⟩:=y3f h
  exact .inl ⟨k,om,by simp[rho,List.getElem?_eq_getElem hk,e]⟩
 ·rcases yp i L.length with h' | h'
  ·exact .inr ⟨h',h⟩
  ·exact .inl ⟨σ.length+(i-L.length),om,by rw[z83 om]; omega⟩
def xOf (X:Nat->Prop) (ms:Blocks) (σ:List Nat) (b:Nat):Prop:=X b\/∃ o tc:Nat,o ∉ σ/\ms[o]? = some (some (b,tc))
theorem zas {ks:Blocks} (hn:σ.Nodup) (hlt:∀ i∈σ,i<ms.length) (hl:σ.length<=ks.length) (b:Nat) :
  (X b\/owned (glue ms σ ks) b)↔(xOf X ms σ b\/owned ks b):=by
 constructor
 ·rintro (h | ⟨o,tc,h⟩)
  ·exact .inl (.inl h)
  ·have hi:o<ms.length+(ks.length-σ.length):=by
    rw[<- z1z]
    rcases yp o (glue ms σ ks).length with h' | h'
    ·exact h'
    ·rw[yi h'] at h; cases h
   rcases z56 hl hi with ⟨k,hk,rfl⟩ | ⟨h1,h2⟩
   ·rw[z2o hn hlt hk] at h
    exact .inr ⟨k,tc,h⟩
   ·rw[z2w h2 h1] at h
    exact .inl (.inr ⟨o,tc,h2,h⟩)
 ·rintro ((h | ⟨o,tc,h1,h2⟩) | ⟨k,tc,h⟩)
  ·exact .inl h
  ·have hi:o<ms.length:=by
    rcases yp o ms.length with h' | h'
    ·exact h'
    ·rw[yi h'] at h2; cases h2
   exact .inr ⟨o,tc,by rw[z2w h1 hi]; exact h2⟩
  ·have hk:k<ks.length:=by
    rcases yp k ks.length with h' | h'
    ·exact h'
    ·rw[yi h'] at h; cases h
   exact .inr ⟨_,tc,by rw[z2o hn hlt hk]; exact h⟩
theorem z9n {Y:Nat->Prop} {ks:Blocks} (h:∀ b,(X b\/owned ms b)↔(Y b\/owned ks b)):memOf X ms w=memOf Y ks w:=by
 funext b
 unfold memOf
 by_cases hb:X b\/owned ms b
 ·rw[y9 hb,y9 ((h b).1 hb)]
 ·rw[y8 hb,y8 (fun h'=>hb ((h b).2 h'))]
theorem zcj {L:List α} (hn:σ.Nodup) (hlt:∀ i∈σ,i<L.length) (hl:σ.length=xs.length) (h:∀ k i:Nat,σ[k]? = some i->L[i]? = xs[k]?):glue L σ xs=L:=by
 apply y2q
 intro i
 rcases yp i L.length with hi | hi
 ·by_cases hm:i∈σ
  ·obtain⟨k,hk,e⟩:=y3f hm
   have e1:σ[k]? = some i:=by rw[yc hk,e]
   have e2:rho σ L.length k=i:=by simp[rho,e1]
   rw[<- e2,z2o hn hlt om,e2]
   exact (h k i e1).symm
  ·exact z2w hm hi
 ·rw[yi hi,yi (by rw[z1z]; omega)]
variable {cc:Cx} {ρ:Nat->Nat}
theorem EntsIs.into (h:Ren cc c ρ):∀ {es:List (DV×DV)} {r:List MapEntry},EntsIs c es r->EntsIs cc es r
 | [],[],_=>trivial
 | (k,v) :: es,e :: r,hx=>⟨AV.IsV.into h (.d k) _ (by rw[AV.ren]; exact hx.1),AV.IsV.into h (.d v) _ (by rw[AV.ren]; exact hx.2.1),EntsIs.into h hx.2.2⟩
 | [],_ :: _,hx=>hx.elim
 | _ :: _,[],hx=>hx.elim
theorem EntsIs.out (h:Ren cc c ρ):∀ {es:List (DV×DV)} {r:List MapEntry},EntsIs cc es r->EntsIs c es r
 | [],[],_=>trivial
 | (k,v) :: es,e :: r,hx=>⟨by have:=hx.1.out h; rw[AV.ren] at this; exact this,by have:=hx.2.1.out h; rw[AV.ren] at this; exact this,EntsIs.out h hx.2.2⟩
 | [],_ :: _,hx=>hx.elim
 | _ :: _,[],hx=>hx.elim
variable {obj:Ob}
theorem ObIs.into (h:Ren cc c ρ) (hk:k<cc.L.length) (hx:ObIs c w (ρ k) (obj.ren ρ)):ObIs cc w k obj:=by
 have hm:=h.ms k hk
 cases obj with
 | box x =>
  rcases hx with hx | ⟨b,tc,arr,e,h1,h2,h3⟩
  ·exact .inl (hm▸hx)
  ·exact .inr ⟨b,tc,arr,e,hm▸h1,h2,AV.Is.into h _ _ h3⟩
 | seq sz m f =>
  rcases hx with hx | ⟨b,tc,arr,e,cs,h1,h2,h3,h4,h5,h6⟩
  ·exact .inl ⟨hm▸hx.1,hx.2⟩
  ·exact .inr ⟨b,tc,arr,e,cs,hm▸h1,h2,h3,h4,fun i hi=>AV.Is.into h _ _ (h5 i hi),h6⟩
 | map es =>
  obtain⟨b,tc,ents,clock,h1,h2,h3,h4⟩:=hx
  exact⟨b,tc,ents,clock,hm▸h1,h2,EntsIs.into h h3,h4⟩
 | dead=>trivial
 | unb=>exact hm.symm.trans hx
theorem ObIs.out (h:Ren cc c ρ) (hk:k<cc.L.length) (hx:ObIs cc w k obj):ObIs c w (ρ k) (obj.ren ρ):=by
 have hm:=h.ms k hk
 cases obj with
 | box x =>
  rcases hx with hx | ⟨b,tc,arr,e,h1,h2,h3⟩
  ·exact .inl (hm.trans hx)
  ·exact .inr ⟨b,tc,arr,e,hm.trans h1,h2,h3.out h⟩
 | seq sz m f =>
  rcases hx with hx | ⟨b,tc,arr,e,cs,h1,h2,h3,h4,h5,h6⟩
  ·exact .inl ⟨hm.trans hx.1,hx.2⟩
  ·exact .inr ⟨b,tc,arr,e,cs,hm.trans h1,h2,h3,h4,fun i hi=>(h5 i hi).out h,h6⟩
 | map es =>
  obtain⟨b,tc,ents,clock,h1,h2,h3,h4⟩:=hx
  exact⟨b,tc,ents,clock,hm.trans h1,h2,h3.out h,h4⟩
 | dead=>trivial
 | unb=>exact hm.trans hx
theorem CallOk.frame {Lc Lc':List Ob} (h:CallOk P f as Lc v Lc') (σ:List Nat) (hn:σ.Nodup) (hlt:∀ i∈σ,i<L.length) (hlen:σ.length=Lc.length) (hlen':Lc.length<=Lc'.length) (hL:∀ k i:Nat,σ[k]? = some i->L[i]? = (Lc[k]?).map (Ob.ren (rho σ L.length))) :
  CallOk P f (AV.renL (rho σ L.length) as) L (v.ren (rho σ L.length)) (glue L σ (Lc'.map (Ob.ren (rho σ L.length)))):=by
 intro X ms w us hr hu
 have hltm:∀ i∈σ,i<ms.length:=fun i hi=>by rw[hr.len]; exact hlt i hi
 have hml:ms.length=L.length:=hr.len
 -- the callee's view
 let ks:Blocks:=σ.map fun i=>(ms[i]?).getD none
 have hks:∀ k i:Nat,σ[k]? = some i->ks[k]? = ms[i]? := fun k i e=>by
  have:=hltm i (y31 e)
  simp[ks,List.getElem?_map,e,List.getElem?_eq_getElem this]
 have hkl:ks.length=σ.length:=by simp[ks]
 have hself:glue ms σ ks=ms:=zcj hn hltm hkl.symm (fun k i e=>(hks k i e).symm)
 have hown:=zas (X:=X) hn hltm (Nat.le_of_eq hkl.symm)
 rw[hself] at hown
 have hmem:memOf (xOf X ms σ) ks w=memOf X ms w:=(z9n hown).symm
 have hren:Ren (cxOf (xOf X ms σ) ks Lc w) (cxOf X ms L w) (rho σ L.length):=by
  refine⟨hmem,fun k hk=>?_,fun k hk=>?_,fun k hk=>?_,fun k hk=>?_⟩
  ·simp only[cxOf] at hk
   exact hlt _ (y31 (z2p (n:=L.length) om))
  ·simp only[cxOf] at hk |-
   rw[z83 om]; omega
  ·simp only[cxOf] at hk |-
   exact hL k _ (z2p om)
  ·simp only[cxOf] at hk |-
   exact (hks k _ (z2p om)).symm
 have hrc:Rel (xOf X ms σ) ks Lc w:=by
  refine⟨om,fun b hb=>?_,fun b hb=>?_,fun o o' b tc tc' h1 h2=>?_,fun k obj hk=>?_,by rw[hmem]; exact hr.glob⟩
  ·obtain⟨k,tc,e⟩:=hb
   have hk:k<σ.length:=by
    rcases yp k ks.length with h' | h'
    ·omega
    ·rw[yi h'] at e; cases e
   have e1:=hks k _ (z2p (n:=L.length) hk)
   rw[e] at e1
   obtain⟨l1,l2⟩:=hr.lt b ⟨_,tc,e1.symm⟩
   refine⟨l1,?_⟩
   rintro (hx | ⟨o,tc',h1,h2⟩)
   ·exact l2 hx
   ·have:=hr.inj _ _ b tc' tc h2 e1.symm
    subst this
    exact h1 (y31 (z2p (n:=L.length) hk))
  ·rcases hb with hb | ⟨o,tc,_,h2⟩
   ·exact hr.xlt b hb
   ·exact (hr.lt b ⟨o,tc,h2⟩).1
  ·have hk:o<σ.length:=by
    rcases yp o ks.length with h' | h'
    ·omega
    ·rw[yi h'] at h1; cases h1
   have hk':o'<σ.length:=by
    rcases yp o' ks.length with h' | h'
    ·omega
    ·rw[yi h'] at h2; cases h2
   have e1:=hks o _ (z2p (n:=L.length) hk)
   have e2:=hks o' _ (z2p (n:=L.length) hk')
   rw[h1] at e1; rw[h2] at e2
   have:=hr.inj _ _ b tc tc' e1.symm e2.symm
   have e3:=z2p (n:=L.length) hk
   have e4:=z2p (n:=L.length) hk'
   rw[this] at e3
   have g1:σ[o]=rho σ L.length o':=by rw[yc hk] at e3; exact yn e3
   have g2:σ[o']=rho σ L.length o':=by rw[yc hk'] at e4; exact yn e4
   exact (List.getElem_inj hn).1 (g1.trans g2.symm)
  ·have hkl':k<Lc.length:=by
    rcases yp k Lc.length with h' | h'
    ·exact h'
    ·rw[yi h'] at hk; cases hk
   refine ObIs.into hren hkl' ?_
   refine hr.obs _ _ ?_
   rw[hL k _ (z2p om),hk]; rfl
 refine (h (xOf X ms σ) ks w us hrc (AV.IsVs.into hren as us hu)).mono ?_
 rintro e w' ⟨u,ks',rfl,r1,e1,c1,v1⟩
 have hkl':ks'.length=Lc'.length:=r1.len
 have hsk:σ.length<=ks'.length:=om
 have hsl:σ.length<=(Lc'.map (Ob.ren (rho σ L.length))).length:=sk
 have hown':=zas (X:=X) hn hltm hsk
 have hmem':memOf (xOf X ms σ) ks' w'=memOf X (glue ms σ ks') w':=(z9n hown').symm
 have hglen:(glue ms σ ks').length=(glue L σ (Lc'.map (Ob.ren (rho σ L.length)))).length:=by
  rw[z1z,z1z]; simp; omega
 have hgL:(glue L σ (Lc'.map (Ob.ren (rho σ L.length)))).length=L.length+(Lc'.length-σ.length):=by rw[z1z]; simp
 have hren':Ren (cxOf (xOf X ms σ) ks' Lc' w') (cxOf X (glue ms σ ks') (glue L σ (Lc'.map (Ob.ren (rho σ L.length)))) w') (rho σ L.length):=by
  refine⟨hmem',fun k hk=>?_,fun k hk=>?_,fun k hk=>?_,fun k hk=>?_⟩
  ·simp only[cxOf] at hk |-
   rw[z1z]
   exact zk2 hlt (by simpa using hk)
  ·simp only[cxOf] at hk |-
   rw[hgL,z83 om]; omega
  ·simp only[cxOf] at hk |-
   rw[z2o hn hlt (by simpa using hk),y25]
  ·simp only[cxOf] at hk |-
   rw[<- hml,z2o hn hltm om]
 have hkeep:∀ b,b<w.heap.size->¬ owned ms b->w'.heap[b]? = w.heap[b]? /\ ¬ owned (glue ms σ ks') b:=fun b hb hb'=>by
  have hkn:¬ owned ks b:=fun⟨k,tc,e⟩=>by
   have hk:k<σ.length:=by
    rcases yp k ks.length with h' | h'
    ·omega
    ·rw[yi h'] at e; cases e
   have e1:=hks k _ (z2p (n:=L.length) hk)
   rw[e] at e1
   exact hb' ⟨_,tc,e1.symm⟩
  obtain⟨g1,g2⟩:=e1.keep b hb hkn
  refine⟨g1,fun ho=>?_⟩
  obtain⟨o,tc,ho⟩:=ho
  have hi:o<ms.length+(ks'.length-σ.length):=by
   rw[<- z1z]
   rcases yp o (glue ms σ ks').length with h' | h'
   ·exact h'
   ·rw[yi h'] at ho; cases ho
  rcases z56 hsk hi with ⟨k,hk,rfl⟩ | ⟨l1,l2⟩
  ·rw[z2o hn hltm hk] at ho
   exact g2 ⟨k,tc,ho⟩
  ·rw[z2w l2 l1] at ho
   exact hb' ⟨o,tc,ho⟩
 have hext:Ext ms w (glue ms σ ks') w':=⟨e1.size,hkeep,e1.out⟩
 have hle:(cxOf X ms L w).le (cxOf X (glue ms σ ks') (glue L σ (Lc'.map (Ob.ren (rho σ L.length)))) w'):=by
  refine⟨hext.memLe,by simp only[cxOf]; omega,fun o obj' ho hl hs=>?_⟩
  simp only[cxOf] at ho hl |-
  by_cases hm:o∈σ
  ·obtain⟨k,hk,e⟩:=y3f hm
   have e2:σ[k]? = some o:=by rw[yc hk,e]
   have e3:rho σ L.length k=o:=by simp[rho,e2]
   have hk':k<(Lc'.map (Ob.ren (rho σ L.length))).length:=sk
   have g:=z2o hn hlt hk'
   rw[e3] at g
   rw[g,y25] at hl
   cases hc':Lc'[k]? with
   | none=>rw[hc'] at hl; cases hl
   | some oc' =>
    rw[hc'] at hl
    simp only[y1k,yw] at hl
    subst hl
    obtain⟨oc,p1,p2,p3,p4⟩:=c1.ob k oc' (by simp only[cxOf]; omega) hc' (by rw[Ob.ren_stamp] at hs; exact hs)
    simp only[cxOf] at p1 p4
    refine⟨oc.ren (rho σ L.length),by rw[hL k o e2,p1]; rfl,by rw[Ob.ren_kind,Ob.ren_kind]; exact p2,fun s hs=>?_,fun es=>?_⟩
    ·rw[Ob.ren_stamp] at hs |-
     exact p3 s hs
    ·rw[Ob.ren_stamp,Ob.ren_stamp] at es
     have g':=z2o (L:=ms) (xs:=ks') hn hltm (k:=k) (by simp at hk'; omega)
     rw[hml,e3] at g'
     rw[g',p4 es,hks k o e2]
  ·rw[z2w hm ho] at hl
   exact⟨obj',hl,rfl,fun s hs=>⟨s,hs,yf _⟩,fun _=>z2w hm om⟩
 refine⟨u,glue ms σ ks',rfl,⟨hglen,fun b hb=>?_,fun b hb=>y11 (hr.xlt b hb) e1.size,fun o o' b tc tc' h1 h2=>?_,fun o obj ho=>?_,by rw[<- hmem']; exact r1.glob⟩,hext,hle,v1.out hren'⟩
 ·have h1:=(hown' b).1 (.inr hb)
  rcases h1 with h1 | h1
  ·have hlt':b<w'.heap.size:=y11 (hrc.xlt b h1) e1.size
   refine⟨hlt',fun hx=>?_⟩
   exact (hkeep b (hr.xlt b hx) (fun ho=>(hr.lt b ho).2 hx)).2 hb
  ·exact⟨(r1.lt b h1).1,fun hx=>(r1.lt b h1).2 (.inl hx)⟩
 ·have hin:∀ {o tc},(glue ms σ ks')[o]? = some (some (b,tc))->(∃ k,k<ks'.length/\o=rho σ ms.length k/\ks'[k]? = some (some (b,tc)))\/(o ∉ σ/\ms[o]? = some (some (b,tc))):=by
   intro o tc e
   have hi:o<ms.length+(ks'.length-σ.length):=by
    rw[<- z1z]
    rcases yp o (glue ms σ ks').length with h' | h'
    ·exact h'
    ·rw[yi h'] at e; cases e
   rcases z56 hsk hi with ⟨k,hk,rfl⟩ | ⟨l1,l2⟩
   ·exact .inl ⟨k,hk,rfl,by rw[<- z2o hn hltm hk]; exact e⟩
   ·exact .inr ⟨l2,by rw[<- z2w l2 l1]; exact e⟩
  rcases hin h1 with ⟨k,_,rfl,p1⟩ | ⟨p0,p1⟩ <;> rcases hin h2 with ⟨k',_,rfl,q1⟩ | ⟨q0,q1⟩
  ·rw[r1.inj k k' b tc tc' p1 q1]
  ·exact absurd (.inr ⟨o',tc',q0,q1⟩) (r1.lt b ⟨k,tc,p1⟩).2
  ·exact absurd (.inr ⟨o,tc,p0,p1⟩) (r1.lt b ⟨k',tc',q1⟩).2
  ·exact hr.inj o o' b tc tc' p1 q1
 ·have hi:o<L.length+((Lc'.map (Ob.ren (rho σ L.length))).length-σ.length):=by
   rw[<- z1z]
   rcases yp o (glue L σ (Lc'.map (Ob.ren (rho σ L.length)))).length with h' | h'
   ·exact h'
   ·rw[yi h'] at ho; cases ho
  rcases z56 hsl hi with ⟨k,hk,rfl⟩ | ⟨l1,l2⟩
  ·rw[z2o hn hlt hk,y25] at ho
   cases hc':Lc'[k]? with
   | none=>rw[hc'] at ho; cases ho
   | some oc' =>
    rw[hc'] at ho; cases ho
    exact ObIs.out hren' (by simpa [cxOf] using hk) (r1.obs k oc' hc')
  ·rw[z2w l2 l1] at ho
   refine (hr.obs o obj ho).mono hle (z2w l2 om) fun b tc hb=>?_
   have hb':ms[o]? = some (some (b,tc)):=hb
   refine (e1.keep b (hr.lt b ⟨o,tc,hb'⟩).1 fun⟨k,tc',ek⟩=>?_).1
   exact (hrc.lt b ⟨k,tc',ek⟩).2 (.inr ⟨o,tc,l2,hb'⟩)
theorem CallOk.at {P:Program} {f:FuncId} {as as':List AV} {Lc Lc' L L':List Ob} {v v':AV} (h:CallOk P f as Lc v Lc') (σ:List Nat) (hn:σ.Nodup) (hlt:σ.all (fun i=>Nat.blt i L.length)=true)
  (hlen:σ.length=Lc.length) (hlen':Lc.length<=Lc'.length) (hL:σ.map (fun i=>L[i]?)=Lc.map (fun x=>some (x.ren (rho σ L.length)))) (ha:AV.renL (rho σ L.length) as=as')
  (hv:v.ren (rho σ L.length)=v') (hg:glue L σ (Lc'.map (Ob.ren (rho σ L.length)))=L'):CallOk P f as' L v' L':=by
 subst ha; subst hv; subst hg
 refine h.frame σ hn (fun i hi=>?_) hlen hlen' fun k i e=>?_
 ·have:=y1i.1 hlt i hi
  exact y2x this
 ·have h1:(σ.map (fun i=>L[i]?))[k]? = some (L[i]?):=by rw[y25,e]; rfl
  rw[hL,y25] at h1
  cases hk:Lc[k]? with
  | none=>rw[hk] at h1; cases h1
  | some x=>rw[hk] at h1; exact (yn h1).symm
structure CR where
 f:FuncId
 as:List AV
 L:List Ob
 v:AV
 L':List Ob
def rdP (c:CR):Bool->Prop
 | true=>c.L'=c.L
 | false=>True
def CR.at (P:Program) (c:CR) (as:List AV) (L:List Ob) (σ:List Nat) (rd:Bool):Prop :=
 CallOk P c.f c.as c.L c.v c.L'/\AV.renL (rho σ L.length) c.as=as/\σ.map (fun i=>L[i]?)=c.L.map (fun x=>some (x.ren (rho σ L.length)))/\rdP c rd
def CR.fits (c:CR) (f:FuncId) (L:List Ob) (σ:List Nat):Bool :=
 Nat.beq c.f f&&(decide σ.Nodup&&(σ.all (fun i=>Nat.blt i L.length)&&(Nat.beq σ.length c.L.length&&Nat.ble c.L.length c.L'.length)))
theorem CR.ok {c:CR} {rd:Bool} (hf:c.fits f L σ=true) (h:c.at P as L σ rd) :
  CallOk P f as L (c.v.ren (rho σ L.length)) (glue L σ (c.L'.map (Ob.ren (rho σ L.length)))):=by
 unfold CR.fits at hf
 simp only[yg] at hf
 obtain⟨h1,h2,h3,h4,h5⟩:=hf
 obtain⟨k1,k2,k3,_⟩:=h
 have e:c.f=f:=y2g h1
 subst e
 exact k1.at σ (y2s h2) h3 (y2g h4) (y2x h5) k3 k2 rfl rfl
theorem CR.okR {c:CR} (hf:c.fits f L σ=true) (h:c.at P as L σ true) :
  CallOk P f as L (c.v.ren (rho σ L.length)) L:=by
 have h0:=h
 obtain⟨_,_,k3,k4⟩:=h
 have h1:=CR.ok hf h0
 have e:glue L σ (c.L'.map (Ob.ren (rho σ L.length)))=L:=by
  have k4':c.L'=c.L:=k4
  rw[k4']
  unfold CR.fits at hf
  simp only[yg] at hf
  obtain⟨_,h2,h3,h4,_⟩:=hf
  refine zcj (y2s h2) (fun i hi=>y2x (y1i.1 h3 i hi)) (by simpa using y2g h4) fun k i hk=>?_
  have:=y29 (fun l:List (Option Ob)=>l[k]?) k3
  simp only[y25,hk,y1k] at this
  cases hc:c.L[k]? with
  | none=>rw[hc] at this; cases this
  | some x =>
   rw[hc] at this
   simp only[y1k,yw] at this
   rw[this,y25,hc]; rfl
 rwa [e] at h1
def fitA:AV->AV->AV
 | .full 0 _,.d (.sl 0 g)=>.d (.sl 0 g)
 | a,_=>a
def fitL:List AV->List AV->List AV
 | a :: as,b :: bs=>fitA a b :: fitL as bs
 | as,_=>as
theorem zo1 {a b:AV} {v:Value} (h:AV.IsV c a v):AV.IsV c (fitA a b) v:=by
 unfold fitA
 split
 ·have h':=IsV.is1 rfl sj sj h
  cases h' with
  | full _ _ a hd =>
   refine .one _ _ rfl (.d _ _ ?_)
   cases hd with
   | slNil=>exact .slNil _
   | slEmpty=>exact .slEmpty _ _ _
   | sl _ _ b off cap sz arr cs h1 h2 hb hh hl hc=>exact .sl _ _ b off 0 sz arr cs h1 h2 hb (fun i hi=>om) hl hc
 ·exact h
theorem zh6 {c:Cx}:∀ {as bs:List AV} {us:List Value},AV.IsVs c as us->AV.IsVs c (fitL as bs) us
 | [],_,_,h=>h
 | _ :: _,[],_,h=>h
 | _ :: _,_ :: _,_,.cons _ _ _ _ h ht=>.cons _ _ _ _ (zo1 h) (zh6 ht)
theorem CallOk.fit {bs:List AV} (h:CallOk P f (fitL as bs) L v L'):CallOk P f as L v L' :=
 fun X ms w us hr hu=>h X ms w us hr (zh6 hu)
inductive Hint where
 | none
 | imm
 | obj
 | call (v:AV) (L':List Ob)
 | callq (v:AV)
 | callr (v:AV)
 | born (k:Nat) (full:Bool)
 | callw (v:AV) (ups:List (Nat×Ob)) (new:List Ob)
 | callc (c:CR) (σ:List Nat) (rd:Bool)
def applyUps (L:List Ob) (ups:List (Nat×Ob)):List Ob:=ups.foldl (fun L u=>L.set u.1 u.2) L
inductive Res where
 | val (v:AV) (C:List Prop)
 | eff (v:AV) (L':List Ob) (C:List Prop)
def ExtOk (P:Program) (f:FuncId) (args:List AV) (L:List Ob) (v:AV):Prop :=
 ∀ (X:Nat->Prop) (ms:Blocks) (w:World) (us:List Value),Rel X ms L w->AV.IsVs (cxOf X ms L w) args us ->
  ∃ u,(callFunc f us.toArray).run P w = .ok (.value u) w/\AV.IsV (cxOf X ms L w) v u
theorem zpb (ho:o.op = .call ⟨.value fo,args,ts⟩) (hf0:opnd G ch fo=some (.fn f caps)) (ha:opnds G ch args.toList=some as) (h:ExtOk P f (as++caps) L v):OpOk P G ch L o v L:=by
 intro z zn X ms w a K Q hr hf hh hK
 have hfv:=IsV.is1 rfl sj sj (zg hf0 hf hh)
 have hav:=z4d hf hh ha
 generalize hfo:a.eval fo=u at hfv
 cases hfv with
 | fn _ _ vs hvs =>
 obtain⟨u,h1,h2⟩:=h X ms w _ hr (hav.append hvs)
 refine OpOk.value (u:=u) (w':=w) ?_ (hK u ms w hr (Ext.refl _ _) (Cx.le.refl _) h2)
 obtain⟨dst,op,ty,pos,after,guard⟩:=o
 subst ho
 simp only[execOp,resolve,hfo,Deferred.ofValue,y12,y24,yq,invoke]
 rw[show (#[]++args.map a.eval++vs.toArray)=(args.toList.map a.eval++vs).toArray from sj]
 exact h1
def astep (P:Program) (G:GFr) (ch:Chain) (L:List Ob) (o:Oper) (h:Hint):Option Res :=
 match o.op with
 | .alloc t=>match h with
  | .born k full=>(eBorn P L t k full).map fun p=>.eff p.1 p.2 []
  | .obj=>(eAlloc P L t true).map fun p=>.eff p.1 p.2 []
  | _=>(eAlloc P L t false).map fun p=>.eff p.1 p.2 []
 | .box _ x=>(opnd G ch x).bind fun v=>(eBox L v).map fun p=>.eff p.1 p.2 []
 | .store t p x=>(opnd G ch p).bind fun pv=>(opnd G ch x).bind fun xv=>(eStore P L t pv xv).map fun q=>.eff q.1 q.2.1 q.2.2
 | .buildSlice t len ps=>(partsO G ch ps.toList).bind fun pv=>match h with
  | .obj=>(eBsObj P L t len pv).map fun p=>.eff p.1 p.2 []
  | .born k _=>(eBsBorn P L t k len pv).map fun p=>.eff p.1 p.2 []
  | _=>if len<2 ^ 63 then (eBsImm P t len pv).map fun v=>.val v [] else none
 | .build t ps=>match h with
  | .obj=>(partsO G ch ps.toList).bind fun pv=>(vBuildF P t pv).map fun p=>.val p.1 p.2
  | _=>(aval P G ch L o).map fun p=>.val p.1 p.2
 | .makeSlice t l c=>(opnd G ch l).bind fun lv=>(opnd G ch c).bind fun cv=>match h with
  | .imm=>(eMakeImm P t lv cv).map fun q=>.val q.1 q.2
  | _=>(eMake P L t lv cv).map fun q=>.eff q.1 q.2.1 q.2.2
 | .call ⟨.value fo,args,_⟩=>match opnd G ch fo,opnds G ch args.toList with
  | some (.fn f caps),some as=>if callable P f then match h with
    | .call v L'=>some (.eff v L' [CallOk P f (as++caps) L v L'])
    | .callw v ups new=>some (.eff v (applyUps L ups++new) [CallOk P f (as++caps) L v (applyUps L ups++new)])
    | .callq v=>some (.val v [∀ L,CallOk P f (as++caps) L v L])
    | .callr v=>some (.val v [CallOk P f (as++caps) L v L])
    | .callc c σ true=>if c.fits f L σ=true then some (.val (c.v.ren (rho σ L.length)) [c.at P (fitL (as++caps) c.as) L σ true]) else none
    | .callc c σ false=>if c.fits f L σ=true then some (.eff (c.v.ren (rho σ L.length)) (glue L σ (c.L'.map (Ob.ren (rho σ L.length)))) [c.at P (fitL (as++caps) c.as) L σ false]) else none
    | _=>none
   else match h with
    | .callr v=>some (.val v [ExtOk P f (as++caps) L v])
    | _=>none
  | _,_=>none
 | .call ⟨.builtin .append,args,ts⟩=>match args.toList,ts.toList with
  | [s,x],[t,t']=>if t=t' then (opnd G ch x).bind fun xv=>match opnd G ch s,h with
    | some (.full 0 _),.obj=>(eAppNew P L t xv).map fun q=>.eff q.1 q.2.1 q.2.2
    | some (.full n f),_=>(eAppImm P L t n f xv).map fun q=>.val q.1 q.2
    | some (.ref r st 0 n),.imm=>(eAppPre P L t r st n xv).map fun q=>.eff q.1 q.2.1 q.2.2
    | some (.ref r st 0 n),_=>(eAppRef P L t r st n xv).map fun q=>.eff q.1 q.2.1 q.2.2
    | _,_=>none
   else none
  | _,_=>none
 | .call ⟨.builtin .clear,args,ts⟩=>match args.toList,ts.toList with
  | [x],[t]=>(opnd G ch x).bind fun xv=>(eClear P L t xv).map fun q=>.eff q.1 q.2.1 q.2.2
  | _,_=>none
 | .call ⟨.builtin .copy,args,ts⟩=>match args.toList,ts.toList with
  | [d,x],[t,_]=>(opnd G ch d).bind fun dv=>(opnd G ch x).bind fun xv=>(eCopy P L t dv xv).map fun q=>.eff q.1 q.2.1 q.2.2
  | _,_=>none
 | .makeMap _ none=>some (.eff (.map L.length) (L++[.map []]) [])
 | .lookup t x k ok=>(opnd G ch x).bind fun xv=>(opnd G ch k).bind fun kv=>match h with
  | .callr v=>some (.val v [LookOk P L t xv kv ok v])
  | _=>none
 | .mapEntry t m k=>(opnd G ch m).bind fun mv=>(opnd G ch k).bind fun kv=>match h with
  | .call v L'=>some (.eff v L' [EntOk P L t mv kv v L'])
  | _=>none
 | .entryStore t m s x=>(opnd G ch m).bind fun mv=>(opnd G ch s).bind fun sv=>(opnd G ch x).bind fun xv=>match h with
  | .call v L'=>if v.isBot/\xv.solid then some (.eff v L' [StoOk P L t mv sv xv L']) else none
  | _=>none
 | .mapUpdate t m k x=>(opnd G ch m).bind fun mv=>(opnd G ch k).bind fun kv=>(opnd G ch x).bind fun xv=>match h with
  | .call v L'=>if v.isBot/\xv.solid then some (.eff v L' [UpdOk P L t mv kv xv L']) else none
  | _=>none
 | _=>(aval P G ch L o).map fun p=>.val p.1 p.2
def Res.ok (P:Program) (G:GFr) (ch:Chain) (L:List Ob) (o:Oper):Res->Prop
 | .val v C=>AllP C->OpOk P G ch L o v L
 | .eff v L' C=>AllP C->OpOk P G ch L o v L'
theorem z72 {h:Hint} {r:Res} (hs:astep P G ch L o h=some r):r.ok P G ch L o:=by
 unfold astep at hs
 split at hs
 case h_1 t ho =>
  split at hs
  ·rename_i k full
   cases he:eBorn P L t k full with
   | none=>simp[he] at hs
   | some p=>simp[he] at hs; subst hs; exact fun _=>znx ho he
  ·cases he:eAlloc P L t true with
   | none=>simp[he] at hs
   | some p=>simp[he] at hs; subst hs; exact fun _=>ze6 ho he
  ·cases he:eAlloc P L t false with
   | none=>simp[he] at hs
   | some p=>simp[he] at hs; subst hs; exact fun _=>ze6 ho he
 case h_2 t x ho =>
  cases hx:opnd G ch x with
  | none=>simp[hx] at hs
  | some v =>
   cases he:eBox L v with
   | none=>simp[hx,he] at hs
   | some p=>simp[hx,he] at hs; subst hs; exact fun _=>zp7 ho hx he
 case h_3 t p x ho =>
  cases hp:opnd G ch p with
  | none=>simp[hp] at hs
  | some pv =>
   cases hx:opnd G ch x with
   | none=>simp[hp,hx] at hs
   | some xv =>
    cases he:eStore P L t pv xv with
    | none=>simp[hp,hx,he] at hs
    | some q=>simp[hp,hx,he] at hs; subst hs; exact fun hc=>zly ho hp hx he hc
 case h_4 t len ps ho =>
  cases hp:partsO G ch ps.toList with
  | none=>simp[hp] at hs
  | some pv =>
   simp only[hp,y1e] at hs
   split at hs
   ·cases he:eBsObj P L t len pv with
    | none=>simp[he] at hs
    | some p=>simp[he] at hs; subst hs; exact fun _=>zm1 ho hp he
   ·rename_i k _
    cases he:eBsBorn P L t k len pv with
    | none=>simp[he] at hs
    | some p=>simp[he] at hs; subst hs; exact fun _=>zjy ho hp he
   ·split at hs
    ·rename_i hlt
     cases he:eBsImm P t len pv with
     | none=>simp[he] at hs
     | some p=>simp[he] at hs; subst hs; exact fun _=>zm0 ho hp he hlt
    ·cases hs
 case h_5 t ps ho =>
  split at hs
  ·cases hp:partsO G ch ps.toList with
   | none=>simp[hp] at hs
   | some pv =>
    simp only[hp,y1e] at hs
    cases he:vBuildF P t pv with
    | none=>simp[he] at hs
    | some p=>simp[he] at hs; subst hs; exact fun hc=>zjz ho hp he hc
  ·cases he:aval P G ch L o with
   | none=>simp[he] at hs
   | some p=>simp[he] at hs; subst hs; exact fun hc=>zh5 he hc
 case h_6 t l c ho =>
  cases hl:opnd G ch l with
  | none=>simp[hl] at hs
  | some lv =>
   cases hc:opnd G ch c with
   | none=>simp[hl,hc] at hs
   | some cv =>
    simp only[hl,hc,y1e] at hs
    split at hs
    ·cases he:eMakeImm P t lv cv with
     | none=>simp[he] at hs
     | some q=>simp[he] at hs; subst hs; exact fun hc'=>zi8 ho hl hc he hc'
    ·cases he:eMake P L t lv cv with
     | none=>simp[he] at hs
     | some q=>simp[he] at hs; subst hs; exact fun hc'=>zny ho hl hc he hc'
 case h_7 fo args ts ho =>
  split at hs
  ·rename_i f caps as hfo has
   split at hs
   ·rename_i hcl
    split at hs
    ·cases hs
     exact fun hc=>z5e ho hfo has hcl hc.1
    ·cases hs
     exact fun hc=>z5e ho hfo has hcl hc.1
    ·cases hs
     exact fun hc=>z5e ho hfo has hcl (hc.1 L)
    ·cases hs
     exact fun hc=>z5e ho hfo has hcl hc.1
    ·split at hs
     ·rename_i hfit
      cases hs
      exact fun hc=>z5e ho hfo has hcl (CR.okR hfit hc.1).fit
     ·cases hs
    ·split at hs
     ·rename_i hfit
      cases hs
      exact fun hc=>z5e ho hfo has hcl (CR.ok hfit hc.1).fit
     ·cases hs
    ·cases hs
   ·split at hs
    ·cases hs
     exact fun hc=>zpb ho hfo has hc.1
    ·cases hs
  ·cases hs
 case h_8 args ts ho =>
  split at hs
  ·rename_i s x t t' hargs hts
   split at hs
   ·rename_i ht
    subst ht
    have e1:args = #[s,x]:=by rw[<- y38]; simpa using hargs
    have e2:ts = #[t,t]:=by rw[<- y38]; simpa using hts
    subst e1; subst e2
    cases hx:opnd G ch x with
    | none=>simp[hx] at hs
    | some xv =>
     simp only[hx,y1e] at hs
     split at hs
     ·rename_i hso
      cases he:eAppNew P L t xv with
      | none=>simp[he] at hs
      | some q=>simp[he] at hs; subst hs; exact fun hc=>zjx ho hso hx he hc
     ·rename_i n' f' hso _
      cases he:eAppImm P L t n' f' xv with
      | none=>simp[he] at hs
      | some q=>simp[he] at hs; subst hs; exact fun hc=>zju ho hso hx he hc
     ·rename_i r' st' n' hso
      cases he:eAppPre P L t r' st' n' xv with
      | none=>simp[he] at hs
      | some q=>simp[he] at hs; subst hs; exact fun hc=>zk1 ho hso hx he hc
     ·rename_i r' st' n' hso _
      cases he:eAppRef P L t r' st' n' xv with
      | none=>simp[he] at hs
      | some q=>simp[he] at hs; subst hs; exact fun hc=>zjw ho hso hx he hc
     ·cases hs
   ·cases hs
  ·cases hs
 case h_9 args ts ho =>
  split at hs
  ·rename_i x t hargs hts
   have e1:args = #[x]:=by rw[<- y38]; simpa using hargs
   have e2:ts = #[t]:=by rw[<- y38]; simpa using hts
   subst e1; subst e2
   cases hx:opnd G ch x with
   | none=>simp[hx] at hs
   | some xv =>
    cases he:eClear P L t xv with
    | none=>simp[hx,he] at hs
    | some q=>simp[hx,he] at hs; subst hs; exact fun hc=>zm2 ho hx he hc
  ·cases hs
 case h_10 args ts ho =>
  split at hs
  ·rename_i d x t t' hargs hts
   have e1:args = #[d,x]:=by rw[<- y38]; simpa using hargs
   have e2:ts = #[t,t']:=by rw[<- y38]; simpa using hts
   subst e1; subst e2
   cases hd:opnd G ch d with
   | none=>simp[hd] at hs
   | some dv =>
    cases hx:opnd G ch x with
    | none=>simp[hd,hx] at hs
    | some xv =>
     cases he:eCopy P L t dv xv with
     | none=>simp[hd,hx,he] at hs
     | some q=>simp[hd,hx,he] at hs; subst hs; exact fun hc=>znz ho hd hx he hc
  ·cases hs
 case h_11 t ho =>
  cases hs
  exact fun _=>zi9 ho
 case h_12 t x k ok ho =>
  cases hx:opnd G ch x with
  | none=>simp[hx] at hs
  | some xv =>
   cases hk:opnd G ch k with
   | none=>simp[hx,hk] at hs
   | some kv =>
    simp only[hx,hk,y1e] at hs
    split at hs
    ·cases hs; exact fun hc=>zo0 ho hx hk hc.1
    ·cases hs
 case h_13 t m k ho =>
  cases hx:opnd G ch m with
  | none=>simp[hx] at hs
  | some xv =>
   cases hk:opnd G ch k with
   | none=>simp[hx,hk] at hs
   | some kv =>
    simp only[hx,hk,y1e] at hs
    split at hs
    ·cases hs; exact fun hc=>zp8 ho hx hk hc.1
    ·cases hs
 case h_14 t m s x ho =>
  cases hm:opnd G ch m with
  | none=>simp[hm] at hs
  | some mv =>
   cases hk:opnd G ch s with
   | none=>simp[hm,hk] at hs
   | some sv =>
    cases hx:opnd G ch x with
    | none=>simp[hm,hk,hx] at hs
    | some xv =>
     simp only[hm,hk,hx,y1e] at hs
     split at hs
     ·split at hs
      ·rename_i hb
       cases hs; exact fun hc=>zp9 ho hm hk hx hb.1 hc.1
      ·cases hs
     ·cases hs
 case h_15 t m s x ho =>
  cases hm:opnd G ch m with
  | none=>simp[hm] at hs
  | some mv =>
   cases hk:opnd G ch s with
   | none=>simp[hm,hk] at hs
   | some sv =>
    cases hx:opnd G ch x with
    | none=>simp[hm,hk,hx] at hs
    | some xv =>
     simp only[hm,hk,hx,y1e] at hs
     split at hs
     ·split at hs
      ·rename_i hb
       cases hs; exact fun hc=>zpa ho hm hk hx hb.1 hc.1
      ·cases hs
     ·cases hs
 case h_16 =>
  cases he:aval P G ch L o with
  | none=>simp[he] at hs
  | some p=>simp[he] at hs; subst hs; exact fun hc=>zh5 he hc
structure HE where
 h:Hint:=.none
 cast:Option AV:=none
 obs:List (Nat×Ob):=[]
def hintOf:List (Nat×HE)->Nat->HE
 | [],_=>{}
 | (j,h) :: r,i=>if j==i then h else hintOf r i
def guardCh (ops:Array Oper) (G:GFr) (o:Oper):Option Chain :=
 match o.guard with
 | none=>some []
 | some (j,want)=>match (ops[j]?).bind (·.dst) with
  | some t=>match G.get t with
   | some (ch,.d (.b _))=>some ((t,want) :: ch)
   | _=>none
  | none=>none
def gP (G:GFr):Chain->List Prop
 | []=>[]
 | (s,want) :: r=>(match G.get s with
  | some (_,.d (.b p))=>[p=want]
  | _=>[])++gP G r
def chainOk (G:GFr):Chain->Bool
 | []=>true
 | (s,_) :: r=>(match G.get s with
  | some (ch,.d (.b _))=>ch.all fun y=>r.contains y
  | _=>false)&&chainOk G r
def underG (G:GFr) (ch:Chain) (C:List Prop):List Prop:=match ch with
 | []=>C
 | _=>C.map fun c=>AllP (gP G ch)->c
def castV (v:AV):Option AV->AV×List Prop
 | none=>(v,[])
 | some v'=>(v',[LeV v v'])
def castObs:List (Nat×Ob)->List Ob->Option (List Ob×List Prop)
 | [],L=>some (L,[])
 | (o,y) :: r,L=>match L[o]? with
  | some x=>match castObs r (L.set o y) with
   | some (L',C)=>some (L',OLe x y :: C)
   | none=>none
  | none=>none
def putG (G:GFr) (N:Nat) (dst:Option Tmp) (ch:Chain) (v:AV):Option GFr :=
 match dst with
 | none=>some G
 | some t=>if t<N/\ch.all (fun y=>y.1 != t)=true then some (G.put t ch v) else none
def runOps (P:Program) (ops:Array Oper) (N:Nat) (hs:List (Nat×HE)):List Nat->GFr->List Ob->Option (GFr×List Ob×List Prop)
 | [],G,L=>some (G,L,[])
 | i :: r,G,L=>match ops[i]? with
  | none=>none
  | some o=>match guardCh ops G o with
   | none=>none
   | some ch=>let e:=hintOf hs i
    match astep P G ch L o e.h with
    | none=>none
    | some (.val v C) =>
     let p:=castV v e.cast
     match putG G N o.dst ch p.1 with
     | none=>none
     | some G1=>match runOps P ops N hs r G1 L with
      | none=>none
      | some (G',L',C')=>some (G',L',underG G ch (C++p.2)++C')
    | some (.eff v L1 C)=>match ch with
     | y :: ys =>
      let p:=castV v e.cast
      if chainOk G (y :: ys)=true/\e.obs.length=0 then match putG G N o.dst (y :: ys) p.1 with
       | none=>none
       | some G1=>match runOps P ops N hs r G1 L1 with
        | none=>none
        | some (G',L',C')=>some (G',L',underG G (y :: ys) (C++p.2)++((¬ AllP (gP G (y :: ys))->L=L1) :: C'))
      else none
     | [] =>
      let p:=castV v e.cast
      match castObs e.obs L1 with
      | none=>none
      | some (L2,C2)=>match putG G N o.dst [] p.1 with
       | none=>none
       | some G1=>match runOps P ops N hs r G1 L2 with
        | none=>none
        | some (G',L',C')=>some (G',L',C++(p.2++(C2++C')))
theorem ze9 {c:Cx} {G:GFr} {tmps:Array Value} (hf:FrIs c G tmps):∀ {ch:Chain},holds ch tmps->AllP (gP G ch)
 | [],_=>trivial
 | (s,want) :: r,h=>by
  simp only[gP]
  rw[ze]
  refine⟨?_,ze9 hf (fun y hy=>h y (y17 _ hy))⟩
  have h0:=h (s,want) y1h
  split
  ·rename_i ch' p hg
   have hs:=hf _ (GFr.get_mem hg)
   by_cases hh:holds ch' tmps
   ·have e:=IsV.b (hs.2.1 hh)
    have:Value.bool p=Value.bool want:=e.symm.trans h0
    cases this
    exact⟨rfl,trivial⟩
   ·have e:=hs.2.2 hh
    have:undef=Value.bool want:=e.symm.trans h0
    cases this
  ·trivial
theorem zbl {c:Cx} {G:GFr} {tmps:Array Value} (hf:FrIs c G tmps):∀ {ch:Chain},chainOk G ch=true->AllP (gP G ch)->holds ch tmps
 | [],_,_=>fun y hy=>by cases hy
 | (s,want) :: r,hk,h=>by
  simp only[chainOk,yg] at hk
  simp only[gP] at h
  rw[ze] at h
  have ih:=zbl hf hk.2 h.2
  intro y hy
  rcases yu.1 hy with rfl | hy
  ·have h1:=hk.1
   split at h1
   ·rename_i ch0 p hg
    have hs:=hf _ (GFr.get_mem hg)
    have e:=IsV.b (hs.2.1 (zce h1 ih))
    simp only[hg] at h
    have hp:p=want:=h.1.1
    subst hp
    exact e
   ·cases h1
  ·exact ih y hy
variable {tmps:Array Value}
theorem z57 (hf:FrIs c G tmps) (hh:holds ch tmps) (h:AllP (underG G ch C)):AllP C:=by
 unfold underG at h
 split at h
 ·exact h
 ·have hg:=ze9 hf hh
  clear hh hf
  induction C with
  | nil=>trivial
  | cons x r ih=>exact⟨h.1 hg,ih h.2⟩
variable {ops:Array Oper}
theorem z85 (h:guardCh ops G o=some ch) (hf:FrIs c G tmps) :
  Region.wanted o (yielded ops tmps)=true↔holds ch tmps:=by
 unfold guardCh at h
 split at h
 ·rename_i hg
  cases h
  simp[Region.wanted,hg,holds]
 ·rename_i j want hg
  split at h
  ·rename_i t ht
   split at h
   ·rename_i ch0 p hgt
    cases h
    obtain⟨h1,h2,h3⟩:=hf _ (GFr.get_mem hgt)
    simp only at h1 h2 h3
    have hget:tmps[t]? = some (tmps.getD t undef):=by simp[Array.getD_eq_getD_getElem?,h1]
    simp only[Region.wanted,hg,yielded,ht,y1e,hget]
    by_cases hh:holds ch0 tmps
    ·have e:=IsV.b (h2 hh)
     rw[e]
     simp only[y1a,yw]
     constructor
     ·rintro rfl y hy
      rcases yu.1 hy with rfl | hy
      ·exact e
      ·exact hh y hy
     ·intro hh'
      have:=hh' (t,want) y1h
      simp only[e] at this
      cases this; rfl
    ·have e:=h3 hh
     rw[e]
     simp only[undef]
     constructor
     ·intro h; cases h
     ·intro hh'
      exact absurd (fun y hy=>hh' y (y17 _ hy)) hh
   ·cases h
  ·cases h
theorem z4e {k:Option AV} (h:AllP (castV v k).2) (hv:AV.IsV c v u):AV.IsV c (castV v k).1 u:=by
 cases k with
 | none=>exact hv
 | some v'=>exact h.1 c u hv
theorem z6k {X:Nat->Prop} {ms:Blocks} {w:World}:∀ {l:List (Nat×Ob)} {L L':List Ob} {C:List Prop},castObs l L=some (L',C)->AllP C->Rel X ms L w ->
  Rel X ms L' w/\(cxOf X ms L w).le (cxOf X ms L' w)
 | [],L,L',C,h,_,hr=>by simp[castObs] at h; obtain⟨rfl,rfl⟩:=h; exact⟨hr,Cx.le.refl _⟩
 | (o,y) :: r,L,L',C,h,hc,hr=>by
  simp only[castObs] at h
  split at h
  ·rename_i x hx
   split at h
   ·rename_i L1 C1 h1
    cases h
    obtain⟨k1,k2⟩:=hr.recast hx hc.1
    obtain⟨k3,k4⟩:=z6k h1 hc.2 k1
    exact⟨k3,k2.trans k4⟩
   ·cases h
  ·cases h
variable {a:Act}
theorem z4f {G1:GFr} {N:Nat} {dst:Option Tmp} (h:putG G N dst ch v=some G1) (hN:a.tmps.size=N) (hf:FrIs c G a.tmps) (hv:holds ch a.tmps->AV.IsV c v u) (hu:¬ holds ch a.tmps->u=undef):FrIs c G1 (a.put dst u).tmps/\(a.put dst u).tmps.size=N/\(a.put dst u).defers=a.defers:=by
 unfold putG at h
 cases dst with
 | none=>cases h; exact⟨hf,hN,rfl⟩
 | some t =>
  simp only at h
  split at h
  ·rename_i ht
   cases h
   refine⟨hf.put (by rw[hN]; exact ht.1) ht.2 hv hu,by simp[Act.put,hN],rfl⟩
  ·cases h
theorem z2k {P:Program} {ops:Array Oper} {N:Nat} {hs:List (Nat×HE)} {Q:Exit->Act->World->Prop} {X:Nat->Prop} (z:Option Nat) (zn:Nat):∀ (l:List Nat) (G:GFr) (L:List Ob) (G':GFr) (L':List Ob) (C:List Prop)
  (ms:Blocks) (w:World) (a:Act),runOps P ops N hs l G L=some (G',L',C)->AllP C->Rel X ms L w->FrIs (cxOf X ms L w) G a.tmps->a.tmps.size=N ->
  (∀ a' ms' w',Rel X ms' L' w'->Ext ms w ms' w'->(cxOf X ms L w).le (cxOf X ms' L' w')->FrIs (cxOf X ms' L' w') G' a'.tmps->a'.tmps.size=N->a'.defers=a.defers->Q .normal a' w') ->
  wpOpsIn (fenceOf z) zn P ops Q l a w
 | [],G,L,G',L',C,ms,w,a,h,_,hr,hf,hN,hQ=>by
  simp only[runOps,yw,y2n] at h
  obtain⟨rfl,rfl,rfl⟩:=h
  exact hQ a ms w hr (Ext.refl _ _) (Cx.le.refl _) hf hN rfl
 | i :: r,G,L,G',L',C,ms,w,a,h,hc,hr,hf,hN,hQ=>by
  simp only[runOps] at h
  cases ho:ops[i]? with
  | none=>simp[ho] at h
  | some o =>
   simp only[ho] at h
   cases hg:guardCh ops G o with
   | none=>simp[hg] at h
   | some ch =>
    simp only[hg] at h
    have hw:=z85 hg hf
    simp only[wpOpsIn,ho]
    cases hst:astep P G ch L o (hintOf hs i).h with
    | none=>simp[hst] at h
    | some res =>
     have hok:=z72 hst
     cases res with
     | val v C1 =>
      simp only[hst] at h
      cases hp:putG G N o.dst ch (castV v (hintOf hs i).cast).1 with
      | none=>simp[hp] at h
      | some G1 =>
       simp only[hp] at h
       cases hrun:runOps P ops N hs r G1 L with
       | none=>simp[hrun] at h
       | some q =>
        obtain⟨G2,L2,C2⟩:=q
        simp only[hrun,yw,y2n] at h
        obtain⟨rfl,rfl,rfl⟩:=h
        obtain⟨hc1,hc2⟩:=ze.1 hc
        by_cases hh:holds ch a.tmps
        ·rw[y9 (hw.2 hh)]
         obtain⟨hc3,hc4⟩:=ze.1 (z57 hf hh hc1)
         refine hok hc3 z zn X ms w a _ Q hr hf hh fun u ms1 w1 k1 k2 k3 k4=>?_
         obtain⟨p1,p2,p3⟩:=z4f hp hN (hf.mono k3) (fun _=>z4e hc4 k4) (fun h=>absurd hh h)
         exact z2k z zn r G1 L G2 L2 C2 ms1 w1 _ hrun hc2 k1 p1 p2 (fun a' ms' w' q1 q2 q3 q4 q5 q6=>hQ a' ms' w' q1 (k2.trans q2) (k3.trans q3) q4 q5 (q6.trans p3))
        ·rw[y8 (fun h=>hh (hw.1 h))]
         refine⟨fun f _=>z3w z f,?_⟩
         obtain⟨p1,p2,p3⟩:=z4f hp hN hf (u:=undef) (fun h=>absurd h hh) (fun _=>rfl)
         exact z2k z zn r G1 L G2 L2 C2 ms w _ hrun hc2 hr p1 p2 (fun a' ms' w' q1 q2 q3 q4 q5 q6=>hQ a' ms' w' q1 q2 q3 q4 q5 (q6.trans p3))
     | eff v L1 C1 =>
      simp only[hst] at h
      cases ch with
      | cons y ys =>
       simp only at h
       split at h
       ·rename_i hco
        cases hp:putG G N o.dst (y :: ys) (castV v (hintOf hs i).cast).1 with
        | none=>simp[hp] at h
        | some G1 =>
         simp only[hp] at h
         cases hrun:runOps P ops N hs r G1 L1 with
         | none=>simp[hrun] at h
         | some q =>
          obtain⟨G3,L3,C3⟩:=q
          simp only[hrun,yw,y2n] at h
          obtain⟨rfl,rfl,rfl⟩:=h
          obtain⟨hc1,hc2,hc3⟩:=ze.1 hc
          by_cases hh:holds (y :: ys) a.tmps
          ·rw[y9 (hw.2 hh)]
           obtain⟨hc4,hc5⟩:=ze.1 (z57 hf hh hc1)
           refine hok hc4 z zn X ms w a _ Q hr hf hh fun u ms1 w1 k1 k2 k3 k4=>?_
           obtain⟨p1,p2,p3⟩:=z4f hp hN (hf.mono k3) (fun _=>z4e hc5 k4) (fun h=>absurd hh h)
           exact z2k z zn r G1 L1 G3 L3 C3 ms1 w1 _ hrun hc3 k1 p1 p2 (fun a' ms' w' q1 q2 q3 q4 q5 q6=>hQ a' ms' w' q1 (k2.trans q2) (k3.trans q3) q4 q5 (q6.trans p3))
          ·rw[y8 (fun h=>hh (hw.1 h))]
           refine⟨fun f _=>z3w z f,?_⟩
           have hLL:=hc2 fun hg=>hh (zbl hf hco.1 hg)
           subst hLL
           obtain⟨p1,p2,p3⟩:=z4f hp hN hf (u:=undef) (fun h=>absurd h hh) (fun _=>rfl)
           exact z2k z zn r G1 L G3 L3 C3 ms w _ hrun hc3 hr p1 p2 (fun a' ms' w' q1 q2 q3 q4 q5 q6=>hQ a' ms' w' q1 q2 q3 q4 q5 (q6.trans p3))
       ·cases h
      | nil =>
       simp only at h
       cases hco:castObs (hintOf hs i).obs L1 with
       | none=>simp[hco] at h
       | some q0 =>
        obtain⟨L2,C2⟩:=q0
        simp only[hco] at h
        cases hp:putG G N o.dst [] (castV v (hintOf hs i).cast).1 with
        | none=>simp[hp] at h
        | some G1 =>
         simp only[hp] at h
         cases hrun:runOps P ops N hs r G1 L2 with
         | none=>simp[hrun] at h
         | some q =>
          obtain⟨G3,L3,C3⟩:=q
          simp only[hrun,yw,y2n] at h
          obtain⟨rfl,rfl,rfl⟩:=h
          obtain⟨hc1,hc2⟩:=ze.1 hc
          obtain⟨hc3,hc4⟩:=ze.1 hc2
          obtain⟨hc5,hc6⟩:=ze.1 hc4
          have hh:holds [] a.tmps:=fun y hy=>by cases hy
          rw[y9 (hw.2 hh)]
          refine hok hc1 z zn X ms w a _ Q hr hf hh fun u ms1 w1 k1 k2 k3 k4=>?_
          obtain⟨r1,r2⟩:=z6k hco hc5 k1
          obtain⟨p1,p2,p3⟩:=z4f hp hN ((hf.mono k3).mono r2) (fun _=>(z4e hc3 k4).mono r2) (fun h=>absurd hh h)
          exact z2k z zn r G1 L2 G3 L3 C3 ms1 w1 _ hrun hc6 r1 p1 p2 (fun a' ms' w' q1 q2 q3 q4 q5 q6=>hQ a' ms' w' q1 (k2.trans q2) ((k3.trans r2).trans q3) q4 q5 (q6.trans p3))
variable {z:Option Nat}
abbrev Fr:=List (Nat×AV)
def Fr.up (fr:Fr):GFr:=fr.map fun x=>(x.1,[],x.2)
abbrev Post:=Exit->Fr->List Ob->Prop
def AW (z:Option Nat) (P:Program) (N:Nat) (c:Code) (Q:Post) (fr:Fr) (L:List Ob):Prop :=
 ∀ (zn:Nat) (df:List Deferred) (X:Nat->Prop) (ms:Blocks) (w:World) (a:Act),Rel X ms L w->FrIs (cxOf X ms L w) fr.up a.tmps->a.tmps.size=N->a.defers=df ->
  c.wpIn (fenceOf z) zn P (fun e a' w'=>∃ ms' fr' L',Q e fr' L'/\Rel X ms' L' w'/\Ext ms w ms' w'/\(cxOf X ms L w).le (cxOf X ms' L' w')/\FrIs (cxOf X ms' L' w') fr'.up a'.tmps /\
   a'.tmps.size=N/\a'.defers=df) a w
variable {fr':Fr} {cs:List Frame} {F:Fence} {y:Code}
section
variable {P:Program} {N:Nat} {Q:Post} {fr:Fr} {L:List Ob}
theorem zbm {c:Code} {Q':Post} (h:AW z P N c Q' fr L) (hq:∀ e fr L,Q' e fr L->Q e fr L):AW z P N c Q fr L :=
 fun zn df X ms w a hr hf hN hd=>y2j (h zn df X ms w a hr hf hN hd) fun _ _ _ ⟨ms',fr',L',hQ,rest⟩=>⟨ms',fr',L',hq _ _ _ hQ,rest⟩
theorem zbn (h:Q .normal fr L):AW z P N .skip Q fr L :=
 fun _ _ _ ms _ _ hr hf hN hd=>wpIn_skip ⟨ms,fr,L,h,hr,Ext.refl _ _,Cx.le.refl _,hf,hN,hd⟩
theorem zpc (h:Q .ret fr L):AW z P N .ret Q fr L :=
 fun _ _ _ ms _ _ hr hf hN hd=>wpIn_ret ⟨ms,fr,L,h,hr,Ext.refl _ _,Cx.le.refl _,hf,hN,hd⟩
theorem zo2 (h:Q (.exit i) fr L):AW z P N (.exit i) Q fr L :=
 fun _ _ _ ms _ _ hr hf hN hd=>wpIn_exit ⟨ms,fr,L,h,hr,Ext.refl _ _,Cx.le.refl _,hf,hN,hd⟩
theorem zm3 {l:Nat} (h:Q .normal fr L):AW z P N (.label l) Q fr L :=
 fun _ _ _ ms _ _ hr hf hN hd=>wpIn_label ⟨ms,fr,L,h,hr,Ext.refl _ _,Cx.le.refl _,hf,hN,hd⟩
theorem z3q {b:Frame} {k:List Item} {c:Code}:step P (lone (b.atR a (.code (.scope c) :: k)) cs w) = .next (lone (b.atR a (.code c :: .inScope c :: k)) cs w) :=
 step_lone_go (by simp[stepG,stepG.exec,Frame.atR])
theorem zdg {b:Frame} {k:List Item} {c:Code}:step P (lone (b.atR a (.inScope c :: k)) cs w) = .next (lone (b.atR a k) cs w) :=
 step_lone_go (by simp[stepG,stepG.exec,Frame.atR])
theorem zia {Q:Exit->Act->World->Prop} {c:Code} (h:c.wpIn F n P Q a w) (hg:∀ l a w,¬ Q (.goto l) a w):(Code.scope c).wpIn F n P Q a w:=by
 intro b k cs hro hb hr
 have h0:(lone (b.atR a (.code (.scope c) :: k)) cs w).fenced P F:=y4l hb hr rfl
 obtain⟨e,a₁,w₁,hq,harr⟩:=h b (.inScope c :: k) cs hro hb hr
 cases e with
 | normal=>exact⟨.normal,a₁,w₁,hq,.head h0 z3q (StepsIn.trans harr (.one (y4l hb hr rfl) zdg))⟩
 | exit id=>exact⟨_,a₁,w₁,hq,.of_steps (.one h0 z3q) ⟨fun k' hk=>harr.1 k' (by simp[exitTo,hk]),fun hr hk=>harr.2 hr (by simp[exitTo,hk])⟩⟩
 | goto l=>exact absurd hq (hg _ _ _)
 | ret=>exact⟨_,a₁,w₁,hq,.of_steps (.one h0 z3q) harr⟩
 | panic ch=>exact⟨_,a₁,w₁,hq,.of_steps (.one h0 z3q) harr⟩
 | outgrown=>exact⟨_,a₁,w₁,hq,.of_steps (.one h0 z3q) harr⟩
theorem zm4 {c:Code} (h:AW z P N c Q fr L) (hg:∀ l fr L,¬ Q (.goto l) fr L):AW z P N (.scope c) Q fr L :=
 fun zn df X ms w a hr hf hN hd=>zia (h zn df X ms w a hr hf hN hd) fun l _ _ ⟨_,_,_,hq,_⟩=>hg l _ _ hq
def thenP (k:Fr->List Ob->Prop) (Q:Post):Post
 | .normal,fr,L=>k fr L
 | e,fr,L=>Q e fr L
theorem z47 {x:Code} (h:AW z P N x (thenP (fun fr L=>AW z P N y Q fr L) Q) fr L):AW z P N (.seq x y) Q fr L:=by
 intro zn df X ms w a hr hf hN hd
 refine y4n (y2j (h zn df X ms w a hr hf hN hd) ?_)
 rintro e a1 w1 ⟨ms1,fr1,L1,hq,hr1,he1,hc1,hf1,hN1,hd1⟩
 cases e with
 | normal =>
  refine y2j (hq zn df X ms1 w1 a1 hr1 hf1 hN1 hd1) ?_
  rintro e a2 w2 ⟨ms2,fr2,L2,hq2,hr2,he2,hc2,hf2,hN2,hd2⟩
  exact⟨ms2,fr2,L2,hq2,hr2,he1.trans he2,hc1.trans hc2,hf2,hN2,hd2⟩
 | exit i=>exact⟨ms1,fr1,L1,hq,hr1,he1,hc1,hf1,hN1,hd1⟩
 | goto l=>exact⟨ms1,fr1,L1,hq,hr1,he1,hc1,hf1,hN1,hd1⟩
 | ret=>exact⟨ms1,fr1,L1,hq,hr1,he1,hc1,hf1,hN1,hd1⟩
 | panic ch=>exact⟨ms1,fr1,L1,hq,hr1,he1,hc1,hf1,hN1,hd1⟩
 | outgrown=>exact⟨ms1,fr1,L1,hq,hr1,he1,hc1,hf1,hN1,hd1⟩
def blockP (id:Nat) (Q:Post):Post
 | .exit i,fr,L=>if i=id then Q .normal fr L else Q (.exit i) fr L
 | e,fr,L=>Q e fr L
def AWL (z:Option Nat) (P:Program) (N:Nat) (c:Code) (Q:Post) (fr:Fr) (L:List Ob):Prop :=
 ∀ (zn:Nat) (df:List Deferred) (X:Nat->Prop) (ms:Blocks) (w:World) (a:Act),Rel X ms L w->FrIs (cxOf X ms L w) fr.up a.tmps->a.tmps.size=N->a.defers=df ->
  ∀ (b:Frame) (k:List Item) (cs:List Frame),b.roundOf=(fenceOf z).round->(fenceOf z).fn b.fn->(fenceOf z).room (cs.length+1+zn) ->
  ∃ e a' w',(∃ ms' fr' L',Q e fr' L'/\Rel X ms' L' w'/\Ext ms w ms' w'/\(cxOf X ms L w).le (cxOf X ms' L' w')/\FrIs (cxOf X ms' L' w') fr'.up a'.tmps /\
   a'.tmps.size=N/\a'.defers=df)/\ArrivesIn (Machine.fenced P (fenceOf z)) P (lone (b.atR a (.inLoop c :: k)) cs w) b k cs e a' w'
theorem zat {c:Code} (h:AW z P N c (thenP (fun fr L=>AWL z P N c Q fr L) Q) fr L) {m:Machine} (zn:Nat) (df:List Deferred) (X:Nat->Prop) (ms:Blocks) (w:World) (a:Act) (hr:Rel X ms L w)
  (hf:FrIs (cxOf X ms L w) fr.up a.tmps) (hN:a.tmps.size=N) (hd:a.defers=df) (b:Frame) (k:List Item) (cs:List Frame) (h1:b.roundOf=(fenceOf z).round) (h2:(fenceOf z).fn b.fn)
  (h3:(fenceOf z).room (cs.length+1+zn)) (hm:StepsIn (Machine.fenced P (fenceOf z)) P m (lone (b.atR a (.code c :: .inLoop c :: k)) cs w)) :
  ∃ e a' w',(∃ ms' fr' L',Q e fr' L'/\Rel X ms' L' w'/\Ext ms w ms' w'/\(cxOf X ms L w).le (cxOf X ms' L' w')/\FrIs (cxOf X ms' L' w') fr'.up a'.tmps /\
   a'.tmps.size=N/\a'.defers=df)/\ArrivesIn (Machine.fenced P (fenceOf z)) P m b k cs e a' w':=by
 obtain⟨e,a1,w1,⟨ms1,fr1,L1,hq,r1,e1,c1,f1,n1,d1⟩,harr⟩:=h zn df X ms w a hr hf hN hd b (.inLoop c :: k) cs h1 h2 h3
 have harr:=ArrivesIn.of_steps hm harr
 cases e with
 | normal =>
  obtain⟨e2,a2,w2,⟨ms2,fr2,L2,q2,r2,e2',c2,f2,n2,d2⟩,harr2⟩:=hq zn df X ms1 w1 a1 r1 f1 n1 d1 b k cs h1 h2 h3
  exact⟨e2,a2,w2,⟨ms2,fr2,L2,q2,r2,e1.trans e2',c1.trans c2,f2,n2,d2⟩,.of_steps harr harr2⟩
 | exit id=>exact⟨_,a1,w1,⟨ms1,fr1,L1,hq,r1,e1,c1,f1,n1,d1⟩,.pass (x:=.inLoop c) rfl (fun _ _=>.inl sj) harr⟩
 | goto l=>exact⟨_,a1,w1,⟨ms1,fr1,L1,hq,r1,e1,c1,f1,n1,d1⟩,.pass (x:=.inLoop c) rfl (fun _ _=>.inl sj) harr⟩
 | ret=>exact⟨_,a1,w1,⟨ms1,fr1,L1,hq,r1,e1,c1,f1,n1,d1⟩,.pass (x:=.inLoop c) rfl (fun _ _=>.inl sj) harr⟩
 | panic ch=>exact⟨_,a1,w1,⟨ms1,fr1,L1,hq,r1,e1,c1,f1,n1,d1⟩,.pass (x:=.inLoop c) rfl (fun _ _=>.inl sj) harr⟩
 | outgrown=>exact⟨_,a1,w1,⟨ms1,fr1,L1,hq,r1,e1,c1,f1,n1,d1⟩,.pass (x:=.inLoop c) rfl (fun _ _=>.inl sj) harr⟩
theorem zm5 {c:Code} (h:AW z P N c (thenP (fun fr L=>AWL z P N c Q fr L) Q) fr L):AW z P N (.loop c) Q fr L :=
 fun zn df X ms w a hr hf hN hd b k cs h1 h2 h3=>zat h zn df X ms w a hr hf hN hd b k cs h1 h2 h3 (.one (y4l h2 h3 rfl) stepR_loop)
theorem zq5 {c:Code} (h:AW z P N c (thenP (fun fr L=>AWL z P N c Q fr L) Q) fr L):AWL z P N c Q fr L :=
 fun zn df X ms w a hr hf hN hd b k cs h1 h2 h3=>zat h zn df X ms w a hr hf hN hd b k cs h1 h2 h3 (.one (y4l h2 h3 rfl) stepR_inLoop)
theorem z73 {c:Code} (h:AW z P N c (blockP i Q) fr L):AW z P N (.block i c) Q fr L:=by
 intro zn df X ms w a hr hf hN hd
 refine wpIn_block (y2j (h zn df X ms w a hr hf hN hd) ?_)
 rintro e a1 w1 ⟨ms1,fr1,L1,hq,rest⟩
 cases e with
 | exit j =>
  by_cases hj:j=i
  ·simp only[blockP,hj,y3p] at hq
   simp only[Exit.inBlock,hj,y3p]
   exact⟨ms1,fr1,L1,hq,rest⟩
  ·simp only[blockP,y8 hj] at hq
   simp only[Exit.inBlock,y8 hj]
   exact⟨ms1,fr1,L1,hq,rest⟩
 | normal=>exact⟨ms1,fr1,L1,hq,rest⟩
 | goto l=>exact⟨ms1,fr1,L1,hq,rest⟩
 | ret=>exact⟨ms1,fr1,L1,hq,rest⟩
 | panic ch=>exact⟨ms1,fr1,L1,hq,rest⟩
 | outgrown=>exact⟨ms1,fr1,L1,hq,rest⟩
theorem z8w {o:Operand} {x:Code} {b:Bool} (hb:opnd fr.up [] o=some (.d (.b b))) (ht:b=true->AW z P N x Q fr L) (hf':b=false->AW z P N y Q fr L) :
  AW z P N (.cond o x y) Q fr L:=by
 intro zn df X ms w a hr hf hN hd
 have e:=IsV.b (zg hb hf (fun y hy=>by cases hy))
 cases b with
 | true=>exact wpIn_cond_true e (ht rfl zn df X ms w a hr hf hN hd)
 | false=>exact wpIn_cond_false e (hf' rfl zn df X ms w a hr hf hN hd)
def frOf:GFr->Fr
 | []=>[]
 | (t,[],v) :: r=>(t,v) :: frOf r
 | (_,_ :: _,_) :: r=>frOf r
theorem za5:∀ {G:GFr} {t:Nat} {v:AV},(t,v)∈frOf G->(t,[],v)∈G
 | [],_,_,h=>by cases h
 | (s,[],u) :: r,t,v,h=>by
  rcases yu.1 h with e | h
  ·cases e; exact y1h
  ·exact y17 _ (za5 h)
 | (_,_ :: _,_) :: r,t,v,h=>y17 _ (za5 (G:=r) h)
theorem zh7 (hf:FrIs c G tmps):FrIs c (frOf G).up tmps:=fun x hx=>by
 obtain⟨y,hy,rfl⟩:=y1l.1 hx
 exact hf _ (za5 hy)
def regionRun (P:Program) (ops:Array Oper) (N:Nat) (hs:List (Nat×HE)) (fr:Fr) (L:List Ob):Option (Fr×List Ob×List Prop) :=
 match runOps P ops N hs (List.range ops.size) fr.up L with
 | some (G,L',C)=>some (frOf G,L',C)
 | none=>none
theorem z65 {id:Nat} {hs:List (Nat×HE)} (h:regionRun P ops N hs fr L=some (fr',L',C)) (hc:AllP C) (hQ:Q .normal fr' L'):AW z P N (.region id ops false) Q fr L:=by
 intro zn df X ms w a hr hf hN hd
 unfold regionRun at h
 split at h
 ·rename_i G L1 C1 hrun
  cases h
  refine y54 (z2k z zn _ _ _ _ _ _ ms w a hrun hc hr hf hN fun a' ms' w' q1 q2 q3 q4 q5 q6=>?_)
  exact⟨ms',frOf G,L',hQ,q1,q2,q3,zh7 q4,q5,q6.trans hd⟩
 ·cases h
def Fr.get? : Fr->Nat->Option AV
 | [],_=>none
 | (s,v) :: r,t=>if s==t then some v else Fr.get? r t
def FrLe (fr fr':Fr):Prop:=∀ x∈fr',∃ v,(x.1,v)∈fr/\LeV v x.2
theorem FrLe.refl (fr:Fr):FrLe fr fr:=fun x hx=>⟨x.2,hx,LeV.refl _⟩
theorem FrLe.is {fr:Fr} (h:FrLe fr fr') (hf:FrIs c fr.up tmps):FrIs c fr'.up tmps:=by
 intro x hx
 obtain⟨y,hy,rfl⟩:=y1l.1 hx
 obtain⟨v,hv,hle⟩:=h y hy
 obtain⟨h1,h2,h3⟩:=hf (y.1,[],v) (y1l.2 ⟨(y.1,v),hv,rfl⟩)
 exact⟨h1,fun hh=>hle c _ (h2 hh),fun hh=>absurd (fun z hz=>by cases hz) hh⟩
theorem zk3 {c:Code} (h:AW z P N c Q fr' L) (hle:FrLe fr fr'):AW z P N c Q fr L :=
 fun zn df X ms w a hr hf hN hd=>h zn df X ms w a hr (hle.is hf) hN hd
end
mutual
def AV.lt (n:Nat):AV->Bool
 | .agg fs=>AV.ltL n fs
 | .ptr o _ _=>decide (o<n)
 | .ref o _ _ _=>decide (o<n)
 | .map o=>decide (o<n)
 | .fn _ caps=>AV.ltL n caps
 | .tup vs=>AV.ltL n vs
 | .sel _ _ x y=>x.lt n&&y.lt n
 | _=>true
def AV.ltL (n:Nat):List AV->Bool
 | []=>true
 | x :: xs=>x.lt n&&AV.ltL n xs
end
def Ob.lt (n:Nat):Ob->Prop
 | .box x=>x.lt n=true
 | .seq _ m f=>∀ i,i<m->(f i).lt n=true
 | .map _=>True
 | .dead=>True
 | .unb=>True
structure Cx.cut (c c':Cx) (n:Nat):Prop where
 M:c.M.le c'.M
 len:n<=c'.L.length
 L:∀ o,o<n->c'.L[o]? = c.L[o]?
 ms:∀ o,o<n->c'.ms[o]? = c.ms[o]?
mutual
theorem AV.Is.cut {c c':Cx} {n:Nat} (hc:c.cut c' n) {x:AV} {cs:List Value}:AV.Is c x cs->x.lt n=true->AV.Is c' x cs
 | .d x cs h,_=>.d x cs (h.mono hc.M)
 | .full n f a h,_=>.full n f a (h.mono hc.M)
 | .nq b n f v h hb,_=>.nq b n f v (h.mono hc.M) hb
 | .err b v h,_=>.err b v h
 | .agg gs cs h,hb=>.agg gs cs (AV.IsL.cut hc h (by simpa [AV.lt] using hb))
 | .ptr o st path v h,hb=>.ptr o st path v (by
  have ho:o<n:=by simpa [AV.lt] using hb
  unfold PtrOk at *
  rw[hc.L o ho,hc.ms o ho]
  exact⟨y11 ho hc.len,h.2⟩)
 | .imm x b off ar cs hb h hc',_=>.imm x b off ar cs (hc.M _ _ hb) (h.mono hc.M) hc'
 | .ref o st off n v h,hb=>.ref o st off n v (by
  have ho:=by simpa [AV.lt] using hb
  unfold RefOk at *
  rw[hc.L o ho,hc.ms o ho]
  exact⟨y11 ho hc.len,h.2⟩)
 | .map o v h,hb=>.map o v (by
  have ho:=by simpa [AV.lt] using hb
  unfold MapOk at *
  rw[hc.L o ho,hc.ms o ho]
  exact⟨y11 ho hc.len,h.2⟩)
 | .fn f caps vs h,hb=>.fn f caps vs (AV.IsVs.cut hc h (by simpa [AV.lt] using hb))
 | .bot v h,_=>.bot v h
 | .selT sz x y cs h hl,hb=>.selT sz x y cs (AV.Is.cut hc h (by simp only[AV.lt,yg] at hb; exact hb.1)) hl
 | .selF sz x y cs h hl,hb=>.selF sz x y cs (AV.Is.cut hc h (by simp only[AV.lt,yg] at hb; exact hb.2)) hl
theorem AV.IsL.cut {c c':Cx} {n:Nat} (hc:c.cut c' n) {xs:List AV} {cs:List Value}:AV.IsL c xs cs->AV.ltL n xs=true->AV.IsL c' xs cs
 | .nil,_=>.nil
 | .cons x xs k ks h ht,hb=>by
  simp only[AV.ltL,yg] at hb
  exact .cons x xs k ks (AV.Is.cut hc h hb.1) (AV.IsL.cut hc ht hb.2)
theorem AV.IsV.cut {c c':Cx} {n:Nat} (hc:c.cut c' n) {x:AV} {v:Value}:AV.IsV c x v->x.lt n=true->AV.IsV c' x v
 | .agg av cs ha h,hb=>.agg av cs ha (AV.Is.cut hc h hb)
 | .one av v ha h,hb=>.one av v ha (AV.Is.cut hc h hb)
 | .tup vs us h,hb=>.tup vs us (AV.IsVs.cut hc h (by simpa [AV.lt] using hb))
 | .bot v,_=>.bot v
theorem AV.IsVs.cut {c c':Cx} {n:Nat} (hc:c.cut c' n) {xs:List AV} {vs:List Value}:AV.IsVs c xs vs->AV.ltL n xs=true->AV.IsVs c' xs vs
 | .nil,_=>.nil
 | .cons x xs v vs h ht,hb=>by
  simp only[AV.ltL,yg] at hb
  exact .cons x xs v vs (AV.IsV.cut hc h hb.1) (AV.IsVs.cut hc ht hb.2)
end
variable {c':Cx}
theorem EntsIs.cut (hc:c.cut c' n):∀ {es:List (DV×DV)} {r:List MapEntry},EntsIs c es r->EntsIs c' es r
 | [],[],_=>trivial
 | (_,_) :: _,_ :: _,h=>⟨h.1.cut hc rfl,h.2.1.cut hc rfl,EntsIs.cut hc h.2.2⟩
 | [],_ :: _,h=>h.elim
 | _ :: _,[],h=>h.elim
theorem ObIs.cut (hc:c.cut c' n) {o:Nat} (ho:o<n) (hb:obj.lt n) (h:ObIs c w o obj):ObIs c' w o obj:=by
 cases obj with
 | box x =>
  rcases h with h | ⟨b,tc,arr,e,h1,h2,h3⟩
  ·exact .inl ((hc.ms o ho).trans h)
  ·exact .inr ⟨b,tc,arr,e,(hc.ms o ho).trans h1,h2,h3.cut hc hb⟩
 | seq sz m f =>
  rcases h with h | ⟨b,tc,arr,e,cs,h1,h2,h3,h4,h5,h6⟩
  ·exact .inl ⟨(hc.ms o ho).trans h.1,h.2⟩
  ·exact .inr ⟨b,tc,arr,e,cs,(hc.ms o ho).trans h1,h2,h3,h4,fun i hi=>(h5 i hi).cut hc (hb i hi),h6⟩
 | map es =>
  obtain⟨b,tc,ents,clock,h1,h2,h3,h4⟩:=h
  exact⟨b,tc,ents,clock,(hc.ms o ho).trans h1,h2,h3.cut hc,h4⟩
 | dead=>trivial
 | unb=>exact (hc.ms o ho).trans h
variable {J:List Ob}
theorem z4x:(cxOf X ms (L++J) w).cut (cxOf X (ms.take L.length) L w) L.length where
 M:=fun b arr h=>by
  obtain⟨h1,h2,e,fz,h3⟩:=z1o h
  exact z19 h1 (fun⟨o,tc,ho⟩=>h2 ⟨o,tc,by
   by_cases hlt:o<L.length
   ·rw[y1r hlt] at ho; exact ho
   ·rw[yi sk] at ho; cases ho⟩) h3
 len:=yf _
 L:=fun o ho=>by simp[cxOf,List.getElem?_append_left ho]
 ms:=fun o ho=>by simp[cxOf,List.getElem?_take_of_lt ho]
theorem Rel.forget (h:Rel X ms (L++J) w) (hb:∀ (o:Nat) (obj:Ob),L[o]? = some obj->obj.lt L.length) :
  Rel X (ms.take L.length) L w:=by
 have hget:∀ (o:Nat) b tc,(ms.take L.length)[o]? = some (some (b,tc))->ms[o]? = some (some (b,tc)):=fun o b tc e=>by
  by_cases hlt:o<L.length
  ·rw[y1r hlt] at e; exact e
  ·rw[yi sk] at e; cases e
 refine⟨?_,fun b ⟨o,tc,e⟩=>h.lt b ⟨o,tc,hget o b tc e⟩,h.xlt,fun o o' b tc tc' e e'=>h.inj o o' b tc tc' (hget _ _ _ e) (hget _ _ _ e'),fun o obj ho=>?_,h.glob.mono (z4x (J:=J)).M⟩
 ·have:=h.len
  simp at this
  simp; omega
 ·have hlt:o<L.length:=by
   rcases yp o L.length with h' | h'
   ·exact h'
   ·rw[yi h'] at ho; cases ho
  exact (h.obs o obj (by rw[yk hlt]; exact ho)).cut z4x hlt (hb o obj ho)
variable {ms':Blocks}
theorem Ext.forget (h:Ext ms w ms' w') (n:Nat):Ext ms w (ms'.take n) w' :=
 ⟨h.size,fun b hb ho=>⟨(h.keep b hb ho).1,fun⟨o,tc,e⟩=>(h.keep b hb ho).2 ⟨o,tc,by
  by_cases hlt:o<n
  ·rw[y1r hlt] at e; exact e
  ·rw[yi sk] at e; cases e⟩⟩,h.out⟩
theorem Cx.le.forget (h:c.le (cxOf X ms' (L++J) w')) (hl:c.L.length<=L.length) :
  c.le (cxOf X (ms'.take L.length) L w') where
 M:=h.M.trans (z4x (J:=J)).M
 L:=hl
 ob:=fun o obj' ho hl' hs=>by
  have hlt:o<L.length:=y11 ho hl
  obtain⟨obj,k1,k2,k3,k4⟩:=h.ob o obj' ho (by simp only[cxOf] at hl' |-; rw[yk hlt]; exact hl') hs
  exact⟨obj,k1,k2,k3,fun e=>by rw[<- k4 e]; simp[cxOf,List.getElem?_take_of_lt hlt]⟩
variable {z:Option Nat}
def LLe (L L':List Ob):Prop:=∃ J,L=L'++J/\∀ (o:Nat) (obj:Ob),L'[o]? = some obj->obj.lt L'.length
def StLe (fr:Fr) (L:List Ob) (fr':Fr) (L':List Ob):Prop :=
 FrLe fr fr'/\(L=L'\/(LLe L L'/\∀ x∈fr',x.2.lt L'.length=true))
theorem StLe.refl (fr:Fr) (L:List Ob):StLe fr L fr L:=⟨FrLe.refl _,.inl rfl⟩
variable {fr:Fr}
theorem StLe.rel {ms0:Blocks} {L0:List Ob} {w0:World} (h:StLe fr L fr' L') (hl:L0.length<=L'.length) (hr:Rel X ms L w) (he:Ext ms0 w0 ms w) (hc:(cxOf X ms0 L0 w0).le (cxOf X ms L w)) (hf:FrIs (cxOf X ms L w) fr.up tmps) :
  ∃ ms',Rel X ms' L' w/\Ext ms0 w0 ms' w/\(cxOf X ms0 L0 w0).le (cxOf X ms' L' w)/\FrIs (cxOf X ms' L' w) fr'.up tmps:=by
 obtain⟨h1,h2⟩:=h
 have hf':=h1.is hf
 rcases h2 with rfl | ⟨⟨J,rfl,hb⟩,hlt⟩
 ·exact⟨ms,hr,he,hc,hf'⟩
 ·refine⟨ms.take L'.length,hr.forget hb,he.forget _,hc.forget hl,fun x hx=>?_⟩
  obtain⟨y,hy,rfl⟩:=y1l.1 hx
  obtain⟨k1,k2,k3⟩:=hf' _ hx
  exact⟨k1,fun hh=>(k2 hh).cut z4x (hlt y hy),k3⟩
section
variable {P:Program} {N:Nat} {Q:Post} {fr:Fr} {L:List Ob}
theorem zea {P:Program} {c:Code} {Q:Exit->Act->World->Prop} {σ:Type} (R:σ->Act->World->Prop) (μ:σ->Nat) (round:∀ s a w,R s a w->c.wpIn F n P (Exit.then (fun a' w'=>∃ s',R s' a' w'/\μ s'<μ s) Q) a w) (s:σ) (a:Act) (w:World) (h:R s a w):(Code.loop c).wpIn F n P Q a w:=by
 intro b k cs hro hb hr
 have key:∀ m s a w,μ s=m->R s a w->∃ e a' w',Q e a' w'/\ArrivesIn (Machine.fenced P F) P (lone (b.atR a (.code c :: .inLoop c :: k)) cs w) b k cs e a' w':=by
  intro m
  induction m using Nat.strongRecOn with
  | _ m ih =>
   intro s a w hn hI
   obtain⟨e,a₁,w₁,hq,harr⟩:=round s a w hI b (.inLoop c :: k) cs hro hb hr
   cases e with
   | normal =>
    obtain⟨s',hI₁,hlt⟩:=hq
    obtain⟨e₂,a₂,w₂,hq₂,harr₂⟩:=ih (μ s') (hn▸hlt) s' a₁ w₁ rfl hI₁
    exact⟨e₂,a₂,w₂,hq₂,.of_steps (StepsIn.trans harr (.one (y4l hb hr rfl) stepR_inLoop)) harr₂⟩
   | exit id=>exact⟨_,a₁,w₁,hq,.pass (x:=.inLoop c) rfl (fun _ _=>.inl sj) harr⟩
   | goto l=>exact⟨_,a₁,w₁,hq,.pass (x:=.inLoop c) rfl (fun _ _=>.inl sj) harr⟩
   | ret=>exact⟨_,a₁,w₁,hq,.pass (x:=.inLoop c) rfl (fun _ _=>.inl sj) harr⟩
   | panic ch=>exact⟨_,a₁,w₁,hq,.pass (x:=.inLoop c) rfl (fun _ _=>.inl sj) harr⟩
   | outgrown=>exact⟨_,a₁,w₁,hq,.pass (x:=.inLoop c) rfl (fun _ _=>.inl sj) harr⟩
 obtain⟨e,a',w',hq,harr⟩:=key _ s a w rfl h
 exact⟨e,a',w',hq,.of_steps (.one (y4l hb hr rfl) stepR_loop) harr⟩
theorem zh8 {c:Code} {σ:Type} (I:σ->Fr) (LI:σ->List Ob) (ok:σ->Prop) (Qs:σ->Post) (μ:σ->Nat)
  (round:∀ s,ok s->AW z P N c (fun e fr' L'=>match e with
   | .normal=>∃ s',ok s'/\StLe fr' L' (I s') (LI s')/\μ s'<μ s/\(LI s).length=(LI s').length/\∀ e fr L,Qs s' e fr L->Qs s e fr L
   | e=>Qs s e fr' L') (I s) (LI s))
  (s:σ) (hs:ok s) (hfr:StLe fr L (I s) (LI s)) (hlen:L.length<=(LI s).length) (hQ:∀ e fr L,Qs s e fr L->Q e fr L):AW z P N (.loop c) Q fr L:=by
 intro zn df X ms w a hr hf hN hd
 refine zea (σ:=σ) (fun s' a' w'=>ok s'/\(LI s).length=(LI s').length/\(∀ e fr L,Qs s' e fr L->Qs s e fr L)/\∃ ms',Rel X ms' (LI s') w'/\Ext ms w ms' w'/\(cxOf X ms L w).le (cxOf X ms' (LI s') w') /\
  FrIs (cxOf X ms' (LI s') w') (I s').up a'.tmps/\a'.tmps.size=N/\a'.defers=df) μ ?_ s a w ?_
 ·rintro s1 a1 w1 ⟨hok,hll,hqs,ms1,r1,e1,c1,f1,n1,d1⟩
  refine y2j (round s1 hok zn df X ms1 w1 a1 r1 f1 n1 d1) ?_
  rintro e a2 w2 ⟨ms2,fr2,L2,q2,r2,e2,c2,f2,n2,d2⟩
  cases e with
  | normal =>
   obtain⟨s3,ok3,st3,m3,l3,q3⟩:=q2
   obtain⟨ms3,k1,k2,k3,k4⟩:=st3.rel (by have:=c1.L; simp only[cxOf] at this; omega) r2 (e1.trans e2) (c1.trans c2) f2
   exact⟨s3,⟨ok3,om,fun e fr L h=>hqs e fr L (q3 e fr L h),ms3,k1,k2,k3,k4,n2,d2⟩,m3⟩
  | exit id=>exact⟨ms2,fr2,L2,hQ _ _ _ (hqs _ _ _ q2),r2,e1.trans e2,c1.trans c2,f2,n2,d2⟩
  | goto id=>exact⟨ms2,fr2,L2,hQ _ _ _ (hqs _ _ _ q2),r2,e1.trans e2,c1.trans c2,f2,n2,d2⟩
  | ret=>exact⟨ms2,fr2,L2,hQ _ _ _ (hqs _ _ _ q2),r2,e1.trans e2,c1.trans c2,f2,n2,d2⟩
  | panic id=>exact⟨ms2,fr2,L2,hQ _ _ _ (hqs _ _ _ q2),r2,e1.trans e2,c1.trans c2,f2,n2,d2⟩
  | outgrown=>exact⟨ms2,fr2,L2,hQ _ _ _ (hqs _ _ _ q2),r2,e1.trans e2,c1.trans c2,f2,n2,d2⟩
 ·obtain⟨ms',k1,k2,k3,k4⟩:=hfr.rel hlen hr (Ext.refl _ _) (Cx.le.refl _) hf
  exact⟨hs,rfl,fun _ _ _ h=>h,ms',k1,k2,k3,k4,hN,hd⟩
end
def resL (P:Program) (fr:Fr) (L:List Ob):List ResultVar->Option (List AV×List Prop)
 | []=>some ([],[])
 | .tmp t :: r=>match opnd fr.up [] (.tmp t),resL P fr L r with
  | some v,some (vs,C)=>some (v :: vs,C)
  | _,_=>none
 | .cell a t :: r=>match (opnd fr.up [] (.tmp a)).bind (vLoad P L t),resL P fr L r with
  | some (v,C1),some (vs,C)=>some (v :: vs,C1++C)
  | _,_=>none
def resV (P:Program) (fn:Func) (fr:Fr) (L:List Ob):Option (AV×List Prop) :=
 match resL P fr L fn.results.toList with
 | some ([v],C)=>some (v,C)
 | some (vs,C)=>some (.tup vs,C)
 | none=>none
theorem zib {a:Addr}:(asAddr (.pointer (some a))).run P w = .ok a w:=rfl
def resRead (tmps:Array Value):ResultVar->Sem Value
 | .tmp t=>pure (tmps.getD t undef)
 | .cell x t=>do loadVar t (<- asAddr (tmps.getD x undef))
theorem z8x {P:Program} {X:Nat->Prop} {ms:Blocks} {L:List Ob} {w:World} {fr:Fr} {a:Act} (hr:Rel X ms L w) (hf:FrIs (cxOf X ms L w) fr.up a.tmps) :
  ∀ {l:List ResultVar} {vs:List AV} {C:List Prop},resL P fr L l=some (vs,C)->AllP C ->
  ∃ us,(l.mapM (resRead a.tmps)).run P w = .ok us w/\AV.IsVs (cxOf X ms L w) vs us
 | [],vs,C,h,_=>by simp[resL] at h; obtain⟨rfl,rfl⟩:=h; exact⟨[],rfl,.nil⟩
 | .tmp t :: r,vs,C,h,hc=>by
  simp only[resL] at h
  split at h
  ·rename_i v vs' C' ho hrest
   cases h
   obtain⟨us,k1,k2⟩:=z8x hr hf hrest hc
   have:=zg ho hf (fun y hy=>by cases hy)
   refine⟨a.tmps.getD t undef :: us,?_,.cons _ _ _ _ this k2⟩
   simp only[List.mapM_cons,resRead,y12,y24,yq,k1]
  ·cases h
 | .cell x t :: r,vs,C,h,hc=>by
  simp only[resL] at h
  split at h
  ·rename_i v C1 vs' C' ho hrest
   cases h
   obtain⟨hc1,hc2⟩:=ze.1 hc
   obtain⟨us,k1,k2⟩:=z8x hr hf hrest hc2
   cases hx:opnd fr.up [] (.tmp x) with
   | none=>simp[hx] at ho
   | some xv =>
    simp[hx] at ho
    have hxv:=zg hx hf (fun y hy=>by cases hy)
    obtain⟨u,l1,l2⟩:=zdz (P:=P) hr ho hc1 hxv
    refine⟨u :: us,?_,.cons _ _ _ _ l2 k2⟩
    have hptr:∃ ad,a.eval (.tmp x) = .pointer (some ad):=by
     generalize hu:a.eval (.tmp x)=u0 at l1
     cases u0 with
     | pointer p =>
      cases p with
      | none=>simp[Instr.loadAt,Instr.sureAddr] at l1
      | some ad=>exact⟨ad,rfl⟩
     | _=>simp[Instr.loadAt,Instr.sureAddr] at l1
    obtain⟨ad,had⟩:=hptr
    rw[had] at l1
    have had':a.tmps.getD x undef = .pointer (some ad):=had
    simp only[Instr.loadAt,Instr.sureAddr,y12,y24,yq] at l1
    simp only[List.mapM_cons,resRead,y12,had',zib,yq,l1,k1,y24]
  ·cases h
variable {fn:Func}
theorem z8y (hr:Rel X ms L w) (hf:FrIs (cxOf X ms L w) fr.up a.tmps) (h:resV P fn fr L=some (v,C)) (hc:AllP C):∃ u,(results fn a.tmps).run P w = .ok u w/\AV.IsV (cxOf X ms L w) v u:=by
 unfold resV at h
 have hrun:∀ us,(fn.results.toList.mapM (resRead a.tmps)).run P w = .ok us w ->
   (results fn a.tmps).run P w = .ok (if h:us.length=1 then us[0] else .tuple us.toArray) w:=fun us e=>by
  have hres:results fn a.tmps=(fn.results.mapM (resRead a.tmps) >>= fun vs=>pure (if h:vs.size=1 then vs[0] else .tuple vs)):=rfl
  rw[hres,y4b]
  simp only[y12,Sem.run_map,e,yq,y24]
  congr 1
 split at h
 ·rename_i v' C' hl
  cases h
  obtain⟨us,k1,k2⟩:=z8x hr hf hl hc
  cases k2 with
  | cons _ _ u us' h1 h2 =>
  cases h2
  exact⟨u,by rw[hrun _ k1]; simp,h1⟩
 ·rename_i vs C' hne hl
  cases h
  obtain⟨us,k1,k2⟩:=z8x hr hf hl hc
  refine⟨.tuple us.toArray,?_,.tup _ _ k2⟩
  rw[hrun _ k1,dif_neg]
  intro h1
  cases k2 with
  | nil=>simp at h1
  | cons x xs u us' h2 h3 =>
   cases h3 with
   | nil=>exact hne x rfl
   | cons=>simp at h1
 ·cases h
def argFr:List AV->Nat->Fr
 | [],_=>[]
 | v :: r,i=>(i,v) :: argFr r (i+1)
theorem z74 {c:Cx}:∀ {as:List AV} {us:List Value} (i:Nat) (tmps:Array Value),AV.IsVs c as us->(∀ k,k<us.length->tmps.getD (i+k) undef=us.getD k undef/\i+k<tmps.size) ->
  FrIs c (argFr as i).up tmps
 | _,_,i,tmps,.nil,_=>fun x hx=>by cases hx
 | _,_,i,tmps,.cons v vs u us h ht,hk=>by
  intro x hx
  rcases yu.1 hx with rfl | hx
  ·have:=hk 0 sj
   simp at this
   refine⟨this.2,fun _=>?_,fun hh=>absurd (fun y hy=>by cases hy) hh⟩
   show AV.IsV c v (tmps.getD i undef)
   have e:tmps.getD i undef=u:=by simpa using this.1
   rw[e]; exact h
  ·refine z74 (i+1) tmps ht (fun k hk'=>?_) x hx
   have:=hk (k+1) (by simpa using hk')
   rw[y36,Nat.add_comm 1 k]
   simpa using this
theorem zeb {c:Code} {args:List AV} (hf:P.funcs[f]? = some fn) (hb:fn.body=some c) (hn:args.length<=fn.ntmps) (hl:L.length<=L'.length) (hv:v.lt L'.length=true) (hLb:∀ (o:Nat) (obj:Ob),L'[o]? = some obj->obj.lt L'.length) (h:AW none P fn.ntmps c (fun e fr1 L1=>(e = .normal\/e = .ret)/\∃ v1 C J,resV P fn fr1 L1=some (v1,C)/\AllP C/\LeV v1 v/\L1=L'++J) (argFr args 0) L) :
  CallOk P f args L v L':=by
 intro X ms w us hr hu
 refine calls_of_wp hf hb (wpIn_wide (n:=0).1 ?_)
 have hlen:∀ {as:List AV} {us:List Value},AV.IsVs (cxOf X ms L w) as us->us.length=as.length:=by
  intro as us h
  induction as generalizing us with
  | nil=>cases h; rfl
  | cons x xs ih=>cases h with | cons _ _ _ _ _ ht=>simp[ih ht]
 have hul:=hlen hu
 have hfr:FrIs (cxOf X ms L w) (argFr args 0).up (us.toArray++Array.replicate (fn.ntmps-us.toArray.size) undef) :=
  z74 0 _ hu (fun k hk=>by
   refine⟨?_,sk⟩
   simp only[y14,y18]
   rw[y46 (by simpa using hk)]
   simp[List.getD])
 refine y2j (h 0 [] X ms w _ hr hfr sk rfl) ?_
 rintro e a1 w1 ⟨ms1,fr1,L1,⟨he,v1,C,J,hres,hC,hle,rfl⟩,r1,e1,c1,f1,_,d1⟩
 obtain⟨u,k1,k2⟩:=z8y r1 f1 hres hC
 have hpost:∃ v',(results fn a1.tmps).run P w1 = .ok v' w1/\∃ u ms',Ending.returned v' = .returned u/\Rel X ms' L' w1/\Ext ms w ms' w1/\(cxOf X ms L w).le (cxOf X ms' L' w1)/\AV.IsV (cxOf X ms' L' w1) v u :=
  ⟨u,k1,u,ms1.take L'.length,rfl,r1.forget hLb,e1.forget _,c1.forget hl,(hle _ _ k2).cut z4x hv⟩
 rcases he with rfl | rfl
 ·exact⟨d1,hpost⟩
 ·exact⟨d1,hpost⟩
end Go.TA
