/- A part of the proof: plain laws of what the functions compute. No condition. -/
import Derived.Test.YtiohhffifhaboaaGreatDoorP3
import Derived.Lib.ItoaLen
namespace Go.Proofs.YtiohhffifhaboaaGreatDoor
open Go Go.TA
open Go.IntKind (i64)
def usedE (b:TBo) (c:Y8) (y:Int):Int:=sm b.A (fun r=>r.J==c&&r.K==y) (fun r=>r.L-r.P-rel b r.D)
variable {b:TBo}
theorem zl5 (h:Val b) (n:Int):0<=rel b n/\rel b n<=cmt b n:=by
 have hc:∀ c∈b.B,0<=c.P/\c.P<=c.L:=fun c hc=>(h.2.1.mem hc).1.2.2.2.2.1
 exact⟨zcx fun c k=>(hc c k).1,zoe fun c k=>(hc c k).2⟩
theorem z3l (h:Val b) (c:Y8) (y:Int):usedV b c y=usedE b c y/\0<=usedE b c y/\usedE b c y<=200000000000000:=by
 have hb:0<=usedE b c y/\usedE b c y<=200 * 1000000000000:=ziy (fun r hr=>by
  have h1:=z7j h hr
  have h2:=zl5 h r.D
  have h3:=(h.1.mem hr).1.2.2.2.2.2
  unfold amtP at h3
  omega) h.2.2.2.2.2.2.1 om
 refine⟨?_,hb.1,om⟩
 unfold usedV
 change i64.wrap (usedE b c y)=_
 exact wrapId om om
variable {n:Int}
theorem zn0 (h:Val b) (hn:(b.A.length:Int)<n):rel b n=0:=by
 have h1:=zl5 h n
 have h2:=zfb h hn
 omega
variable {d y:Int}
theorem zfj {code:Y8} (h0:(reserveS b code y d n).2=0):Val b/\good code=true/\((0<=y/\y<=99)/\dayP d/\amtP n)/\yr d=y/\(b.A.length:Int)≠200/\(reserveS b code y d n).1=withR b (b.A++[⟨b.A.length+1,code,y,d,n,0⟩]):=by
 unfold reserveS at h0 |-
 obtain⟨e,c1⟩:=zo h0 dk; rw[e] at h0 |-; clear e
 obtain⟨e,c2⟩:=zo h0 dk; rw[e] at h0 |-; clear e
 obtain⟨e,c3⟩:=zo h0 dk; rw[e] at h0 |-; clear e
 obtain⟨e,c4⟩:=zo h0 dk; rw[e] at h0 |-; clear e
 obtain⟨e,c5⟩:=zo h0 dk; rw[e] at h0 |-; clear e
 exact⟨nnm c1,by simpa using c2,nnm c3,nnm c4,c5,rfl⟩
theorem zgq {r p u:Int} (h0:(commitS b r d n p u).2=0):Val b/\Val (commitS b r d n p u).1/\(commitS b r d n p u).1.A=b.A:=by
 unfold commitS at h0 |-
 obtain⟨e,c1⟩:=zo h0 dk; rw[e] at h0 |-; clear e
 obtain⟨e,c2⟩:=zo h0 dk; rw[e] at h0 |-; clear e
 obtain⟨e,c3⟩:=zo h0 dk; rw[e] at h0 |-; clear e
 obtain⟨e,c4⟩:=zo h0 dk; rw[e] at h0 |-; clear e
 obtain⟨e,c5⟩:=zo h0 dk; rw[e] at h0 |-; clear e
 obtain⟨e,c6⟩:=zo h0 dk; rw[e] at h0 |-; clear e
 obtain⟨e,c7⟩:=zo h0 dk; rw[e] at h0 |-; clear e
 have c3:=nnm c3
 exact⟨nnm c1,ziz (nnm c1) (nnm c2) c3.1 c3.2.1 c3.2.2.1 c3.2.2.2 (nnm c4) om om c7,rfl⟩
variable {c:Int}
theorem zgr (h0:(verifyS b c d n).2=0):Val b/\Val (verifyS b c d n).1/\(verifyS b c d n).1.A=b.A:=by
 unfold verifyS at h0 |-
 obtain⟨e,c1⟩:=zo h0 dk; rw[e] at h0 |-; clear e
 obtain⟨e,c2⟩:=zo h0 dk; rw[e] at h0 |-; clear e
 obtain⟨e,c3⟩:=zo h0 dk; rw[e] at h0 |-; clear e
 obtain⟨e,c4⟩:=zo h0 dk; rw[e] at h0 |-; clear e
 obtain⟨e,c5⟩:=zo h0 dk; rw[e] at h0 |-; clear e
 obtain⟨e,c6⟩:=zo h0 dk; rw[e] at h0 |-; clear e
 obtain⟨e,c7⟩:=zo h0 dk; rw[e] at h0 |-; clear e
 have c3:=nnm c3
 exact⟨nnm c1,zj0 (nnm c1) (nnm c2) c3.1 c3.2 om om om c7,rfl⟩
variable {v:Int}
theorem zj3 (h0:(orderS b v d).2=0):Val b/\Val (orderS b v d).1/\(orderS b v d).1.A=b.A:=by
 unfold orderS at h0 |-
 obtain⟨e,c1⟩:=zo h0 dk; rw[e] at h0 |-; clear e
 obtain⟨e,c2⟩:=zo h0 dk; rw[e] at h0 |-; clear e
 obtain⟨e,c3⟩:=zo h0 dk; rw[e] at h0 |-; clear e
 obtain⟨e,c4⟩:=zo h0 dk; rw[e] at h0 |-; clear e
 obtain⟨e,c5⟩:=zo h0 dk; rw[e] at h0 |-; clear e
 obtain⟨e,c6⟩:=zo h0 dk; rw[e] at h0 |-; clear e
 obtain⟨e,c7⟩:=zo h0 dk; rw[e] at h0 |-; clear e
 refine⟨nnm c1,zky (nnm c1) (nnm c2) (nnm c3) om om (fun hl=>⟨?_,om⟩) c7,rfl⟩
 cases hb:(lastV b v).Z with
 | true=>rfl
 | false=>exact absurd ⟨hl,hb⟩ c5
theorem zfk {r:Int} (h0:(releaseS b r n).2=0):Val b/\Val (releaseS b r n).1/\amtP n/\(1<=r/\r<=b.A.length)/\n<=leftN b r/\(releaseS b r n).1=withR b (b.A.set (r-1).toNat ⟨(rAt b r).D,(rAt b r).J,(rAt b r).K,(rAt b r).N,(rAt b r).L,i64.wrap ((rAt b r).P+n)⟩):=by
 unfold releaseS at h0 |-
 obtain⟨e,c1⟩:=zo h0 dk; rw[e] at h0 |-; clear e
 obtain⟨e,c2⟩:=zo h0 dk; rw[e] at h0 |-; clear e
 obtain⟨e,c3⟩:=zo h0 dk; rw[e] at h0 |-; clear e
 obtain⟨e,c4⟩:=zo h0 dk; rw[e] at h0 |-; clear e
 exact⟨nnm c1,zgm (nnm c1) (nnm c2) (nnm c3) om,nnm c3,nnm c2,om,rfl⟩
theorem zl6 (h0:(dropS b c n).2=0):Val b/\Val (dropS b c n).1/\amtP n/\(dropS b c n).1.A=b.A:=by
 unfold dropS at h0 |-
 obtain⟨e,c1⟩:=zo h0 dk; rw[e] at h0 |-; clear e
 obtain⟨e,c2⟩:=zo h0 dk; rw[e] at h0 |-; clear e
 obtain⟨e,c3⟩:=zo h0 dk; rw[e] at h0 |-; clear e
 obtain⟨e,c4⟩:=zo h0 dk; rw[e] at h0 |-; clear e
 exact⟨nnm c1,zmt (nnm c1) (nnm c2) (nnm c3) om,nnm c3,rfl⟩
theorem zl7 (h0:(backS b v).2=0):Val b/\Val (backS b v).1/\(backS b v).1.A=b.A/\(backS b v).1.B=b.B:=by
 unfold backS at h0 |-
 obtain⟨e,c1⟩:=zo h0 dk; rw[e] at h0 |-; clear e
 obtain⟨e,c2⟩:=zo h0 dk; rw[e] at h0 |-; clear e
 obtain⟨e,c3⟩:=zo h0 dk; rw[e] at h0 |-; clear e
 exact⟨nnm c1,zmu (nnm c1) om,rfl,rfl⟩
theorem zc5 (h:Val b) {r:Int} (hn0:amtP n) (h0:(releaseS b r n).2=0) (code:Y8) (y:Int):(1<=r/\r<=b.A.length)/\usedV (releaseS b r n).1 code y=i64.wrap (usedV b code y-if mt b code y r=true then n else 0):=by
 have hn:1<=n/\n<=1000000000000:=hn0
 unfold releaseS at h0 |-
 obtain⟨e,_⟩:=zo h0 dk; rw[e] at h0 |-; clear e
 obtain⟨e,hr⟩:=zo h0 dk; rw[e] at h0 |-; clear e
 obtain⟨e,_⟩:=zo h0 dk; rw[e] at h0 |-; clear e
 obtain⟨e,_⟩:=zo h0 dk; rw[e] at h0 |-; clear e
 have hr:=nnm hr
 refine⟨hr,?_⟩
 have hk:(r-1).toNat<b.A.length:=om
 have f:=(h.1.at hr).2.2.2.2.2
 have f6:=f.1
 unfold amtP at f6
 have hw:i64.wrap ((rAt b r).P+n)=(rAt b r).P+n:=wrapId om om
 rw[hw]
 unfold usedV
 rw[z41]
 congr 1
 change sm (b.A.set (r-1).toNat _) _ (fun r=>r.L-r.P-rel b r.D)=_
 rw[zev hk _ _ _ dF]
 change _-(if ((rAt b r).J==code&&(rAt b r).K==y)=true then (rAt b r).L-(rAt b r).P-rel b (rAt b r).D else 0)+(if ((rAt b r).J==code&&(rAt b r).K==y)=true then (rAt b r).L-((rAt b r).P+n)-rel b (rAt b r).D else 0)=_-(if ((rAt b r).J==code&&(rAt b r).K==y)=true then n else 0)
 split <;> omega
theorem zgs (h:Val b) (hn0:amtP n) (h0:(dropS b c n).2=0) (code:Y8) (y:Int):(1<=c/\c<=b.B.length)/\usedV (dropS b c n).1 code y=i64.wrap (usedV b code y-if mt b code y (cAt b c).H=true then n else 0):=by
 have hn:1<=n/\n<=1000000000000:=hn0
 unfold dropS at h0 |-
 obtain⟨e,_⟩:=zo h0 dk; rw[e] at h0 |-; clear e
 obtain⟨e,hr⟩:=zo h0 dk; rw[e] at h0 |-; clear e
 obtain⟨e,_⟩:=zo h0 dk; rw[e] at h0 |-; clear e
 obtain⟨e,_⟩:=zo h0 dk; rw[e] at h0 |-; clear e
 have hr:=nnm hr
 refine⟨hr,?_⟩
 have hk:(c-1).toNat<b.B.length:=om
 have f:=(h.2.1.at hr)
 have f4:=f.2.2.2.1
 have f5:=f.2.2.2.2.1
 have f2:=f.2.1
 unfold amtP at f4
 have hw:i64.wrap ((cAt b c).P+n)=(cAt b c).P+n:=wrapId om om
 rw[hw]
 generalize hX:withC b (b.B.set (c-1).toNat ⟨(cAt b c).D,(cAt b c).H,(cAt b c).N,(cAt b c).L,(cAt b c).P+n,(cAt b c).S,(cAt b c).X⟩)=X
 have hrel:∀ m,rel X m=rel b m+if ((cAt b c).H==m)=true then n else 0:=fun m=>by
  rw[<- hX]
  unfold rel withC
  simp only
  rw[zev hk _ _ _ dF]
  change _-(if ((cAt b c).H==m)=true then (cAt b c).P else 0)+(if ((cAt b c).H==m)=true then (cAt b c).P+n else 0)=_
  split <;> omega
 have e1:usedV X code y=i64.wrap (sm b.A (fun r=>r.J==code&&r.K==y) (fun r=>r.L-r.P-rel X r.D)):=by
  unfold usedV
  rw[show X.A=b.A by rw[<- hX]; rfl]
 rw[e1]
 unfold usedV
 rw[z41]
 congr 1
 simp only[hrel]
 have e2:∀ r:TRe,r.L-r.P-(rel b r.D+if ((cAt b c).H==r.D)=true then n else 0)=(r.L-r.P-rel b r.D)-(if ((cAt b c).H==r.D)=true then n else 0):=fun r=>om
 simp only[e2]
 rw[zpo]
 congr 1
 have hi:((cAt b c).H-1).toNat<b.A.length:=om
 have hnum:(b.A.getD ((cAt b c).H-1).toNat dF).D=(cAt b c).H:=(h.1.at f2).1
 have:=zl0 (num:=fun r:TRe=>r.D) (q:=mt b code y) (p:=fun r=>r.J==code&&r.K==y) n b.A ((cAt b c).H-1).toNat hi (fun j hj hji=>by
  have:=(h.1 j hj).1
  rw[hnum]; omega) (zpv h code y (zk hi)).symm
 simp only[hnum] at this
 exact this
def Eff (b:TBo) (p:TOp) (b':TBo):Prop:=Val b/\Val b' /\
 (∀ c y,usedE b' c y<=usedE b c y+if p.Y=1/\p.J=c/\p.K=y then p.L else 0) /\
 (p.Y=1->1<=p.L/\p.L<=1000000000000/\∀ c y,usedE b' c y=usedE b c y+if p.J=c/\p.K=y then p.L else 0) /\
 (∀ x∈b'.A,(∃ z∈b.A,z.J=x.J/\z.K=x.K)\/(p.Y=1/\x.J=p.J/\x.K=p.K)) /\
 b'.A.length<=b.A.length+1
variable {p:TOp}
theorem z5u {b':TBo} (hv:Val b) (hv':Val b') (hR:b'.A=b.A) (hk:p.Y≠1) (hu:∀ c y,usedE b' c y<=usedE b c y):Eff b p b' :=
 ⟨hv,hv',fun c y=>by rw[y8 (fun k=>hk k.1)]; have:=hu c y; omega,fun k=>absurd k hk,fun x hx=>by rw[hR] at hx; exact .inl ⟨x,hx,rfl,rfl⟩,by rw[hR]; omega⟩
theorem zdr (h:Val b) (code:Y8) (y d n:Int) (c:Y8) (z:Int):usedE (withR b (b.A++[⟨b.A.length+1,code,y,d,n,0⟩])) c z=usedE b c z+if code=c/\y=z then n else 0:=by
 unfold usedE
 have e:(withR b (b.A++[⟨b.A.length+1,code,y,d,n,0⟩])).A=b.A++[⟨b.A.length+1,code,y,d,n,0⟩]:=rfl
 have e2:∀ m,rel (withR b (b.A++[⟨b.A.length+1,code,y,d,n,0⟩])) m=rel b m:=fun m=>rfl
 simp only[e,e2]
 rw[z6b,z13,zb4]
 simp only[zn0 h (show (b.A.length:Int)<(b.A.length:Int)+1 from om),yg,y1a]
 by_cases k:code=c/\y=z
 ·rw[y9 k,y9 k]; omega
 ·rw[y8 k,y8 k]; omega
theorem zn1 (h0:(bookS b p).2=0):Eff b p (bookS b p).1:=by
 unfold bookS at h0 |-
 by_cases c1:p.Y=1
 ·rw[y9 c1] at h0 |-
  obtain⟨hv,hg,⟨hy,hd,hn⟩,hyr,hl,e⟩:=zfj h0
  rw[e]
  unfold amtP at hn
  have hu:=zdr hv p.J p.K p.N p.L
  refine⟨hv,zgl hv hg hy hd hn hyr hl,fun c y=>?_,fun _=>⟨hn.1,hn.2,hu⟩,fun x hx=>?_,by simp[withR]⟩
  ·rw[hu]
   by_cases k:p.J=c/\p.K=y
   ·rw[y9 k,y9 ⟨c1,k⟩]; omega
   ·rw[y8 k,y8 (fun q=>k q.2)]; omega
  ·simp only[withR,y1b,y1z] at hx
   rcases hx with hx | rfl
   ·exact .inl ⟨x,hx,rfl,rfl⟩
   ·exact .inr ⟨c1,rfl,rfl⟩
 rw[y8 c1] at h0 |-
 have conv:∀ {b':TBo},Val b->Val b'->(∀ c y,usedV b' c y=usedV b c y)->∀ c y,usedE b' c y<=usedE b c y:=fun h h' e c y=>by
  have h1:=z3l h c y
  have h2:=z3l h' c y
  have:=e c y
  omega
 by_cases c2:p.Y=2
 ·rw[y9 c2] at h0 |-
  obtain⟨hv,hv',hR⟩:=zgq h0
  exact z5u hv hv' hR c1 (conv hv hv' fun c y=>zfc h0 c y)
 rw[y8 c2] at h0 |-
 by_cases c3:p.Y=3
 ·rw[y9 c3] at h0 |-
  obtain⟨hv,hv',hR⟩:=zgr h0
  exact z5u hv hv' hR c1 (conv hv hv' fun c y=>zfd h0 c y)
 rw[y8 c3] at h0 |-
 by_cases c4:p.Y=4
 ·rw[y9 c4] at h0 |-
  obtain⟨hv,hv',hR⟩:=zj3 h0
  exact z5u hv hv' hR c1 (conv hv hv' fun c y=>zgn h0 c y)
 rw[y8 c4] at h0 |-
 by_cases c5:p.Y=5
 ·rw[y9 c5] at h0 |-
  obtain⟨hv,hv',hn,hr,hL,e⟩:=zfk h0
  have hu:∀ c y,usedE (releaseS b p.Of p.L).1 c y<=usedE b c y:=fun c y=>by
   have h1:=z3l hv c y
   have h2:=z3l hv' c y
   have h3:=(zc5 hv hn h0 c y).2
   unfold amtP at hn
   split at h3
   ·rw[wrapId om om] at h3; omega
   ·rw[wrapId om om] at h3; omega
  refine⟨hv,hv',fun c y=>by rw[y8 (fun k=>c1 k.1)]; have:=hu c y; omega,fun k=>absurd k c1,fun x hx=>?_,by rw[e]; simp[withR]⟩
  rw[e] at hx
  left
  rcases y2w hx with hx | rfl
  ·exact⟨x,hx,rfl,rfl⟩
  ·exact⟨rAt b p.Of,zc4 hr,rfl,rfl⟩
 rw[y8 c5] at h0 |-
 by_cases c6:p.Y=6
 ·rw[y9 c6] at h0 |-
  obtain⟨hv,hv',hn,hR⟩:=zl6 h0
  refine z5u hv hv' hR c1 fun c y=>?_
  have h1:=z3l hv c y
  have h2:=z3l hv' c y
  have h3:=(zgs hv hn h0 c y).2
  unfold amtP at hn
  split at h3
  ·rw[wrapId om om] at h3; omega
  ·rw[wrapId om om] at h3; omega
 rw[y8 c6] at h0 |-
 obtain⟨hv,hv',hR,hC⟩:=zl7 h0
 refine z5u hv hv' hR c1 (conv hv hv' fun c y=>?_)
 unfold usedV rel
 rw[hR,hC]
variable {x:TRi}
theorem uniqR {l:List TRi} (hS:Srt l) (hg:∀ x∈l,RtOk x) {y:TRi} (hx:x∈l) (hy:y∈l) (h1:x.J=y.J) (h2:x.K=y.K):x=y:=by
 obtain⟨i,hi,rfl⟩:=z1j hx
 obtain⟨j,hj,rfl⟩:=z1j hy
 have h0:=(z97 (hg _ hx).1 (hg _ hy).1).2 ⟨h1,h2⟩
 rcases Nat.lt_trichotomy i j with h | h | h
 ·have:=hS.lt hg h hj; omega
 ·rw[h]
 ·have:=hS.lt hg h hi
  have h3:=zd3 (b:=l.getD i dF) (hg _ hy).1
  omega
theorem zd6 {l:List TRi} (hS:Srt l) (hg:∀ x∈l,RtOk x) (hx:x∈l):rightV l x.J x.K=x:=by
 obtain⟨h1,h2,h3⟩:=z2n (z3k.2 ⟨x,hx,rfl,rfl⟩:hasR l x.J x.K=true)
 exact uniqR hS hg h1 hx h2 h3
theorem zj4 {a a' b b':TRi} (h1:a.J=a'.J) (h2:a.K=a'.K) (h3:b.J=b'.J) (h4:b.K=b'.K):cmpR a b=cmpR a' b':=by
 unfold cmpR; rw[h1,h2,h3,h4]
variable {r:TRi}
theorem zc6 {l:List TRi} (h:x∈putL l r):x=r\/x∈l:=by
 unfold putL at h
 split at h
 ·exact (y2w h).symm
 ·unfold insL at h
  simp only[y1b,yu] at h
  rcases h with h | h | h
  ·exact .inr (y40 h)
  ·exact .inl h
  ·exact .inr (y3b h)
theorem z8o (l:List TRi) (r:TRi):r∈putL l r:=by
 unfold putL
 split
 ·rename_i h
  exact List.mem_set (z51 h).1 _
 ·unfold insL; simp
theorem zhp {l:List TRi} (hx:x∈l) (h:¬ (x.J=r.J/\x.K=r.K)):x∈putL l r:=by
 unfold putL
 split
 ·rename_i hh
  obtain⟨h1,h2,h3⟩:=z51 hh
  obtain⟨i,hi,e⟩:=List.mem_iff_getElem.mp hx
  have hne:rix l r.J r.K≠i:=fun k=>h (by subst k; rw[z26 h1,e] at h2 h3; exact⟨h2,h3⟩)
  have h4:(l.set (rix l r.J r.K) r)[i]'(by rw[y13]; exact hi)=x:=by rw[List.getElem_set,y8 hne,e]
  rw[<- h4]
  exact y42 _
 ·unfold insL
  rw[y1b,yu]
  have:x∈l.take (posR l r)++l.drop (posR l r):=by rw[y2h]; exact hx
  rcases y1b.1 this with h | h
  ·exact .inl h
  ·exact .inr (.inr h)
theorem zfl {l:List TRi} (hg:∀ x∈l,RtOk x) (hr:RtOk r):∀ x∈putL l r,RtOk x:=fun x hx=>by
 rcases zc6 hx with rfl | h
 ·exact hr
 ·exact hg x h
theorem zhq {l:List TRi} (hS:Srt l) (hg:∀ x∈l,RtOk x) (hr:RtOk r):Srt (putL l r):=by
 unfold putL
 split
 ·rename_i hh
  obtain⟨h1,h2,h3⟩:=z51 hh
  intro i hi
  rw[y13] at hi
  have key:∀ j,(((l.set (rix l r.J r.K) r).getD j dF).J=(l.getD j dF).J)/\((l.set (rix l r.J r.K) r).getD j dF).K=(l.getD j dF).K:=fun j=>by
   rw[z4p _ _ _ _ h1]
   by_cases e:j=rix l r.J r.K
   ·rw[y9 e,e,h2,h3]; exact⟨rfl,rfl⟩
   ·rw[y8 e]; exact⟨rfl,rfl⟩
  refine (hS i hi).imp id fun k=>?_
  rw[zj4 (key (i-1)).1 (key (i-1)).2 (key i).1 (key i).2]
  exact k
 ·rename_i hh
  have hp:=z99 l r
  intro i hi
  rw[z1c] at hi
  rw[z4k hp,z4k hp]
  by_cases h0:i=0
  ·exact .inl h0
  right
  by_cases c1:i<posR l r
  ·rw[y9 om,y9 c1]
   exact (hS i om).resolve_left h0
  ·by_cases c2:i=posR l r
   ·rw[y9 om,y8 c1,y9 c2]
    exact zhn om
   ·rw[y8 c1,y8 c2]
    by_cases c3:i-1=posR l r
    ·rw[y8 om,y9 c3,c3]
     have h1:=zho (l:=l) (r:=r) om
     have hm:l.getD (posR l r) dF∈l:=zk om
     have h2:cmpR (l.getD (posR l r) dF) r≠0:=fun k=>by
      obtain⟨k1,k2⟩:=(z97 (hg _ hm).1 hr.1).1 k
      exact hh (z3k.2 ⟨_,hm,k1,k2⟩)
     have h3:=zd3 (b:=r) (hg _ hm).1
     omega
    ·rw[y8 om,y8 c3]
     have:=(hS (i-1) om).resolve_left om
     exact this
theorem zor {l:List TRi} {c:Y8} (h:hasR l c y=true):hasR (putL l r) c y=true:=by
 obtain⟨x,hx,h1,h2⟩:=z3k.1 h
 by_cases k:x.J=r.J/\x.K=r.K
 ·exact z3k.2 ⟨r,z8o l r,by rw[<- k.1,h1],by rw[<- k.2,h2]⟩
 ·exact z3k.2 ⟨x,zhp hx k,h1,h2⟩
theorem zj5 {l:List TRi} (hS:Srt l) (hg:∀ x∈l,RtOk x) (hr:RtOk r) (c:Y8) (y:Int):rightV (putL l r) c y=if r.J=c/\r.K=y then r else rightV l c y:=by
 have hS':=zhq hS hg hr
 have hg':=zfl hg hr
 by_cases k:r.J=c/\r.K=y
 ·rw[y9 k,<- k.1,<- k.2]
  exact zd6 hS' hg' (z8o l r)
 ·rw[y8 k]
  by_cases h:hasR l c y=true
  ·obtain⟨h1,h2,h3⟩:=z2n h
   have:=zd6 hS' hg' (zhp (r:=r) h1 (by rw[h2,h3]; exact fun q=>k ⟨q.1.symm,q.2.symm⟩))
   rwa [h2,h3] at this
  ·have h':¬ hasR (putL l r) c y=true:=fun q=>by
    obtain⟨x,hx,h1,h2⟩:=z3k.1 q
    rcases zc6 hx with rfl | hx
    ·exact k ⟨h1,h2⟩
    ·exact h (z3k.2 ⟨x,hx,h1,h2⟩)
   unfold rightV
   rw[y8 h,y8 h']
theorem zos {l:List TRi} (h:l.length<=60) (h2:hasR l r.J r.K=true\/(l.length:Int)≠60):(putL l r).length<=60:=by
 unfold putL
 split
 ·rw[y13]; exact h
 ·rename_i hh
  rw[z1c]
  have:=h2.resolve_left hh
  omega
theorem zd7 {l:List TRi} (hg:∀ x∈l,RtOk x) (c:Y8) (y:Int):0<=(rightV l c y).T/\(rightV l c y).T<=(rightV l c y).R/\(rightV l c y).R<=1000000000000000/\0<=(rightV l c y).W/\(rightV l c y).W<=1000000000000000:=by
 by_cases h:hasR l c y=true
 ·have:=hg _ (z2n h).1
  unfold RtOk at this
  omega
 ·unfold rightV; rw[y8 h]; simp
variable {o:TOf}
theorem z7k (hg:∀ x∈o.F,RtOk x) (hv:Val o.M) (c:Y8) (y:Int):unusedV o c y=(rightV o.F c y).R-(rightV o.F c y).T-usedE o.M c y:=by
 have h1:=zd7 hg c y
 have h2:=z3l hv c y
 unfold unusedV
 rw[wrapId (n:=(rightV o.F c y).R-(rightV o.F c y).T) om om,h2.1,wrapId om om]
theorem VO.unused (h:VO o) (c:Y8) (y:Int):unusedV o c y=(rightV o.F c y).R-(rightV o.F c y).T-usedE o.M c y:=z7k h.ok h.val c y
theorem zj6 {c:Y8} (h:∀ x∈b.A,¬ (x.J=c/\x.K=y)):usedE b c y=0:=by
 unfold usedE
 exact zhj fun x hx=>by
  have:=h x hx
  simp only[y3y,y2u,ne_eq]
  by_cases h1:x.J=c
  ·exact .inr fun h2=>this ⟨h1,h2⟩
  ·exact .inl h1
theorem VO.unused_nn (h:VO o) (c:Y8) (y:Int):0<=unusedV o c y:=by
 by_cases hx:∃ x∈o.M.A,x.J=c/\x.K=y
 ·obtain⟨x,hx,rfl,rfl⟩:=hx
  exact (h.2.2.2.2.2 x hx).2
 ·rw[h.unused,zj6 fun x hx' e=>hx ⟨x,hx',e⟩]
  have:=zd7 h.ok c y
  omega
theorem VO.smO (h:VO o):SmO o:=by
 have h1:=h.val
 have h2:=h1.2.2.2.2.2.2
 refine⟨⟨⟨om,om,om,om⟩,fun r hr=>?_⟩,by have:=h.len; omega,fun r hr=>(h.ok r hr).len⟩
 have:=z5p (h1.1.mem hr).1.2.1
 omega
theorem zhr (hv:VO o) (hk:p.Y≠7/\p.Y≠8) (h0:(stepS o p).2=0) :
  (stepS o p).1=⟨o.D,o.F,(bookS o.M p).1⟩/\(bookS o.M p).2=0/\Eff o.M p (bookS o.M p).1/\(p.Y=1->p.L<=unusedV o p.J p.K)/\VO (stepS o p).1:=by
 unfold stepS at h0 |-
 rw[y8 hk.2,y8 hk.1] at h0 |-
 by_cases c1:(bookS o.M p).2≠0
 ·rw[y9 c1] at h0; exact absurd h0 c1
 rw[y8 c1] at h0 |-
 by_cases c2:p.Y=1/\p.L>unusedV o p.J p.K
 ·rw[y9 c2] at h0; cases h0
 rw[y8 c2]
 have c1:=nnm c1
 have he:=zn1 c1
 have hu:p.Y=1->p.L<=unusedV o p.J p.K:=fun k=>y45.1 fun q=>c2 ⟨k,q⟩
 refine⟨rfl,c1,he,hu,hv.1,hv.len,he.2.1,hv.ok,hv.srt,fun x hx=>?_⟩
 have hx:=he.2.2.2.2.1 x hx
 have hh:hasR o.F x.J x.K=true:=by
  rcases hx with ⟨z,hz,e1,e2⟩ | ⟨k,e1,e2⟩
  ·rw[<- e1,<- e2]; exact (hv.2.2.2.2.2 z hz).1
  ·rw[e1,e2]
   have h1:=hu k
   have h2:=(he.2.2.2.1 k).1
   refine y3o fun q=>?_
   rw[hv.unused] at h1
   have h3:=z3l hv.val p.J p.K
   unfold rightV at h1
   rw[y8 q] at h1
   simp only at h1
   omega
 refine⟨hh,?_⟩
 rw[z7k (o:=⟨o.D,o.F,(bookS o.M p).1⟩) hv.ok he.2.1]
 have h1:=he.2.2.1 x.J x.K
 have h2:=hv.unused x.J x.K
 have h3:=hv.unused_nn x.J x.K
 by_cases k:p.Y=1/\p.J=x.J/\p.K=x.K
 ·rw[y9 k] at h1
  have h4:=hu k.1
  rw[k.2.1,k.2.2] at h4
  simp only
  omega
 ·rw[y8 k] at h1
  simp only
  omega
theorem zl8 (hv:VO o) (hr:RtOk r) (hl:hasR o.F r.J r.K=true\/(o.F.length:Int)≠60) (hu:usedE o.M r.J r.K<=r.R-r.T):VO ⟨o.D,putL o.F r,o.M⟩:=by
 refine⟨hv.1,zos hv.len hl,hv.val,zfl hv.ok hr,zhq hv.srt hv.ok hr,fun x hx=>⟨zor (hv.2.2.2.2.2 x hx).1,?_⟩⟩
 rw[z7k (o:=⟨o.D,putL o.F r,o.M⟩) (zfl hv.ok hr) hv.val]
 simp only
 rw[zj5 hv.srt hv.ok hr]
 by_cases k:r.J=x.J/\r.K=x.K
 ·rw[y9 k,<- k.1,<- k.2]; omega
 ·rw[y8 k]
  have h2:=hv.unused x.J x.K
  have h3:=hv.unused_nn x.J x.K
  omega
theorem zhs (hv:VO o) (h0:(hearS o p).2=0) :
  ∃ r,(hearS o p).1=⟨o.D,putL o.F r,o.M⟩/\RtOk r/\r.J=p.J/\r.K=p.K/\r=⟨p.J,p.K,if p.R>(rightV o.F p.J p.K).R then p.R else (rightV o.F p.J p.K).R,if p.Aa>(rightV o.F p.J p.K).W then p.Aa else (rightV o.F p.J p.K).W,(rightV o.F p.J p.K).T⟩/\VO (hearS o p).1:=by
 unfold hearS at h0 |-
 by_cases c1:¬ good p.J=true
 ·rw[y9 c1] at h0; cases h0
 rw[y8 c1] at h0 |-
 by_cases c2:p.K<0\/p.K>99
 ·rw[y9 c2] at h0; cases h0
 rw[y8 c2] at h0 |-
 by_cases c3:hasR o.F p.J p.K=false/\(o.F.length:Int)=60
 ·rw[y9 c3] at h0; cases h0
 rw[y8 c3] at h0 |-
 by_cases c4:(learnS (rightV o.F p.J p.K) (msgOf p)).2≠0
 ·rw[y9 c4] at h0; exact absurd h0 c4
 rw[y8 c4]
 have h1:=zd4 (nnm c4)
 have hcy:=z43 o.F p.J p.K
 rw[hcy.1,hcy.2] at h1
 refine⟨_,rfl,h1.2.2.2.2,by rw[h1.2.2.2.1],by rw[h1.2.2.2.1],h1.2.2.2.1,zl8 hv h1.2.2.2.2 ?_ ?_⟩
 ·rw[h1.2.2.2.1]
  simp only
  by_cases k:hasR o.F p.J p.K=true
  ·exact .inl k
  ·exact .inr fun q=>c3 ⟨by simpa using k,q⟩
 ·rw[h1.2.2.2.1]
  have h2:=hv.unused p.J p.K
  have h3:=hv.unused_nn p.J p.K
  have h4:(rightV o.F p.J p.K).R<=if (msgOf p).R>(rightV o.F p.J p.K).R then (msgOf p).R else (rightV o.F p.J p.K).R:=by split <;> omega
  simp only
  omega
theorem zht (hv:VO o) (h0:(giveS o p).2=0) :
  hasR o.F p.J p.K=true/\1<=p.L/\p.L<=unusedV o p.J p.K/\∃ r,(giveS o p).1=⟨o.D,putL o.F r,o.M⟩/\RtOk r/\r=⟨p.J,p.K,(rightV o.F p.J p.K).R,(rightV o.F p.J p.K).W,(rightV o.F p.J p.K).T+p.L⟩/\VO (giveS o p).1:=by
 unfold giveS at h0 |-
 by_cases c1:¬ hasR o.F p.J p.K=true
 ·rw[y9 c1] at h0; cases h0
 rw[y8 c1] at h0 |-
 by_cases c4:(returnS (rightV o.F p.J p.K) (usedV o.M p.J p.K) p.L).2≠0
 ·rw[y9 c4] at h0; exact absurd h0 c4
 rw[y8 c4]
 have h1:=zbb (nnm c4)
 have hcy:=z43 o.F p.J p.K
 have hu:=z3l hv.val p.J p.K
 rw[hcy.1,hcy.2,hu.1] at h1
 have c1:=nnm c1
 rw[hu.1]
 refine⟨c1,h1.2.2.1,by rw[hv.unused]; exact h1.2.2.2.1,_,rfl,h1.2.2.2.2.2,h1.2.2.2.2.1,zl8 hv h1.2.2.2.2.2 (.inl ?_) ?_⟩
 ·rw[h1.2.2.2.2.1]; exact c1
 ·rw[h1.2.2.2.2.1]
  simp only
  omega
theorem zhu (h0:(doS o p).2=0):VO o/\(1<=p.Y/\p.Y<=9)/\doS o p=stepS o p:=by
 unfold doS at h0 |-
 split at h0
 ·cases h0
 ·rename_i h
  rw[y8 h]
  exact⟨y3o fun k=>h (.inl k),om,rfl⟩
theorem zpx (hv:VO o) (hk:1<=p.Y/\p.Y<=9):doS o p=stepS o p:=by
 unfold doS
 rw[y8 (fun k=>k.elim (fun k=>k hv) fun k=>om)]
theorem zqi (h0:(doS o p).2=0):VO (doS o p).1:=by
 obtain⟨hv,hk,e⟩:=zhu h0
 rw[e] at h0 |-
 by_cases c8:p.Y=8
 ·have e8:stepS o p=hearS o p:=by unfold stepS; rw[y9 c8]
  rw[e8] at h0 |-
  obtain⟨r,_,_,_,_,_,h⟩:=zhs hv h0
  exact h
 by_cases c7:p.Y=7
 ·have e7:stepS o p=giveS o p:=by unfold stepS; rw[y8 c8,y9 c7]
  rw[e7] at h0 |-
  obtain⟨_,_,_,r,_,_,_,h⟩:=zht hv h0
  exact h
 exact (zhr hv ⟨c7,c8⟩ h0).2.2.2.2
theorem zqq:tot 0:=dk
theorem zgt {l:List TRi} (hg:∀ x∈l,RtOk x) {c:Y8} (hc:good c=true) (hy:0<=y/\y<=99):RtOk (rightV l c y):=by
 by_cases h:hasR l c y=true
 ·exact hg _ (z2n h).1
 ·unfold rightV; rw[y8 h]; exact⟨hc,hy,sj,sj,sj⟩
theorem zl9 (hv:VO o) (hc:good p.J=true) (hy:0<=p.K/\p.K<=99) (hl:hasR o.F p.J p.K=true\/(o.F.length:Int)≠60) (h1:tot p.R) (h2:tot p.Aa):(hearS o p).2=0:=by
 have hr:=zgt hv.ok hc hy
 have hcy:=z43 o.F p.J p.K
 have hk:(learnS (rightV o.F p.J p.K) (msgOf p)).2=0:=by
  unfold learnS
  rw[y8 (fun k=>k ⟨hr,rfl,hcy.1.symm,hcy.2.symm⟩),y8 (fun k=>k ⟨h1,h2⟩)]
 unfold hearS
 rw[y8 (fun k=>k hc),y8 om,y8 (fun k=>by
  rcases hl with h | h
  ·rw[k.1] at h; cases h
  ·exact h k.2),y8 (fun k=>k hk)]
def OI (k:Nat) (o:TOf):Prop:=VO o/\o.M.A.length<=k/\o.F.length<=k/\∀ r∈o.F,r.R<=1000
theorem zd8 (hG:∀ r∈o.F,r.R<=1000) (c:Y8) (y:Int):(rightV o.F c y).R<=1000:=by
 by_cases h:hasR o.F c y=true
 ·exact hG _ (z2n h).1
 ·unfold rightV; rw[y8 h]; simp
theorem znn {k:Nat} (h:OI k o) (hp:p.R<=1000) (h0:(doS o p).2=0):OI (k+1) (doS o p).1:=by
 have hvo:=zqi h0
 obtain⟨hv,hl1,hl2,hG⟩:=h
 obtain⟨_,hk,e⟩:=zhu h0
 rw[e] at h0 hvo |-
 have hput:∀ r:TRi,r.R<=1000->VO ⟨o.D,putL o.F r,o.M⟩->OI (k+1) ⟨o.D,putL o.F r,o.M⟩:=fun r hr hv' =>
  ⟨hv',by simp only; omega,by have:=zfi o.F r; simp only; omega,fun x hx=>by
   rcases zc6 hx with rfl | hx
   ·exact hr
   ·exact hG x hx⟩
 by_cases c8:p.Y=8
 ·have e8:stepS o p=hearS o p:=by unfold stepS; rw[y9 c8]
  rw[e8] at h0 hvo |-
  obtain⟨r,e1,_,_,_,e2,_⟩:=zhs hv h0
  rw[e1] at hvo |-
  refine hput r ?_ hvo
  rw[e2]
  have:=zd8 hG p.J p.K
  simp only
  split <;> omega
 by_cases c7:p.Y=7
 ·have e7:stepS o p=giveS o p:=by unfold stepS; rw[y8 c8,y9 c7]
  rw[e7] at h0 hvo |-
  obtain⟨_,_,_,r,e1,_,e2,_⟩:=zht hv h0
  rw[e1] at hvo |-
  refine hput r ?_ hvo
  rw[e2]
  exact zd8 hG p.J p.K
 obtain⟨e1,_,he,_,_⟩:=zhr hv ⟨c7,c8⟩ h0
 rw[e1] at hvo |-
 exact⟨hvo,by have:=he.2.2.2.2.2; simp only; omega,by simp only; omega,hG⟩
variable {s:TTape}
theorem zot (ho:Few o.M) (hs:TapeOk s) (day:Int):∃ p s',F_q25 o day s=some (p,s')/\TapeOk s'/\p.J.length<=60/\p.R<=1000/\p.L<=120:=by
 obtain⟨l1,l2,l3,l4⟩:=ho
 obtain⟨k,s1,e1,t1,k1⟩:=zp (l:=[1,1,1,2,2,2,3,3,3,4,4,5,6,7,8,8,9]) hs dk dk
 obtain⟨co,s2,e2,t2,hc,_⟩:=z5r t1
 obtain⟨n1,s3,e3,t3,_,hn1⟩:=zm (lo:=1) (hi:=120) t2 om om om
 obtain⟨n2,s4,e4,t4,hn2⟩:=zp (l:=[10,50,n1]) t3 sj sj
 have hn2:n2<=120:=by simp at hn2; omega
 simp only[F_q25,S_q25,Scr.den,e1,e2,e3,e4,obind]
 generalize i64.wrap (day.tdiv 360)=yy
 have fin:∀ (s5:TTape) (p:TOp),TapeOk s5->p.J.length<=60->p.R<=1000->p.L<=120 ->
   ∃ p' s',outM (some (Out.next (s5,p):Out (TTape×TOp) R_q25)) (fun (sv5:TTape×TOp)=>outM (if (sv5.2.Y==2)=true then (F_q7 1 4 sv5.1).bind fun rv17=>(F_q1 60 rv17.2).bind fun rv18=>some (Out.next (rv18.2,(⟨sv5.2.Y,sv5.2.J,sv5.2.K,sv5.2.N,sv5.2.Of,sv5.2.L,rv17.1,(i64.wrap (day+rv18.1)),sv5.2.R,sv5.2.Aa⟩:TOp)):Out (TTape×TOp) R_q25) else some (Out.next (sv5.1,sv5.2))) (fun (sv16:TTape×TOp)=>some (sv16.2,sv16.1)) some) some=some (p',s')/\TapeOk s'/\p'.J.length<=60/\p'.R<=1000/\p'.L<=120:=fun s5 p ht h1 h2 h3=>by
  simp only[outM]
  by_cases hk:(p.Y==2)=true
  ·rw[y9 hk]
   obtain⟨x1,s6,q1,t6,_,_⟩:=zm (lo:=1) (hi:=4) ht om om om
   obtain⟨x2,s7,q2,t7,_,_⟩:=zw (n:=60) t6 om om
   simp only[q1,q2,obind]
   exact⟨_,_,rfl,t7,h1,h2,h3⟩
  ·rw[y8 hk]
   exact⟨_,_,rfl,ht,h1,h2,h3⟩
 have lm:∀ {α:Type} (l:List α),l.length<=1000000->(1:Int)<=(if (l.length:Int)>1 then (l.length:Int) else 1)/\(if (l.length:Int)>1 then (l.length:Int) else 1)<=1000000:=fun l h=>by split <;> omega
 have m1:=lm o.M.A l1
 have m2:=lm o.M.B l2
 have m3:=lm o.M.C l3
 have two:∀ {c d:Bool} {P:Prop},(c=true->P)->(d=true->P)->(c=false->d=false->P)->P:=fun {c d P} h1 h2 h3=>by
  cases hc:c
  ·cases hd:d
   ·exact h3 hc hd
   ·exact h2 hd
  ·exact h1 hc
 have g1:∀ {β:Type} (c d:Bool),(c||d)=true->(if c=true then some (Out.next c) else some (Out.next d):Option (Out Bool β))=some (Out.next true):=fun {_} c d h=>by cases c <;> cases d <;> first | rfl | cases h
 have g0:∀ {β:Type} (c d:Bool),(c||d)=false->(if c=true then some (Out.next c) else some (Out.next d):Option (Out Bool β))=some (Out.next false):=fun {_} c d h=>by cases c <;> cases d <;> first | rfl | cases h
 by_cases c1:((k==2)||(k==5))=true
 ·rw[g1 _ _ c1]
  obtain⟨x1,s5,q1,t5,_,_⟩:=zm (lo:=1) (hi:=(if (o.M.A.length:Int)>1 then (o.M.A.length:Int) else 1)) t4 om m1.1 om
  simp only[outM,y3p,q1,obind]
  exact fin _ ⟨k,co,yy,day,x1,n2,0,0,0,0⟩ t5 hc (by show (0:Int)<=1000; decide) hn2
 have c1:((k==2)||(k==5))=false:=by simpa using c1
 rw[g0 _ _ c1]
 by_cases c2:((k==3)||(k==6))=true
 ·rw[g1 _ _ c2]
  obtain⟨x1,s5,q1,t5,_,_⟩:=zm (lo:=1) (hi:=(if (o.M.B.length:Int)>1 then (o.M.B.length:Int) else 1)) t4 om m2.1 om
  simp only[outM,y1j,y3p,y32,q1,obind]
  exact fin _ ⟨k,co,yy,day,x1,n2,0,0,0,0⟩ t5 hc (by show (0:Int)<=1000; decide) hn2
 have c2:((k==3)||(k==6))=false:=by simpa using c2
 rw[g0 _ _ c2]
 by_cases c3:((k==4)||(k==9))=true
 ·rw[g1 _ _ c3]
  obtain⟨x1,s5,q1,t5,_,_⟩:=zm (lo:=1) (hi:=(if (o.M.C.length:Int)>1 then (o.M.C.length:Int) else 1)) t4 om m3.1 om
  simp only[outM,y1j,y3p,y32,q1,obind]
  exact fin _ ⟨k,co,yy,day,x1,n2,0,0,0,0⟩ t5 hc (by show (0:Int)<=1000; decide) hn2
 have c3:((k==4)||(k==9))=false:=by simpa using c3
 rw[g0 _ _ c3]
 by_cases c4:(k==8)=true
 ·obtain⟨x1,s5,q1,t5,_,y1⟩:=zw (n:=1000) t4 om om
  obtain⟨x2,s6,q2,t6,y2⟩:=zp (l:=[100,400,x1]) t5 sj sj
  obtain⟨x3,s7,q3,t7,_,y3⟩:=zw (n:=200) t6 om om
  obtain⟨x4,s8,q4,t8,y4⟩:=zp (l:=[0,0,x3]) t7 sj sj
  simp only[outM,y1j,y32,y9 c4,q1,q2,q3,q4,obind]
  exact fin _ ⟨k,co,yy,day,0,n2,0,0,x2,x4⟩ t8 hc (by simp at y2; show x2<=1000; omega) hn2
 ·simp only[outM,y1j,y32,y8 c4]
  exact fin _ ⟨k,co,yy,day,0,n2,0,0,0,0⟩ t4 hc (by show (0:Int)<=1000; decide) hn2
theorem zn2 (hv:VO o) (hs:TapeOk s) (day:Int):∃ p s',F_q25 o day s=some (p,s')/\TapeOk s'/\p.J.length<=60/\p.R<=1000/\p.L<=120:=zot hv.smO.1.1 hs day
theorem zj7 (n:Int):F_q3j n=some (if n<1\/n>6 then (noO,2) else (⟨n,[],nb⟩,0)):=by
 simp only[F_q3j,S_q3j,Scr.den,zi]
 exact st (by simp only[yj,ya]) (fun _=>rfl) (fun _=>rfl)
theorem zpy (h1:1<=n) (h2:n<=6):OI 0 ⟨n,[],nb⟩ :=
 ⟨⟨⟨h1,h2⟩,sj,zpu,(fun _ h=>nomatch h),(fun i hi=>absurd hi sj),(fun x hx=>nomatch hx)⟩,(by simp[nb]),sj,(fun _ h=>nomatch h)⟩
theorem zgu (h0:0<=n) (hn:n<=40) (hs:TapeOk s):∃ o s',F_qe n s=some (o,s')/\TapeOk s'/\OI (n+2).toNat o:=by
 simp only[F_qe,S_qe,Scr.den]
 obtain⟨k,s1,e1,t1,k1,k2⟩:=zm (lo:=1) (hi:=3) hs om om om
 obtain⟨d,s2,e2,t2,d1,d2⟩:=zw (n:=50) t1 om om
 simp only[e1,e2,zj7,obind]
 rw[y8 om]
 obtain⟨q,e3,t3,h3⟩:=z15 (step:=fun s=>(S_qe_b1 s).den) (fun s=>(2-s.2.2).toNat) (fun s=>TapeOk s.1/\0<=s.2.2/\s.2.2<=2/\OI s.2.2.toNat s.2.1) (fun s=>TapeOk s.1/\OI 2 s.2.1) (fun s hI=>by
  obtain⟨st,o,i⟩:=s
  obtain⟨a1,a2,a3,a4⟩:=hI
  simp only at a1 a2 a3 a4
  simp only[S_qe_b1,Scr.den]
  by_cases hi:i<2
  ·left
   rw[y9 (by simpa using hi)]
   obtain⟨n1,s5,e5,t5,_,z1⟩:=zw (n:=800) a1 om om
   obtain⟨n2,s6,e6,t6,z2⟩:=zp (l:=[300,n1]) t5 sj sj
   have hc:good (([[49],[50]]:List Y8).getD i.toNat dF)=true/\(([[49],[50]]:List Y8).getD i.toNat dF).length<=60:=by
    have:i=0\/i=1:=om
    rcases this with rfl | rfl <;> decide
   simp only[e5,e6,obind,zd5 a4.1.smO (p:=⟨8,([[49],[50]]:List Y8).getD i.toNat dF,12,0,0,0,0,0,n2,0⟩) (by simp only; omega)]
   rw[Gb,wrapId om om]
   have hz:0<=n2/\n2<=800:=by simp at z2; omega
   have hs:(doS o ⟨8,([[49],[50]]:List Y8).getD i.toNat dF,12,0,0,0,0,0,n2,0⟩).2=0:=by
    rw[zpx a4.1 (by simp only; omega)]
    unfold stepS
    rw[y9 rfl]
    exact zl9 a4.1 hc.1 (by simp only; omega) (.inr (by have:=a4.2.2.1; omega)) ⟨hz.1,by simp only; omega⟩ zqq
   refine⟨_,rfl,⟨t6,by simp only; omega,by simp only; omega,?_⟩,by simp only; omega⟩
   have:=znn a4 (by simp only; omega) hs
   simp only
   rwa [show (i+1).toNat=i.toNat+1 from om]
  ·right
   rw[y8 (by simpa using hi)]
   exact⟨_,rfl,a1,by simp only; rwa [show i.toNat=2 from om] at a4⟩) _ (s2,⟨k,[],nb⟩,0) (y1o _) ⟨t2,by simp only; omega,by simp only; omega,zpy om om⟩
 rw[e3]
 simp only[outM]
 rw[wrapId (n:=n+1) om om]
 obtain⟨i,s3,e4,t4,i1,i2⟩:=zw (n:=n+1) t3 om om
 simp only[e4,obind]
 obtain⟨q',e5,t5,h5⟩:=z15 (step:=fun s=>(S_qe_b2 s).den) (fun s=>s.2.2.2.toNat) (fun s=>TapeOk s.1/\0<=s.2.2.2/\s.2.2.2<=n/\OI (n+2-s.2.2.2).toNat s.2.1) (fun s=>TapeOk s.1/\OI (n+2).toNat s.2.1) (fun s hI=>by
  obtain⟨st,o,day,i⟩:=s
  obtain⟨a1,a2,a3,a4⟩:=hI
  simp only at a1 a2 a3 a4
  simp only[S_qe_b2,Scr.den]
  by_cases hi:i>0
  ·left
   rw[y9 (by simpa using hi)]
   obtain⟨n1,s5,e5,t5,_,_⟩:=zw (n:=25) a1 om om
   obtain⟨n2,s6,e6,t6,_⟩:=zp (l:=[0,1,n1]) t5 sj sj
   obtain⟨p,s7,e7,t7,p1,p2,_⟩:=zn2 a4.1 t6 (i64.wrap (day+n2))
   simp only[e5,e6,e7,obind,zd5 a4.1.smO (p:=p) om]
   rw[wrapId (n:=i-1) om om]
   have hle:∀ o',OI (n+2-i).toNat o'->OI (n+2-(i-1)).toNat o':=fun o' h=>⟨h.1,by have:=h.2.1; omega,by have:=h.2.2.1; omega,h.2.2.2⟩
   by_cases hd:(doS o p).2=0
   ·rw[y9 (by simp[hd])]
    refine⟨_,rfl,⟨t7,by simp only; omega,by simp only; omega,?_⟩,by simp only; omega⟩
    have:=znn a4 p2 hd
    simp only
    rwa [show (n+2-(i-1)).toNat=(n+2-i).toNat+1 from om]
   ·rw[y8 (by simp[hd])]
    exact⟨_,rfl,⟨t7,by simp only; omega,by simp only; omega,hle _ a4⟩,by simp only; omega⟩
  ·right
   rw[y8 (by simpa using hi)]
   exact⟨_,rfl,a1,by simp only; rwa [show (n+2-i).toNat=(n+2).toNat from om] at a4⟩) _ (s3,q.2.1,i64.wrap (4320+d),i) (y1o _) ⟨t4,i1,by simp only; omega,⟨h3.1,by have:=h3.2.1; simp only; omega,by have:=h3.2.2.1; simp only; omega,h3.2.2.2⟩⟩
 rw[e5]
 exact⟨_,_,rfl,t5,h5⟩
def numP (n:Int):Prop:=1<=n/\n<=1000000
instance (n:Int):Decidable (numP n):=inferInstanceAs (Decidable (_/\_))
instance (n:Int):Decidable (dayP n):=inferInstanceAs (Decidable (_/\_))
def WPl (w:TWa):Prop:=(numP w.D/\numP w.H/\numP w.I/\numP w.E/\numP w.Q/\numP w.S)/\(1<=w.O/\w.O<=6)/\good w.J=true/\(0<=w.K/\w.K<=99)/\(1<=w.L/\w.L<=1000000000000)/\dayP w.N/\dayP w.X
instance (w:TWa):Decidable (WPl w):=by unfold WPl; infer_instance
theorem z5g (a b c:Int):F_q1m a b c=some (decide (b<=a/\a<=c)):=by
 simp only[F_q1m,S_q1m,Scr.den,zf]
 congr 1
 rw[y1p]
 simp only[yg,ya,y2k]
theorem z5v (n:Int):F_q2l n=some (decide (numP n)):=by
 simp only[F_q2l,S_q2l,Scr.den,z5g,obind]
 rfl
theorem zqj (n:Int):F_q2m n=some (decide (dayP n)):=by
 simp only[F_q2m,S_q2m,Scr.den,z5g,obind]
 rfl
theorem z6w (n:Int):F_q2k n=some (decide (numP n)):=by
 simp only[F_q2k,S_q2k,Scr.den,zf]
 congr 1
 rw[y1p]
 simp only[yg,ya,y2k]
 exact Iff.rfl
variable {a:Int}
theorem zj8 {p:Int->Prop} {b e f:Int}:(∀ j,j<6->p (([a,b,c,d,e,f]:List Int).getD j dF))↔(p a/\p b/\p c/\p d/\p e/\p f) :=
 ⟨fun h=>⟨h 0 om,h 1 om,h 2 om,h 3 om,h 4 om,h 5 om⟩,fun⟨h0,h1,h2,h3,h4,h5⟩ j hj=>by
  match j,hj with
  | 0,_=>exact h0
  | 1,_=>exact h1
  | 2,_=>exact h2
  | 3,_=>exact h3
  | 4,_=>exact h4
  | 5,_=>exact h5
  | n+6,h=>omega⟩
theorem zpz {p:Int->Prop} {b:Int}:(∀ j,j<2->p (([a,b]:List Int).getD j dF))↔(p a/\p b) :=
 ⟨fun h=>⟨h 0 om,h 1 om⟩,fun⟨h0,h1⟩ j hj=>by
  match j,hj with
  | 0,_=>exact h0
  | 1,_=>exact h1
  | n+2,h=>omega⟩
theorem zla (a:Bool) (x d:List Int) [Decidable (AllP [a=true])]:(a&&decide (((if AllP [a=true] then x else d).length:Int)>0))=(a&&decide ((x.length:Int)>0)):=by
 cases a <;> simp[AllP]
variable {w:TWa}
theorem z39 (hc:w.J.length<=1000000):F_qj w=some (decide (WPl w)):=by
 simp only[F_qj,S_qj,Scr.den]
 have ra:=zt (ρ:=Bool) (n:=6) (c:=false) (body:=fun i s=>(S_qj_b1 w i s).den) (fun i=>numP (([w.D,w.H,w.I,w.E,w.Q,w.S]:List Int).getD i dF)) (fun i hi hp=>by
  simp only[S_qj_b1,Scr.den,z5v,obind]
  rw[y15 hp]
  rfl) (fun i hi hp=>by
  simp only[S_qj_b1,Scr.den,z5v,obind]
  rw[y10 hp]
  rfl)
 by_cases h6:∀ j,j<6->numP (([w.D,w.H,w.I,w.E,w.Q,w.S]:List Int).getD j dF)
 ·rw[ra.1 h6]
  have h6':=zj8.1 h6
  open Classical in simp only[outM,z5o (show w.J.length<=1099511627776 from om),z5g,zqj,z16,obind,zf,z38,zla]
  refine y29 some ?_
  have e:decide (((parts w.J).length:Int)>0)=good w.J:=by rw[<- z5a]; rw[y1p]; simp
  rw[e,y1p]
  simp only[yg,ya]
  exact⟨fun⟨⟨⟨⟨⟨a,b⟩,c⟩,d⟩,f⟩,g⟩=>⟨h6',a,b,c,d,f,g⟩,fun⟨_,a,b,c,d,f,g⟩=>⟨⟨⟨⟨⟨a,b⟩,c⟩,d⟩,f⟩,g⟩⟩
 ·rw[ra.2 h6]
  show some false=_
  rw[y10 fun h:WPl w=>h6 (zj8.2 h.1)]
theorem z1g (hc:w.J.length<=1000000):F_q6 w=some (decide (WPl w)):=by
 simp only[F_q6,S_q6,Scr.den]
 have ra:=zt (ρ:=Bool) (n:=6) (c:=false) (body:=fun i s=>(S_q6_b1 w i s).den) (fun i=>numP (([w.D,w.H,w.I,w.E,w.Q,w.S]:List Int).getD i dF)) (fun i hi hp=>by
  simp only[S_q6_b1,Scr.den,z6w,obind]
  rw[y15 hp]
  rfl) (fun i hi hp=>by
  simp only[S_q6_b1,Scr.den,z6w,obind]
  rw[y10 hp]
  rfl)
 have rb:=zt (ρ:=Bool) (n:=2) (c:=false) (body:=fun i s=>(S_q6_b2 w i s).den) (fun i=>dayP (([w.N,w.X]:List Int).getD i dF)) (fun i hi hp=>by
  simp only[S_q6_b2,Scr.den,zi]
  unfold dayP at hp
  rw[y8 (by simp only[yj,ya]; omega)]) (fun i hi hp=>by
  simp only[S_q6_b2,Scr.den,zi]
  unfold dayP at hp
  rw[y9 (by simp only[yj,ya]; omega)])
 by_cases h6:∀ j,j<6->numP (([w.D,w.H,w.I,w.E,w.Q,w.S]:List Int).getD j dF)
 ·rw[ra.1 h6]
  have h6':=zj8.1 h6
  simp only[outM]
  by_cases h2:∀ j,j<2->dayP (([w.N,w.X]:List Int).getD j dF)
  ·rw[rb.1 h2]
   have h2':=zpz.1 h2
   open Classical in simp only[outM,z3r (show w.J.length<4611686018427387904 from om),z16,obind,zf,z38]
   refine y29 some ?_
   rw[y1p]
   simp only[yg,ya,y2k]
   exact⟨fun⟨⟨⟨⟨⟨a,b⟩,c⟩,d⟩,f⟩,g⟩=>⟨h6',a,b,⟨c,d⟩,⟨f,g⟩,h2'⟩,fun⟨_,a,b,c,d,f⟩=>⟨⟨⟨⟨⟨a,b⟩,c.1⟩,c.2⟩,d.1⟩,d.2⟩⟩
  ·rw[rb.2 h2]
   show some false=_
   rw[y10 fun h:WPl w=>h2 (zpz.2 h.2.2.2.2.2)]
 ·rw[ra.2 h6]
  show some false=_
  rw[y10 fun h:WPl w=>h6 (zj8.2 h.1)]
theorem WPl.len (h:WPl w):w.J.length<=60:=by have:=z5p h.2.2.1; omega
theorem z3m (h0:-9223372036854775808<=n) (h1:n<=9223372036854775807):F_q43 n=some (Lib.itoa n):=z8 ⟨h0,h1⟩
def zq (w:TWa):List Int:=[w.K,w.H,w.I,w.E,w.Q,w.L,w.S,w.N,w.X]
def headV (w:TWa):List Y8:=[[119,97,114,114,97,110,116],Lib.itoa w.D,Lib.itoa w.O,w.J]
def bytesV (w:TWa):Y8:=Lib.join (headV w++(zq w).map Lib.itoa) [32]
def smI (n:Int):Prop:=-9223372036854775808<=n/\n<=9223372036854775807
theorem WPl.rest (h:WPl w):∀ x∈zq w,smI x:=by
 obtain⟨⟨a,b,c,d,e,f⟩,g,_,i,j,k,l⟩:=h
 unfold numP at a b c d e f
 unfold dayP at k l
 intro x hx
 simp only[zq,yu,y1n,y3c] at hx
 unfold smI
 rcases hx with rfl | rfl | rfl | rfl | rfl | rfl | rfl | rfl | rfl <;> omega
theorem z4a {B:Nat} {s:Y8}:∀ {l:List Y8},(∀ x∈l,x.length<=B)->(Lib.joinTail s l).length<=l.length * (s.length+B)
 | [],_=>by simp[Lib.joinTail]
 | x :: l,h=>by
  have h1:=h x sj
  have h2:=z4a (s:=s) (l:=l) fun y hy=>h y (by simp[hy])
  have e:Lib.joinTail s (x :: l)=(s++x)++Lib.joinTail s l:=by simp[Lib.joinTail]
  rw[e,ye,ye,yd,y1d]
  omega
theorem z3n (h:WPl w):(bytesV w).length<=2000:=by
 have hn:smI w.D/\smI w.O:=by
  obtain⟨⟨a,_⟩,g,_⟩:=h
  unfold numP at a
  unfold smI
  omega
 have h1:∀ x,smI x->(Lib.itoa x).length<=60:=fun x hx=>by have:=Lib.itoa_length_le x hx.1 hx.2; omega
 have hl:=h.len
 show (Lib.join ([119,97,114,114,97,110,116] :: ([Lib.itoa w.D,Lib.itoa w.O,w.J]++(zq w).map Lib.itoa)) [32]).length<=_
 rw[Lib.join_cons,ye]
 have:=z4a (B:=60) (s:=[32]) (l:=[Lib.itoa w.D,Lib.itoa w.O,w.J]++(zq w).map Lib.itoa) (fun x hx=>by
  rcases y1b.1 hx with hx | hx
  ·simp only[yu,y1n,y3c] at hx
   rcases hx with rfl | rfl | rfl
   ·exact h1 _ hn.1
   ·exact h1 _ hn.2
   ·exact hl
  ·obtain⟨y,hy,rfl⟩:=y1l.1 hx
   exact h1 _ (h.rest y hy))
 simp only[ye,yd,yl,y1x,zq] at this |-
 omega
variable {i:Nat} {α β:Type}
theorem z7x [Inhabited α] {f:α->β} {l:List α} (h:i<l.length):(l.take (i+1)).map f=(l.take i).map f++[f (l.getD i dF)]:=by
 rw[<- List.take_append_getElem h,List.map_append,z26 h]
 rfl
theorem z7l (h:WPl w):F_qh w=some (bytesV w):=by
 have hl:=h.len
 have hn:smI w.D/\smI w.O:=by
  obtain⟨⟨a,_⟩,g,_⟩:=h
  unfold numP at a
  unfold smI
  omega
 have hb:=z3n h
 simp only[F_qh,S_qh,Scr.den,z39 (show w.J.length<=1000000 from om),obind,y15 h]
 rw[y8 dk,z3m hn.1.1 hn.1.2]
 simp only[obind]
 rw[z3m hn.2.1 hn.2.2]
 simp only[obind]
 obtain⟨s,e,h1⟩:=z1t (body:=fun i s=>(S_qh_b1 w i s).den) (n:=9) (fun i s=>s=headV w++((zq w).take i).map Lib.itoa) (s0:=headV w) sj (fun i s hi hI=>by
  subst hI
  have hr:smI ((zq w).getD i dF):=h.rest _ (zk (by simpa [zq] using hi))
  simp only[S_qh_b1,Scr.den]
  rw[show ([w.K,w.H,w.I,w.E,w.Q,w.L,w.S,w.N,w.X]:List Int)=zq w from rfl,z3m hr.1 hr.2]
  simp only[obind]
  rw[z8 (by simp only[AllP,y43,ye,y1x,y1m,headV,zq,yd,yl]; omega)]
  refine⟨_,rfl,?_⟩
  rw[z7x (by simpa [zq] using hi),y1u])
 subst h1
 rw[show ([[119,97,114,114,97,110,116],Lib.itoa w.D,Lib.itoa w.O,w.J]:List Y8)=headV w from rfl,e]
 simp only[outM]
 have e9:(zq w).take 9=zq w:=rfl
 rw[e9,z8 (by simp only[AllP,y43,ye,y1x,headV,zq,yd,yl]; omega),show F_q48 _ _=some (bytesV w) from z8 ⟨by simp[headV],by simp[headV,zq],by show (bytesV w).length<=_; omega⟩]
 rfl
def hstep (h:Int) (c:UInt8):Int:=IntKind.u64.wrap ((IntKind.u64.wrap ((BitVec.ofInt IntKind.u64.bits h ^^^ BitVec.ofInt IntKind.u64.bits (IntKind.u64.wrap ((c.toNat:Int)))).toNat:Int)) * 1099511628211)
def hashV (l:Y8):Int:=l.foldl hstep 14695981039346656037
theorem z9a {l:Y8} (hl:l.length<9223372036854775808):F_qm l=some (hashV l):=by
 simp only[F_qm,S_qm,Scr.den]
 rw[Ge,z21 (ρ:=Int) (body:=fun i s=>(S_qm_b1 l i s).den) l hstep (fun i s hi=>rfl)]
 rfl
def kb (key:Int) (j:Nat):Int:=IntKind.u8.wrap (key.fdiv (2 ^ (min (i64.wrap (56-(i64.wrap (8 * (j:Int))))).toNat IntKind.u64.bits)))
def keyB (key:Int):Y8:=(List.range 8).map fun j=>UInt8.ofNat (kb key j).toNat
def sigV (key:Int) (w:TWa):Int:=hashV (keyB key++bytesV w)
theorem zfm (h:WPl w) (key:Int):F_qw key w=some (sigV key w):=by
 have hb:=z3n h
 simp only[F_qw,S_qw,Scr.den]
 obtain⟨s,e,h1⟩:=z1t (body:=fun i s=>(S_qw_b1 key i s).den) (n:=8) (fun i s=>∀ j,j<i->s j=kb key j) (s0:=fun _=>0) (fun j hj=>om) (fun i s hi hI=>by
  simp only[S_qw_b1,Scr.den]
  rw[z8 (by
   simp only[AllP,y43]
   rw[wrapId (n:=8 * (i:Int)) om om,wrapId (n:=56-8 * (i:Int)) om om]
   omega)]
  refine⟨_,rfl,fun j hj=>?_⟩
  by_cases e:j=i
  ·subst e; rw[y9 rfl]; rfl
  ·rw[y8 e]; exact hI j om)
 rw[e]
 simp only[outM,z7l h,obind]
 have e2:((List.range 8).map fun j=>UInt8.ofNat (s j).toNat)=keyB key:=y3s fun j hj=>by rw[h1 j (y27.1 hj)]
 rw[e2,z9a (by simp only[ye,keyB,y1x,y2r]; omega)]
 simp only[obind]
 rw[z8 (by simp only[AllP,y43,keyB,y1x,y2r]; omega)]
 rfl
def zW:TWa:=⟨0,0,[],0,0,0,0,0,0,0,0,0,0,0⟩
def z1x (w:TWa) (x:Int):TWa:=⟨w.D,w.O,w.J,w.K,w.E,w.Q,w.I,w.H,w.L,w.S,w.N,w.X,x,w.U⟩
def z27 (w:TWa) (x:Int):TWa:=⟨w.D,w.O,w.J,w.K,w.E,w.Q,w.I,w.H,w.L,w.S,w.N,w.X,w.V,x⟩
def signV (keys:List Int) (w:TWa) (b:Bool):TWa×Int :=
 if ¬ WPl w then (zW,1) else
 if b=false/\2 * (w.O-1)<(keys.length:Int) then (z1x w (sigV (keys.getD (2 * (w.O-1)).toNat dF) w),0) else
 if (keys.length:Int)<=2 * (w.O-1)+1 then (zW,6) else
 if w.V≠sigV (keys.getD (2 * (w.O-1)).toNat dF) w then (zW,18) else
 (z27 w (sigV (keys.getD (2 * (w.O-1)+1).toNat dF) w),0)
theorem z9b (hc:w.J.length<=1000000) (keys:List Int) (b:Bool):F_q1s keys w b=some (signV keys w b):=by
 simp only[F_q1s,S_q1s,Scr.den,z39 hc,obind,zf]
 unfold signV
 by_cases h:WPl w
 ·have ho:=h.2.1
  rw[y15 h,y8 dk,y8 (show ¬ ¬ WPl w from fun k=>k h),wrapId (n:=w.O-1) om om,wrapId (n:=2 * (w.O-1)) om om,wrapId (n:=2 * (w.O-1)+1) om om]
  simp only[zfm h,obind]
  by_cases c1:b=false/\2 * (w.O-1)<(keys.length:Int)
  ·rw[y9 (by simp only[yg,yv,ya]; exact c1),y9 c1,Ge]
   rfl
  ·rw[y8 (by simp only[yg,yv,ya]; exact c1),y8 c1]
   by_cases c2:(keys.length:Int)<=2 * (w.O-1)+1
   ·rw[y9 (by simp only[ya,y2k]; exact c2),y9 c2]
    rfl
   ·rw[y8 (by simp only[ya,y2k]; exact c2),y8 c2,Ge]
    by_cases c3:w.V=sigV (keys.getD (2 * (w.O-1)).toNat dF) w
    ·rw[y8 (show ¬ (w.V != sigV (keys.getD (2 * (w.O-1)).toNat dF) w)=true by rw[<- c3]; simp),y8 (show ¬ w.V≠_ from fun k=>k c3),Ge]
     rfl
    ·rw[y9 (by simpa using c3),y9 c3]
     rfl
 ·rw[y10 h,y9 dk,y9 h]
  rfl
def checkV (keys:List Int) (w:TWa):Int:=if (signV keys w true).2=0/\(signV keys w true).1.U≠w.U then 18 else (signV keys w true).2
theorem zfn (hc:w.J.length<=1000000) (keys:List Int):F_q2o keys w=some (checkV keys w):=by
 simp only[F_q2o,S_q2o,Scr.den,z9b hc,obind,zf]
 unfold checkV
 by_cases h:(signV keys w true).2=0/\(signV keys w true).1.U≠w.U
 ·rw[y9 (by simpa using h),y9 h]
 ·rw[y8 (by simpa using h),y8 h]
def SrtW (l:List TWa):Prop:=l.Pairwise fun x y=>x.D<y.D
variable {l:List TWa}
theorem SrtW.lt (h:SrtW l) {j:Nat} (hij:i<j) (hj:j<l.length):(l.getD i dF).D<(l.getD j dF).D:=by
 have:=List.pairwise_iff_getElem.1 h i j om hj hij
 rw[z26 (show i<l.length from om),z26 hj]
 exact this
def posW (l:List TWa) (n:Int):Nat:=l.findIdx fun x=>decide (n<=x.D)
theorem z5h (l:List TWa) (n:Int):posW l n<=l.length:=List.findIdx_le_length
theorem z9c (hi:i<posW l n):(l.getD i dF).D<n:=by
 have hl:i<l.length:=y11 hi (z5h l n)
 have:=List.not_of_lt_findIdx hi
 rw[z26 hl]
 simpa using this
theorem z9d (hS:SrtW l) (hi:i<l.length) (hp:posW l n<=i):n<=(l.getD i dF).D:=by
 have hlt:posW l n<l.length:=om
 have h0:n<=(l.getD (posW l n) dF).D:=by
  have:=y4x (xs:=l) (p:=fun x:TWa=>decide (n<=x.D)) (w:=hlt)
  rw[z26 hlt]
  exact y2s this
 by_cases e:posW l n=i
 ·rwa [e] at h0
 ·have:=hS.lt (show posW l n<i from om) hi
  omega
theorem z4v (x y:TWa):F_q2e x y=some (cmpI x.D y.D):=by
 simp only[F_q2e,S_q2e,Scr.den,zc0,obind]
theorem z5w {b:Int}:cmpI a b<0↔a<b:=by
 unfold cmpI
 split
 ·omega
 ·split <;> omega
theorem zlb {b:Int}:cmpI a b=0↔a=b:=by
 unfold cmpI
 split
 ·omega
 ·split <;> omega
def hasN (l:List TWa) (n:Int):Bool:=l.any fun x=>x.D==n
theorem zn3 (hS:SrtW l) (n:Int):(decide (posW l n<l.length)&&((l.getD (posW l n) dF).D==n))=hasN l n:=by
 have hp:=z5h l n
 unfold hasN
 rw[y1p]
 simp only[yg,ya,y1a,y39]
 constructor
 ·rintro⟨h1,h2⟩
  exact⟨_,zk h1,h2⟩
 ·rintro⟨x,hx,rfl⟩
  obtain⟨j,hj,rfl⟩:=z1j hx
  have h1:¬ j<posW l (l.getD j dF).D:=fun h=>by have:=z9c h; omega
  have h2:posW l (l.getD j dF).D<l.length:=om
  refine⟨h2,?_⟩
  have h3:=z9d hS h2 (yf _)
  rcases yp (posW l (l.getD j dF).D) j with h | h
  ·have:=hS.lt h hj; omega
  ·have:posW l (l.getD j dF).D=j:=om
   rw[this]
theorem zj9 (hl:l.length<=1000000) (hS:SrtW l) :
  F_q1h l w=some ((posW l w.D:Int),hasN l w.D):=by
 have hp:=z5h l w.D
 simp only[F_q1h,S_q1h,Scr.den]
 obtain⟨s,e,hJ⟩:=z15 (step:=fun s=>(S_q1h_b1 l w s).den) (fun s=>(s.2-s.1).toNat) (fun s=>∃ i j:Nat,s=((i:Int),(j:Int))/\i<=posW l w.D/\posW l w.D<=j/\j<=l.length) (fun s=>s.1=posW l w.D) (fun s hI=>by
  obtain⟨i,j,rfl,h1,h2,h3⟩:=hI
  simp only[S_q1h_b1,Scr.den,zoq (show i+j<4611686018427387904 from om),z4v,obind,yh]
  by_cases hij:i<j
  ·left
   rw[y9 (by simpa using hij),Gb]
   by_cases hlt:(l.getD ((i+j) / 2) dF).D<w.D
   ·rw[y9 (by simpa using z5w.2 hlt),wrapId om om]
    have:(i+j) / 2<posW l w.D:=by
     by_cases h:(i+j) / 2<posW l w.D
     ·exact h
     ·have:=z9d hS (n:=w.D) (show (i+j) / 2<l.length from om) om
      omega
    exact⟨_,rfl,⟨(i+j) / 2+1,j,sj,om,h2,h3⟩,by simp only; omega⟩
   ·rw[y8 (by simpa using fun h=>hlt (z5w.1 h))]
    have:posW l w.D<=(i+j) / 2:=by
     by_cases h:posW l w.D<=(i+j) / 2
     ·exact h
     ·have:=z9c (show (i+j) / 2<posW l w.D from om)
      omega
    exact⟨_,rfl,⟨i,(i+j) / 2,rfl,h1,this,om⟩,by simp only; omega⟩
  ·right
   rw[y8 (by simpa using hij)]
   exact⟨_,rfl,by simp only; omega⟩) _ (0,(l.length:Int)) (y1o _) ⟨0,l.length,rfl,om,hp,om⟩
 rw[e]
 simp only[outM,hJ,yh,z4v,zf]
 rw[<- zn3 hS]
 by_cases h:posW l w.D<l.length
 ·rw[z17 (by exact⟨sk,trivial⟩),obind,z8 ⟨fun _=>om,fun _=>h,trivial⟩]
  refine y29 some (Prod.ext rfl ?_)
  rw[y1p]
  simp[h,zlb]
 ·rw[zx (by simp[AllP]; omega),obind,z8 ⟨fun _=>om,fun h'=>absurd h (by simp[AllP] at h'; omega),trivial⟩]
  simp[h]
theorem zlc (hl:l.length<=1000000):F_q3i l=some l:=by
 simp only[F_q3i,S_q3i,Scr.den]
 rw[Ga]
def sameB (x w:TWa):Bool:=(x.O==w.O&&x.E==w.E)&&x.Q==w.Q
theorem zd9 (x w:TWa):F_q2d x w=some (sameB x w):=by
 simp only[F_q2d,S_q2d,Scr.den,zf]
 rfl
theorem zfo (l:List TWa) (w:TWa):F_q3h l w=some (l.any fun x=>sameB x w):=by
 have h:F_q1q l w=some (if (l.any fun x=>sameB x w)=true then ((l.findIdx fun x=>sameB x w:Nat):Int) else -1):=by
  simp only[F_q1q,S_q1q,Scr.den]
  rw[zaj l (fun x=>sameB x w) (fun i=>(i:Int)) (fun i hi=>by
   simp only[S_q1q_b1,F_q3z,S_q3z,Scr.den,zd9,obind]
   split <;> rfl)]
  cases (l.any fun x=>sameB x w) <;> rfl
 simp only[F_q3h,S_q3h,Scr.den,h,obind]
 congr 1
 cases (l.any fun x=>sameB x w) with
 | true=>simp
 | false=>rfl
def addV (l:List TWa) (w:TWa):List TWa×Int :=
 if ¬ WPl w then ([],1) else if hasN l w.D=true then ([],7) else if (l.any fun x=>sameB x w)=true then ([],20) else if 200<=l.length then ([],3) else (insL l (posW l w.D) w,0)
theorem zn4 (hl:l.length<=1000) (hS:SrtW l) (hc:w.J.length<=1000000):F_qg l w=some (addV l w):=by
 simp only[F_qg,S_qg,Scr.den,z39 hc,obind]
 unfold addV
 by_cases h:WPl w
 ·rw[y15 h,y8 dk,y8 (show ¬ ¬ WPl w from fun k=>k h)]
  obtain⟨s,e,_⟩:=z15 (step:=fun s=>(S_qg_b1 l s).den) (fun s=>((l.length:Int)-s).toNat) (fun s=>∃ i:Nat,s=(i:Int)/\1<=i) (fun _=>True) (fun s hI=>by
   obtain⟨i,rfl,h1⟩:=hI
   simp only[S_qg_b1,Scr.den,z4v,obind,yh]
   by_cases hi:i<l.length
   ·left
    have e1:i64.wrap ((i:Int)-1)=((i-1:Nat):Int):=by rw[wrapId om om]; omega
    have hlt:=hS.lt (show i-1<i from om) hi
    rw[y9 (by simpa using hi),e1,yh,z8 ⟨om,om,om,hi,trivial⟩,y8 (fun hh=>absurd (z5w.2 hlt) (y45.2 (y2s hh))),wrapId (n:=(i:Int)+1) om om]
    exact⟨_,rfl,⟨i+1,rfl,om⟩,by show ((l.length:Int)-((i:Int)+1)).toNat<((l.length:Int)-i).toNat; omega⟩
   ·right
    rw[y8 (by simpa using hi)]
    exact⟨_,rfl,trivial⟩) _ 1 (y1o _) ⟨1,rfl,yf _⟩
  rw[e]
  simp only[outM]
  rw[zj9 om hS]
  simp only[obind,zfo,zlc (show l.length<=1000000 from om)]
  by_cases c1:hasN l w.D=true
  ·rw[y9 c1,y9 c1]
  ·rw[y8 c1,y8 c1]
   by_cases c2:(l.any fun x=>sameB x w)=true
   ·rw[y9 c2,y9 c2]
   ·rw[y8 c2,y8 c2]
    by_cases c3:200<=l.length
    ·rw[y9 sk,y9 c3]
    ·rw[y8 sk,y8 c3]
     simp only[F_q42,yh]
     rw[z8 ⟨om,z5h _ _,om⟩]
     simp only[obind]
     rw[z8 (by simp only[AllP,y43,z1c]; omega)]
 ·rw[y10 h,y9 dk,y9 h]
theorem zn5 (hS:SrtW l) (hn:¬ hasN l w.D=true):SrtW (insL l (posW l w.D) w):=by
 have hp:=z5h l w.D
 have h1:∀ x∈l.take (posW l w.D),x.D<w.D:=fun x hx=>by
  obtain⟨i,hi,rfl⟩:=List.mem_take_iff_getElem.1 hx
  have:=z9c (l:=l) (n:=w.D) (i:=i) om
  rwa [z26 om] at this
 have h2:∀ x∈l.drop (posW l w.D),w.D<x.D:=fun x hx=>by
  obtain⟨i,hi,rfl⟩:=List.mem_drop_iff_getElem.1 hx
  have:=z9d hS (n:=w.D) (i:=posW l w.D+i) om om
  rw[z26 om] at this
  have hne:l[posW l w.D+i].D≠w.D:=fun e=>hn (y39.2 ⟨_,y42 om,y1a.2 e⟩)
  omega
 unfold insL SrtW
 refine List.pairwise_append.2 ⟨hS.sublist (List.take_sublist _ _),List.pairwise_cons.2 ⟨h2,hS.sublist (List.drop_sublist _ _)⟩,fun a ha b hb=>?_⟩
 rcases yu.1 hb with rfl | hb
 ·exact h1 a ha
 ·have:=h1 a ha; have:=h2 b hb; omega
theorem z7m {p:Nat} {x:TWa}:x∈insL l p w↔x=w\/x∈l:=by
 unfold insL
 rw[y1b,yu]
 conv=>rhs; rw[<- y2h p l,y1b]
 constructor
 ·rintro (h | h | h)
  ·exact .inr (.inl h)
  ·exact .inl h
  ·exact .inr (.inr h)
 ·rintro (h | h | h)
  ·exact .inr (.inl h)
  ·exact .inl h
  ·exact .inr (.inr h)
def mkW (o:TOf) (x:TOr) (n:Int):TWa :=
 ⟨n,o.D,(rAt o.M (cAt o.M (vAt o.M x.E).I).H).J,(rAt o.M (cAt o.M (vAt o.M x.E).I).H).K,(vAt o.M x.E).D,x.Q,(cAt o.M (vAt o.M x.E).I).D,
  (rAt o.M (cAt o.M (vAt o.M x.E).I).H).D,(vAt o.M x.E).L,(cAt o.M (vAt o.M x.E).I).S,x.N,(cAt o.M (vAt o.M x.E).I).X,0,0⟩
theorem ordF (hv:VO o) (hi:i<o.M.G.length):OFld o.M (o.M.G.getD i dF) (o.M.G.take i) (i+1):=hv.val.2.2.2.2.2.1 i hi
theorem zhv (hv:VO o) (hi:i<o.M.G.length) (hn:numP n) :
  F_qn o ((i:Int)+1) n=some (if (o.M.G.getD i dF).Z=true then (zW,9) else (mkW o (o.M.G.getD i dF) n,0)):=by
 have ho:=ordF hv hi
 obtain⟨hR,hC,_,hV,_,_,l1,l2,l3,l4⟩:=hv.val
 have e0:F_qf o=some true:=(z4q hv.smO).trans (y29 some (@decide_eq_true _ (_) hv))
 simp only[F_qn,S_qn,Scr.den,e0,z5g,z5v,obind]
 have e1:i64.wrap ((i:Int)+1-1)=(i:Int):=by rw[wrapId om om]; omega
 rw[y8 dk,y8 sk,e1,yh,z8 ⟨om,hi,trivial⟩]
 generalize o.M.G.getD i dF=x at ho
 obtain⟨_,o2,_⟩:=ho
 obtain⟨v1,v2,_⟩:=hV.at o2
 obtain⟨c1,c2,_⟩:=hC.at v2
 cases hx:x.Z with
 | true=>rw[y9 rfl,y9 rfl]; rfl
 | false =>
  rw[y8 (show ¬ false=true from dk),y8 (show ¬ false=true from dk),y15 hn,y8 (show ¬ (!true)=true from dk)]
  have w1:i64.wrap (x.E-1)=x.E-1:=wrapId om om
  rw[w1,Gb]
  have w2:i64.wrap ((o.M.C.getD (x.E-1).toNat dF).I-1)=(vAt o.M x.E).I-1:=wrapId (by show _<=(vAt o.M x.E).I-1; omega) (by show (vAt o.M x.E).I-1<_; omega)
  rw[w2,Gb]
  have w3:i64.wrap ((o.M.B.getD ((vAt o.M x.E).I-1).toNat dF).H-1)=(cAt o.M (vAt o.M x.E).I).H-1:=wrapId (by show _<=(cAt o.M (vAt o.M x.E).I).H-1; omega) (by show (cAt o.M (vAt o.M x.E).I).H-1<_; omega)
  rw[w3,Gb]
  rfl
def o19:TOf:=⟨1,[⟨[49],12,50,0,0⟩],⟨[⟨1,[49],12,4320,50,0⟩],[⟨1,1,4320,30,0,2,4400⟩],[⟨1,1,4330,30⟩],[⟨1,1,1,4340,false⟩]⟩⟩
theorem zld:good [49]=true:=kj
theorem zou:Val o19.M:=by
 have hR:RAll o19.M:=fun i hi=>by
  obtain rfl:i=0:=by simpa [o19] using hi
  exact⟨rfl,zld,by decide +kernel,by decide +kernel,kj,by decide +kernel,by decide +kernel⟩
 have hC:CAll o19.M:=fun i hi=>by
  obtain rfl:i=0:=by simpa [o19] using hi
  exact⟨rfl,by decide +kernel,by decide +kernel,by decide +kernel,by decide +kernel,by decide +kernel,by decide +kernel,by decide +kernel,kj⟩
 refine⟨hR,hC,fun r hr=>?_,fun i hi=>?_,fun c hc=>?_,fun i hi=>?_,by decide +kernel,by decide +kernel,by decide +kernel,by decide +kernel⟩
 ·obtain rfl:r=⟨1,[49],12,4320,50,0⟩:=by simpa [o19] using hr
  decide +kernel
 ·obtain rfl:i=0:=by simpa [o19] using hi
  exact⟨rfl,by decide +kernel,by decide +kernel,by decide +kernel,by decide +kernel,by decide +kernel⟩
 ·obtain rfl:c=⟨1,1,4320,30,0,2,4400⟩:=by simpa [o19] using hc
  decide +kernel
 ·obtain rfl:i=0:=by simpa [o19] using hi
  exact⟨rfl,by decide +kernel,by decide +kernel,by decide +kernel,by decide +kernel,kj,kj⟩
theorem zq0:VO o19:=by
 refine⟨by decide +kernel,by decide +kernel,zou,fun r hr=>?_,fun i hi=>?_,fun x hx=>?_⟩
 ·obtain rfl:r=⟨[49],12,50,0,0⟩:=by simpa [o19] using hr
  exact⟨zld,by decide +kernel,by decide +kernel,by decide +kernel,by decide +kernel⟩
 ·obtain rfl:i=0:=by simpa [o19] using hi
  exact .inl rfl
 ·obtain rfl:x=⟨1,[49],12,4320,50,0⟩:=by simpa [o19] using hx
  exact⟨kj,by decide +kernel⟩
def w19:TWa:=⟨7,1,[49],12,1,1,1,1,30,2,4340,4400,0,0⟩
theorem z8p:WPl w19:=y2s kj
theorem zle:bytesV w19=[119,97,114,114,97,110,116,32,55,32,49,32,49,32,49,50,32,49,32,49,32,49,32,49,32,51,48,32,50,32,52,51,52,48,32,52,52,48,48]:=by
 have d1:∀ n:Nat,n<10->Lib.itoa n=[UInt8.ofNat (48+n)]:=fun n hn=>by
  unfold Lib.itoa
  rw[y8 om,yh,Lib.decDigits_one hn]
 have d2:∀ n:Nat,¬ n<10->Lib.itoa n=Lib.itoa (n / 10:Nat)++[UInt8.ofNat (48+n % 10)]:=fun n hn=>by
  unfold Lib.itoa
  rw[y8 om,y8 om,yh,yh,Lib.decDigits,dif_neg hn]
 have e1:Lib.itoa 1=[49]:=d1 1 dk
 have e2:Lib.itoa 2=[50]:=d1 2 dk
 have e3:Lib.itoa 3=[51]:=d1 3 dk
 have e4:Lib.itoa 4=[52]:=d1 4 dk
 have e7:Lib.itoa 7=[55]:=d1 7 dk
 have e12:Lib.itoa 12=[49,50]:=(d2 12 dk).trans (by rw[show ((12 / 10:Nat):Int)=1 from rfl,e1]; rfl)
 have e30:Lib.itoa 30=[51,48]:=(d2 30 dk).trans (by rw[show ((30 / 10:Nat):Int)=3 from rfl,e3]; rfl)
 have e43:Lib.itoa 43=[52,51]:=(d2 43 dk).trans (by rw[show ((43 / 10:Nat):Int)=4 from rfl,e4]; rfl)
 have e44:Lib.itoa 44=[52,52]:=(d2 44 dk).trans (by rw[show ((44 / 10:Nat):Int)=4 from rfl,e4]; rfl)
 have e434:Lib.itoa 434=[52,51,52]:=(d2 434 dk).trans (by rw[show ((434 / 10:Nat):Int)=43 from rfl,e43]; rfl)
 have e440:Lib.itoa 440=[52,52,48]:=(d2 440 dk).trans (by rw[show ((440 / 10:Nat):Int)=44 from rfl,e44]; rfl)
 have e4340:Lib.itoa 4340=[52,51,52,48]:=(d2 4340 dk).trans (by rw[show ((4340 / 10:Nat):Int)=434 from rfl,e434]; rfl)
 have e4400:Lib.itoa 4400=[52,52,48,48]:=(d2 4400 dk).trans (by rw[show ((4400 / 10:Nat):Int)=440 from rfl,e440]; rfl)
 have eh:headV w19=[[119,97,114,114,97,110,116],[55],[49],[49]]:=by
  show [[119,97,114,114,97,110,116],Lib.itoa 7,Lib.itoa 1,[49]]=_
  rw[e7,e1]
 have er:(zq w19).map Lib.itoa=[[49,50],[49],[49],[49],[49],[51,48],[50],[52,51,52,48],[52,52,48,48]]:=by
  show [Lib.itoa 12,Lib.itoa 1,Lib.itoa 1,Lib.itoa 1,Lib.itoa 1,Lib.itoa 30,Lib.itoa 2,Lib.itoa 4340,Lib.itoa 4400]=_
  rw[e12,e1,e30,e2,e4340,e4400]
 unfold bytesV
 rw[eh,er]
 decide +kernel
theorem z6o (w:TWa) (x:Int):(z1x w x).V=x:=rfl
theorem zgv (w:TWa) (x:Int):(z27 w x).V=w.V:=rfl
theorem zfp (w:TWa) (x:Int):(z27 w x).U=x:=rfl
theorem zgw (w:TWa) (x y:Int):z27 (z27 w x) y=z27 w y:=rfl
theorem z6g (k:Int) (w:TWa) (x:Int):sigV k (z1x w x)=sigV k w:=by
 unfold sigV
 rw[show bytesV (z1x w x)=bytesV w from rfl]
theorem zda (k:Int) (w:TWa) (x:Int):sigV k (z27 w x)=sigV k w:=by
 unfold sigV
 rw[show bytesV (z27 w x)=bytesV w from rfl]
theorem zov:F_q2v=some true:=by
 have hc:w19.J.length<=1000000:=dk
 have m0:F_qn o19 1 7=some (w19,0):=(zhv zq0 (i:=0) (n:=7) dk dk).trans (by rw[y8 dk]; rfl)
 have p1:WPl (z1x w19 (sigV 3 w19)):=z8p
 have p2:WPl (z27 (z1x w19 (sigV 3 w19)) (sigV 4 w19)):=z8p
 have s1:signV [3,4] w19 false=(z1x w19 (sigV 3 w19),0):=by
  unfold signV
  rw[y8 (show ¬ ¬ WPl w19 from fun k=>k z8p),y9 dk]
  rfl
 have s2:signV [3,4] (z1x w19 (sigV 3 w19)) true=(z27 (z1x w19 (sigV 3 w19)) (sigV 4 w19),0):=by
  unfold signV
  rw[show (z1x w19 (sigV 3 w19)).O=1 from rfl,show (([3,4]:List Int).getD (2 * ((1:Int)-1)).toNat dF)=3 from rfl,show (([3,4]:List Int).getD (2 * ((1:Int)-1)+1).toNat dF)=4 from rfl,z6g,z6g,
   y8 (show ¬ ¬ WPl (z1x w19 (sigV 3 w19)) from fun k=>k p1),y8 (show ¬ (true=false/\2 * ((1:Int)-1)<(([3,4]:List Int).length:Int)) from fun k=>by cases k.1),y8 (show ¬ ((([3,4]:List Int).length:Int)<=2 * ((1:Int)-1)+1) from dk),
   y8 (show ¬ ((z1x w19 (sigV 3 w19)).V≠sigV 3 w19) from fun k=>k (z6o _ _))]
 have s3:signV [3,4] (z27 (z1x w19 (sigV 3 w19)) (sigV 4 w19)) true=(z27 (z1x w19 (sigV 3 w19)) (sigV 4 w19),0):=by
  unfold signV
  rw[show (z27 (z1x w19 (sigV 3 w19)) (sigV 4 w19)).O=1 from rfl,show (([3,4]:List Int).getD (2 * ((1:Int)-1)).toNat dF)=3 from rfl,show (([3,4]:List Int).getD (2 * ((1:Int)-1)+1).toNat dF)=4 from rfl,zda,zda,z6g,z6g,
   y8 (show ¬ ¬ WPl (z27 (z1x w19 (sigV 3 w19)) (sigV 4 w19)) from fun k=>k p2),y8 (show ¬ (true=false/\2 * ((1:Int)-1)<(([3,4]:List Int).length:Int)) from fun k=>by cases k.1),y8 (show ¬ ((([3,4]:List Int).length:Int)<=2 * ((1:Int)-1)+1) from dk),
   y8 (show ¬ ((z27 (z1x w19 (sigV 3 w19)) (sigV 4 w19)).V≠sigV 3 w19) from fun k=>k ((zgv _ _).trans (z6o _ _))),zgw]
 have c1:checkV [3,4] (z27 (z1x w19 (sigV 3 w19)) (sigV 4 w19))=0:=by
  unfold checkV
  rw[s3,y8 (fun k=>k.2 rfl)]
 have b1:F_qh (z27 (z1x w19 (sigV 3 w19)) (sigV 4 w19))=some [119,97,114,114,97,110,116,32,55,32,49,32,49,32,49,50,32,49,32,49,32,49,32,49,32,51,48,32,50,32,52,51,52,48,32,52,52,48,48]:=(z7l p2).trans (y29 some zle)
 have h1:F_qm []=some 14695981039346656037:=z9a dk
 have h2:F_qm [97]=some 12638187200555641996:=(z9a dk).trans (y29 some kj)
 simp only[F_q2v,S_q2v,Scr.den,zf]
 rw[show (⟨1,[⟨[49],12,50,0,0⟩],⟨[⟨1,[49],12,4320,50,0⟩],[⟨1,1,4320,30,0,2,4400⟩],[⟨1,1,4330,30⟩],[⟨1,1,1,4340,false⟩]⟩⟩:TOf)=o19 from rfl,m0]
 simp only[obind]
 rw[z9b hc,s1]
 simp only[obind]
 rw[z9b (show (z1x w19 (sigV 3 w19)).J.length<=1000000 from hc),s2]
 simp only[obind]
 rw[zfn (show (z27 (z1x w19 (sigV 3 w19)) (sigV 4 w19)).J.length<=1000000 from hc),c1,b1,h1,h2]
 rw[Gg]
 simp only[obind]
 rw[Gg]
 simp only[obind]
 rw[Gg]
 simp only[obind]
 rw[Gg]
 rfl
theorem z9w (x w:TWa):F_q2c x w=some (sameB x w):=by
 simp only[F_q2c,S_q2c,Scr.den,zf]
 rfl
theorem zbc (hl:l.length<=1000) (hS:SrtW l) (hc:w.J.length<=1000000):F_q2 l w=some (addV l w):=by
 simp only[F_q2,S_q2,Scr.den]
 obtain⟨s,e,_⟩:=z15 (step:=fun s=>(S_q2_b1 l s).den) (fun s=>((l.length:Int)-s).toNat) (fun s=>∃ i:Nat,s=(i:Int)/\1<=i) (fun _=>True) (fun s hI=>by
  obtain⟨i,rfl,h1⟩:=hI
  simp only[S_q2_b1,Scr.den,yh]
  by_cases hi:i<l.length
  ·left
   have e1:i64.wrap ((i:Int)-1)=((i-1:Nat):Int):=by rw[wrapId om om]; omega
   have hlt:=hS.lt (show i-1<i from om) hi
   rw[y9 (by simpa using hi),e1,yh,z8 ⟨om,om,om,hi,trivial⟩,y8 (by
    simp only[ya,y2k]
    omega),wrapId (n:=(i:Int)+1) om om]
   exact⟨_,rfl,⟨i+1,rfl,om⟩,by show ((l.length:Int)-((i:Int)+1)).toNat<((l.length:Int)-i).toNat; omega⟩
  ·right
   rw[y8 (by simpa using hi)]
   exact⟨_,rfl,trivial⟩) _ 1 (y1o _) ⟨1,rfl,yf _⟩
 rw[e]
 simp only[outM]
 rw[z1g hc]
 simp only[obind]
 unfold addV
 by_cases h:WPl w
 ·rw[y15 h,y8 dk,y8 (show ¬ ¬ WPl w from fun k=>k h)]
  have hp:=z5h l w.D
  by_cases c1:hasN l w.D=true
  ·rw[y9 c1]
   -- the first pot with the number is met
   have key:∀ (k i:Nat) (s:Int),i+k=l.length->(∃ j,i<=j/\j<l.length/\(l.getD j dF).D=w.D)->rangeM (fun i s=>(S_q2_b2 l w i s).den) k i s=some (.ret ([],7)):=by
    intro k
    induction k with
    | zero=>intro i s hk ⟨j,h1,h2,_⟩; omega
    | succ k ih =>
     intro i s hk ⟨j,h1,h2,h3⟩
     by_cases hn:(l.getD i dF).D=w.D
     ·simp only[rangeM,S_q2_b2,Scr.den]
      rw[y9 (by simpa using hn)]
     ·have hj:i+1<=j:=by
       rcases yp i j with h | h
       ·exact h
       ·have:i=j:=om
        subst this; exact absurd h3 hn
      by_cases hlt:(l.getD i dF).D<w.D
      ·simp only[rangeM,S_q2_b2,Scr.den]
       rw[y8 (by simpa using hn),y9 (by simpa using hlt)]
       exact ih (i+1) _ om ⟨j,hj,h2,h3⟩
      ·simp only[rangeM,S_q2_b2,Scr.den]
       rw[y8 (by simpa using hn),y8 (by simpa using hlt)]
       exact ih (i+1) _ om ⟨j,hj,h2,h3⟩
   obtain⟨x,hx,he⟩:=y39.1 c1
   obtain⟨j,hj,rfl⟩:=z1j hx
   rw[key l.length 0 0 om ⟨j,om,hj,by simpa using he⟩]
   rfl
  ·rw[y8 c1]
   obtain⟨k,e2,hk⟩:=z1t (body:=fun i s=>(S_q2_b2 l w i s).den) (n:=l.length) (fun i s=>s=((min i (posW l w.D):Nat):Int)) (s0:=0) sj (fun i s hi hI=>by
    subst hI
    simp only[S_q2_b2,Scr.den]
    have hn:(l.getD i dF).D≠w.D:=fun e=>c1 (y39.2 ⟨_,zk hi,by simpa using e⟩)
    rw[y8 (by simpa using hn)]
    by_cases hlt:(l.getD i dF).D<w.D
    ·have:i<posW l w.D:=by
      by_cases h:i<posW l w.D
      ·exact h
      ·have:=z9d hS (n:=w.D) hi om; omega
     rw[y9 (by simpa using hlt),wrapId om om]
     exact⟨_,rfl,om⟩
    ·have:posW l w.D<=i:=by
      by_cases h:i<posW l w.D
      ·have:=z9c h; omega
      ·omega
     rw[y8 (by simpa using hlt)]
     exact⟨_,rfl,om⟩)
   subst hk
   rw[e2]
   simp only[outM]
   have rs:=zil (ρ:=R_q2) (n:=l.length) (c:=([],20)) (body:=fun i s=>(S_q2_b3 l w i s).den) (fun i=>sameB (l.getD i dF) w) (fun i hi=>by
    simp only[S_q2_b3,Scr.den,z9w,obind]
    split <;> rfl)
   rw[rs]
   have hany:(List.range l.length).any (fun i=>sameB (l.getD i dF) w)=l.any fun x=>sameB x w:=by
    rw[y1p]
    simp only[y39,y27]
    constructor
    ·rintro⟨i,hi,h⟩; exact⟨_,zk hi,h⟩
    ·rintro⟨x,hx,h⟩; obtain⟨i,hi,rfl⟩:=z1j hx; exact⟨i,hi,h⟩
   rw[hany]
   by_cases c2:(l.any fun x=>sameB x w)=true
   ·rw[y9 c2,y9 c2]
    rfl
   ·rw[y8 c2,y8 c2]
    simp only[outM]
    by_cases c3:200<=l.length
    ·rw[y9 sk,y9 c3]
    ·have em:min l.length (posW l w.D)=posW l w.D:=om
     rw[y8 sk,y8 c3,em,yh,z8 ⟨om,hp,by rw[y1m]; omega,trivial⟩,z8 ⟨by rw[y1m]; omega,by simp only[ye,y1m,y2a,yd,yl]; omega,trivial⟩,z8 ⟨by simp only[ye,y1m,y2a,yd,yl]; omega,trivial⟩]
     unfold insL
     rw[y1u]
     rfl
 ·rw[y10 h,y9 dk,y9 h]
theorem zfq (h:WPl w):∃ b,F_q9 w=some b/\b.length<=10000:=by
 have hl:=h.len
 have hn:smI w.D/\smI w.O:=by
  obtain⟨⟨a,_⟩,g,_⟩:=h
  unfold numP at a
  unfold smI
  omega
 have i1:=Lib.itoa_length_le w.D hn.1.1 hn.1.2
 have i2:=Lib.itoa_length_le w.O hn.2.1 hn.2.2
 simp only[F_q9,S_q9,Scr.den,z1g (show w.J.length<=1000000 from om),obind,y15 h]
 rw[y8 dk,z3m hn.1.1 hn.1.2]
 simp only[obind]
 rw[z3m hn.2.1 hn.2.2]
 simp only[obind]
 rw[z8 (by simp only[AllP,y43,ye,yd,yl]; omega)]
 obtain⟨s,e,h1⟩:=z1t (body:=fun i s=>(S_q9_b1 w i s).den) (n:=9) (fun i s=>s.length<=1000+100 * i) (s0:=(((((([119,97,114,114,97,110,116,32]:Y8)++Lib.itoa w.D)++[32])++Lib.itoa w.O)++[32])++w.J)) (by simp only[ye,yd,yl]; omega) (fun i s hi hI=>by
  have hr:smI ((zq w).getD i dF):=h.rest _ (zk (by simpa [zq] using hi))
  have hlen:=Lib.itoa_length_le _ hr.1 hr.2
  simp only[S_q9_b1,Scr.den]
  rw[show ([w.K,w.H,w.I,w.E,w.Q,w.L,w.S,w.N,w.X]:List Int)=zq w from rfl,z3m hr.1 hr.2]
  simp only[obind]
  rw[z8 (by simp only[AllP,y43,ye,yd,yl]; omega)]
  exact⟨_,rfl,by simp only[ye,yd,yl]; omega⟩)
 rw[e]
 exact⟨s,rfl,om⟩
theorem zgx {l:Y8} (hl:l.length<=1000000):∃ v,F_qi l=some v:=by
 simp only[F_qi,S_qi,Scr.den]
 obtain⟨s,e,_⟩:=z15 (step:=fun s=>(S_qi_b1 l s).den) (fun s:Int×Int=>((l.length:Int)-s.2).toNat) (fun s=>∃ i:Nat,s.2=(i:Int)) (fun _=>True) (fun s hI=>by
  obtain⟨x,y⟩:=s
  obtain⟨i,hi0⟩:=hI
  simp only at hi0
  subst hi0
  simp only[S_qi_b1,Scr.den,yh]
  by_cases hi:i<l.length
  ·left
   rw[y9 (by simpa using hi),z8 ⟨om,hi,trivial⟩,wrapId (n:=(i:Int)+1) om om]
   exact⟨_,rfl,⟨i+1,rfl⟩,by show ((l.length:Int)-((i:Int)+1)).toNat<((l.length:Int)-i).toNat; omega⟩
  ·right
   rw[y8 (by simpa using hi)]
   exact⟨_,rfl,trivial⟩) _ (14695981039346656037,0) (y1o _) ⟨0,rfl⟩
 rw[e]
 exact⟨_,rfl⟩
theorem zak (h:WPl w) (key:Int):∃ v,F_qa key w=some v:=by
 simp only[F_qa,S_qa,Scr.den]
 obtain⟨s,e,h1⟩:=z15 (step:=fun s=>(S_qa_b1 key s).den) (fun s:List Int×Int=>(s.2+8).toNat) (fun s=>(s.1.length:Int) * 8+s.2=56/\-8<=s.2) (fun s=>s.1.length<=8) (fun s hI=>by
  obtain⟨l,y⟩:=s
  obtain⟨k1,k2⟩:=hI
  simp only at k1 k2
  simp only[S_qa_b1,Scr.den]
  by_cases hy:0<=y
  ·left
   rw[y9 (by simpa using hy),z8 ⟨hy,om,trivial⟩,wrapId (n:=y-8) om om]
   exact⟨_,rfl,⟨by simp only[ye,yd,yl]; omega,by show -8<=y-8; omega⟩,by show (y-8+8).toNat<(y+8).toNat; omega⟩
  ·right
   rw[y8 (by simpa using hy)]
   exact⟨_,rfl,by show l.length<=8; omega⟩) _ (([]:List Int),56) (y1o _) ⟨sj,sj⟩
 rw[e]
 simp only[outM]
 rw[Ga]
 obtain⟨b,e2,hb⟩:=zfq h
 rw[e2]
 simp only[obind]
 obtain⟨v,e3⟩:=zgx (l:=((List.range s.1.length).map fun j=>UInt8.ofNat ((s.1.getD j dF)).toNat)++b) (by simp only[ye,y1x,y2r]; omega)
 rw[e3]
 simp only[obind]
 rw[z8 ⟨by simp only[y1x,y2r]; omega,trivial⟩]
 exact⟨_,rfl⟩
def zlf (x w:TWa):Prop:=∃ a b,x=⟨w.D,w.O,w.J,w.K,w.E,w.Q,w.I,w.H,w.L,w.S,w.N,w.X,a,b⟩
theorem zgy (h:WPl w) (keys:List Int) (b:Bool):∃ x e,F_q1l keys w b=some (x,e)/\(e=0->zlf x w):=by
 have hc:=h.len
 have ho:=h.2.1
 simp only[F_q1l,S_q1l,Scr.den,z1g (show w.J.length<=1000000 from om),obind,y15 h]
 rw[y8 dk,wrapId (n:=w.O-1) om om,wrapId (n:=2 * (w.O-1)) om om,wrapId (n:=2 * (w.O-1)+1) om om]
 have sig:=fun k=>zak h k
 cases b with
 | true =>
  rw[y9 rfl]
  simp only[outM]
  by_cases c2:(keys.length:Int)<=2 * (w.O-1)+1
  ·rw[y9 (by simpa using c2)]
   exact⟨_,_,rfl,fun h=>by cases h⟩
  ·rw[y8 (by simpa using c2),y8 dk,wrapId (n:=2 * (w.O-1)+1-1) om om]
   obtain⟨v,e1⟩:=sig (keys.getD (2 * (w.O-1)+1-1).toNat dF)
   rw[e1]
   simp only[obind]
   rw[Gb]
   split
   ·exact⟨_,_,rfl,fun h=>by cases h⟩
   ·obtain⟨v2,e2⟩:=sig (keys.getD (2 * (w.O-1)+1).toNat dF)
    rw[e2]
    simp only[obind]
    rw[Gb]
    exact⟨_,_,rfl,fun _=>⟨_,_,rfl⟩⟩
 | false =>
  rw[y8 dk]
  simp only[outM]
  by_cases c2:(keys.length:Int)<=2 * (w.O-1)
  ·rw[y9 (by simpa using c2)]
   exact⟨_,_,rfl,fun h=>by cases h⟩
  ·rw[y8 (by simpa using c2),y9 dk]
   obtain⟨v,e1⟩:=sig (keys.getD (2 * (w.O-1)).toNat dF)
   rw[e1]
   simp only[obind]
   rw[Gb]
   exact⟨_,_,rfl,fun _=>⟨_,_,rfl⟩⟩
theorem zlg (h0:0<=n) (hn:n<=10) (hs:TapeOk s):∃ k s',F_qr n s=some (k,s')/\TapeOk s':=by
 simp only[F_qr,S_qr,Scr.den]
 obtain⟨r,e,hJ⟩:=z15 (step:=fun s=>(S_qr_b1 n s).den) (fun s:TTape×List Int×Int=>(2 * n-s.2.2).toNat)
  (fun s=>TapeOk s.1/\(s.2.1.length:Int)=s.2.2/\0<=s.2.2/\s.2.2<=2 * n) (fun s=>TapeOk s.1/\s.2.1.length<=20) (fun st hI=>by
  obtain⟨t,l,i⟩:=st
  obtain⟨i1,i2,i3,i4⟩:=hI
  simp only at i1 i2 i3 i4
  simp only[S_qr_b1,Scr.den]
  rw[wrapId (n:=2 * n) om om]
  by_cases hc:i<2 * n
  ·left
   obtain⟨v,t1,q1,q2,_⟩:=zw (n:=1000) i1 om om
   rw[y9 (show decide (i<2 * n)=true from y15 hc),q1]
   simp only[obind]
   rw[Ga,wrapId (n:=i+1) om om]
   exact⟨_,rfl,⟨q2,by simp only[ye,yd,yl]; omega,by show 0<=i+1; omega,by show i+1<=2 * n; omega⟩,by show (2 * n-(i+1)).toNat<(2 * n-i).toNat; omega⟩
  ·right
   rw[y8 (show ¬ decide (i<2 * n)=true by rw[ya]; exact hc)]
   exact⟨_,rfl,i1,by show l.length<=20; omega⟩) _ (s,([]:List Int),0) (y1o _) ⟨hs,rfl,sj,sk⟩
 rw[e]
 simp only[outM]
 rw[z8 ⟨by have:=hJ.2; omega,trivial⟩]
 exact⟨_,_,rfl,hJ.1⟩
theorem zja {x:TWa} (h:zlf x w) (hw:WPl w):WPl x/\x.D=w.D:=by
 obtain⟨a,b,rfl⟩:=h
 exact⟨hw,rfl⟩
theorem zfr {keys:List Int} (hs:TapeOk s):∃ w s',F_qb keys s=some (w,s')/\TapeOk s'/\WPl w/\w.D<=60:=by
 simp only[F_qb,S_qb,Scr.den]
 obtain⟨v1,s1,a1,b1,c1⟩:=zm (lo:=1) (hi:=60) hs om om om
 obtain⟨v2,s2,a2,b2,c2⟩:=zm (lo:=1) (hi:=3) b1 om om om
 obtain⟨v3,s3,a3,b3,c3,d3⟩:=z5r b2
 obtain⟨v4,s4,a4,b4,c4⟩:=zm (lo:=1) (hi:=5) b3 om om om
 obtain⟨v5,s5,a5,b5,c5⟩:=zm (lo:=1) (hi:=2) b4 om om om
 obtain⟨v6,s6,a6,b6,c6⟩:=zm (lo:=1) (hi:=4) b5 om om om
 obtain⟨v7,s7,a7,b7,c7⟩:=zm (lo:=1) (hi:=3) b6 om om om
 obtain⟨v8,s8,a8,b8,c8⟩:=zm (lo:=1) (hi:=500) b7 om om om
 obtain⟨v9,s9,a9,b9,c9⟩:=zm (lo:=1) (hi:=4) b8 om om om
 obtain⟨v10,s10,a10,b10,c10,d10⟩:=zw (n:=300) b9 om om
 obtain⟨v11,s11,a11,b11,c11,d11⟩:=zw (n:=400) b10 om om
 rw[a1]
 simp only[obind]
 rw[a2]
 simp only[obind]
 rw[a3]
 simp only[obind]
 rw[a4]
 simp only[obind]
 rw[a5]
 simp only[obind]
 rw[a6]
 simp only[obind]
 rw[a7]
 simp only[obind]
 rw[a8]
 simp only[obind]
 rw[a9]
 simp only[obind]
 rw[a10]
 simp only[obind]
 rw[a11]
 simp only[obind]
 rw[wrapId (n:=4320+v10) om om,wrapId (n:=4320+v11) om om]
 have hp0:WPl ⟨v1,v2,v3,12,v4,v5,v6,v7,v8,v9,4320+v10,4320+v11,0,0⟩:=by
  refine⟨⟨?_,?_,?_,?_,?_,?_⟩,?_,d3,by show (0:Int)<=12/\(12:Int)<=99; decide,?_,?_,?_⟩
  ·show 1<=v1/\v1<=_; omega
  ·show 1<=v7/\v7<=_; omega
  ·show 1<=v6/\v6<=_; omega
  ·show 1<=v4/\v4<=_; omega
  ·show 1<=v5/\v5<=_; omega
  ·show 1<=v9/\v9<=_; omega
  ·show 1<=v2/\v2<=6; omega
  ·show 1<=v8/\v8<=_; omega
  ·show 0<=4320+v10/\4320+v10<=35990; omega
  ·show 0<=4320+v11/\4320+v11<=35990; omega
 obtain⟨r,e,hJ⟩:=z15 (step:=fun s=>(S_qb_b1 keys s).den) (fun s:TWa×Int=>(2-s.2).toNat) (fun s=>WPl s.1/\s.1.D<=60/\0<=s.2/\s.2<=2) (fun s=>WPl s.1/\s.1.D<=60) (fun st hI=>by
  obtain⟨w,i⟩:=st
  obtain⟨i1,i2,i3,i4⟩:=hI
  simp only at i1 i2 i3 i4
  simp only[S_qb_b1,Scr.den]
  by_cases hc:i<2
  ·left
   obtain⟨x,er,e1,e2⟩:=zgy i1 keys (i==1)
   rw[y9 (show decide (i<2)=true from y15 hc),e1]
   simp only[obind]
   rw[wrapId (n:=i+1) om om]
   by_cases h0:er=0
   ·rw[y9 (by simpa using h0)]
    obtain⟨p1,p2⟩:=zja (e2 h0) i1
    exact⟨_,rfl,⟨p1,by rw[p2]; exact i2,by show 0<=i+1; omega,by show i+1<=2; omega⟩,by show (2-(i+1)).toNat<(2-i).toNat; omega⟩
   ·rw[y8 (by simpa using h0)]
    exact⟨_,rfl,⟨i1,i2,by show 0<=i+1; omega,by show i+1<=2; omega⟩,by show (2-(i+1)).toNat<(2-i).toNat; omega⟩
  ·right
   rw[y8 (show ¬ decide (i<2)=true by rw[ya]; exact hc)]
   exact⟨_,rfl,i1,i2⟩) _ (⟨v1,v2,v3,12,v4,v5,v6,v7,v8,v9,4320+v10,4320+v11,0,0⟩,0) (y1o _) ⟨hp0,by show v1<=60; omega,sj,sj⟩
 rw[e]
 exact⟨_,_,rfl,b11,hJ.1,hJ.2⟩
def WL (l:List TWa):Prop:=SrtW l/\(∀ w∈l,WPl w/\w.D<=60)/\∀ x∈l,∀ y∈l,sameB x y=true->x=y
theorem WL.nil:WL []:=⟨List.Pairwise.nil,fun w h=>absurd h y1n,fun x h=>absurd h y1n⟩
theorem zjb {x y:TWa} (h:sameB x y=true):sameB y x=true:=by
 unfold sameB at h |-
 simp only[yg,y1a] at h |-
 exact⟨⟨h.1.1.symm,h.1.2.symm⟩,h.2.symm⟩
theorem WL.add (h:WL l) (hn:w.D<=60) (h0:(addV l w).2=0):WL (addV l w).1/\(addV l w).1.length=l.length+1/\∀ x,x∈(addV l w).1↔x=w\/x∈l:=by
 obtain⟨h1,h2,h3⟩:=h
 unfold addV at h0 |-
 by_cases c1:WPl w
 ·rw[y8 (show ¬ ¬ WPl w from fun k=>k c1)] at h0 |-
  by_cases c2:hasN l w.D=true
  ·rw[y9 c2] at h0; cases h0
  ·rw[y8 c2] at h0 |-
   by_cases c3:(l.any fun x=>sameB x w)=true
   ·rw[y9 c3] at h0; cases h0
   ·rw[y8 c3] at h0 |-
    by_cases c4:200<=l.length
    ·rw[y9 c4] at h0; cases h0
    ·rw[y8 c4]
     have hno:∀ x∈l,sameB x w=false:=fun x hx=>by
      cases e:sameB x w with
      | false=>rfl
      | true=>exact absurd (y39.2 ⟨x,hx,e⟩) c3
     refine⟨⟨zn5 h1 c2,fun x hx=>?_,fun x hx y hy e=>?_⟩,z1c,fun x=>z7m⟩
     ·rcases z7m.1 hx with rfl | hx
      ·exact⟨c1,hn⟩
      ·exact h2 x hx
     ·rcases z7m.1 hx with ex | hx' <;> rcases z7m.1 hy with ey | hy'
      ·exact ex.trans ey.symm
      ·have:=hno y hy'; rw[<- ex,zjb e] at this; cases this
      ·have:=hno x hx'; rw[<- ey,e] at this; cases this
      ·exact h3 x hx' y hy' e
 ·rw[y9 c1] at h0; cases h0
theorem zds:F_qt l l=some true:=by
 simp only[F_qt,S_qt,Scr.den]
 rw[y8 sj]
 have ra:=zt (ρ:=Bool) (n:=l.length) (c:=false) (body:=fun i s=>(S_qt_b1 l l i s).den) (fun _=>True) (fun i hi _=>by
  simp only[S_qt_b1,Scr.den]
  rw[z8 ⟨hi,trivial⟩,y8 sj]) (fun i hi h=>absurd trivial h)
 rw[ra.1 fun _ _=>trivial]
 rfl
theorem z3a {s:Y8} {a b:List Y8}:Lib.joinTail s (a++b)=Lib.joinTail s a++Lib.joinTail s b:=by simp[Lib.joinTail]
theorem z4b {s x:Y8}:Lib.joinTail s [x]=s++x:=by simp[Lib.joinTail]
theorem z5x (h:WPl w):F_q9 w=some (bytesV w):=by
 have hl:=h.len
 have hn:smI w.D/\smI w.O:=by
  obtain⟨⟨a,_⟩,g,_⟩:=h
  unfold numP at a
  unfold smI
  omega
 have i1:=Lib.itoa_length_le w.D hn.1.1 hn.1.2
 have i2:=Lib.itoa_length_le w.O hn.2.1 hn.2.2
 simp only[F_q9,S_q9,Scr.den,z1g (show w.J.length<=1000000 from om),obind,y15 h]
 rw[y8 dk,z3m hn.1.1 hn.1.2]
 simp only[obind]
 rw[z3m hn.2.1 hn.2.2]
 simp only[obind]
 rw[z8 (by simp only[AllP,y43,ye,yd,yl]; omega)]
 have e0:(((((([119,97,114,114,97,110,116,32]:Y8)++Lib.itoa w.D)++[32])++Lib.itoa w.O)++[32])++w.J)=[119,97,114,114,97,110,116]++Lib.joinTail [32] [Lib.itoa w.D,Lib.itoa w.O,w.J]:=by simp[Lib.joinTail]
 obtain⟨s,e,h1,h2⟩:=z1t (body:=fun i s=>(S_q9_b1 w i s).den) (n:=9) (fun i s=>s.length<=1000+100 * i/\s=[119,97,114,114,97,110,116]++Lib.joinTail [32] ([Lib.itoa w.D,Lib.itoa w.O,w.J]++((zq w).take i).map Lib.itoa)) (s0:=(((((([119,97,114,114,97,110,116,32]:Y8)++Lib.itoa w.D)++[32])++Lib.itoa w.O)++[32])++w.J)) (⟨by simp only[ye,yd,yl]; omega,by rw[e0]; rfl⟩) (fun i s hi hI=>by
  have hr:smI ((zq w).getD i dF):=h.rest _ (zk (by simpa [zq] using hi))
  have hlen:=Lib.itoa_length_le _ hr.1 hr.2
  simp only[S_q9_b1,Scr.den]
  rw[show ([w.K,w.H,w.I,w.E,w.Q,w.L,w.S,w.N,w.X]:List Int)=zq w from rfl,z3m hr.1 hr.2]
  simp only[obind]
  rw[z8 (by simp only[AllP,y43,ye,yd,yl]; omega)]
  refine⟨_,rfl,by simp only[ye,yd,yl]; omega,?_⟩
  rw[z7x (by simpa [zq] using hi),hI.2,<- y1u [Lib.itoa w.D,Lib.itoa w.O,w.J],z3a (b:=[_]),z4b,y1u])
 rw[e]
 have e9:(zq w).take 9=zq w:=rfl
 rw[e9] at h2
 rw[h2]
 show some _=some (Lib.join ([119,97,114,114,97,110,116] :: ([Lib.itoa w.D,Lib.itoa w.O,w.J]++(zq w).map Lib.itoa)) [32])
 rw[Lib.join_cons]
theorem zlh [Inhabited α] {f:β->α->β} {b:β} {l:List α} (h:i<l.length):(l.take (i+1)).foldl f b=f ((l.take i).foldl f b) (l.getD i dF):=by
 rw[<- List.take_append_getElem h,List.foldl_append,z26 h]
 rfl
theorem z9x {l:Y8} (hl:l.length<=1000000):F_qi l=some (hashV l):=by
 simp only[F_qi,S_qi,Scr.den]
 obtain⟨s,e,h1⟩:=z15 (step:=fun s=>(S_qi_b1 l s).den) (fun s:Int×Int=>((l.length:Int)-s.2).toNat) (fun s=>∃ i:Nat,s.2=(i:Int)/\i<=l.length/\s.1=(l.take i).foldl hstep 14695981039346656037) (fun s=>s.1=hashV l) (fun s hI=>by
  obtain⟨x,y⟩:=s
  obtain⟨i,hi0,hil,hx⟩:=hI
  simp only at hi0 hx
  subst hi0
  simp only[S_qi_b1,Scr.den,yh]
  by_cases hi:i<l.length
  ·left
   rw[y9 (by simpa using hi),z8 ⟨om,hi,trivial⟩,wrapId (n:=(i:Int)+1) om om]
   refine⟨_,rfl,⟨i+1,rfl,om,?_⟩,by show ((l.length:Int)-((i:Int)+1)).toNat<((l.length:Int)-i).toNat; omega⟩
   rw[zlh hi,<- hx]
   rfl
  ·right
   rw[y8 (by simpa using hi)]
   refine⟨_,rfl,?_⟩
   show x=hashV l
   rw[hx,y2f om]
   rfl) _ (14695981039346656037,0) (y1o _) ⟨0,rfl,om,rfl⟩
 rw[e]
 simp only[outM]
 rw[h1]
theorem z2h (h:WPl w) (key:Int):F_qa key w=some (sigV key w):=by
 have hb:=z3n h
 simp only[F_qa,S_qa,Scr.den]
 obtain⟨s,e,h1,h2⟩:=z15 (step:=fun s=>(S_qa_b1 key s).den) (fun s:List Int×Int=>(s.2+8).toNat) (fun s=>(s.1.length:Int) * 8+s.2=56/\-8<=s.2/\∀ j,j<s.1.length->s.1.getD j dF=kb key j) (fun s=>s.1.length=8/\∀ j,j<8->s.1.getD j dF=kb key j) (fun s hI=>by
  obtain⟨l,y⟩:=s
  obtain⟨k1,k2,k3⟩:=hI
  simp only at k1 k2 k3
  simp only[S_qa_b1,Scr.den]
  by_cases hy:0<=y
  ·left
   rw[y9 (by simpa using hy),z8 ⟨hy,om,trivial⟩,wrapId (n:=y-8) om om]
   refine⟨_,rfl,⟨by simp only[ye,yd,yl]; omega,by show -8<=y-8; omega,fun j hj=>?_⟩,by show (y-8+8).toNat<(y+8).toNat; omega⟩
   simp only[ye,yd,yl] at hj
   by_cases c:j<l.length
   ·rw[<- k3 j c]
    simp[List.getD,List.getElem?_append_left c]
   ·obtain rfl:j=l.length:=om
    unfold kb
    rw[wrapId (n:=8 * (l.length:Int)) om om,show 56-8 * (l.length:Int)=y from om,wrapId (n:=y) om om]
    simp[List.getD]
  ·right
   rw[y8 (by simpa using hy)]
   have hl8:l.length=8:=om
   exact⟨_,rfl,hl8,fun j hj=>k3 j om⟩) _ (([]:List Int),56) (y1o _) ⟨sj,sj,fun j hj=>absurd hj sj⟩
 rw[e]
 simp only[outM]
 rw[Ga,z5x h]
 simp only[obind]
 have e2:((List.range s.1.length).map fun j=>UInt8.ofNat ((s.1.getD j dF)).toNat)=keyB key:=by
  rw[h1]
  exact y3s fun j hj=>by rw[h2 j (y27.1 hj)]
 rw[e2,z9x (by simp only[ye,keyB,y1x,y2r]; omega)]
 simp only[obind]
 rw[z8 ⟨by simp only[keyB,y1x,y2r]; omega,trivial⟩]
 rfl
theorem z9y (hc:w.J.length<=1000000) (keys:List Int) (b:Bool):F_q1l keys w b=some (signV keys w b):=by
 simp only[F_q1l,S_q1l,Scr.den,z1g hc,obind]
 unfold signV
 by_cases h:WPl w
 ·have ho:=h.2.1
  rw[y15 h,y8 dk,y8 (show ¬ ¬ WPl w from fun k=>k h),wrapId (n:=w.O-1) om om,wrapId (n:=2 * (w.O-1)) om om,wrapId (n:=2 * (w.O-1)+1) om om]
  cases b with
  | true =>
   rw[y9 rfl,y8 (show ¬ (true=false/\_) from fun k=>by cases k.1)]
   simp only[outM]
   by_cases c2:(keys.length:Int)<=2 * (w.O-1)+1
   ·rw[y9 (by simpa using c2),y9 c2]
    rfl
   ·rw[y8 (by simpa using c2),y8 c2,y8 dk,wrapId (n:=2 * (w.O-1)+1-1) om om,show 2 * (w.O-1)+1-1=2 * (w.O-1) from om,z2h h]
    simp only[obind]
    rw[Gb]
    by_cases c3:w.V=sigV (keys.getD (2 * (w.O-1)).toNat dF) w
    ·rw[y8 (show ¬ (sigV (keys.getD (2 * (w.O-1)).toNat dF) w != w.V)=true by rw[<- c3]; simp),y8 (show ¬ w.V≠_ from fun k=>k c3),z2h h]
     simp only[obind]
     rw[Gb]
     rfl
    ·rw[y9 (by simpa using fun k=>c3 k.symm),y9 c3]
     rfl
  | false =>
   rw[y8 dk]
   simp only[outM]
   by_cases c2:(keys.length:Int)<=2 * (w.O-1)
   ·rw[y9 (by simpa using c2),y8 om,y9 om]
    rfl
   ·rw[y8 (by simpa using c2),y9 dk,y9 (show True/\2 * (w.O-1)<(keys.length:Int) from ⟨trivial,om⟩),z2h h]
    simp only[obind]
    rw[Gb]
    rfl
 ·rw[y10 h,y9 dk,y9 h]
  rfl
theorem zgz (h:WPl w) (x:Int):WPl (z1x w x):=h
theorem zh0 (h:WPl w) (x:Int):WPl (z27 w x):=h
end Go.Proofs.YtiohhffifhaboaaGreatDoor
