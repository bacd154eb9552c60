/- A part of the proof: plain laws of what the functions compute. No condition. -/
import Derived.Test.YtdmddkbngmhepaaGreatDoorP5
namespace Go.Proofs.YtdmddkbngmhepaaGreatDoor
open Go Go.TA
def CR (w x:TWo):Prop:=VW x/\x.F=w.F/\x.J.length=w.J.length/\Bd 22 x
variable {w x:TWo}
theorem zsk (h:CR w x) {k:Nat} (hk:k<w.J.length):CR w ⟨x.F,x.J.set k (crashJ (jAt x k)),x.V⟩:=by
 obtain⟨h1,h2,h3,h4⟩:=h
 have hk2:k<x.J.length:=om
 refine⟨z4h h1 (zon hk2 (p:=⟨0,[],0,0,0,0,0,0,0,0⟩)),h2,by rw[<- h3]; exact yb,h4.1,fun i hi=>?_⟩
 have hi:i<x.J.length:=by rw[yb] at hi; exact hi
 have hb:=h4.2 i hi
 show ((x.J.set k (crashJ (jAt x k))).getD i default).Ab.length<=22
 rw[z3o hi]
 split
 ·rename_i e
  subst e
  show ((jAt x i).Ab.take _).length<=22
  rw[y1g]; omega
 ·exact hb
variable {t:TTape}
theorem zlq (h:VW w) (hb:Bd 22 w) {n:Int} (hn:(w.J.length:Int)=n):∃ x k,iterM (fun s=>(S_qo_b1 (n,t) s).den) ((w,1):TWo×Int)=some (.next (x,k))/\CR w x:=by
 have hl:=h.len
 obtain⟨s,e,hs⟩:=z2f (step:=fun s=>(S_qo_b1 (n,t) s).den) (fun s=>w.J.length+1-s.2.toNat) (fun s=>CR w s.1/\∃ k:Nat,s.2=(k:Int)+1/\k<=w.J.length) (fun s=>CR w s.1) (fun s hI=>by
  obtain⟨x,m⟩:=s
  obtain⟨i1,k,i2,i3⟩:=hI
  simp only at i1 i2 i3
  subst i2
  simp only[S_qo_b1,Scr.den]
  by_cases c:k<w.J.length
  ·have hk2:k<x.J.length:=by rw[i1.2.2.1]; exact c
   rw[y6 (by simp only[y7]; omega),zk6 i1.1 ⟨y1f _,y1f _⟩,zon hk2]
   simp only[obind]
   rw[y5 dk,wrapId om om]
   refine .inl ⟨_,rfl,⟨zsk i1 c,k+1,by show (k:Int)+1+1=_; omega,om⟩,?_⟩
   show w.J.length+1-((k:Int)+1+1).toNat<w.J.length+1-((k:Int)+1).toNat
   omega
  ·rw[y5 (by simp only[y7]; omega)]
   exact .inr ⟨_,rfl,i1⟩) (w.J.length+2) (w,1) (by show w.J.length+1-(1:Int).toNat<_; omega) ⟨⟨h,rfl,rfl,hb⟩,0,rfl,y1f _⟩
 obtain⟨x,k⟩:=s
 exact⟨x,k,e,hs⟩
variable {v:TWo}
theorem zos (h:SameB x v) (c:List UInt8) (y:Int):usedW v c y=usedW x c y:=by
 unfold usedW
 rw[h.1]
 refine zic fun q hq=>?_
 unfold usedK
 rw[h.2 q hq]
theorem zqg {w1:TWo} (hw:VW w) (hx:CR w x) (hc:CI w1 v w1.J.length) (sb:SameB x w1) (sp:SameP x w1) {m e:Int} {i:Nat} (hi:i<w.F.C.length):(S_qo_b2 (w,t) (x,m) (v,e) i ()).den=some (.cont ()):=by
 obtain⟨p,ep⟩:∃ p,p=w.F.C.getD i default:=⟨_,rfl⟩
 have hm:p∈w.F.C:=by rw[ep]; exact zb hi
 obtain⟨f1,f2,f3,f4⟩:=z45 hw hm
 have hs1:=z6z hw f1.1
 have hpx:J13.hasP x.F.C p.D p.E=true:=by rw[hx.2.1]; exact f1.1
 have hs2:=z6z hx.1 hpx
 have hs3:=z6z hc.vw (hc.pots _ _ (sp _ _ hpx))
 rw[hx.2.1] at hs2
 simp only[S_qo_b2,Scr.den]
 rw[<- ep,hs1]
 simp only[obind]
 rw[hs2]
 simp only[obind]
 rw[hs3]
 simp only[obind]
 rw[zos (sb.trans hc.same),y5 sj]
theorem zou (a:List Int):F_qo a=some true:=by
 obtain⟨s0,e0,t0⟩:=z9i a
 obtain⟨n,s1,e1,t1,hn⟩:=z1s (lo:=1) (hi:=3) t0 om om om
 obtain⟨w,s2,e2,t2,hw,hwn,hb⟩:=zi9 (n:=n) (m:=22) om om t1
 have hb0:Bd 22 w:=hb
 obtain⟨x,m,ex,hx⟩:=zlq hw hb0 hwn (t:=s1)
 have hml:=hx.2.2.2.1.1
 obtain⟨w1,v,⟨k1,k2,k3,_,k5⟩,ec,hc⟩:=zey hx.1 hx.2.2.2 fun w1 h _=>⟨by have:=h.1; omega,fun k hk=>by have:=h.1; have:=h.2 k hk; omega⟩
 have hpl:=hw.1.2.1
 simp only[F_qo,S_qo,Scr.den,e0,e1,obind]
 rw[e2]
 simp only[obind]
 rw[ex]
 simp only[zl]
 rw[ec]
 simp only[obind,zd]
 rw[hx.2.1,hw.same,zi (gs:=[_=false]) ⟨dk,trivial⟩]
 simp only[obind]
 rw[z4g hc.vw,zi (gs:=[_=false]) ⟨dk,trivial⟩]
 simp only[obind]
 rw[z4g hx.1,zi (gs:=[_=false]) ⟨dk,trivial⟩]
 simp only[obind]
 rw[y5 dk]
 obtain⟨u,eu,_⟩:=zp (body:=fun i s=>(S_qo_b2 (w,s2) (x,m) (v,0) i s).den) (n:=w.F.C.length) (fun _ _=>True) (s0:=()) trivial (fun i u hi _=>⟨(),zqg hw hx hc k2 k3 hi,trivial⟩)
 rw[eu]
 simp only[zl]
 rw[zcu]
 rfl
end Go.Proofs.YtdmddkbngmhepaaGreatDoor
