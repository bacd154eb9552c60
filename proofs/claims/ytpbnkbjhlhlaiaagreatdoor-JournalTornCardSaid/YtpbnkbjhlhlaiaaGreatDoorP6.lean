/- A part of the proof: plain laws of what the functions compute. No condition. -/
import Derived.Test.YtpbnkbjhlhlaiaaGreatDoorP5
namespace Go.Proofs.YtpbnkbjhlhlaiaaGreatDoor
open Go Go.TA
open Go.IntKind (i64)
theorem z9b {c:UInt8} {l:Y8} (h:c ∉ l):l.count c=0:=List.count_eq_zero.2 h
theorem zby:∀ l:List TOp,(linesS l).count 10=l.length
 | []=>rfl
 | p :: l=>by
  have e:linesS (p :: l)=(textS p++[10])++linesS l:=by simp[linesS]
  rw[e,y3c,y3c,z9b (z99 p),zby l,yf]
  simp
  omega
theorem zfc:∀ (l:List TOp) (m:Nat),∃ (i:Nat) (part:Y8),i<=l.length/\(linesS l).take m=linesS (l.take i)++part/\(10:UInt8) ∉ part/\part.length<=400
 | [],m=>⟨0,[],yd _,by simp[linesS],sj,sj⟩
 | p :: l,m=>by
  have e:linesS (p :: l)=(textS p++[10])++linesS l:=by simp[linesS]
  have hl:=z7l p
  by_cases h:m<=(textS p).length
  ·refine⟨0,(textS p).take m,y38 _,?_,fun k=>z99 p (y2q k),by rw[y16]; omega⟩
   rw[e,y1v,y2x h]
   simp[linesS]
  ·obtain⟨i,part,h1,h2,h3,h4⟩:=zfc l (m-((textS p).length+1))
   refine⟨i+1,part,by rw[yf]; omega,?_,h3,h4⟩
   have e2:linesS ((p :: l).take (i+1))=(textS p++[10])++linesS (l.take i):=by simp[linesS]
   have e3:(textS p++[10]).length=(textS p).length+1:=sj
   rw[e2,e,y4r,y1d om,e3,h2]
   simp
theorem z9c {a1:Int} {b:Y8} {k:Nat} (hk:i64.wrap (9+((i64.wrap a1).tmod (i64.wrap ((b.length:Int)-8))))=(k:Int)) (hkb:k<=b.length) (hb:b.length<=100000):∀ (n i:Nat) (c:Int),i+n=k->c=((b.take i).count 10:Nat)-1 ->
  iterM (fun s=>(S_qh_b1 a1 b s).den) (c,(i:Int))=some (.next ((((b.take k).count 10:Nat):Int)-1,(k:Int)))
 | 0,i,c,h,hc=>by
  have e:i=k:=om
  subst e
  subst hc
  exact itB (by
   simp only[S_qh_b1,Scr.den]
   rw[hk,y6 sj])
 | n+1,i,c,h,hc=>by
  have hi:i<b.length:=om
  have ew:i64.wrap ((i:Int)+1)=((i+1:Nat):Int):=wrapId om om
  have hcl:(b.take i).count 10<=i:=y1w List.count_le_length (by rw[y16]; omega)
  have et:b.take (i+1)=b.take i++[b.getD i 0]:=by
   rw[y2i,ya hi,y9,ya hi]
   rfl
  by_cases h10:b.getD i 0=10
  ·have h1:(S_qh_b1 a1 b (c,(i:Int))).den=some (.cont (c+1,((i+1:Nat):Int))):=by
    simp only[S_qh_b1,Scr.den]
    rw[hk,y7 sk,z6 ⟨om,om,trivial⟩,yi,y7 ((z4x (c:=10) (z:=10) rfl).2 h10),ew,wrapId (n:=c+1) om om]
   refine itC h1 (z9c hk hkb hb n (i+1) (c+1) om ?_)
   rw[et,y3c,h10,hc]
   simp
  ·have h1:(S_qh_b1 a1 b (c,(i:Int))).den=some (.cont (c,((i+1:Nat):Int))):=by
    simp only[S_qh_b1,Scr.den]
    rw[hk,y7 sk,z6 ⟨om,om,trivial⟩,yi,y6 (fun z=>h10 ((z4x (c:=10) (z:=10) rfl).1 z)),ew]
   refine itC h1 (z9c hk hkb hb n (i+1) c om ?_)
   rw[et,y3c,hc,z9b (c:=10) (l:=[b.getD i 0]) (by simp only[y22]; exact fun z=>h10 z.symm)]
   simp
theorem zsv {n:Int} (h:(Lit.int .u16 n).wf=true):0<=n/\n<65536:=by
 simp only[Lit.wf,yk,y8] at h
 exact⟨h.1,Int.lt_of_le_of_lt h.2 dk⟩
theorem zps (t:List Int) (a1:Int) (ha:0<=a1/\a1<65536):F_qh t a1=some true:=by
 obtain⟨s0,e0,q0⟩:=z73 t
 obtain⟨n,s1,e1,q1,n1,n2⟩:=z1l (lo:=1) (hi:=3) q0 om om om
 obtain⟨j,s2,e2,q2,hV,hn,hl⟩:=z3n (n:=n) (m:=12) ⟨n1,om⟩ om q1
 have hf:=z96 hV
 have hsr:=hf.shr
 have e3:F_q1z j=some (flushJ j):=by rw[z94 hV.shr,z30 hV]
 obtain⟨b,hb⟩:∃ b,b=bytesS (flushJ j):=⟨_,rfl⟩
 have hbb:b=(firstL j.U++[10])++linesS j.D:=by
  rw[hb,z42 hf]
  show (firstL j.U++[10])++linesS (j.D.take ((j.D.length:Int)).toNat)=_
  rw[yi,y1d (yd _)]
 have h9:(firstL j.U++[10]).length=9:=by rw[yn,z6n hV.1]; rfl
 have hll:=z41 j.D
 have hbl:b.length=9+(linesS j.D).length:=by rw[hbb,yn,h9]
 have hb1:b.length<=100000:=om
 simp only[F_qh,S_qh,Scr.den,e0,e1,e2,e3,z98 hsr,<- hb,obind]
 rw[y6 sk]
 have w1:i64.wrap ((b.length:Int)-8)=(b.length:Int)-8:=wrapId om om
 have w2:i64.wrap a1=a1:=wrapId om om
 have hm:a1.tmod ((b.length:Int)-8)=a1 % ((b.length:Int)-8):=Int.tmod_eq_emod_of_nonneg ha.1
 have m0:=Int.emod_nonneg a1 (show ((b.length:Int)-8)≠0 from om)
 have m1:=Int.emod_lt_of_pos a1 (show 0<((b.length:Int)-8) from om)
 obtain⟨k,hk⟩:∃ k:Nat,i64.wrap (9+((i64.wrap a1).tmod (i64.wrap ((b.length:Int)-8))))=(k:Int):=by
  rw[w1,w2,hm,wrapId om om]
  exact⟨(9+a1 % ((b.length:Int)-8)).toNat,om⟩
 have hk9:9<=k/\k<=b.length:=by
  have h:=hk
  rw[w1,w2,hm,wrapId om om] at h
  omega
 have hit:=z9c hk hk9.2 hb1 k 0 (-1) om sj
 have hit:iterM (fun s=>(S_qh_b1 a1 b s).den) ((-1:Int),(0:Int))=some (.next ((((b.take k).count 10:Nat):Int)-1,(k:Int))):=hit
 rw[z6 ⟨by rw[w1]; omega,trivial⟩,hit]
 simp only[zh,hk,yi]
 obtain⟨i,part,p1,p2,p3,p4⟩:=zfc j.D (k-9)
 have hbk:b.take k=(firstL j.U++[10])++linesS (j.D.take i)++part:=by
  rw[hbb,y4r,y1d om,h9,p2]
  simp
 have hcnt:(b.take k).count 10=i+1:=by
  rw[hbk,y3c,y3c,y3c,z9b (zbw (by have:=hV.1; omega)),zby,z9b p3,y16]
  simp
  omega
 have hkl:(b.take k).length=k:=by rw[y16]; omega
 have hsp:splitU 10 (b.take k)=(firstL j.U :: (j.D.take i).map textS)++[part]:=by rw[hbk]; exact z9a (by have:=hV.1; omega) p3
 have hil:(j.D.take i).length=i:=by rw[y16]; omega
 have eL:=zb5 (t:=b.take k) om hsp
 rw[zak hV.1 om (z3l hV.2.2.2 i),hil] at eL
 obtain⟨out,last,r1,_,_,_,r5⟩:=ze8 (t:=b.take k) om
 rw[hsp] at r1
 obtain⟨_,r6⟩:=List.append_inj' r1 rfl
 injection r6 with r6
 rw[<- r6,hkl] at r5
 have hbg:(b.take k).getD (k-1) 0=b.getD (k-1) 0:=by
  rw[y9,y3w,y7 om,y9]
 rw[hbg] at r5
 have hne:b.take k≠[]:=fun z=>by rw[z] at hkl; simp at hkl; omega
 have w3:i64.wrap ((k:Int)-1)=((k-1:Nat):Int):=by rw[wrapId om om]; omega
 rw[eL]
 simp only[obind,w3,yi]
 rw[z6 ⟨om,hk9.2,trivial⟩,z6 ⟨fun _=>om,fun _=>om,trivial⟩,hcnt,hil]
 have ht:(!decide (part=[]))=(((b.getD (k-1) 0).toNat:Int) != 10):=by
  by_cases z:part=[]
  ·have:b.getD (k-1) 0=10:=y3z.1 fun y=>(r5.2 ⟨hne,y⟩) z
   rw[y1z z,this]
   rfl
  ·have y:=(r5.1 z).2
   rw[yx z]
   have:(((b.getD (k-1) 0).toNat:Int)==10)=false:=y36.2 fun x=>y ((z4x (c:=10) (z:=10) rfl).1 x)
   simp only[bne,this]
 have ei:((i+1:Nat):Int)-1=(i:Int):=om
 rw[ht,ei,y6 sj]
 obtain⟨u,e,_⟩:=z25 (body:=fun i' s=>(S_qh_b2 (flushJ j) (⟨j.U,j.D.take i,(i:Int)⟩,((((b.getD (k-1) 0).toNat:Int)) != 10),0) i' s).den) (n:=i) (fun _ _=>True) (s0:=()) trivial (fun m u hm _=>by
  have hmj:m<j.D.length:=om
  have eg:(j.D.take i).getD m dF=j.D.getD m dF:=by
   rw[y9,y3w,y7 hm,y9]
  have hnd:decide ((m:Int)>=(j.D.length:Int))=false:=yx om
  simp only[S_qh_b2,Scr.den]
  show ∃ s',guardP (AllP [AllP [decide ((m:Int)>=(j.D.length:Int))=false]->m<j.D.length]) _=_/\_
  rw[z6 ⟨fun _=>hmj,trivial⟩]
  refine⟨(),y6 ?_,trivial⟩
  rw[zb]
  show ¬ ((decide ((m:Int)>=(j.D.length:Int))||_)=true)
  rw[hnd,y4q,yc,Bool.not_eq_false]
  refine (z3k ((j.D.take i).getD m dF) (j.D.getD m dF)).2 eg)
 rw[e]
 simp only[zh,z32,obind]
end Go.Proofs.YtpbnkbjhlhlaiaaGreatDoor
