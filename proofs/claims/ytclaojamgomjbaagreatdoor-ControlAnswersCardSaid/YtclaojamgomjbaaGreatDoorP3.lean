/- A part of the proof: plain laws of what the functions compute. No condition. -/
import Derived.Test.YtclaojamgomjbaaGreatDoorP2
import Derived.Test.YtclaojamgomjbaaGreatDoorT8
namespace Go.Proofs.YtclaojamgomjbaaGreatDoor
open Go Go.TA
theorem zgp {keys:List Int} {w:TWa} (h:WPl w):signV keys w true=(if (keys.length:Int)≤2 * (w.Office-1)+1 then (zW,6) else if w.First≠sigV (keys.getD (2 * (w.Office-1)).toNat default) w then (zW,18) else (z4f w (sigV (keys.getD (2 * (w.Office-1)+1).toNat default) w),0)):=by
 unfold signV
 rw[if_neg (fun k=>k h),if_neg (by simp)]
theorem zfn {w:TWa} (hc:w.Code.length≤1000000) (keys:List Int):F_q39 keys w=some (checkV keys w):=by
 simp only[F_q39,S_q39,Scr.den,z1z hc,obind,zl]
 by_cases h:WPl w
 ·have ho:=h.2.1
  rw[decide_eq_true h,if_neg (by decide),wrapId (n:=w.Office-1) (by omega) (by omega),wrapId (n:=2 * (w.Office-1)) (by omega) (by omega),wrapId (n:=2 * (w.Office-1)+1) (by omega) (by omega),z2d h]
  unfold checkV
  rw[zgp h]
  by_cases hk:(keys.length:Int)≤2 * (w.Office-1)+1
  ·rw[if_pos (by simp only[decide_eq_true_eq]; omega),if_pos hk,if_neg (by simp)]
  ·rw[if_neg (by simp only[decide_eq_true_eq]; omega),if_neg hk]
   simp only[obind]
   generalize sigV (keys.getD (2 * (w.Office-1)).toNat default) w=s1
   by_cases h1:s1=w.First
   ·rw[z1e (by simp[AllP,h1]),z2d h]
    generalize sigV (keys.getD (2 * (w.Office-1)+1).toNat default) w=s2
    simp only[obind]
    rw[za ⟨by omega,by omega,fun _=>by omega,fun _=>by omega,trivial⟩,if_neg (show ¬ w.First≠s1 from fun k=>k h1.symm)]
    by_cases h2:s2=w.Second
    ·rw[if_neg (by simp[h1,h2]),if_neg (fun k=>k.2 h2)]
    ·rw[if_pos (by simp[h2]),if_pos ⟨rfl,h2⟩]
   ·rw[z57 (by simp[AllP,h1])]
    simp only[obind]
    have hb:(s1 != w.First)=true:=by simpa using h1
    rw[za ⟨by omega,by omega,fun k=>absurd k.1 (by rw[hb]; decide),fun k=>absurd k.1 (by rw[hb]; decide),trivial⟩,if_pos (by rw[hb]; rfl),if_pos (show w.First≠s1 from fun k=>h1 k.symm),if_neg (by simp)]
 ·rw[decide_eq_false h,if_pos (by decide)]
  unfold checkV signV
  rw[if_pos h,if_neg (by simp)]
theorem zfo (w:TWa) (paid:List TWa):F_qp w paid=some (twiceV w paid):=by
 simp only[F_qp,S_qp,Scr.den]
 unfold twiceV
 rw[z1o paid (fun x=>x.Number==w.Number) (fun _=>(7:Int)) (fun i hi=>by
  simp only[S_qp_b1,Scr.den]
  split <;> rfl)]
 by_cases c1:paid.any (fun x=>x.Number==w.Number)=true
 ·rw[if_pos c1,if_pos c1]
  rfl
 ·rw[if_neg c1,if_neg c1]
  simp only[z29]
  rw[z1o paid (fun x=>x.Office==w.Office&&x.Verification==w.Verification) (fun _=>(20:Int)) (fun i hi=>by
   simp only[S_qp_b2,Scr.den,zh]
   split <;> rfl)]
  by_cases c2:paid.any (fun x=>x.Office==w.Office&&x.Verification==w.Verification)=true
  ·rw[if_pos c2,if_pos c2]
   rfl
  ·rw[if_neg c2,if_neg c2]
   rfl
open Classical in
noncomputable def basisR (o:TOf) (w:TWa):TOr×Int:=if (basisG o w).2=0 then (oW o w,0) else (zO,(basisG o w).2)
theorem z7k {o:TOf} (hs:SmO o) (w:TWa):F_qd w o=some (basisR o w):=by
 unfold basisR basisG
 by_cases hv:VO o
 ·rw[if_pos hv]
  simp only[F_qd,S_qd,Scr.den,z3c hv,obind]
  rw[if_neg (by decide)]
  unfold basisV
  by_cases hn:o.Number=w.Office
  ·rw[if_neg (show ¬ (o.Number != w.Office)=true by simp[hn])]
   have key:rangeM (fun i s=>(S_qd_b1 w o i s).den) o.Book.Orders.length 0 ()=some (if o.Book.Orders.any (pB w)=true then .ret (if (vW o w).Commitment≠w.Commitment∨(cW o w).Reservation≠w.Reservation then (zO,17) else (o.Book.Orders.getD (o.Book.Orders.findIdx (pB w)) default,0)) else .next ()):=by
    rw[z1o o.Book.Orders (pB w) (fun i=>if (vW o w).Commitment≠w.Commitment∨(cW o w).Reservation≠w.Reservation then (zO,17) else (o.Book.Orders.getD i default,(0:Int)))]
    intro i hi
    simp only[S_qd_b1,Scr.den,zl]
    by_cases hp:pB w (o.Book.Orders.getD i default)=true
    ·have hq:=zb6.1 hp
     have ha:o.Book.Orders.any (pB w)=true:=List.any_eq_true.2 ⟨_,zm hi,hp⟩
     obtain⟨v0,v2,c2,c1,r1⟩:=z5o hv ha
     obtain⟨_,_,_,_,_,_,l1,l2,l3,l4⟩:=hv.val
     rw[if_neg (by rw[hq.1,hq.2.1,hq.2.2]; simp),if_pos hp,hq.1]
     have w1:IntKind.i64.wrap (w.Verification-1)=w.Verification-1:=wrapId (by omega) (by omega)
     rw[w1,za ⟨by omega,by omega,trivial⟩]
     have w2:IntKind.i64.wrap ((o.Book.Verifications.getD (w.Verification-1).toNat default).Commitment-1)=(vW o w).Commitment-1:=wrapId (by show _≤(vW o w).Commitment-1; omega) (by show (vW o w).Commitment-1<_; omega)
     rw[w2,za ⟨fun _=>by omega,fun _=>by omega,trivial⟩]
     have e1:(o.Book.Verifications.getD (w.Verification-1).toNat default).Commitment=(vW o w).Commitment:=rfl
     have e2:(o.Book.Commitments.getD ((vW o w).Commitment-1).toNat default).Reservation=(cW o w).Reservation:=rfl
     rw[e1,e2]
     by_cases c:(vW o w).Commitment≠w.Commitment∨(cW o w).Reservation≠w.Reservation
     ·rw[if_pos (by simpa using c),if_pos c]
      rfl
     ·rw[if_neg (by simpa using c),if_neg c]
    ·rw[if_pos (by
      have:pB w (o.Book.Orders.getD i default)=false:=by simpa using hp
      unfold pB at this
      revert this
      generalize (o.Book.Orders.getD i default).Verification=a
      generalize (o.Book.Orders.getD i default).Attempt=b
      generalize (o.Book.Orders.getD i default).Back=c
      intro this
      by_cases k1:a=w.Verification <;> by_cases k2:b=w.Attempt <;> cases c <;> simp_all),if_neg hp]
   rw[key]
   by_cases ha:o.Book.Orders.any (pB w)=true
   ·obtain⟨v0,v2,c2,c1,r1⟩:=z5o hv ha
    rw[if_pos ha,if_neg (show ¬ (o.Number≠w.Office∨o.Book.Orders.any (pB w)=false) from fun k=>k.elim (fun q=>q hn) (fun q=>by rw[ha] at q; cases q)),c1,r1]
    by_cases c:(vW o w).Commitment≠w.Commitment∨(cW o w).Reservation≠w.Reservation
    ·rw[if_pos c,if_pos c,if_neg (by simp)]
     rfl
    ·rw[if_neg c,if_neg c,if_pos rfl]
     rfl
   ·have ha':o.Book.Orders.any (pB w)=false:=by simpa using ha
    rw[if_neg ha,if_pos (show o.Number≠w.Office∨o.Book.Orders.any (pB w)=false from .inr ha'),if_neg (by simp)]
    rfl
  ·rw[if_pos (show (o.Number != w.Office)=true by simpa using hn),if_pos (show o.Number≠w.Office∨o.Book.Orders.any (pB w)=false from .inl hn),if_neg (by simp)]
   rfl
 ·rw[if_neg hv,if_neg (by simp)]
  simp only[F_qd,S_qd,Scr.den,zb7 hs hv,obind]
  rw[if_pos (by decide)]
  rfl
theorem zgq {o:TOf} {w:TWa} (h:(basisG o w).2=0):VO o∧basisG o w=basisV o w∧(basisV o w).2=0:=by
 unfold basisG at h ⊢
 by_cases hv:VO o
 ·rw[if_pos hv] at h ⊢
  exact⟨hv,rfl,h⟩
 ·rw[if_neg hv] at h
  cases h
theorem ziy {o:TOf} {w:TWa} (hb:(basisV o w).2=0):o.Book.Orders.any (pB w)=true:=by
 unfold basisV at hb
 by_cases c1:o.Number≠w.Office∨o.Book.Orders.any (pB w)=false
 ·rw[if_pos c1] at hb; cases hb
 ·cases hh:o.Book.Orders.any (pB w) with
  | true=>rfl
  | false=>exact absurd (.inr hh) c1
theorem zba {o:TOf} (hs:SmO o) (w:TWa):F_q27 w o=some (amountG o w):=by
 by_cases h:(basisG o w).2=0
 ·obtain⟨hv,_,h2⟩:=zgq h
  rw[zc3 hv h2 (ziy h2)]
  unfold amountG
  rw[if_pos hv]
 ·simp only[F_q27,S_q27,Scr.den,z7k hs,obind]
  unfold basisR
  rw[if_neg h,if_pos (show ((basisG o w).2 != 0)=true by simpa using h)]
  unfold amountG
  by_cases hv:VO o
  ·have h2:¬ (basisV o w).2=0:=by
    unfold basisG at h
    rwa [if_pos hv] at h
   rw[if_pos hv]
   unfold amountV
   rw[if_pos h2]
  ·rw[if_neg hv]
theorem zdk {w:TWa} (o:TOf) (p:TPo) (h1:1≤w.Office) (h3:w.Office≤6):F_q3a w o p=some (fundsG o w p):=by
 simp only[F_q3a,S_q3a,Scr.den,zl,z4e,obind]
 rw[wrapId (n:=w.Office-1) (by omega) (by omega)]
 unfold fundsG
 by_cases c:p.Code≠w.Code∨p.Year≠w.Year∨w.Office>(p.Granted.length:Int)∨w.Office>(p.Heard.length:Int)
 ·rw[if_pos (by
   simp only[Bool.or_eq_true,decide_eq_true_eq,bne_iff_ne,Bool.not_eq_true',beq_eq_false_iff_ne]
   rcases c with c | c | c | c
   ·exact .inl (.inl (.inl c))
   ·exact .inl (.inl (.inr c))
   ·exact .inl (.inr c)
   ·exact .inr c),if_pos c]
 ·have c':=c
  simp only[not_or,ne_eq,Classical.not_not] at c'
  obtain⟨c1,c2,c3,c4⟩:=c'
  rw[if_neg (by
   simp only[Bool.or_eq_true,decide_eq_true_eq,bne_iff_ne,Bool.not_eq_true',beq_eq_false_iff_ne,not_or,ne_eq,Classical.not_not]
   exact⟨⟨⟨c1,c2⟩,c3⟩,c4⟩),if_neg c,za ⟨by omega,by omega,by omega,trivial⟩]
  by_cases c:usedV o.Book w.Code w.Year>IntKind.i64.wrap (p.Granted.getD (w.Office-1).toNat default-p.Heard.getD (w.Office-1).toNat default)
  ·rw[if_pos (by simpa using c),if_pos c]
  ·rw[if_neg (by simpa using c),if_neg c]
theorem z67 {keys:List Int} {w:TWa} {o:TOf} (paid:List TWa) (p:TPo) (d:Int) (hs:SmO o) (hc:w.Code.length≤1000000) :
  F_q8 keys w o paid p d=some (controlG keys w o paid p d):=by
 unfold controlG
 by_cases hw:WPl w
 ·rw[if_pos hw]
  have hy:=hw.2.2.2.1
  have hd:dayP w.Due:=hw.2.2.2.2.2.2
  simp only[F_q8,S_q8,Scr.den,z1z hc,z7k hs,zba hs,z8m,z1w,zis hd.1 hd.2,zfn hc,zfo,zdk o p hw.2.1.1 hw.2.1.2,obind,zl]
  rw[decide_eq_true hw,if_neg (by decide),wrapId (n:=w.Year+1) (by omega) (by omega)]
  have hyy:∀ k:Int→Option R_q8,(optD [((!decide (0≤d∧d≤36000))||decide (d<w.Day))=false] (some (yr d)) default).bind (fun r=>outM (if ((!decide (0≤d∧d≤36000))||decide (d<w.Day)||decide (r>w.Year+1))=true then some (Out.next (16:Int)) else some (Out.next 0)) k some)=k (yearV w d):=fun k=>by
   unfold yearV
   by_cases c:(0≤d∧d≤36000)∧w.Day≤d
   ·rw[z1e (by simp[AllP,c.1]; omega)]
    simp only[obind]
    have e:yr d=d / 360:=by unfold yr; rw[if_pos c.1]
    rw[e]
    by_cases c2:d / 360≤w.Year+1
    ·rw[if_neg (by simp[c.1]; omega),if_pos ⟨c.1,c.2,c2⟩]; rfl
    ·rw[if_pos (by simp only[Bool.or_eq_true,decide_eq_true_eq]; exact .inr (Int.not_le.1 c2)),if_neg (fun h=>c2 h.2.2)]; rfl
   ·have hb:((!decide (0≤d∧d≤36000))||decide (d<w.Day))=true:=by
     rw[Bool.or_eq_true,Bool.not_eq_true',decide_eq_false_iff_not,decide_eq_true_eq]
     by_cases k:0≤d∧d≤36000
     ·exact .inr (Int.not_le.1 fun q=>c ⟨k,q⟩)
     ·exact .inl k
    rw[z57 (by simp only[AllP,and_true,hb]; decide)]
    simp only[obind]
    rw[hb,if_pos (by simp),if_neg (fun h=>c ⟨h.1,h.2.1⟩)]; rfl
  rw[hyy]
  have hdd:∀ k:Int→Option R_q8,outM (if (((0:Int) != 0)||decide (d<nextV w.Due))=true then some (Out.next (21:Int)) else some (Out.next 0)) k some=k (dueV w d):=fun k=>by
   unfold dueV
   by_cases c:d<nextV w.Due
   ·rw[if_pos (by simp[c]),if_pos c]; rfl
   ·rw[if_neg (by simp[c]),if_neg c]; rfl
  rw[hdd]
  have eb:(basisR o w).2=(basisG o w).2:=by
   unfold basisR
   by_cases h:(basisG o w).2=0
   ·rw[if_pos h,h]
   ·rw[if_neg h]
  rw[← eb]
  generalize basisR o w=b
  generalize amountG o w=am
  generalize yearV w d=y
  generalize dueV w d=du
  generalize fundsG o w p=f
  generalize checkV keys w=ck
  generalize twiceV w paid=tw
  obtain⟨q,e,hq⟩:=z1g (body:=fun i s=>(S_q8_b2 b y du ck am tw f i s).den) (n:=8) (fun i s=>s=(ctlL 0 ck b.2 am tw y du f).take i) (s0:=([]:List TCh)) rfl (fun i s hi hI=>by
   subst hI
   simp only[S_q8_b2,Scr.den]
   rw[za ⟨by rw[List.length_take]; simp only[ctlL,List.length_cons,List.length_nil]; omega,trivial⟩]
   refine⟨_,rfl,?_⟩
   have:i=0∨i=1∨i=2∨i=3∨i=4∨i=5∨i=6∨i=7:=by omega
   rcases this with rfl | rfl | rfl | rfl | rfl | rfl | rfl | rfl <;> rfl)
  rw[e,hq]
  simp only[z29]
  rw[za ⟨by simp[ctlL],trivial⟩]
  rfl
 ·rw[if_neg hw]
  simp only[F_q8,S_q8,Scr.den,z1z hc,obind]
  rw[decide_eq_false hw,if_pos (by decide)]
  obtain⟨q,e,hq⟩:=z1b (step:=fun s=>(S_q8_b1 s).den) (fun s:List TCh×Int=>(9-s.2).toNat) (fun s=>∃ i:Nat,i≤8∧s=((ctlL 1 1 1 1 1 1 1 1).take i,(i:Int)+1)) (fun s=>s.1=ctlL 1 1 1 1 1 1 1 1) (fun s hI=>by
   obtain⟨i,hi,rfl⟩:=hI
   simp only[S_q8_b1,Scr.den]
   by_cases h8:i=8
   ·right
    subst h8
    exact⟨_,rfl,rfl⟩
   ·left
    rw[if_pos (by simp only[decide_eq_true_eq]; omega),za ⟨by rw[List.length_take]; simp only[ctlL,List.length_cons,List.length_nil]; omega,trivial⟩,wrapId (n:=(i:Int)+1+1) (by omega) (by omega)]
    refine⟨_,rfl,⟨i+1,by omega,?_⟩,by simp only; omega⟩
    have:i=0∨i=1∨i=2∨i=3∨i=4∨i=5∨i=6∨i=7:=by omega
    rcases this with rfl | rfl | rfl | rfl | rfl | rfl | rfl | rfl <;> rfl) _ (([]:List TCh),1) (Nat.lt_succ_self _) ⟨0,by omega,rfl⟩
  rw[e]
  simp only[z29]
  rw[hq,za ⟨by simp[ctlL],trivial⟩]
end Go.Proofs.YtclaojamgomjbaaGreatDoor
namespace Go.Proofs.YtclaojamgomjbaaGreatDoor
open Go Go.TA
theorem ziz {x w:TWa} (h:zkz x w) (hw:WPl w):WPl x∧x.Number=w.Number:=by
 obtain⟨a,b,rfl⟩:=h
 exact⟨hw,rfl⟩
theorem zfp {keys:List Int} {s:TTape} (hs:TapeOk s):∃ w s',F_q1q keys s=some (w,s')∧TapeOk s'∧WPl w∧w.Number≤60:=by
 simp only[F_q1q,S_q1q,Scr.den]
 obtain⟨v1,s1,a1,b1,c1⟩:=z12 (lo:=1) (hi:=60) hs (by omega) (by omega) (by omega)
 obtain⟨v2,s2,a2,b2,c2⟩:=z12 (lo:=1) (hi:=3) b1 (by omega) (by omega) (by omega)
 obtain⟨v3,s3,a3,b3,c3,d3⟩:=z8d b2
 obtain⟨v4,s4,a4,b4,c4⟩:=z12 (lo:=1) (hi:=5) b3 (by omega) (by omega) (by omega)
 obtain⟨v5,s5,a5,b5,c5⟩:=z12 (lo:=1) (hi:=2) b4 (by omega) (by omega) (by omega)
 obtain⟨v6,s6,a6,b6,c6⟩:=z12 (lo:=1) (hi:=4) b5 (by omega) (by omega) (by omega)
 obtain⟨v7,s7,a7,b7,c7⟩:=z12 (lo:=1) (hi:=3) b6 (by omega) (by omega) (by omega)
 obtain⟨v8,s8,a8,b8,c8⟩:=z12 (lo:=1) (hi:=500) b7 (by omega) (by omega) (by omega)
 obtain⟨v9,s9,a9,b9,c9⟩:=z12 (lo:=1) (hi:=4) b8 (by omega) (by omega) (by omega)
 obtain⟨v10,s10,a10,b10,c10,d10⟩:=z10 (n:=300) b9 (by omega) (by omega)
 obtain⟨v11,s11,a11,b11,c11,d11⟩:=z10 (n:=400) b10 (by omega) (by omega)
 rw[a1]
 simp only[obind]
 rw[a2]
 simp only[obind]
 rw[a3]
 simp only[obind]
 rw[a4]
 simp only[obind]
 rw[a5]
 simp only[obind]
 rw[a6]
 simp only[obind]
 rw[a7]
 simp only[obind]
 rw[a8]
 simp only[obind]
 rw[a9]
 simp only[obind]
 rw[a10]
 simp only[obind]
 rw[a11]
 simp only[obind]
 rw[wrapId (n:=4320+v10) (by omega) (by omega),wrapId (n:=4320+v11) (by omega) (by omega)]
 have hp0:WPl ⟨v1,v2,v3,12,v4,v5,v6,v7,v8,v9,4320+v10,4320+v11,0,0⟩:=by
  refine⟨⟨?_,?_,?_,?_,?_,?_⟩,?_,d3,by show (0:Int)≤12∧(12:Int)≤99; decide,?_,?_,?_⟩
  ·show 1≤v1∧v1≤_; omega
  ·show 1≤v7∧v7≤_; omega
  ·show 1≤v6∧v6≤_; omega
  ·show 1≤v4∧v4≤_; omega
  ·show 1≤v5∧v5≤_; omega
  ·show 1≤v9∧v9≤_; omega
  ·show 1≤v2∧v2≤6; omega
  ·show 1≤v8∧v8≤_; omega
  ·show 0≤4320+v10∧4320+v10≤35990; omega
  ·show 0≤4320+v11∧4320+v11≤35990; omega
 obtain⟨r,e,hJ⟩:=z1b (step:=fun s=>(S_q1q_b1 keys s).den) (fun s:TWa×Int=>(2-s.2).toNat) (fun s=>WPl s.1∧s.1.Number≤60∧0≤s.2∧s.2≤2) (fun s=>WPl s.1∧s.1.Number≤60) (fun st hI=>by
  obtain⟨w,i⟩:=st
  obtain⟨i1,i2,i3,i4⟩:=hI
  simp only at i1 i2 i3 i4
  simp only[S_q1q_b1,Scr.den]
  by_cases hc:i<2
  ·left
   obtain⟨x,er,e1,e2⟩:=zgo i1 keys (i==1)
   rw[if_pos (show decide (i<2)=true from decide_eq_true hc),e1]
   simp only[obind]
   rw[wrapId (n:=i+1) (by omega) (by omega)]
   by_cases h0:er=0
   ·rw[if_pos (by simpa using h0)]
    obtain⟨p1,p2⟩:=ziz (e2 h0) i1
    exact⟨_,rfl,⟨p1,by rw[p2]; exact i2,by show 0≤i+1; omega,by show i+1≤2; omega⟩,by show (2-(i+1)).toNat<(2-i).toNat; omega⟩
   ·rw[if_neg (by simpa using h0)]
    exact⟨_,rfl,⟨i1,i2,by show 0≤i+1; omega,by show i+1≤2; omega⟩,by show (2-(i+1)).toNat<(2-i).toNat; omega⟩
  ·right
   rw[if_neg (show ¬ decide (i<2)=true by rw[decide_eq_true_eq]; exact hc)]
   exact⟨_,rfl,i1,i2⟩) _ (⟨v1,v2,v3,12,v4,v5,v6,v7,v8,v9,4320+v10,4320+v11,0,0⟩,0) (Nat.lt_succ_self _) ⟨hp0,by show v1≤60; omega,by simp,by simp⟩
 rw[e]
 exact⟨_,_,rfl,b11,hJ.1,hJ.2⟩
def WL (l:List TWa):Prop:=SrtW l∧(∀ w∈l,WPl w∧w.Number≤60)∧∀ x∈l,∀ y∈l,sameB x y=true→x=y
theorem WL.nil:WL []:=⟨List.Pairwise.nil,fun w h=>absurd h List.not_mem_nil,fun x h=>absurd h List.not_mem_nil⟩
theorem zj0 {x y:TWa} (h:sameB x y=true):sameB y x=true:=by
 unfold sameB at h ⊢
 simp only[Bool.and_eq_true,beq_iff_eq] at h ⊢
 exact⟨⟨h.1.1.symm,h.1.2.symm⟩,h.2.symm⟩
theorem WL.add {l:List TWa} (h:WL l) {w:TWa} (hn:w.Number≤60) (h0:(addV l w).2=0):WL (addV l w).1∧(addV l w).1.length=l.length+1∧∀ x,x∈(addV l w).1↔x=w∨x∈l:=by
 obtain⟨h1,h2,h3⟩:=h
 unfold addV at h0 ⊢
 by_cases c1:WPl w
 ·rw[if_neg (show ¬ ¬ WPl w from fun k=>k c1)] at h0 ⊢
  by_cases c2:hasN l w.Number=true
  ·rw[if_pos c2] at h0; cases h0
  ·rw[if_neg c2] at h0 ⊢
   by_cases c3:(l.any fun x=>sameB x w)=true
   ·rw[if_pos c3] at h0; cases h0
   ·rw[if_neg c3] at h0 ⊢
    by_cases c4:200≤l.length
    ·rw[if_pos c4] at h0; cases h0
    ·rw[if_neg c4]
     have hno:∀ x∈l,sameB x w=false:=fun x hx=>by
      cases e:sameB x w with
      | false=>rfl
      | true=>exact absurd (List.any_eq_true.2 ⟨x,hx,e⟩) c3
     refine⟨⟨zma h1 c2,fun x hx=>?_,fun x hx y hy e=>?_⟩,z1a,fun x=>z7b⟩
     ·rcases z7b.1 hx with rfl | hx
      ·exact⟨c1,hn⟩
      ·exact h2 x hx
     ·rcases z7b.1 hx with ex | hx' <;> rcases z7b.1 hy with ey | hy'
      ·exact ex.trans ey.symm
      ·have:=hno y hy'; rw[← ex,zj0 e] at this; cases this
      ·have:=hno x hx'; rw[← ey,e] at this; cases this
      ·exact h3 x hx' y hy' e
 ·rw[if_pos c1] at h0; cases h0
theorem zdl {keys:List Int} {s:TTape} (hs:TapeOk s):∃ l s',F_qh keys 4 s=some (l,s')∧TapeOk s'∧WL l∧l.length≤4:=by
 simp only[F_qh,S_qh,Scr.den]
 rw[wrapId (n:=(4:Int)+1) (by omega) (by omega)]
 obtain⟨k,s1,q1,q2,q3,q4⟩:=z10 (n:=4+1) hs (by omega) (by omega)
 rw[q1]
 simp only[obind]
 obtain⟨r,e,hJ⟩:=z1b (step:=fun s=>(S_qh_b1 keys s).den) (fun s:TTape×List TWa×Int=>s.2.2.toNat) (fun s=>TapeOk s.1∧WL s.2.1∧(s.2.1.length:Int)+s.2.2≤4∧0≤s.2.2) (fun s=>TapeOk s.1∧WL s.2.1∧s.2.1.length≤4) (fun st hI=>by
  obtain⟨t,l,i⟩:=st
  obtain⟨i1,i2,i3,i4⟩:=hI
  simp only at i1 i2 i3 i4
  simp only[S_qh_b1,Scr.den]
  by_cases hc:0<i
  ·left
   obtain⟨w,t1,e1,e2,e3,e4⟩:=zfp (keys:=keys) i1
   rw[if_pos (show decide (i>0)=true from decide_eq_true hc),e1]
   simp only[obind]
   rw[zb8 (by omega) i2.1 (by have:=e3.len; omega)]
   simp only[obind]
   rw[wrapId (n:=i-1) (by omega) (by omega)]
   by_cases h0:(addV l w).2=0
   ·rw[if_pos (by simpa using h0)]
    obtain⟨p1,p2,_⟩:=i2.add e4 h0
    exact⟨_,rfl,⟨e2,p1,by show ((addV l w).1.length:Int)+(i-1)≤4; omega,by show 0≤i-1; omega⟩,by show (i-1).toNat<i.toNat; omega⟩
   ·rw[if_neg (by simpa using h0)]
    exact⟨_,rfl,⟨e2,i2,by show (l.length:Int)+(i-1)≤4; omega,by show 0≤i-1; omega⟩,by show (i-1).toNat<i.toNat; omega⟩
  ·right
   rw[if_neg (show ¬ decide (i>0)=true by rw[decide_eq_true_eq]; exact hc)]
   exact⟨_,rfl,i1,i2,by show l.length≤4; omega⟩) _ (s1,[],k) (Nat.lt_succ_self _) ⟨q2,WL.nil,by show ((0:Nat):Int)+k≤4; omega,q3⟩
 rw[e]
 exact⟨_,_,rfl,hJ.1,hJ.2.1,hJ.2.2⟩
theorem z7l {l:List TWa}:F_q12 l l=some true:=by
 simp only[F_q12,S_q12,Scr.den]
 rw[if_neg (by simp)]
 have ra:=zu (ρ:=R_q12) (n:=l.length) (c:=false) (body:=fun i s=>(S_q12_b1 l l i s).den) (fun _=>True) (fun i hi _=>by
  simp only[S_q12_b1,Scr.den]
  rw[za ⟨hi,trivial⟩,if_neg (by simp)]) (fun i hi h=>absurd trivial h)
 rw[ra.1 fun _ _=>trivial]
 rfl
theorem znw {l:List TWa} (h:∀ i,i+1<l.length→(l.getD i default).Number<(l.getD (i+1) default).Number):SrtW l:=by
 have key:∀ k i,i+k+1<l.length→(l.getD i default).Number<(l.getD (i+k+1) default).Number:=by
  intro k
  induction k with
  | zero=>intro i hi; exact h i hi
  | succ k ih =>
   intro i hi
   have h1:=ih i (by omega)
   have h2:=h (i+k+1) (by omega)
   rw[show i+(k+1)+1=i+k+1+1 by omega]
   omega
 refine List.pairwise_iff_getElem.2 fun i j hi hj hij=>?_
 have:=key (j-i-1) i (by omega)
 rw[show i+(j-i-1)+1=j by omega,z1j hi,z1j hj] at this
 exact this
theorem zhj {l:List TWa} (h:¬ SrtW l):∃ j,1≤j∧j<l.length∧¬ (l.getD (j-1) default).Number<(l.getD j default).Number :=
 Classical.byContradiction fun hn=>h (znw fun i hi=>Classical.byContradiction fun hc=>hn ⟨i+1,by omega,hi,hc⟩)
open Classical in
noncomputable def addG (l:List TWa) (w:TWa):List TWa×Int:=if SrtW l then addV l w else ([],1)
theorem stepP {l:List TWa} (hl:l.length≤1000) {i:Nat} (h1:1≤i) (hi:i<l.length):(S_qk_b1 l (i:Int)).den=some (if (l.getD (i-1) default).Number<(l.getD i default).Number then .cont ((i+1:Nat):Int) else .ret ([],1)):=by
 simp only[S_qk_b1,Scr.den,z4g,obind,Int.toNat_natCast]
 have e1:IntKind.i64.wrap ((i:Int)-1)=((i-1:Nat):Int):=by rw[wrapId (by omega) (by omega)]; omega
 rw[if_pos (by simpa using hi),e1,Int.toNat_natCast,za ⟨by omega,by omega,by omega,hi,trivial⟩,wrapId (n:=(i:Int)+1) (by omega) (by omega)]
 by_cases c:(l.getD (i-1) default).Number<(l.getD i default).Number
 ·rw[if_pos c,if_neg (fun hh=>absurd (z5n.2 c) (Int.not_lt.2 (of_decide_eq_true hh)))]
  rfl
 ·rw[if_neg c,if_pos (decide_eq_true (Int.not_lt.1 fun hh=>c (z5n.1 hh)))]
theorem stepR {l:List TWa} (hl:l.length≤1000) {i:Nat} (h1:1≤i) (hi:i<l.length):(S_q2_b1 l (i:Int)).den=some (if (l.getD (i-1) default).Number<(l.getD i default).Number then .cont ((i+1:Nat):Int) else .ret ([],1)):=by
 simp only[S_q2_b1,Scr.den,Int.toNat_natCast]
 have e1:IntKind.i64.wrap ((i:Int)-1)=((i-1:Nat):Int):=by rw[wrapId (by omega) (by omega)]; omega
 rw[if_pos (by simpa using hi),e1,Int.toNat_natCast,za ⟨by omega,by omega,by omega,hi,trivial⟩,wrapId (n:=(i:Int)+1) (by omega) (by omega)]
 by_cases c:(l.getD (i-1) default).Number<(l.getD i default).Number
 ·rw[if_pos c,if_neg (by simp only[decide_eq_true_eq,ge_iff_le]; omega)]
  rfl
 ·rw[if_neg c,if_pos (by simp only[decide_eq_true_eq,ge_iff_le]; omega)]
theorem zfq {ρ:Type} {l:List TWa} {r:ρ} {step:Int→Option (Step Int ρ)} (hs:∀ i:Nat,1≤i→i<l.length→step (i:Int)=some (if (l.getD (i-1) default).Number<(l.getD i default).Number then .cont ((i+1:Nat):Int) else .ret r))
  {j:Nat} (h2:j<l.length) (h3:¬ (l.getD (j-1) default).Number<(l.getD j default).Number):∀ k i:Nat,i+k=j→1≤i→iterM step (i:Int)=some (.ret r):=by
 intro k
 induction k with
 | zero =>
  intro i hk h1
  obtain rfl:i=j:=by omega
  rw[z16,hs i h1 h2,if_neg h3]
 | succ k ih =>
  intro i hk h1
  rw[z16,hs i h1 (by omega)]
  by_cases c:(l.getD (i-1) default).Number<(l.getD i default).Number
  ·rw[if_pos c]
   exact ih (i+1) (by omega) (by omega)
  ·rw[if_neg c]
theorem znx {l:List TWa} {w:TWa} (hl:l.length≤1000) (hc:w.Code.length≤1000000):F_qk l w=some (addG l w):=by
 unfold addG
 by_cases hS:SrtW l
 ·rw[if_pos hS,zfa hl hS hc]
 ·obtain⟨j,h1,h2,h3⟩:=zhj hS
  rw[if_neg hS]
  simp only[F_qk,S_qk,Scr.den,z3m hc,obind]
  by_cases h:WPl w
  ·rw[decide_eq_true h,if_neg (by decide),show (1:Int)=((1:Nat):Int) from rfl,zfq (l:=l) (r:=(([],1):R_qk)) (fun i a b=>stepP hl a b) h2 h3 (j-1) 1 (by omega) (by omega)]
   rfl
  ·rw[decide_eq_false h,if_pos (by decide)]
theorem zgr {l:List TWa} {w:TWa} (hl:l.length≤1000) (hc:w.Code.length≤1000000):F_q2 l w=some (addG l w):=by
 unfold addG
 by_cases hS:SrtW l
 ·rw[if_pos hS,zb8 hl hS hc]
 ·obtain⟨j,h1,h2,h3⟩:=zhj hS
  rw[if_neg hS]
  simp only[F_q2,S_q2,Scr.den]
  rw[show (1:Int)=((1:Nat):Int) from rfl,zfq (l:=l) (r:=(([],1):R_q2)) (fun i a b=>stepR hl a b) h2 h3 (j-1) 1 (by omega) (by omega)]
  rfl
noncomputable def payG (keys:List Int) (w:TWa) (o:TOf) (paid:List TWa) (p:TPo) (d:Int):List TWa×Int :=
 if firstV (controlG keys w o paid p d)≠0 then ([],firstV (controlG keys w o paid p d)) else addG paid w
theorem zme {keys:List Int} {w:TWa} {o:TOf} {paid:List TWa} (p:TPo) (d:Int) (hs:SmO o) (hl:paid.length≤1000) (hc:w.Code.length≤1000000):F_qz keys w o paid p d=some (payG keys w o paid p d):=by
 unfold payG
 simp only[F_qz,S_qz,Scr.den,z9v paid p d hs hc,z4v,obind]
 by_cases c:firstV (controlG keys w o paid p d)=0
 ·rw[if_neg (by simp[c]),if_neg (fun k=>k c),znx hl hc]
  rfl
 ·rw[if_pos (by simpa using c),if_pos c]
theorem zfr {keys:List Int} {w:TWa} {o:TOf} {paid:List TWa} (p:TPo) (d:Int) (hs:SmO o) (hl:paid.length≤1000) (hc:w.Code.length≤1000000):F_q4h keys w o paid p d=some (payG keys w o paid p d):=by
 unfold payG
 simp only[F_q4h,S_q4h,Scr.den,z67 paid p d hs hc,z5p,obind]
 by_cases c:firstV (controlG keys w o paid p d)=0
 ·rw[if_neg (by simp[c]),if_neg (fun k=>k c),zgr hl hc]
  rfl
 ·rw[if_pos (by simpa using c),if_pos c]
theorem zbb {l:List TWa} (hl:l.length≤1000000) (n:Int):F_q26 l n=some (if l.any (numB n)=true then (l.eraseIdx (l.findIdx (numB n)),0) else ([],6)):=by
 simp only[F_q26,S_q26,Scr.den]
 rw[z1o l (numB n) (fun i=>(l.eraseIdx i,(0:Int))) (fun i hi=>by
  simp only[S_q26_b1,Scr.den]
  have e:IntKind.i64.wrap ((i:Int)+1)=((i+1:Nat):Int):=wrapId (by omega) (by omega)
  rw[e,Int.toNat_natCast]
  unfold numB
  by_cases c:((l.getD i default).Number==n)=true
  ·rw[if_pos c,if_pos c,za ⟨by omega,by rw[List.length_take]; omega,by omega,by omega,by rw[List.length_take,List.length_drop]; omega,trivial⟩,za ⟨by rw[List.length_append,List.length_take,List.length_drop]; omega,trivial⟩,List.eraseIdx_eq_take_drop_succ]
  ·rw[if_neg c,if_neg c])]
 by_cases h:l.any (numB n)=true
 ·rw[if_pos h,if_pos h]
  rfl
 ·rw[if_neg h,if_neg h]
  rfl
theorem zgs {l:List TCh}:F_q11 l l=some true:=by
 simp only[F_q11,S_q11,Scr.den]
 rw[if_neg (by simp)]
 have ra:=zu (ρ:=R_q11) (n:=l.length) (c:=false) (body:=fun i s=>(S_q11_b1 l l i s).den) (fun _=>True) (fun i hi _=>by
  simp only[S_q11_b1,Scr.den]
  rw[za ⟨hi,trivial⟩,if_neg (by simp)]) (fun i hi h=>absurd trivial h)
 rw[ra.1 fun _ _=>trivial]
 rfl
end Go.Proofs.YtclaojamgomjbaaGreatDoor
namespace Go.Proofs.YtclaojamgomjbaaGreatDoor
open Go Go.TA
theorem zag {l:List TWa} (hl:l.length<2 ^ 63):∃ C,F_q10 l=some C∧(C=true→(∀ w∈l,w.Code.length≤60)∧l.length≤40):=by
 simp only[F_q10,S_q10,Scr.den]
 rw[za ⟨hl,trivial⟩]
 have ra:=zu (ρ:=R_q10) (n:=l.length) (c:=false) (body:=fun i s=>(S_q10_b1 l i s).den) (fun i=>(l.getD i default).Code.length≤60) (fun i hi h=>by
  simp only[S_q10_b1,Scr.den,Nat.zero_add]
  rw[za ⟨hi,trivial⟩,if_neg (by simp only[decide_eq_true_eq]; omega)]) (fun i hi h=>by
  simp only[S_q10_b1,Scr.den,Nat.zero_add]
  rw[za ⟨hi,trivial⟩,if_pos (by simp only[decide_eq_true_eq]; omega)])
 by_cases h:∀ j,j<l.length→(l.getD j default).Code.length≤60
 ·rw[ra.1 h]
  refine⟨_,rfl,fun hc=>⟨z39 (p:=fun w:TWa=>w.Code.length≤60) h,?_⟩⟩
  have:=of_decide_eq_true hc
  omega
 ·rw[ra.2 h]
  exact⟨_,rfl,fun hc=>by cases hc⟩
theorem zah (t:TTr):∃ C,F_q23 t=some C:=by
 simp only[F_q23,S_q23,Scr.den]
 rw[zay (n:=t.Pots.length) (c:=false) (fun i=>(((decide ((((t.Pots.getD i default).Code).length:Int)>60)||decide ((((t.Pots.getD i default).Granted).length:Int)>12))||decide ((((t.Pots.getD i default).Heard).length:Int)>12))||decide ((((t.Pots.getD i default).Asked).length:Int)>12))||decide ((((t.Pots.getD i default).Used).length:Int)>12)) (fun i hi=>by
  simp only[S_q23_b1,Scr.den,zl]
  split <;> rfl)]
 split <;> exact⟨_,rfl⟩
theorem zny {x:Option (Out (TTape×TWa) R_q24)} (h:∃ t w,x=some (.next (t,w))∧TapeOk t∧w.Code.length≤1000):∃ w s,outM x (fun sv3=>some (sv3.2,sv3.1)) some=some (w,s)∧TapeOk s∧w.Code.length≤1000:=by
 obtain⟨t,w,rfl,h1,h2⟩:=h
 exact⟨w,t,rfl,h1,h2⟩
theorem zai {w:TWa} (hw:w.Code.length≤1000) {s:TTape} (hs:TapeOk s):∃ x s',F_q24 w s=some (x,s')∧TapeOk s'∧x.Code.length≤1000:=by
 obtain⟨a1,s1,e1,t1,_⟩:=zr (l:=[(-1),0,1,2,1000001]) hs (by simp) (by simp)
 obtain⟨n,s2,e2,t2,n0,n1⟩:=z10 (n:=12) t1 (by omega) (by omega)
 simp only[F_q24,S_q24,Scr.den,e1,e2,obind]
 refine zny ?_
 by_cases k0:(n==0)=true
 ·rw[if_pos k0]; exact⟨_,_,rfl,t2,hw⟩
 rw[if_neg k0]
 by_cases k1:(n==1)=true
 ·obtain⟨a2,s3,e3,t3,_⟩:=zr (l:=[0,1,2,7]) t2 (by simp) (by simp)
  rw[if_pos k1,e3]; exact⟨_,_,rfl,t3,hw⟩
 rw[if_neg k1]
 by_cases k2:(n==2)=true
 ·obtain⟨c,s3,e3,t3,hc⟩:=z3x t2
  rw[if_pos k2,e3]; exact⟨_,_,rfl,t3,hc⟩
 rw[if_neg k2]
 by_cases k3:(n==3)=true
 ·obtain⟨a2,s3,e3,t3,_⟩:=zr (l:=[(-1),13,100]) t2 (by simp) (by simp)
  rw[if_pos k3,e3]; exact⟨_,_,rfl,t3,hw⟩
 rw[if_neg k3]
 by_cases k4:(n==4)=true
 ·rw[if_pos k4]; exact⟨_,_,rfl,t2,hw⟩
 rw[if_neg k4]
 by_cases k5:(n==5)=true
 ·rw[if_pos k5]; exact⟨_,_,rfl,t2,hw⟩
 rw[if_neg k5]
 by_cases k6:(n==6)=true
 ·obtain⟨a2,s3,e3,t3,_⟩:=zr (l:=[1,(-1),1000000000000]) t2 (by simp) (by simp)
  rw[if_pos k6,e3]; exact⟨_,_,rfl,t3,hw⟩
 rw[if_neg k6]
 by_cases k7:(n==7)=true
 ·rw[if_pos k7]; exact⟨_,_,rfl,t2,hw⟩
 rw[if_neg k7]
 by_cases k8:(n==8)=true
 ·obtain⟨a2,s3,e3,t3,_⟩:=zr (l:=[(-1),IntKind.i64.wrap (w.Day+1),35991]) t2 (by simp) (by simp)
  rw[if_pos k8,e3]; exact⟨_,_,rfl,t3,hw⟩
 rw[if_neg k8]
 by_cases k9:(n==9)=true
 ·rw[if_pos k9]; exact⟨_,_,rfl,t2,hw⟩
 rw[if_neg k9]
 by_cases k10:(n==10)=true
 ·rw[if_pos k10]; exact⟨_,_,rfl,t2,hw⟩
 rw[if_neg k10]
 exact⟨_,_,rfl,t2,hw⟩
theorem zox {a1:TWa} {a2:TOf} {a3:List Int} {a4:TPo} {a5:List TWa} {a6:Int} {rv1:R_qa} {rv2:R_qf} {rv3:R_qh} {rv4:R_q24} {i:Nat} {rv6:R_q2v} {j k:Nat}
  (hx:(([rv2.1,rv4.1,a1]:List TWa).getD i default).Code.length≤1000000) (hy:SmO (([rv1.1.Office,rv6.1,a2]:List TOf).getD j default))
  (hq:(([rv3.1,([(⟨55,rv2.1.Office,rv2.1.Code,rv2.1.Year,rv2.1.Verification,rv2.1.Attempt,rv2.1.Commitment,rv2.1.Reservation,rv2.1.Amount,rv2.1.Payee,rv2.1.Day,rv2.1.Due,rv2.1.First,rv2.1.Second⟩:TWa)]:List TWa),a5]:List (List TWa)).getD k default).length≤1000) :
  (S_q1_b1 a1 a2 a3 a4 a5 a6 rv1 rv2 rv3 rv4 i rv6 j k ()).den=some (.cont ()):=by
 simp only[S_q1_b1,Scr.den]
 generalize ([rv2.1,rv4.1,a1]:List TWa).getD i default=x at hx
 generalize ([rv1.1.Office,rv6.1,a2]:List TOf).getD j default=y at hy
 generalize ([rv3.1,([(⟨55,rv2.1.Office,rv2.1.Code,rv2.1.Year,rv2.1.Verification,rv2.1.Attempt,rv2.1.Commitment,rv2.1.Reservation,rv2.1.Amount,rv2.1.Payee,rv2.1.Day,rv2.1.Due,rv2.1.First,rv2.1.Second⟩:TWa)]:List TWa),a5]:List (List TWa)).getD k default=q at hq
 simp only[z9v q _ _ hy hx,z67 q _ _ hy hx,zme _ _ hy hq hx,zfr _ _ hy hq hx,obind,zgs,z4v,z5p,z7l,zl]
 simp[optD,AllP]
theorem zoy {a5:List TWa} {a7:Int} {rv3:R_qh} {i:Nat} {rv22:R_q6} {j:Nat} (hq:(([rv3.1,a5]:List (List TWa)).getD i default).length≤1000000) :
  (S_q1_b4 a5 a7 rv3 i rv22 j ()).den=some (.cont ()):=by
 simp only[S_q1_b4,Scr.den]
 generalize ([rv3.1,a5]:List (List TWa)).getD i default=q at hq
 generalize ([a7,rv22.1]:List Int).getD j default=n
 simp only[zdj hq,zbb hq,obind,z7l,zl]
 simp[optD,AllP]
theorem zj1 {α:Type} [Inhabited α] {p:α→Prop} {a b c:α} (ha:p a) (hb:p b) (hc:p c) {i:Nat} (hi:i<3):p (([a,b,c]:List α).getD i default):=by
 have:i=0∨i=1∨i=2:=by omega
 rcases this with rfl | rfl | rfl
 ·exact ha
 ·exact hb
 ·exact hc
theorem z9f (a0:List Int) (a1:TWa) (a2:TOf) (a3:List Int) (a4:TPo) (a5:List TWa) (a6 a7:Int) (a8:List TCh) (h5:a5.length * 120≤reachBytes) :
  F_q1 a0 a1 a2 a3 a4 a5 a6 a7 a8=some true:=by
 unfold reachBytes at h5
 obtain⟨C1,e1,g1⟩:=zag (l:=([a1]:List TWa)++a5) (by simp; omega)
 obtain⟨C2,e2,g2⟩:=zc4 a2
 obtain⟨C3,e3⟩:=zah ⟨0,[a4]⟩
 simp only[F_q1,S_q1,Scr.den,e1,e2,e3,znv,obind,zl,zh]
 have hG:(([a1]:List TWa).length+a5.length) * (2 * 120)≤2 ^ 48:=by simp; omega
 cases C1
 ·rw[z57 (by simp[AllP])]
  simp only[obind]
  rw[z57 (by simp[AllP])]
  simp only[obind]
  rw[za ⟨hG,trivial⟩,if_pos (by simp)]
 rw[z1e (by simp[AllP])]
 simp only[obind]
 cases C2
 ·rw[z57 (by simp[AllP])]
  simp only[obind]
  rw[za ⟨hG,trivial⟩,if_pos (by simp)]
 rw[z1e (by simp[AllP])]
 simp only[obind]
 rw[za ⟨hG,trivial⟩]
 split
 ·rfl
 obtain⟨gc,gl⟩:=g1 rfl
 have hl5:a5.length≤1000:=by
  rw[List.length_append] at gl
  omega
 have hc1:a1.Code.length≤1000000:=by
  have:=gc a1 (by simp)
  omega
 have hs2:=(g2 rfl).1
 obtain⟨s,q1,t1⟩:=zm1 a0
 obtain⟨c,s2,q2,t2,hI⟩:=zfh t1
 obtain⟨k,s3,q3,t3,_,_⟩:=z12 (lo:=1) (hi:=3) t2 (by omega) (by omega) (by omega)
 have hv:=hI.2.1.1
 have hoff:2 * (c.Office.Number-1)+1<(c.Keys.length:Int):=by have:=hI.2.1.2.2.2; have:=hI.1; omega
 obtain⟨w,b,q4,hw⟩:∃ w b,F_qf c k 7=some (w,b)∧w.Code.length≤1000:=by
  obtain e | ⟨i,hi,_,_,e⟩:=ziv hv hoff k zou
  ·exact⟨_,_,e,by decide⟩
  ·refine⟨_,_,e,?_⟩
   have:=(zd1 hv hi zou).len
   show (mkW c.Office (c.Office.Book.Orders.getD i default) 7).Code.length≤1000
   omega
 obtain⟨paid,s5,q5,t5,_,hpl⟩:=zdl (keys:=c.Keys) t3
 obtain⟨x,s6,q6,t6,hx⟩:=zai hw t5
 simp only[q1,q2,q3,q4,q5,q6,obind]
 obtain⟨s7,q7,t7⟩:=z1g (body:=fun i s=>(S_q1_b3 a1 a2 a3 a4 a5 a6 (c,s2) (w,b) (paid,s5) (x,s6) i s).den) (n:=3) (fun _ s=>TapeOk s) (s0:=s6) t6 (fun i s hi hs=>by
  obtain⟨o',s',e,ht,ho⟩:=zb9 hv hs
  simp only[S_q1_b3,Scr.den,e,obind]
  obtain⟨u,e7,_⟩:=z1g (body:=fun j s=>(S_q1_b2 a1 a2 a3 a4 a5 a6 (c,s2) (w,b) (paid,s5) (x,s6) i (o',s') j s).den) (n:=3) (fun _ _=>True) (s0:=()) trivial (fun j u hj _=>by
   simp only[S_q1_b2,Scr.den]
   obtain⟨u,e8,_⟩:=z1g (body:=fun k s=>(S_q1_b1 a1 a2 a3 a4 a5 a6 (c,s2) (w,b) (paid,s5) (x,s6) i (o',s') j k s).den) (n:=3) (fun _ _=>True) (s0:=()) trivial (fun k u hk _ =>
    ⟨(),zox (zj1 (p:=fun z:TWa=>z.Code.length≤1000000) (by show w.Code.length≤_; omega) (by show x.Code.length≤_; omega) hc1 hi) (zj1 (p:=SmO) hv.smO ho hs2 hj) (zj1 (p:=fun z:List TWa=>z.length≤1000) (by show paid.length≤_; omega) (by simp) hl5 hk),trivial⟩)
   rw[e8]
   exact⟨(),rfl,trivial⟩)
  rw[e7]
  exact⟨s',rfl,ht⟩)
 rw[q7]
 simp only[z29]
 obtain⟨s8,q8,t8⟩:=z1g (body:=fun i s=>(S_q1_b5 a5 a7 (paid,s5) i s).den) (n:=2) (fun _ s=>TapeOk s) (s0:=s7) t7 (fun i s hi hs=>by
  obtain⟨n,s',e,ht,_,_⟩:=z12 (lo:=1) (hi:=60) hs (by omega) (by omega) (by omega)
  simp only[S_q1_b5,Scr.den,e,obind]
  obtain⟨u,e7,_⟩:=z1g (body:=fun j s=>(S_q1_b4 a5 a7 (paid,s5) i (n,s') j s).den) (n:=2) (fun _ _=>True) (s0:=()) trivial (fun j u hj _=>by
   refine⟨(),zoy ?_,trivial⟩
   have:i=0∨i=1:=by omega
   rcases this with rfl | rfl
   ·show paid.length≤_; omega
   ·show a5.length≤_; omega)
  rw[e7]
  exact⟨s',rfl,ht⟩)
 rw[q8]
 simp only[z29,z4v,z5p,obind]
 simp[AllP,optD]
theorem z7n (a0:List Int) (a1:TWa) (a2:TOf) (a3:List Int) (a4:TPo) (a5:List TWa) (a6 a7:Int) (a8:List TCh) (h5:a5.length * 120≤reachBytes) :
  F_q1 a0 a1 a2 a3 a4 a5 a6 a7 a8=some true:=z9f a0 a1 a2 a3 a4 a5 a6 a7 a8 h5
end Go.Proofs.YtclaojamgomjbaaGreatDoor
