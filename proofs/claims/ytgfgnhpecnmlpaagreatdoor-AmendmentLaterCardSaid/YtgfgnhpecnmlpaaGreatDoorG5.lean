/- A part of the proof: what the functions compute, and that their calls return it. No condition. -/
import Derived.Test.YtgfgnhpecnmlpaaGreatDoorG4
/- What the functions compute, and that their calls return it. No condition. -/
namespace Go.Proofs.YtgfgnhpecnmlpaaGreatDoor
open Go Go.TA
open Go.IntKind (i64)
noncomputable section
set_option maxRecDepth 100000
set_option maxHeartbeats 2000000
theorem zjr:LeV (AV.d (DV.agg [(DV.i .i64 12),(DV.i .i64 1),(eL THe.e ([(⟨[49],[97]⟩:THe)]:List THe)),(eL TLi.e ([(⟨[49],12,500⟩:TLi)]:List TLi)),Z0,Z0,Z0,Z0,Z0,(eL TAm.e ([(⟨4330,1,([(⟨1,[49],12,600⟩:TCh)]:List TCh)⟩:TAm),(⟨4400,1,([(⟨1,[49],12,0⟩:TCh)]:List TCh)⟩:TAm)]:List TAm))])) (TLa.d (⟨12,1,([(⟨[49],[97]⟩:THe)]:List THe),([(⟨[49],12,500⟩:TLi)]:List TLi),[],[],[],[],[],([(⟨4330,1,([(⟨1,[49],12,600⟩:TCh)]:List TCh)⟩:TAm),(⟨4400,1,([(⟨1,[49],12,0⟩:TCh)]:List TCh)⟩:TAm)]:List TAm)⟩:TLa)):=z78 rfl (DLe.agg (DLeL.cons (DLe.refl _) (DLeL.cons (DLe.refl _) (DLeL.cons (DLe.refl _) (DLeL.cons (DLe.refl _) (DLeL.cons DLe.sl0 (DLeL.cons DLe.sl0 (DLeL.cons DLe.sl0 (DLeL.cons DLe.sl0 (DLeL.cons DLe.sl0 (DLeL.cons (DLe.refl _) DLeL.nil)))))))))))
def S_q3s:SC Bool Bool :=
 let D:=(⟨1,[49],12,600⟩:TCh)
 let c:=([D]:List TCh)
 let E:=(⟨4330,1,c⟩:TAm)
 let F:=(⟨1,[49],12,0⟩:TCh)
 let f:=([F]:List TCh)
 let m:=([E,(⟨4400,1,f⟩:TAm)]:List TAm)
 let G:=(⟨[49],12,500⟩:TLi)
 let s:=(⟨[49],[97]⟩:THe)
 let g:=([s]:List THe)
 let h:=([G]:List TLi)
 let j:=(⟨12,1,g,h,[],[],[],[],[],m⟩:TLa)
 let k:=(TLa.b (⟨0,0,[],[],[],[],[],[],[],[]⟩:TLa))
.reg 1 [] [(1,hv (AV.d (eL THe.e g))),(3,hv (AV.d (eL TLi.e h))),(5,hv (AV.d (eL TCh.e c))),(8,hv (AV.d (eL TCh.e f))),(10,hv (AV.d (eL TAm.e m))),(11,hv (TLa.d j)),(12,{ obs:=[(0,k)] })] [.pf (z5 THe.e g),.pf (z5 TLi.e h),.pf (z5 TCh.e c),.pf (z5 TCh.e f),.pf (z5 TAm.e m),.pf zjr,.pf cz3]<|
.call (@F_qf_ok j 4329) fun t u=>
.reg 2 [] [(1,hc u [] true),(5,{ obs:=[(1,k)] })] [.cl 0 u [] 1 true,.pf cz3]<|
.call (@F_qf_ok j 4330) fun n v=>
.reg 3 [] [(1,hc v [] true),(5,{ obs:=[(2,k)] })] [.cl 0 v [] 2 true,.pf cz3]<|
.call (@F_qf_ok j 4400) fun w x=>
.reg 4 [] [(1,hc x [] true),(5,{ obs:=[(3,k)] })] [.cl 0 x [] 3 true,.pf cz3]<|
 let o:=(bif (bif (t.2==0) then (n.2==0) else false) then (w.2==0) else false)
.calld [o=true] dF (@F_q1u_ok t.1 ([49]) 12) fun H y =>
 let q:=(bif o then (H==500) else false)
.calld [q=true] dF (@F_q1u_ok n.1 ([49]) 12) fun I z =>
 let a:=(bif (bif (bif q then (I==600) else false) then ((n.1.A.length:Int)==1) else false) then ((w.1.P.length:Int)==0) else false)
.calld [a=true] dF (@F_q14_ok j) fun J B =>
.calld [a=true] dF (@F_q2a_ok J ([4330,4400]:List Int)) fun K C =>
 let l:=(vl ([4330,4400]:List Int))
.reg 5 [] [(12,hc y [] true),(17,hc z [] true),(34,hc B [] true),(35,hv l),(36,hc C [] true)] [.clg 6 [o=true] y [] 4 true,.clg 4 [q=true] z [] 4 true,.clg 2 [a=true] B [] 4 true,.pf (p:=AllP [a=true]->(LeV (AV.d (DV.sl 2 (listF (DV.b false) [(DV.i .i64 4330),(DV.i .i64 4400)]))) l)) (fun _hg=>z5 (DV.i .i64) ([4330,4400]:List Int)),.clg 0 [a=true] C [] 4 true]<|
.r (bif a then K else false)
def F_q3s:=S_q3s.den
theorem F_q3s_ok :FO F_q3s 15 [] [] vb NL:=fO (s:=S_q3s) Tryz.func15
def S_q1v_b1 (g:R_q2) (h:R_q0) (i:R_q0) (b:R_q14) (a:Nat) (j:Bool):SC Bool (Step Bool Bool) :=
.reg 13 [] [] [.w a,.ev 0]<|
 let d:=(i64.wrap ((i64.wrap (360 * g.1.E))+h.1))
 let e:=(if d<36000 then d else 36000)
 let f:=(i64.wrap (e+i.1))
.c (cO j (bif (decide ((b.getD a dF)>e)) then (decide ((b.getD a dF)<=(if f<36000 then f else 36000))) else false))
def S_q1v (L:(List Int)):SC Bool Bool :=
.call (@F_q2y_ok L) fun I J=>
.k 1 1 J [] 0 false<|
.call (@F_q2_ok I) fun c t=>
 let f:=(TLa.b (⟨0,0,[],[],[],[],[],[],[],[]⟩:TLa))
.reg 2 [] [(1,hc t [0] false),(2,{ obs:=[(1,f)] })] [.cl 0 t [0] 1 false,.pf cz3]<|
.call (@F_q0_ok 700 c.2) fun n u=>
.reg 3 [4] [(4,hc u [0] false)] [.cl 0 u [0] 2 false]<|
.call (@F_q0_ok 700 n.2) fun v K=>
.k 4 2 K [0] 2 false<|
 let w:=(i64.wrap ((i64.wrap (360 * c.1.E))+n.1))
 let x:=(if w<36000 then w else 36000)
.call (@F_qf_ok c.1 x) fun g y=>
.reg 5 [] [(2,hc y [] true),(6,{ obs:=[(2,f)] })] [.cl 0 y [] 2 true,.pf cz3]<|
 let z:=(i64.wrap (x+v.1))
 let A:=(if z<36000 then z else 36000)
.call (@F_qf_ok g.1 A) fun B C=>
.reg 6 [] [(2,hc C [] true),(6,{ obs:=[(3,f)] })] [.cl 0 C [] 3 true,.pf cz3]<|
.call (@F_qf_ok c.1 A) fun d h=>
.reg 7 [] [(2,hc h [] true),(6,{ obs:=[(4,f)] })] [.cl 0 h [] 4 true,.pf cz3]<|
 let o:=(cO (cO (g.2 != 0) (B.2 != 0)) (d.2 != 0))
.calld [o=false] dF (@F_q7_ok B.1 d.1) fun D i =>
 let p:=(cO o (!D))
.calld [p=false] dF (@F_q29_ok g.1) fun F j =>
.reg 8 [] [(13,hc i [] true),(18,hc j [] true)] [.clg 2 [o=false] i [] 5 true,.clg 0 [p=false] j [] 5 true]<|
.ite (cO p (F != 0)) (
.r false) (
.a 11 1 5 (@F_q14_ok c.1) fun q=>
.range (q.length:Int) q.length rfl (.slot 72) 74 [5,6,7,11,72,73] (fun (e:Bool)=>[(13,(vb e))]) (fun _=>[]) false (S_q1v_b1 c n v q) (fun e => 
.calld [e=false] dF (@F_q7_ok g.1 d.1) fun G l =>
 let s:=(cO e G)
.calld [s=true] dF (@F_q3s_ok) fun H m =>
.reg 16 [] [(4,hc l [] true),(7,hc m [] true)] [.clg 2 [e=false] l [] 5 true,.clg 0 [s=true] m [] 5 true]<|
.r (bif s then H else false)) id)
def F_q1v (a:(List Int)):=(S_q1v a).den
theorem F_q1v_ok {a:(List Int)}:FO (F_q1v a) 3 [(vl a)] [] vb NL:=fO (s:=S_q1v a) Tryz.func3
end
end Go.Proofs.YtgfgnhpecnmlpaaGreatDoor
