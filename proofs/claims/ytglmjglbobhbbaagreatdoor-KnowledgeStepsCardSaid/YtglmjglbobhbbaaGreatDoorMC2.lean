/- Texts P11p, P15, U17p, U27p, W4p, P13p, P12p, P16, W17, P17, P18, joined. -/
import Derived.Test.YtglmjglbobhbbaaGreatDoorMC1
namespace Go.Proofs.YtglmjglbobhbbaaGreatDoor
open _root_.Go.Proofs.Tryz
open Go.Ab
attribute [local irreducible] Go.Ab.tyAV Go.Ab.aw Go.Ab.aops Go.Ab.kReg Go.Ab.aThen Go.Ab.aBlk Go.Ab.acond Go.Ab.aguard Go.Ab.astep Go.Ab.AStepX Go.Ab.aRet
attribute [local irreducible] yE
theorem za9 (k:Nat):ACall prog 157 [.nils,.lit (.int .i64 0)] k [] .nils []:=by
 refine Bd func157 ntmps157 fun σ N hp hpn hk hkn hfree=>?_
 refine Wk ?_
 apply kQ
 ·simp (disch:=omega) [go_sem, *,-List.reduceReplicate]
  exact ⟨rfl,rfl,rfl,rfl⟩
 ·simp (disch:=omega) [go_sem, *,-List.reduceReplicate]
 exact W0
theorem zb6 (n:Nat) (h0:0 < n) (hn:n≤100000) (k:Nat):
  ACall prog 157 [.nils,.lit (.int .i64 n)] k [] (.ms k 0 34 0 0) [(k,.mrow 0 34 34 (List.replicate n zDiAV))]:=by
 have h1:¬ ((n:Int) < 0):=by omega
 have h2:(0:Int) < n:=by omega
 have hb:n * 80≤140737488355328:=by omega
 have hz:AV.agg [.nils,.nils,zd zeroTag]=zDiAV:=rfl
 refine Bd func157 ntmps157 fun σ N hp hpn hk hkn hfree=>?_
 refine Wk ?_
 apply kQ
 ·simp (disch:=omega) [go_sem, *,-List.reduceReplicate]
  exact ⟨rfl,rfl,rfl,rfl⟩
 ·simp (disch:=omega) [go_sem, *,-List.reduceReplicate]
 refine Wk ?_
 apply kQ
 ·simp (disch:=omega) [go_sem, *,-List.reduceReplicate]
  exact ⟨rfl,rfl,rfl,rfl⟩
 ·simp (disch:=omega) [go_sem, *,-List.reduceReplicate]
 refine Wk ?_
 apply zlA
 ·(simp (disch:=omega) [go_sem, *,-List.reduceReplicate];try first | rfl | exact ⟨rfl,rfl⟩ | exact ⟨rfl,rfl,rfl⟩)
 refine Wk ?_
 refine zQ (r0:=N+18) (by simp (disch:=omega) [go_sem, *,-List.reduceReplicate];rfl) oo (by simp (disch:=omega) [go_sem];try rfl) (fun id hid=>by simp (disch:=omega) only [zg];try exact hlow id hid) (by simp (disch:=omega) only [zr];rfl) (by simp (disch:=omega) [go_sem])
theorem jF (k:Nat):ACall prog 93 [.slice none [.slice none [],.slice none []]] k [] (.slice none []) []:=by
 have c1:=za9
 refine Bd func93 ntmps93 fun σ N hp hpn hk hkn hfree=>?_
 refine Wk ?_
 refine ze zi (by kernel_rfl) [3,5,11,12,13,14,15,16,17,18,19,20,21,22] [] (fun m_ s_ σ_ n_=>∃ (i:Nat),m_=2 - i∧s_ 11=.lit (.int .i64 i)∧s_ 3=.lit (.int .i64 0)∧(i=0∨i=1∨i=2)) ⟨_,0,rfl,WF,WF,WC⟩ ?_
 intro m_1 s_1 σ_1 n_1 hs_1 hf_1 hn_1 hI_1
 obtain ⟨i,hm_1,h1_11,h1_3,hi⟩:=hI_1
 have h1_0:=KS hs_1 0
 have h1_2:=KS hs_1 2
 have h1_9:=KS hs_1 9
 have h1_10:=KS hs_1 10
 have hlow:=KL (N:=N) (σ:=σ) hf_1
 rcases hi with rfl | rfl | rfl
 ·refine Wk ?_
  exact ⟨WS,WG,WN,_,(show 2 - (1) < m_1 by omega),1,rfl,WF,WF,WC⟩
 ·refine Wk ?_
  exact ⟨WS,WG,WN,_,(show 2 - (2) < m_1 by omega),2,rfl,WF,WF,WC⟩
 ·have hcs:=And.intro c1 True.intro
  refine Wk ?_
  clear hcs
  refine ALoop.nilrow 6 34 34 (by simp (disch:=omega) [go_sem, *,-List.reduceReplicate]) ?_
  refine yn (N) zi (by kernel_rfl) [6,8,27,28,29,30,31,32,33,34] [] (fun m_ s_ σ_ n_=>∃ (i:Nat) (r:Nat),m_=2 - i∧s_ 27=.lit (.int .i64 i)∧s_ 6=.slice (some r) []∧σ_ (r)=.row 34 34 0∧(N+1≤r)∧(r < n_)∧(i=0∨i=1∨i=2)) ⟨_,0,_,rfl,WF,WF,WF,WC,WC,WC⟩ ?_
  intro m_2 s_2 σ_2 n_2 hs_2 hf_2 hn_2 hI_2
  obtain ⟨i,r,hm_2,h2_27,h2_6,e2_0,hNr,hrn,hi⟩:=hI_2
  have h2_2:=KS hs_2 2
  have h2_25:=KS hs_2 25
  have h2_26:=KS hs_2 26
  have hlow:=KL (N:=N) (σ:=σ) hf_2
  rcases hi with rfl | rfl | rfl
  ·refine Wk ?_
   exact ⟨WS,WG,WN,_,(show 2 - (1) < m_2 by omega),1,r,rfl,WF,WF,WF,WC,WC,WC⟩
  ·refine Wk ?_
   exact ⟨WS,WG,WN,_,(show 2 - (2) < m_2 by omega),2,r,rfl,WF,WF,WF,WC,WC,WC⟩
  ·exact WM
theorem jG (a b:List Di) (h0:0 < a.length+b.length) (hl:a.length+b.length≤100000) (k:Nat):
  ACall prog 93 [.slice none [.slice none (a.map zw),.slice none (b.map zw)]] k [] (.slice none ((a++b).map zw)) []:=by
 obtain ⟨la,hla⟩:∃ x,a.length=x:=⟨_,rfl⟩
 obtain ⟨lb,hlb⟩:∃ x,b.length=x:=⟨_,rfl⟩
 rw [hla,hlb] at h0 hl
 have c1:=zb6 (la+lb) h0 hl
 have hab:a.map zw++b.map zw=(a++b).map zw:=by rw [List.map_append]
 have hcl:(a++b).length=la+lb:=by rw [List.length_append,hla,hlb]
 generalize a++b=c at *
 refine Bd func93 ntmps93 fun σ N hp hpn hk hkn hfree=>?_
 refine Wk ?_
 refine ze zi (by kernel_rfl) [3,5,11,12,13,14,15,16,17,18,19,20,21,22] [] (fun m_ s_ σ_ n_=>∃ (i:Nat) (z:Int),m_=2 - i∧s_ 11=.lit (.int .i64 i)∧s_ 3=.lit (.int .i64 z)∧((i=0∧z=0)∨(i=1∧z=la)∨(i=2∧z=la+lb))) ⟨_,0,0,rfl,WF,WF,WC⟩ ?_
 intro m_3 s_3 σ_3 n_3 hs_3 hf_3 hn_3 hI_3
 obtain ⟨i,z,hm_3,h3_11,h3_3,hi⟩:=hI_3
 have h3_0:=KS hs_3 0
 have h3_2:=KS hs_3 2
 have h3_9:=KS hs_3 9
 have h3_10:=KS hs_3 10
 have hlow:=KL (N:=N) (σ:=σ) hf_3
 rcases hi with ⟨rfl,rfl⟩ | ⟨rfl,rfl⟩ | ⟨rfl,rfl⟩
 ·have hz:¬ ((la:Int) < 0):=by omega
  refine Wk ?_
  exact ⟨WS,WG,WN,_,(show 2 - (1) < m_3 by omega),1,la,rfl,WF,WF,WC⟩
 ·have hz:¬ ((la:Int)+lb < 0):=by omega
  refine Wk ?_
  exact ⟨WS,WG,WN,_,(show 2 - (2) < m_3 by omega),2,la+lb,rfl,WF,WF,WC⟩
 ·have hcs:=And.intro c1 True.intro
  refine Wk ?_
  refine ze zi (by kernel_rfl) [6,8,27,28,29,30,31,32,33,34] [n_3+2] (fun m_ s_ σ_ n_=>∃ (i:Nat) (v:Nat) (m:Nat) (xs:List AV),m_=2 - i∧s_ 27=.lit (.int .i64 i)∧s_ 6=.ms (n_3+2) v 34 0 m∧σ_ (n_3+2)=.mrow v 34 34 xs∧((i=0∧v=0∧m=0∧xs=List.replicate (la+lb) zDiAV)∨(i=1∧v=1∧la=m∧xs=a.map zw)∨(i=2∧v=2∧la+lb=m∧xs=c.map zw))) ⟨_,0,0,0,List.replicate (la+lb) zDiAV,rfl,WF,WF,WF,WC⟩ ?_
  intro m_4 s_4 σ_4 n_4 hs_4 hf_4 hn_4 hI_4
  obtain ⟨i,v,m,xs,hm_4,h4_27,h4_6,e4_0,hi⟩:=hI_4
  have h4_2:=KS hs_4 2
  have h4_25:=KS hs_4 25
  have h4_26:=KS hs_4 26
  have hlow:=KL (N:=N) (σ:=σ) hf_4
  rcases hi with ⟨rfl,rfl,rfl,rfl⟩ | ⟨rfl,rfl,rfl,rfl⟩ | ⟨rfl,rfl,rfl,rfl⟩
  ·have hbb:la * 80≤140737488355328:=by omega
   refine Wk ?_
   exact ⟨WS,WG,WN,_,(show 2 - (1) < m_4 by omega),1,1,la,a.map zw,rfl,WF,WF,WF,WC⟩
  ·have ht:(a.map zw).take la=a.map zw:=List.take_of_length_le (by simp [hla])
   have hbb:(la+lb) * 80≤140737488355328:=by omega
   refine Wk ?_
   exact ⟨WS,WG,WN,_,(show 2 - (2) < m_4 by omega),2,2,la+lb,c.map zw,rfl,WF,WF,WF,WC⟩
  ·clear hab
   refine qJ 6 (id:=n_3+2) (xs:=c.map zw) (k:=la+lb) e4_0 h4_6 (by rw [List.length_map,hcl]) ?_
   exact WM
theorem zan (a b:List Di) (hl:a.length+b.length≤100000) (k:Nat):
  ACall prog 93 [.slice none [.slice none (a.map zw),.slice none (b.map zw)]] k [] (.slice none ((a++b).map zw)) []:=by
 by_cases h:0 < a.length+b.length
 ·exact jG a b h hl k
 ·obtain rfl:a=[]:=List.length_eq_zero_iff.1 oo
  obtain rfl:b=[]:=List.length_eq_zero_iff.1 oo
  exact jF k
theorem KnC.learn {q:Kn} (h:KnC q) {p:Pa} (hp:PaC p) {L:List Di} (hL:∀ d∈L,WdT d.ticket d.conds) (h1:q.ps.length < 100000) (h2:q.ds.length+L.length≤100000):KnC ⟨q.ps++[p],q.ds++L,q.bs,q.its⟩:=
 ⟨by simp only [List.length_append,List.length_singleton];omega,fun x hx=>by
  rcases List.mem_append.1 hx with hx | hx
  ·exact h.pc x hx
  ·rw [List.mem_singleton.1 hx];exact hp,by simp only [List.length_append];omega,fun x hx=>by
  rcases List.mem_append.1 hx with hx | hx
  ·exact h.dc x hx
  ·exact hL x hx,h.bl,h.bc,h.il,h.ic⟩
set_option maxHeartbeats 1000000 in
theorem zeQ (q:Kn) (h:KnC q) (p:Pa) (hp:PaC p) (L:List Di) (hL:∀ d∈L,WdT d.ticket d.conds) (h1:q.ps.length < 32) (h2:q.ds.length+L.length≤32) (k:Nat):
  ACall prog 35 [xT q,zG p,.slice none (L.map zw)] k [] (.tup [xT ⟨q.ps++[p],q.ds++L,q.bs,q.its⟩,.lit (.int .i64 0)]) []:=by
 have c1:=zaR q.ps oo
 have c2:=zan q.ds L oo
 have c3:=qN ⟨q.ps++[p],q.ds++L,q.bs,q.its⟩ (h.learn hp hL oo oo)
 clear h hp hL
 obtain ⟨P,D,B,I⟩:=q
 unfold xT at *
 simp only at *
 have hp1:¬ (32:Int)≤(P.length:Int):=by omega
 have hp2:¬ (32:Int) < (D.length:Int)+(L.length:Int):=by omega
 have hb26:(P.length+1) * 72≤140737488355328:=by omega
 have hmm:P.map zG++[zG p]=(P++[p]).map zG:=by simp
 generalize P++[p]=P2 at *
 generalize D++L=D2 at *
 refine Bd func35 ntmps35 fun σ N hp hpn hk hkn hfree=>?_
 have hcs:=And.intro c1 (And.intro c2 (And.intro c3 True.intro))
 clear c1 c2 c3
 refine Wk ?_
 exact WD
theorem zqE (q:Kn) (p:Pa) (L:List Di) (hL:L.length≤1000000) (h:32≤q.ps.length∨32 < q.ds.length+L.length) (hd:q.ds.length≤1000000) (k:Nat):
  ACall prog 35 [xT q,zG p,.slice none (L.map zw)] k [] (.tup [.agg [.nils,.nils,.nils,.nils],.lit (.int .i64 2)]) []:=by
 obtain ⟨P,D,B,I⟩:=q
 unfold xT at *
 simp only at *
 by_cases h1:32≤P.length
 ·have hp1:(32:Int)≤(P.length:Int):=by omega
  refine Bd func35 ntmps35 fun σ N hp hpn hk hkn hfree=>?_
  exact W0
 ·have hp1:¬ (32:Int)≤(P.length:Int):=by omega
  have hp2:(32:Int) < (D.length:Int)+(L.length:Int):=by omega
  refine Bd func35 ntmps35 fun σ N hp hpn hk hkn hfree=>?_
  exact W0
def v7 (q:Kn) (p:Pa) (L:List Di):Kn × Nat:=if q.ps.length < 32∧q.ds.length+L.length≤32 then (⟨q.ps++[p],q.ds++L,q.bs,q.its⟩,0) else (⟨[],[],[],[]⟩,2)
theorem zpF (q:Kn) (h:KnC q) (p:Pa) (hp:PaC p) (L:List Di) (hL:∀ d∈L,WdT d.ticket d.conds) (hl:L.length≤1000000) (k:Nat):
  ACall prog 35 [xT q,zG p,.slice none (L.map zw)] k [] (.tup [xT (v7 q p L).1,.lit (.int .i64 (v7 q p L).2)]) []:=by
 unfold v7
 by_cases hc:q.ps.length < 32∧q.ds.length+L.length≤32
 ·rw [if_pos hc];exact zeQ q h p hp L hL hc.1 hc.2 k
 ·rw [if_neg hc]
  exact (zqE q p L hl oo (by have:=h.dl;omega) k).result (AV.sub_tup (.cons (AV.sub_agg (.cons AV.le_nils0 (.cons AV.le_nils0 (.cons AV.le_nils0 (.cons AV.le_nils0 .nil))))) (.cons (AV.le_refl _) .nil)))
theorem zco (p:Pa) (hp:p.cavs.length≤100000∧∀ c∈p.cavs,wY c) (k:Nat):
  ACall prog 35 [xT ⟨[],[],[],[]⟩,zG p,.slice none []] k [] (.tup [xT ⟨[p],[],[],[]⟩,.lit (.int .i64 0)]) []:=
 zeQ ⟨[],[],[],[]⟩ ⟨by simp,fun x hx=>(by cases hx),by simp,fun x hx=>(by cases hx),by simp,fun x hx=>(by cases hx),by simp,fun x hx=>(by cases hx)⟩ p hp [] (fun d hd=>by cases hd) (by simp) (by simp) k
section
variable [W:W32]
set_option maxHeartbeats 8000000 in
theorem zcv (a:Alg) (m:Nat) (ha:AlgIn a m) (hm:m≤900000) (p:Pa) (hpl:p.cavs.length≤10000) (hpc:∀ x∈p.cavs,wY x) (x:Pr) (hx:PrOk x) (h0:(zY a 0 p (zR x)).2.1=0) (q r1 r2 g h k:Nat):
  ACall prog 100 [.ptr q [] 0,zG p,.slice none [zU x]] k (vA a 0 q r1 r2++[(g,yE),(h,zS)]) (zG (zY a 0 p (zR x)).2.2) [(q,zcM (zY a 0 p (zR x)).1 0 r1 r2),(r1,zfk (zY a 0 p (zR x)).1.macs.length)]:=by
 have c1:=jl a m ha hm 0 p hpl hpc (zR x) ⟨by simp [zR],by simp [zR]⟩ hx q r1 r2 g h
 rw [h0] at c1
 have hbx:(zY a 0 p (zR x)).1.boxes=a.boxes:=by unfold zY;simp only [wa]
 generalize zY a 0 p (zR x)=X at *
 obtain ⟨a1,e1,p1⟩:=X
 simp only at c1 hbx h0 ⊢
 have c2:=kF a1 q r1 r2
 have hfA:z8 (zR x)=.agg [.lit (.bool false),zU x,.lit (.int .i64 0),.slice none [],.slice none []]:=rfl
 rw [hfA] at c1
 have hs1:=xv p
 have hs2:=yw p
 have hs3:=xv p1
 have hs4:=yw p1
 clear ha hpl hpc hx h0 hfA
 unfold vA at *
 simp only [List.cons_append,List.nil_append] at *
 simp only [zW,zP,zO,hbx] at *
 have e00:((0:Nat):Int)=0:=rfl
 simp only [e00] at *
 clear e00 hbx
 refine Bd func100 ntmps100 fun σ N hp hpn hk hkn hfree=>?_
 simp only [List.mem_cons,List.not_mem_nil,or_false,forall_eq_or_imp,forall_eq] at hp hpn
 obtain ⟨hd1,hd2,hd3,hd4,hd5⟩:=hp
 obtain ⟨hdn1,hdn2,hdn3,hdn4,hdn5⟩:=hpn
 have hne:q≠r1:=by rintro rfl;rw [hd1] at hd2;cases hd2
 have hne3:q≠r2:=by rintro rfl;rw [hd1] at hd3;cases hd3
 have hneg:g≠q:=by rintro rfl;rw [hd4] at hd1;exact ya hd1
 have hneg1:g≠r1:=by rintro rfl;rw [hd4] at hd2;exact yb hd2
 have hneh:h≠q:=by rintro rfl;rw [hd5] at hd1;exact v8 hd1
 have hneh1:h≠r1:=by rintro rfl;rw [hd5] at hd2;exact v9 hd2
 have hne23:r1≠r2:=by rintro rfl;rw [hd2] at hd3;simp at hd3
 refine Wk ?_
 refine ze zi (by kernel_rfl) [8,9,10,13,14,15,16,17,18,19,20,21,22,23,24,25,26,27,28,29] [N,q,r1] (fun m_ s_ σ_ n_=>∃ (u:Nat) (A:Alg) (P:Pa),m_=1 - u∧s_ 13=.lit (.int .i64 u)∧σ_ (N)=.box 30 (zG P)∧σ_ (q)=.box 249 (.agg [.agg [.lit (.bool A.free),zd A.seed,.lit (.int .i64 A.fresh),.slice (some r1) (A.macs.map zJ),.slice (some r2) (a.boxes.map zo)],.lit (.int .i64 0)])∧σ_ (r1)=.row 190 65 A.macs.length∧((u=0∧A=a∧P=p)∨(u=1∧A=a1∧P=p1))) ⟨_,0,a,p,rfl,WF,WF,WF,WF,WC⟩ ?_
 intro m_5 s_5 σ_5 n_5 hs_5 hf_5 hn_5 hI_5
 obtain ⟨u,A,P,hm_5,h5_13,e5_0,e5_1,e5_2,hu⟩:=hI_5
 have h5_0:=KS hs_5 0
 have h5_4:=KS hs_5 4
 have h5_6:=KS hs_5 6
 have h5_11:=KS hs_5 11
 have h5_12:=KS hs_5 12
 have k5_0:=KE hf_5 (N+1)
 have k5_1:=KE hf_5 (r2)
 have k5_2:=KE hf_5 (g)
 have k5_3:=KE hf_5 (h)
 have hlow:∀ id,id < N→id≠q→id≠r1→σ_5 id=σ id:=fun id hid hdd0 hdd1=>(hf_5.at id oo (by simp [hdd0,hdd1];try omega)).trans (by simp (disch:=omega) only [zg];try first | exact hlow id hid hdd0 hdd1 | exact hlow id hid)
 rcases hu with ⟨rfl,rfl,rfl⟩ | ⟨rfl,rfl,rfl⟩
 ·have hcs:=And.intro c1 (And.intro c2 True.intro)
  clear c1 c2
  refine Wk ?_
  clear hcs
  exact ⟨WS,WG,WN,_,(show 1 - (1) < m_5 by omega),1,a1,p1,rfl,WF,WF,WF,WF,WC⟩
 ·clear c1 c2
  refine Wk ?_
  refine yd [(q,(.box 249 (.agg [.agg [.lit (.bool A.free),zd A.seed,.lit (.int .i64 A.fresh),.slice (some r1) (A.macs.map zJ),.slice (some r2) (a.boxes.map zo)],.lit (.int .i64 0)]))),(r1,(.row 190 65 A.macs.length))] (by simp (disch:=omega) [go_sem, *,-List.reduceReplicate];rfl) (by first | rfl | (simp (disch:=omega) [go_sem];done) | (simp (disch:=omega) [go_sem, *];done) | simp (disch:=omega) [go_sem]) (fun id hid=>by simp only [zF,yi];(by_cases hdd:id=q;(· (subst hdd;simp (disch:=omega) [go_sem, *]));(· (by_cases hdd2:id=r1;(· (subst hdd2;simp (disch:=omega) [go_sem, *]));(· (simp (disch:=omega) only [zg];try (first | exact hlow id hid hdd hdd2 | exact hlow id hid))))))) (by simp) (by simp (disch:=omega) [go_sem, *])
omit W in
theorem zc9 (p:Pa) (k:Nat):ACall prog 61 [.agg [.slice none [zG p],.slice none []],.lit (.int .i64 0)] k [] (.tup [zG p,.lit (.bool true)]) []:=by
 have hs1:=xv p
 have hs2:=yw p
 refine Bd func61 ntmps61 fun σ N hp hpn hk hkn hfree=>?_
 refine Wk ?_
 exact WD
omit W in
theorem zca (p:Pa) (k:Nat):ACall prog 19 [.agg [.slice none [zG p],.slice none []],.lit (.int .i64 0)] k [] (.slice none []) []:=by
 have c1:=zc9 p
 have c2:=yx [] (by simp) (fun d hd=>by cases hd)
 rw [List.map_nil] at c2
 have hs1:=xv p
 have hs2:=yw p
 refine Bd func19 ntmps19 fun σ N hp hpn hk hkn hfree=>?_
 have hcs:=And.intro c1 True.intro
 clear c1
 refine Wk ?_
 clear hcs
 refine ze zi (by kernel_rfl) [7,9,10,11,21,22,23,24,25,26,27,28,29,30,31,32,33,34,35,36,37,38] [] (fun m_ s_ σ_ n_=>∃ (u:Nat),m_=0 - u∧s_ 21=.lit (.int .i64 u)∧s_ 7=.nils∧(u≤0)) ⟨_,0,rfl,WF,WF,WC⟩ ?_
 intro m_6 s_6 σ_6 n_6 hs_6 hf_6 hn_6 hI_6
 obtain ⟨u,hm_6,h6_21,h6_7,hu⟩:=hI_6
 have h6_4:=KS hs_6 4
 have h6_5:=KS hs_6 5
 have h6_19:=KS hs_6 19
 have h6_20:=KS hs_6 20
 have hlow:=KL (N:=N) (σ:=σ) hf_6
 obtain rfl:u=0:=by omega
 have hcs:=And.intro c2 True.intro
 clear c2
 exact WM
omit W in
theorem zbj (p x:Pa) (k:Nat):ACall prog 106 [xT ⟨[p],[],[],[]⟩,zG x] k [] (.slice none []) []:=by
 have c1:=zca x
 have hs1:=xv x
 have hs2:=yw x
 unfold xT
 simp only [List.map_nil,List.map_cons]
 refine Bd func106 ntmps106 fun σ N hp hpn hk hkn hfree=>?_
 have hcs:=And.intro c1 True.intro
 clear c1
 refine Wk ?_
 clear hcs
 refine ze zi (by kernel_rfl) [5,7,15,16,17,18,19,20,21,22,23,24,25,26,27] [] (fun m_ s_ σ_ n_=>∃ (u:Nat),m_=0 - u∧s_ 15=.lit (.int .i64 u)∧s_ 5=.nils∧(u≤0)) ⟨_,0,rfl,WF,WF,WC⟩ ?_
 intro m_7 s_7 σ_7 n_7 hs_7 hf_7 hn_7 hI_7
 obtain ⟨u,hm_7,h7_15,h7_5,hu⟩:=hI_7
 have h7_4:=KS hs_7 4
 have h7_13:=KS hs_7 13
 have h7_14:=KS hs_7 14
 have hlow:=KL (N:=N) (σ:=σ) hf_7
 obtain rfl:u=0:=by omega
 exact WM
set_option maxHeartbeats 4000000 in
theorem zck (a:Alg) (m:Nat) (ha:AlgIn a m) (hm:m≤40000) (p:Pa) (hpl:p.cavs.length≤50) (hpc:∀ x∈p.cavs,wY x) (x:Pr) (hx:PrOk x) (r:Rq) (h0:(zY a 0 p (zR x)).2.1=0)
  (hin:AlgIn (zY a 0 p (zR x)).1 (m+2)) (hb:BuIn (zE (zY a 0 p (zR x)).2.2 [] r)) (hk:yZ (zE (zY a 0 p (zR x)).2.2 [] r)=0) (hcm:∀ c∈(zY a 0 p (zR x)).2.2.cavs,wY c)
  (hbx:(zV (zY a 0 p (zR x)).1 (zY a 0 p (zR x)).2.2 [] r).1.boxes=a.boxes) (g h k:Nat) (_hgh:g≠h):
  ACall prog 49 [zA a,xT ⟨[p],[],[],[]⟩,.lit (.int .i64 0),.slice none [zU x],yD r] k [(g,yE),(h,zS)] (.tup [zA (zV (zY a 0 p (zR x)).1 (zY a 0 p (zR x)).2.2 [] r).1,ye (zV (zY a 0 p (zR x)).1 (zY a 0 p (zR x)).2.2 [] r).2,.lit (.int .i64 0)]) []:=by
 have cb:=wK a (by have:=ha.ml;omega) (by have:=ha.bl;omega)
 have c1:=fun q r1 r2=>zcv a m ha oo p oo hpc x hx h0 q r1 r2 g h
 have c2:=zbj p (zY a 0 p (zR x)).2.2
 have c3:=fun q r1 r2=>kA (zY a 0 p (zR x)).1 (m+2) hin (zY a 0 p (zR x)).2.2 [] r (by simp) oo hb hk hcm (fun d hd=>by cases hd) q r1 r2 g h
 have hbx1:(zY a 0 p (zR x)).1.boxes=a.boxes:=by unfold zY;simp only [wa]
 rw [List.map_nil] at c3
 generalize zV (zY a 0 p (zR x)).1 (zY a 0 p (zR x)).2.2 [] r=Z at *
 generalize zY a 0 p (zR x)=X at *
 obtain ⟨a1,e1,p1⟩:=X
 obtain ⟨a2,b2⟩:=Z
 simp only at *
 have cd:=kF a2
 have hkA:xT ⟨[p],[],[],[]⟩=.agg [.slice none [zG p],.slice none [],.slice none [],.slice none []]:=rfl
 have hs1:=xv p
 have hs2:=yw p
 have hs3:=xv p1
 have hs4:=yw p1
 rw [hkA] at c2 ⊢
 clear ha hpl hpc hx h0 hin hb hk hcm hkA
 unfold zbN at cb
 unfold vA at c1 c3 cd
 simp only [List.cons_append,List.nil_append] at *
 simp only [zW,zP,zO,hbx,hbx1] at *
 refine Bd func49 ntmps49 fun σ N hp hpn hk hkn hfree=>?_
 simp only [List.mem_cons,List.not_mem_nil,or_false,forall_eq_or_imp,forall_eq] at hp hpn;obtain ⟨hd1,hd2⟩:=hp;obtain ⟨hdn1,hdn2⟩:=hpn
 have hcs:=And.intro cb True.intro
 refine Wm ?_
 iterate 3 refine Wz ?_
 clear hcs
 refine zL (N+15+1) [0,3] 190 65 (bt:=249) (c:=.agg [.agg [.lit (.bool a.free),zd a.seed,.lit (.int .i64 a.fresh),.clip (a.macs.map zJ),.clip (a.boxes.map zo)],.lit (.int .i64 ((0:Nat):Int))]) (xs:=a.macs.map zJ) (by simp (disch:=omega) [go_sem, *,-List.reduceReplicate]) rfl (vg _) ?_;refine zL (N+15+1) [0,4] 192 35 (bt:=249) (c:=.agg [.agg [.lit (.bool a.free),zd a.seed,.lit (.int .i64 a.fresh),.slice (some (N+15+3)) (a.macs.map zJ),.clip (a.boxes.map zo)],.lit (.int .i64 ((0:Nat):Int))]) (xs:=a.boxes.map zo) (by simp (disch:=omega) [go_sem, *,-List.reduceReplicate]) rfl (xC _) ?_
 have hcs:=And.intro (c1 (N+15+1) (N+15+3) (N+15+3+1)) (And.intro c2 (And.intro (c3 (N+15+1) (N+15+3) (N+15+3+1)) (And.intro (cd (N+15+1) (N+15+3) (N+15+3+1)) True.intro)))
 clear cb c1 c2 c3 cd
 refine Wk ?_
 exact WD
end
end Go.Proofs.YtglmjglbobhbbaaGreatDoor
namespace Go.Proofs.YtglmjglbobhbbaaGreatDoor
open _root_.Go.Proofs.Tryz
open Go.Ab
attribute [local irreducible] Go.Ab.tyAV Go.Ab.aw Go.Ab.aops Go.Ab.kReg Go.Ab.aThen Go.Ab.aBlk Go.Ab.acond Go.Ab.aguard Go.Ab.astep Go.Ab.AStepX Go.Ab.aRet
theorem kX (l:List Pa) (hl:l.length≤1000000) (hc:∀ x∈l,PaC x) (k:Nat):
  ACall prog 55 [.slice none (l.map zG),.slice none (l.map zG)] k [] (.lit (.bool true)) []:=by
 refine Bd func55 ntmps55 fun σ N hp hpn hk hkn hfree=>?_
 refine Wk ?_
 refine ze zi (by kernel_rfl) [4,5,11,12,13,14,15,16,17,18,19,20,21,22,23,24,25,26] [] (fun m_ s_ σ_ n_=>∃ (u:Nat),m_=l.length - u∧s_ 5=.lit (.int .i64 u)∧(u≤l.length)) ⟨_,0,rfl,WF,WC⟩ ?_
 intro m_1 s_1 σ_1 n_1 hs_1 hf_1 hn_1 hI_1
 obtain ⟨u,hm_1,h1_5,hu⟩:=hI_1
 have h1_0:=KS hs_1 0
 have h1_1:=KS hs_1 1
 have hlow:=KL (N:=N) (σ:=σ) hf_1
 by_cases hul:u=l.length
 ·subst hul
  clear hc
  exact W0
 ·have hu1:u < l.length:=by omega
  have hmz:=hc _ (List.getElem_mem hu1)
  obtain ⟨z,hz⟩:∃ z,l[u]=z:=⟨_,rfl⟩
  rw [hz] at hmz
  have hzm:(l.map zG)[u]?=some (zG z):=by rw [List.getElem?_map,List.getElem?_eq_getElem hu1,hz];rfl
  have c1:=zat z hmz.1 hmz.2
  clear hc hmz
  have hcs:=And.intro c1 True.intro
  clear c1
  refine Wk ?_
  exact ⟨WS,WG,WN,_,(show l.length - (u+1) < m_1 by omega),u+1,rfl,WF,WC⟩
theorem wU (l:List Di) (hl:l.length≤1000000) (hc:∀ x∈l,WdT x.ticket x.conds) (k:Nat):
  ACall prog 56 [.slice none (l.map zw),.slice none (l.map zw)] k [] (.lit (.bool true)) []:=by
 refine Bd func56 ntmps56 fun σ N hp hpn hk hkn hfree=>?_
 refine Wk ?_
 refine ze zi (by kernel_rfl) [4,5,11,12,13,14,15,16,17,18,19,20,21,22,23,24,25,26] [] (fun m_ s_ σ_ n_=>∃ (u:Nat),m_=l.length - u∧s_ 5=.lit (.int .i64 u)∧(u≤l.length)) ⟨_,0,rfl,WF,WC⟩ ?_
 intro m_2 s_2 σ_2 n_2 hs_2 hf_2 hn_2 hI_2
 obtain ⟨u,hm_2,h2_5,hu⟩:=hI_2
 have h2_0:=KS hs_2 0
 have h2_1:=KS hs_2 1
 have hlow:=KL (N:=N) (σ:=σ) hf_2
 by_cases hul:u=l.length
 ·subst hul
  clear hc
  exact W0
 ·have hu1:u < l.length:=by omega
  have hmz:=hc _ (List.getElem_mem hu1)
  obtain ⟨z,hz⟩:∃ z,l[u]=z:=⟨_,rfl⟩
  rw [hz] at hmz
  have hzm:(l.map zw)[u]?=some (zw z):=by rw [List.getElem?_map,List.getElem?_eq_getElem hu1,hz];rfl
  have c1:=ziG z hmz
  clear hc hmz
  have hcs:=And.intro c1 True.intro
  clear c1
  refine Wk ?_
  exact ⟨WS,WG,WN,_,(show l.length - (u+1) < m_2 by omega),u+1,rfl,WF,WC⟩
theorem zkf (l:List It) (hl:l.length≤1000000) (hc:∀ x∈l,x.box.length≤140737488351232) (k:Nat):
  ACall prog 94 [.slice none (l.map xm),.slice none (l.map xm)] k [] (.lit (.bool true)) []:=by
 refine Bd func94 ntmps94 fun σ N hp hpn hk hkn hfree=>?_
 refine Wk ?_
 refine ze zi (by kernel_rfl) [4,5,11,12,13,14,15,16,17,18,19,20,21,22,23,24,25,26] [] (fun m_ s_ σ_ n_=>∃ (u:Nat),m_=l.length - u∧s_ 5=.lit (.int .i64 u)∧(u≤l.length)) ⟨_,0,rfl,WF,WC⟩ ?_
 intro m_3 s_3 σ_3 n_3 hs_3 hf_3 hn_3 hI_3
 obtain ⟨u,hm_3,h3_5,hu⟩:=hI_3
 have h3_0:=KS hs_3 0
 have h3_1:=KS hs_3 1
 have hlow:=KL (N:=N) (σ:=σ) hf_3
 by_cases hul:u=l.length
 ·subst hul
  clear hc
  exact W0
 ·have hu1:u < l.length:=by omega
  have hmz:=hc _ (List.getElem_mem hu1)
  obtain ⟨z,hz⟩:∃ z,l[u]=z:=⟨_,rfl⟩
  rw [hz] at hmz
  have hzm:(l.map xm)[u]?=some (xm z):=by rw [List.getElem?_map,List.getElem?_eq_getElem hu1,hz];rfl
  have c1:=zt7 z hmz
  clear hc hmz
  have hcs:=And.intro c1 True.intro
  clear c1
  refine Wk ?_
  exact ⟨WS,WG,WN,_,(show l.length - (u+1) < m_3 by omega),u+1,rfl,WF,WC⟩
theorem zt6 (z:Bu) (h:BuC z) (k:Nat):ACall prog 48 [ye z,ye z] k [] (.lit (.bool true)) []:=by
 obtain ⟨⟨g,n⟩,ep,se,L,tg,D⟩:=z
 have hdl:=h.dl
 have hds:=h.ds
 have c1:=kg L L h.cs h.cs (by have:=h.cl;simp only at this;omega) (by have:=h.cl;simp only at this;omega)
 rw [decide_eq_true rfl] at c1
 clear h
 simp only [ye,yD] at *
 refine Bd func48 ntmps48 fun σ N hp hpn hk hkn hfree=>?_
 have hcs:=And.intro c1 True.intro
 clear c1
 refine Wk ?_
 clear hcs
 refine ze zi (by kernel_rfl) [4,5,49,50,51,52,53,54,55,56,57,58,59,60,61,62,63,64,65,66,67] [] (fun m_ s_ σ_ n_=>∃ (u:Nat),m_=D.length - u∧s_ 5=.lit (.int .i64 u)∧(u≤D.length)) ⟨_,0,rfl,WF,WC⟩ ?_
 intro m_4 s_4 σ_4 n_4 hs_4 hf_4 hn_4 hI_4
 obtain ⟨u,hm_4,h4_5,hu⟩:=hI_4
 have h4_2:=KS hs_4 2
 have h4_3:=KS hs_4 3
 have k4_0:=KE hf_4 (N)
 have k4_1:=KE hf_4 (N+1)
 have hlow:=KL (N:=N) (σ:=σ) hf_4
 by_cases hul:u=D.length
 ·subst hul
  exact W0
 ·have hlt:u < D.length:=by omega
  obtain ⟨z,hz⟩:∃ z,D[u]=z:=⟨_,rfl⟩
  have hm:=hds z (by rw [← hz];exact List.getElem_mem _)
  have c2:=zpI z hm
  clear hds hm
  have hcs:=And.intro c2 True.intro
  clear c2
  refine Wk ?_
  clear hcs
  exact ⟨WS,WG,WN,_,(show D.length - (u+1) < m_4 by omega),u+1,rfl,WF,WC⟩
theorem zfr (q:Kn) (h:KnC q) (k:Nat):ACall prog 36 [xT q,xT q] k [] (.lit (.bool true)) []:=by
 have c1:=kX q.ps (by have:=h.pl;omega) h.pc
 have c2:=wU q.ds (by have:=h.dl;omega) h.dc
 have c3:=zkf q.its (by have:=h.il;omega) h.ic
 have hbl:=h.bl
 have hbc:=h.bc
 clear h
 obtain ⟨P,D,B,I⟩:=q
 unfold xT
 simp only at *
 refine Bd func36 ntmps36 fun σ N hp hpn hk hkn hfree=>?_
 have hcs:=And.intro c1 (And.intro c2 (And.intro c3 True.intro))
 clear c1 c2 c3
 refine Wk ?_
 clear hcs
 refine ze zi (by kernel_rfl) [4,5,37,38,39,40,41,42,43,44,45,46,47,48,49,50,51,52,53,54,55] [] (fun m_ s_ σ_ n_=>∃ (u:Nat),m_=B.length - u∧s_ 5=.lit (.int .i64 u)∧(u≤B.length)) ⟨_,0,rfl,WF,WC⟩ ?_
 intro m_5 s_5 σ_5 n_5 hs_5 hf_5 hn_5 hI_5
 obtain ⟨u,hm_5,h5_5,hu⟩:=hI_5
 have h5_2:=KS hs_5 2
 have h5_3:=KS hs_5 3
 have k5_0:=KE hf_5 (N)
 have k5_1:=KE hf_5 (N+1)
 have hlow:=KL (N:=N) (σ:=σ) hf_5
 by_cases hul:u=B.length
 ·subst hul
  clear hbc
  exact W0
 ·have hu1:u < B.length:=by omega
  obtain ⟨z,hz⟩:∃ z,B[u]=z:=⟨_,rfl⟩
  have hzm:(B.map ye)[u]?=some (ye z):=by rw [List.getElem?_map,List.getElem?_eq_getElem hu1,hz];rfl
  have c1:=zt6 z (hbc z (by rw [← hz];exact List.getElem_mem _))
  clear hbc
  have hcs:=And.intro c1 True.intro
  clear c1
  refine Wk ?_
  clear hcs
  exact ⟨WS,WG,WN,_,(show B.length - (u+1) < m_5 by omega),u+1,rfl,WF,WC⟩
theorem zow (q:Kn) (b:Bu) (hl:q.bs.length < 64) (k:Nat):ACall prog 33 [xT q,ye b] k [] (xT ⟨q.ps,q.ds,q.bs++[b],q.its⟩) []:=by
 obtain ⟨P,D,B,I⟩:=q
 unfold xT
 simp only at *
 have hb26:(B.length+1) * 112≤140737488355328:=by omega
 have hb27:B.length * 112≤140737488355328:=by omega
 have hli:¬ (64:Int) < (B.length:Int)+1:=by omega
 have hmm:B.map ye++[ye b]=(B++[b]).map ye:=by simp
 have hll:(B++[b]).length=B.length+1:=by simp
 generalize B++[b]=L2 at *
 refine Bd func33 ntmps33 fun σ N hp hpn hk hkn hfree=>?_
 exact WA
theorem zov (q:Kn) (b:Bu) (hl:64≤q.bs.length) (hl2:q.bs.length≤100000) (k:Nat):ACall prog 33 [xT q,ye b] k [] (xT ⟨q.ps,q.ds,(q.bs++[b]).drop 1,q.its⟩) []:=by
 obtain ⟨P,D,B,I⟩:=q
 unfold xT
 simp only at *
 have hb26:(B.length+1) * 112≤140737488355328:=by omega
 have hb27:B.length * 112≤140737488355328:=by omega
 have hli:(64:Int) < (B.length:Int)+1:=by omega
 have hmm:B.map ye++[ye b]=(B++[b]).map ye:=by simp
 have hll:(B++[b]).length=B.length+1:=by simp
 have hdd:((B++[b]).map ye).drop 1=((B++[b]).drop 1).map ye:=by rw [List.map_drop]
 have hdk:((B++[b]).map ye).take (B.length+1)=(B++[b]).map ye:=List.take_of_length_le (by simp)
 have hd2:((B++[b]).map ye).tail=((B++[b]).drop 1).map ye:=by rw [← hdd,List.drop_one]
 have hd3:(B++[b]).tail=(B++[b]).drop 1:=by rw [List.drop_one]
 have hdl:((B++[b]).drop 1).length=B.length:=by simp
 generalize (B++[b]).drop 1=L3 at *
 generalize B++[b]=L2 at *
 refine Bd func33 ntmps33 fun σ N hp hpn hk hkn hfree=>?_
 exact WA
theorem zeD (q:Kn) (b:Bu) (hl2:q.bs.length≤100000) (k:Nat):ACall prog 33 [xT q,ye b] k [] (xT ⟨q.ps,q.ds,xy q.bs b,q.its⟩) []:=by
 unfold xy
 by_cases h:q.bs.length < 64
 ·rw [if_pos h];exact zow q b h k
 ·rw [if_neg h];exact zov q b oo hl2 k
theorem zjN (q:Kn) (b:It) (hl:q.its.length < 64) (k:Nat):ACall prog 32 [xT q,xm b] k [] (xT ⟨q.ps,q.ds,q.bs,q.its++[b]⟩) []:=by
 obtain ⟨P,D,C,B⟩:=q
 unfold xT
 simp only at *
 have hb26:(B.length+1) * 112≤140737488355328:=by omega
 have hb27:B.length * 112≤140737488355328:=by omega
 have hli:¬ (64:Int) < (B.length:Int)+1:=by omega
 have hmm:B.map xm++[xm b]=(B++[b]).map xm:=by simp
 have hll:(B++[b]).length=B.length+1:=by simp
 generalize B++[b]=L2 at *
 refine Bd func32 ntmps32 fun σ N hp hpn hk hkn hfree=>?_
 exact WA
theorem zjM (q:Kn) (b:It) (hl:64≤q.its.length) (hl2:q.its.length≤100000) (k:Nat):ACall prog 32 [xT q,xm b] k [] (xT ⟨q.ps,q.ds,q.bs,(q.its++[b]).drop 1⟩) []:=by
 obtain ⟨P,D,C,B⟩:=q
 unfold xT
 simp only at *
 have hb26:(B.length+1) * 112≤140737488355328:=by omega
 have hb27:B.length * 112≤140737488355328:=by omega
 have hli:(64:Int) < (B.length:Int)+1:=by omega
 have hmm:B.map xm++[xm b]=(B++[b]).map xm:=by simp
 have hll:(B++[b]).length=B.length+1:=by simp
 have hdd:((B++[b]).map xm).drop 1=((B++[b]).drop 1).map xm:=by rw [List.map_drop]
 have hdk:((B++[b]).map xm).take (B.length+1)=(B++[b]).map xm:=List.take_of_length_le (by simp)
 have hd2:((B++[b]).map xm).tail=((B++[b]).drop 1).map xm:=by rw [← hdd,List.drop_one]
 have hd3:(B++[b]).tail=(B++[b]).drop 1:=by rw [List.drop_one]
 have hdl:((B++[b]).drop 1).length=B.length:=by simp
 generalize (B++[b]).drop 1=L3 at *
 generalize B++[b]=L2 at *
 refine Bd func32 ntmps32 fun σ N hp hpn hk hkn hfree=>?_
 exact WA
theorem zcu (q:Kn) (b:It) (hl2:q.its.length≤100000) (k:Nat):ACall prog 32 [xT q,xm b] k [] (xT ⟨q.ps,q.ds,q.bs,xy q.its b⟩) []:=by
 unfold xy
 by_cases h:q.its.length < 64
 ·rw [if_pos h];exact zjN q b h k
 ·rw [if_neg h];exact zjM q b oo hl2 k
theorem zeC (q:Kn) (p:Pa) (L:List Di) (h1:q.ps.length < 32) (h2:q.ds.length+L.length≤32) (k:Nat):
  ACall prog 34 [xT q,zG p,.slice none (L.map zw)] k [] (.tup [xT ⟨q.ps++[p],q.ds++L,q.bs,q.its⟩,.lit (.int .i64 0)]) []:=by
 obtain ⟨P,D,B,I⟩:=q
 unfold xT
 simp only at *
 have hp1:¬ (32:Int) < (P.length:Int)+1:=by omega
 have hp2:¬ (32:Int) < (D.length:Int)+(L.length:Int):=by omega
 have hb1:(P.length+1) * 72≤140737488355328:=by omega
 have hb2:P.length * 72≤140737488355328:=by omega
 have hb3:D.length * 80≤140737488355328:=by omega
 have hb4:(D.length+L.length) * 80≤140737488355328:=by omega
 have hmm:P.map zG++[zG p]=(P++[p]).map zG:=by simp
 have hmd:D.map zw++L.map zw=(D++L).map zw:=by simp
 generalize P++[p]=P2 at *
 generalize D++L=D2 at *
 refine Bd func34 ntmps34 fun σ N hp hpn hk hkn hfree=>?_
 refine Wk ?_
 exact WD
theorem zhO (q:Kn) (p:Pa) (L:List Di) (hL:L.length≤1000000) (h:32≤q.ps.length∨32 < q.ds.length+L.length) (hp:q.ps.length≤1000000) (hd:q.ds.length≤1000000) (k:Nat):
  ACall prog 34 [xT q,zG p,.slice none (L.map zw)] k [] (.tup [.agg [.nils,.nils,.nils,.nils],.lit (.int .i64 2)]) []:=by
 obtain ⟨P,D,B,I⟩:=q
 unfold xT at *
 simp only at *
 by_cases h1:32≤P.length
 ·have hp1:(32:Int) < (P.length:Int)+1:=by omega
  refine Bd func34 ntmps34 fun σ N hp hpn hk hkn hfree=>?_
  exact W0
 ·have hp1:¬ (32:Int) < (P.length:Int)+1:=by omega
  have hp2:(32:Int) < (D.length:Int)+(L.length:Int):=by omega
  refine Bd func34 ntmps34 fun σ N hp hpn hk hkn hfree=>?_
  exact W0
theorem zct (q:Kn) (hp:q.ps.length≤1000000) (hd:q.ds.length≤1000000) (p:Pa) (L:List Di) (hl:L.length≤1000000) (k:Nat):
  ACall prog 34 [xT q,zG p,.slice none (L.map zw)] k [] (.tup [xT (v7 q p L).1,.lit (.int .i64 (v7 q p L).2)]) []:=by
 unfold v7
 by_cases hc:q.ps.length < 32∧q.ds.length+L.length≤32
 ·rw [if_pos hc];exact zeC q p L hc.1 hc.2 k
 ·rw [if_neg hc]
  exact (zhO q p L hl oo hp hd k).result (AV.sub_tup (.cons (AV.sub_agg (.cons AV.le_nils0 (.cons AV.le_nils0 (.cons AV.le_nils0 (.cons AV.le_nils0 .nil))))) (.cons (AV.le_refl _) .nil)))
set_option maxHeartbeats 4000000 in
theorem zm8 (q:Kn) (h:KnC q) (t:Tg) (k:Nat):ACall prog 38 [xT q,zd t] k [] (.lit (.bool (zka q t))) []:=by
 have hpl:=h.pl
 have hdl:=h.dl
 have hbl:=h.bl
 have hil:=h.il
 have hbc:∀ b∈q.bs,b.dis.length≤100000:=fun b hb=>(h.bc b hb).dl
 clear h
 obtain ⟨P,D,B,I⟩:=q
 unfold zka xT
 simp only at *
 obtain ⟨x4,hx4⟩:∃ x,(I.any fun d=>decide (d.tag=t))=x:=⟨_,rfl⟩
 obtain ⟨x3,hx3⟩:∃ x,(B.any (zbv t) || x4)=x:=⟨_,rfl⟩
 obtain ⟨x2,hx2⟩:∃ x,((D.any fun d=>decide (d.tag=t)) || x3)=x:=⟨_,rfl⟩
 obtain ⟨x1,hx1⟩:∃ x,((P.any fun d=>decide (d.tag=t)) || x2)=x:=⟨_,rfl⟩
 rw [hx4,hx3,hx2,hx1]
 have hP0:((P.drop 0).any fun d=>decide (d.tag=t))=(P.any fun d=>decide (d.tag=t)):=rfl
 have hD0:((D.drop 0).any fun d=>decide (d.tag=t))=(D.any fun d=>decide (d.tag=t)):=rfl
 have hB0:(B.drop 0).any (zbv t)=B.any (zbv t):=rfl
 have hI0:((I.drop 0).any fun d=>decide (d.tag=t))=(I.any fun d=>decide (d.tag=t)):=rfl
 rw [← hP0] at hx1
 rw [← hD0] at hx2
 rw [← hB0] at hx3
 rw [← hI0] at hx4
 clear hP0 hD0 hB0 hI0
 refine Bd func38 ntmps38 fun σ N hp hpn hk hkn hfree=>?_
 refine Wk ?_
 refine ze zi (by kernel_rfl) [4,5,10,11,12,13,14,15,16,17,18,19,20,21,22,23,24] [] (fun m_ s_ σ_ n_=>∃ (u:Nat),m_=P.length - u∧s_ 5=.lit (.int .i64 u)∧(u≤P.length)∧((((P.drop u).any fun d=>decide (d.tag=t)) || x2)=x1)) ⟨_,0,rfl,WF,WC,WC⟩ ?_
 intro m_6 s_6 σ_6 n_6 hs_6 hf_6 hn_6 hI_6
 obtain ⟨u,hm_6,h6_5,hu,hno⟩:=hI_6
 have h6_2:=KS hs_6 2
 have h6_3:=KS hs_6 3
 have k6_0:=KE hf_6 (N)
 have k6_1:=KE hf_6 (N+1)
 have hlow:=KL (N:=N) (σ:=σ) hf_6
 clear hx1
 by_cases hul:u=P.length
 ·subst hul
  rw [List.drop_length,List.any_nil,Bool.false_or] at hno
  subst hno
  clear hpl
  refine Wk ?_
  refine ze zi (by kernel_rfl) [4,6,25,26,27,28,29,30,31,32,33,34,35,36,37,38,39] [] (fun m_ s_ σ_ n_=>∃ (u:Nat),m_=D.length - u∧s_ 6=.lit (.int .i64 u)∧(u≤D.length)∧((((D.drop u).any fun d=>decide (d.tag=t)) || x3)=x2)) ⟨_,0,rfl,WF,WC,WC⟩ ?_
  intro m_7 s_7 σ_7 n_7 hs_7 hf_7 hn_7 hI_7
  obtain ⟨u,hm_7,h7_6,hu,hno⟩:=hI_7
  have h7_2:=KS hs_7 2
  have h7_3:=KS hs_7 3
  have k7_0:=KE hf_7 (N)
  have k7_1:=KE hf_7 (N+1)
  have hlow:=KL (N:=N) (σ:=σ) hf_7
  clear hx2
  by_cases hul:u=D.length
  ·subst hul
   rw [List.drop_length,List.any_nil,Bool.false_or] at hno
   subst hno
   clear hdl
   refine Wk ?_
   refine ze zi (by kernel_rfl) [4,7,8,40,41,42,43,44,45,46,47,48,49,50,51,52,53,54,55,56,57,58,59,60,61,62,63,64,65,66,67,68,69,70,71,72,73,74,75,76,77] [] (fun m_ s_ σ_ n_=>∃ (u:Nat),m_=B.length - u∧s_ 7=.lit (.int .i64 u)∧(u≤B.length)∧(((B.drop u).any (zbv t) || x4)=x3)) ⟨_,0,rfl,WF,WC,WC⟩ ?_
   intro m_8 s_8 σ_8 n_8 hs_8 hf_8 hn_8 hI_8
   obtain ⟨u,hm_8,h8_7,hu,hno⟩:=hI_8
   have h8_2:=KS hs_8 2
   have h8_3:=KS hs_8 3
   have k8_0:=KE hf_8 (N)
   have k8_1:=KE hf_8 (N+1)
   have hlow:=KL (N:=N) (σ:=σ) hf_8
   clear hx3
   by_cases hul:u=B.length
   ·subst hul
    rw [List.drop_length,List.any_nil,Bool.false_or] at hno
    subst hno
    clear hbl hbc
    refine Wk ?_
    refine ze zi (by kernel_rfl) [4,9,78,79,80,81,82,83,84,85,86,87,88,89,90,91,92] [] (fun m_ s_ σ_ n_=>∃ (u:Nat),m_=I.length - u∧s_ 9=.lit (.int .i64 u)∧(u≤I.length)∧(((I.drop u).any fun d=>decide (d.tag=t))=x4)) ⟨_,0,rfl,WF,WC,WC⟩ ?_
    intro m_9 s_9 σ_9 n_9 hs_9 hf_9 hn_9 hI_9
    obtain ⟨u,hm_9,h9_9,hu,hno⟩:=hI_9
    have h9_2:=KS hs_9 2
    have h9_3:=KS hs_9 3
    have k9_0:=KE hf_9 (N)
    have k9_1:=KE hf_9 (N+1)
    have hlow:=KL (N:=N) (σ:=σ) hf_9
    clear hx4
    by_cases hul:u=I.length
    ·subst hul
     rw [List.drop_length,List.any_nil] at hno
     subst hno
     exact W0
    ·have hu1:u < I.length:=by omega
     rw [List.drop_eq_getElem_cons hu1,List.any_cons] at hno
     obtain ⟨z,hz⟩:∃ z,I[u]=z:=⟨_,rfl⟩
     rw [hz] at hno
     have hzm:(I.map xm)[u]?=some (.agg [.lit (.int .i64 z.place),.lit (.int .i64 z.kind),.lit (.int .i64 z.number),zd z.node,.slice none (z.box.map za),zd z.tag]):=by rw [List.getElem?_map,List.getElem?_eq_getElem hu1,hz];rfl
     by_cases ht:z.tag=t
     ·rw [decide_eq_true ht,Bool.true_or] at hno
      subst hno
      exact W0
     ·rw [decide_eq_false ht,Bool.false_or] at hno
      refine Wk ?_
      exact ⟨WS,WG,WN,_,(show I.length - (u+1) < m_9 by omega),u+1,rfl,WF,WC,WC⟩
   ·have hu1:u < B.length:=by omega
    rw [List.drop_eq_getElem_cons hu1,List.any_cons] at hno
    obtain ⟨z,hz⟩:∃ z,B[u]=z:=⟨_,rfl⟩
    have hzl:=hbc z (by rw [← hz];exact List.getElem_mem _)
    rw [hz] at hno
    clear hbc
    have hzm:(B.map ye)[u]?=some (.agg [yD z.req,.lit (.int .i64 z.epoch),.lit (.int .i64 z.serial),.slice none (z.cavs.map z8),zd z.proof,.slice none (z.dis.map zC)]):=by rw [List.getElem?_map,List.getElem?_eq_getElem hu1,hz];rfl
    unfold zbv at hno
    by_cases ht:z.proof=t
    ·rw [decide_eq_true ht,Bool.true_or,Bool.true_or] at hno
     subst hno
     exact W0
    ·rw [decide_eq_false ht,Bool.false_or] at hno
     have hno0:(((z.dis.drop 0).any fun d=>decide (d.proof=t)) || ((B.drop (u+1)).any (zbv t) || x4))=x3:=by rw [← hno,Bool.or_assoc];rfl
     clear hno
     refine Wk ?_
     refine ze zi (by kernel_rfl) [4,8,55,56,57,58,59,60,61,62,63,64,65,66,67,68,69,70,71,72,73,74,75,76,77] [] (fun m_ s_ σ_ n_=>∃ (w:Nat),m_=z.dis.length - w∧s_ 8=.lit (.int .i64 w)∧(w≤z.dis.length)∧((((z.dis.drop w).any fun d=>decide (d.proof=t)) || ((B.drop (u+1)).any (zbv t) || x4))=x3)) ⟨_,0,rfl,WF,WC,WC⟩ ?_
     intro m_10 s_10 σ_10 n_10 hs_10 hf_10 hn_10 hI_10
     obtain ⟨w,hm_10,h10_8,hw,hno⟩:=hI_10
     have h10_2:=KS hs_10 2
     have h10_3:=KS hs_10 3
     have h10_7:=KS hs_10 7
     have h10_40:=KS hs_10 40
     have h10_41:=KS hs_10 41
     have h10_42:=KS hs_10 42
     have h10_43:=KS hs_10 43
     have h10_44:=KS hs_10 44
     have h10_47:=KS hs_10 47
     have h10_48:=KS hs_10 48
     have h10_49:=KS hs_10 49
     have h10_50:=KS hs_10 50
     have h10_51:=KS hs_10 51
     have h10_52:=KS hs_10 52
     have h10_53:=KS hs_10 53
     have h10_54:=KS hs_10 54
     have k10_0:=KE hf_10 (N)
     have k10_1:=KE hf_10 (N+1)
     have hlow:=KL (N:=N) (σ:=σ) hf_10
     clear hno0
     by_cases hwl:w=z.dis.length
     ·subst hwl
      rw [List.drop_length,List.any_nil,Bool.false_or] at hno
      refine Wk ?_
      exact ⟨WS,WG,WN,_,(show B.length - (u+1) < m_8 by omega),u+1,rfl,WF,WC,WC⟩
     ·have hw1:w < z.dis.length:=by omega
      rw [List.drop_eq_getElem_cons hw1,List.any_cons] at hno
      obtain ⟨y,hy⟩:∃ y,z.dis[w]=y:=⟨_,rfl⟩
      rw [hy] at hno
      have hym:(z.dis.map zC)[w]?=some (.agg [.slice none (y.ticket.map za),.slice none (y.conds.map zU),zd y.proof]):=by rw [List.getElem?_map,List.getElem?_eq_getElem hw1,hy];rfl
      by_cases hyt:y.proof=t
      ·rw [decide_eq_true hyt,Bool.true_or,Bool.true_or] at hno
       subst hno
       exact W0
      ·rw [decide_eq_false hyt,Bool.false_or] at hno
       refine Wk ?_
       exact ⟨WS,WG,WN,_,(show z.dis.length - (w+1) < m_10 by omega),w+1,rfl,WF,WC,WC⟩
  ·have hu1:u < D.length:=by omega
   rw [List.drop_eq_getElem_cons hu1,List.any_cons] at hno
   obtain ⟨z,hz⟩:∃ z,D[u]=z:=⟨_,rfl⟩
   rw [hz] at hno
   have hzm:(D.map zw)[u]?=some (.agg [.slice none (z.ticket.map za),.slice none (z.conds.map zU),zd z.tag]):=by rw [List.getElem?_map,List.getElem?_eq_getElem hu1,hz];rfl
   by_cases ht:z.tag=t
   ·rw [decide_eq_true ht,Bool.true_or,Bool.true_or] at hno
    subst hno
    exact W0
   ·rw [decide_eq_false ht,Bool.false_or] at hno
    refine Wk ?_
    exact ⟨WS,WG,WN,_,(show D.length - (u+1) < m_7 by omega),u+1,rfl,WF,WC,WC⟩
 ·have hu1:u < P.length:=by omega
  rw [List.drop_eq_getElem_cons hu1,List.any_cons] at hno
  obtain ⟨z,hz⟩:∃ z,P[u]=z:=⟨_,rfl⟩
  rw [hz] at hno
  have hzm:(P.map zG)[u]?=some (.agg [.lit (.int .i64 z.epoch),.lit (.int .i64 z.serial),.slice none (z.cavs.map z8),zd z.tag]):=by rw [List.getElem?_map,List.getElem?_eq_getElem hu1,hz];rfl
  by_cases ht:z.tag=t
  ·rw [decide_eq_true ht,Bool.true_or,Bool.true_or] at hno
   subst hno
   exact W0
  ·rw [decide_eq_false ht,Bool.false_or] at hno
   refine Wk ?_
   exact ⟨WS,WG,WN,_,(show P.length - (u+1) < m_6 by omega),u+1,rfl,WF,WC,WC⟩
attribute [local irreducible] yE
theorem zfD {c:Ca} (h:xz c=true) (ht:c.ticket.length≤200) (hb:c.box.length≤200):(xk c).length≤409:=by
 cases CV.of h with
 | first p hp=>
  have:=(yS p hp).2
  simp only [xk,if_true,List.length_cons];omega
 | third n hn t b h1 h2=>
  simp only at ht hb
  have l1:=zh n 1 oo
  have l2:=zh t.length 2 oo
  have l3:=zh b.length 2 oo
  rw [xk,if_neg (by simp)]
  simp only [yg,List.length_cons,List.length_append,Int.toNat_natCast];omega
theorem kY {l:List Bo} (h:∀ i j (hi:i < l.length) (hj:j < l.length),(l[i]).ticket=(l[j]).ticket→i=j):∀ u,u≤l.length→twU l u=false
 | 0,_=>rfl
 | u+1,hu=>by
  rw [vf,kY h u oo,Bool.false_or,Bool.eq_false_iff]
  intro hx
  obtain ⟨x,hx1,hx2⟩:=List.any_eq_true.1 hx
  obtain ⟨i,hi,rfl⟩:=List.getElem_of_mem hx1
  rw [List.length_take] at hi
  rw [List.getElem_take,decide_eq_true_eq,List.getD_eq_getElem?_getD,List.getElem?_eq_getElem oo,Option.getD_some] at hx2
  have:=h i u oo oo hx2
  omega
section
variable [W:W32]
omit W in
theorem zg1 {L:List Ca} {gs:List Di} {r:Rq} {se:Int} {tg:Tg} (hr:rqB r=true) (s1:1≤se) (s2:se≤50) (cl:L.length≤5) (cv:∀ c∈L,xz c=true∧PrOk c.first∧c.ticket.length≤200∧c.box.length≤200) (th:yF L≤5) (gl:gs.length≤5) (gv:∀ g∈gs,DiV g)
  (gd:∀ i j (hi:i < gs.length) (hj:j < gs.length),(gs[i]).ticket=(gs[j]).ticket→i=j) (D:List Bo) (hD:D.length=gs.length) (hDg:∀ i (hi:i < gs.length) (hj:i < D.length),(D[i]).ticket=(gs[i]).ticket∧(D[i]).conds=(gs[i]).conds):
  BuIn ⟨r,2,se,L,tg,D⟩∧yZ ⟨r,2,se,L,tg,D⟩=0:=by
 have hmem:∀ d∈D,∃ g∈gs,d.ticket=g.ticket∧d.conds=g.conds:=fun d hd=>by
  obtain ⟨i,hi,rfl⟩:=List.getElem_of_mem hd
  obtain ⟨h1,h2⟩:=hDg i oo hi
  exact ⟨_,List.getElem_mem oo,h1,h2⟩
 have hI:BuIn ⟨r,2,se,L,tg,D⟩:=by
  refine ⟨by simp only;omega,by simp only;omega,fun c hc=>(cv c hc).2.1,fun d hd=>?_⟩
  obtain ⟨g,hg,h1,h2⟩:=hmem d hd
  have:=gv g hg
  exact ⟨by rw [h1];have:=this.t2;omega,by rw [h2];have:=this.cl;omega,fun p hp=>(this.cv p (by rw [← h2];exact hp)).2.1⟩
 refine ⟨hI,?_⟩
 have p1:wX ⟨r,2,se,L,tg,D⟩=false:=by
  unfold wX
  rw [hr]
  simp only [Bool.not_true,Bool.or_eq_false_iff,decide_eq_false_iff_not]
  refine ⟨trivial,by omega,by omega,by omega,by omega⟩
 have p2:qE ⟨r,2,se,L,tg,D⟩=false:=by
  unfold qE
  simp only [Bool.or_eq_false_iff,decide_eq_false_iff_not]
  refine ⟨by omega,by omega,by omega,?_⟩
  rw [List.any_eq_false]
  intro d hd
  obtain ⟨g,hg,h1,h2⟩:=hmem d hd
  have:=(gv g hg).cl
  unfold yQ
  rw [h2];simp;omega
 have p3:(L.any fun c=>!xz c)=false:=by
  rw [List.any_eq_false];intro c hc;rw [(cv c hc).1];simp
 have p4:D.any yr=false:=by
  rw [List.any_eq_false]
  intro d hd
  obtain ⟨g,hg,h1,h2⟩:=hmem d hd
  have hv:=gv g hg
  unfold yr
  rw [h1,h2]
  simp only [Bool.or_eq_true,decide_eq_true_eq,not_or,Bool.not_eq_true]
  refine ⟨⟨by have:=hv.t1;omega,by have:=hv.t2;omega⟩,?_⟩
  rw [List.any_eq_false];intro p hp;rw [(hv.cv p hp).1];simp
 have p5:D.any qv=false:=by
  rw [List.any_eq_false]
  intro d hd
  obtain ⟨g,hg,h1,h2⟩:=hmem d hd
  have hv:=gv g hg
  unfold qv
  rw [h2,Bool.not_eq_true,List.any_eq_false];intro p hp;have:=(hv.cv p hp).2.2;simpa using this
 have p6:twU D D.length=false:=kY (fun i j hi hj ht=>by
  rw [(hDg i oo hi).1,(hDg j oo hj).1] at ht
  exact gd i j oo oo ht) _ (Nat.le_refl _)
 have hP:z7 ⟨r,2,se,L,tg,D⟩=0:=by
  unfold z7
  rw [if_neg (by rw [p1];simp),if_neg (by rw [p2];simp),if_neg (by simp only [p3,p4];simp),if_neg (by simp only [p5];simp),if_neg (by simp only [p6];simp)]
 have hL:(vh ⟨r,2,se,L,tg,D⟩).length≤4096:=by
  obtain ⟨⟨r1,r2⟩,r3,r4⟩:=rqB_iff.1 hr
  have l1:=yk xk 409 L fun c hc=>zfD (cv c hc).1 (cv c hc).2.2.1 (cv c hc).2.2.2
  have l2:=yk yy 363 D fun d hd=>by
   obtain ⟨g,hg,h1,h2⟩:=hmem d hd
   have hv:=gv g hg
   have k1:=hv.t2
   have k2:=hv.cl
   have k3:=zh d.ticket.length 2 (by rw [h1];omega)
   have k4:=zh d.conds.length 7 (by rw [h2];omega)
   have k5:=yk xH 40 d.conds fun p hp=>(yS p (hv.cv p (by rw [← h2];exact hp)).1).2
   rw [h1] at k3
   rw [h2] at k4 k5
   unfold yy
   rw [h1,h2]
   simp only [yg,List.length_append,d.proof.2]
   omega
  have m1:=zh 1 7 oo
  have m2:=zh r.gate.toNat 7 oo
  have m3:=zh r.nonce.toNat 7 oo
  have m4:=zh (2:Int).toNat 7 (by decide)
  have m5:=zh se.toNat 7 oo
  have m6:=zh L.length 7 oo
  have m7:=zh D.length 7 oo
  unfold vh zbw
  simp only [List.length_append,List.flatMap_cons,List.flatMap_nil,List.length_nil,tg.2]
  omega
 unfold yZ
 rw [if_neg (by rw [hP];simp),if_neg oo]
end
section
variable [W:W32]
theorem xU {leaf:Tg} {r:Rq} (hr:rqB r=true):∀ (L:List Di) (u m:Nat) (a:Alg) (D:List Bo),AlgIn a m→m+L.length≤60000→(xj leaf r L u a D).1.boxes=a.boxes
 | [],_,_,_,_,_,_=>rfl
 | d::L,u,m,a,D,ha,hm=>by
  simp only [List.length_cons] at hm
  obtain ⟨h0,hB⟩:=vw ha oo d leaf hr
  have h1:=(xJ h0).2.2.2
  have h3:=yN ha d.tag (y8 leaf r.gate.toNat r.nonce.toNat)
  rw [xj,hB]
  simp only
  rw [xU hr L (u+1) (m+1) _ _ h3 oo]
  exact h1
theorem vo {a:Alg} {m:Nat} (ha:AlgIn a m) (p:Pa) (gs:List Di) {r:Rq} (hr:rqB r=true) (hm:m+gs.length≤50000):(zV a p gs r).1.boxes=a.boxes:=by
 have h0:=ka ha oo p hr
 have h1:(qa a p r).1.boxes=a.boxes:=(xJ h0).2.2.2
 have h3:AlgIn (qa a p r).1 (m+1):=yN ha _ _
 unfold zV
 simp only
 rw [xU hr gs 0 (m+1) _ _ h3 oo]
 exact h1
end
def yP (n:Int):Ca:=zR ⟨7,0,0,0,[],n⟩
section
variable [W:W32]
omit W in
theorem ziJ:zA aF=.agg [.lit (.bool true),zd zeroTag,.lit (.int .i64 0),.slice none [],.slice none []]:=rfl
omit W in
theorem qm {k:Tg} {m:List UInt8}:∀ {L:List MacE},(∀ e∈L,¬ (e.key=k∧e.msg=m))→zcG k m L=none
 | [],_=>rfl
 | e::r,h=>by
  rw [zcG,if_neg (h e (List.mem_cons_self ..))]
  exact qm fun x hx=>h x (List.mem_cons_of_mem _ hx)
def L4 (c:Ca):List MacE:=L2++[⟨vW 109 1,y9 c,vW 109 3⟩,⟨vW 109 3,nodeB,vW 109 4⟩]
omit W in
theorem zaf:yX 1≠nodeB:=by intro h;have:=congrArg List.head? h;simp [yX,nodeB] at this
omit W in
theorem zew (c:Ca):yX 1≠y9 c:=by intro h;have:=congrArg List.head? h;simp [yX,y9] at this
omit W in
theorem zbl (c:Ca):nodeB≠y9 c:=by intro h;have:=congrArg List.head? h;simp [nodeB,y9] at this
theorem ziM:zdF aF 1 zeroTag 1=(⟨true,zeroTag,0,L2,[]⟩,⟨1,1,[],vW 109 1⟩,0):=by
 have hl:=zcq 1 oo
 have h1:yJ aF zeroTag (yX 1)=(⟨true,zeroTag,0,[⟨zeroTag,yX 1,vW 109 1⟩],[]⟩,vW 109 1,0):=by
  rw [vV oo rfl (by decide)];rfl
 have h2:yJ ⟨true,zeroTag,0,[⟨zeroTag,yX 1,vW 109 1⟩],[]⟩ (vW 109 1) nodeB=(⟨true,zeroTag,0,L2,[]⟩,vW 109 2,0):=by
  rw [vV (by decide) (qm fun e he=>?_) (by decide)];rfl
  rw [List.mem_singleton.1 he]
  exact fun h=>zaf h.2
 unfold zdF
 rw [if_neg oo]
 have h3:=zdG (a:=aF) (key:=zeroTag) (msg:=yX 1) (by rw [h1]) (by rw [h1];simp only;rw [h2])
 rw [h1] at h3
 simp only at h3
 rw [h2] at h3
 rw [show (1:Int).toNat=1 from rfl,h3,if_pos rfl]
theorem zmt:zba ⟨true,zeroTag,0,L2,[]⟩ ⟨1,1,[],vW 109 1⟩ (yP 3)=(⟨true,zeroTag,0,L4 (yP 3),[]⟩,⟨1,1,[yP 3],vW 109 3⟩,0):=by
 have hl:=xP (yP 3)
 have h1:yJ ⟨true,zeroTag,0,L2,[]⟩ (vW 109 1) (y9 (yP 3))=(⟨true,zeroTag,0,L2++[⟨vW 109 1,y9 (yP 3),vW 109 3⟩],[]⟩,vW 109 3,0):=by
  rw [vV oo (qm fun e he=>?_) (by decide)];rfl
  simp only [L2,List.mem_cons,List.not_mem_nil,or_false] at he
  rcases he with rfl | rfl
  ·exact fun h=>zew _ h.2
  ·exact fun h=>zbl _ h.2
 have h2:yJ ⟨true,zeroTag,0,L2++[⟨vW 109 1,y9 (yP 3),vW 109 3⟩],[]⟩ (vW 109 3) nodeB=(⟨true,zeroTag,0,L4 (yP 3),[]⟩,vW 109 4,0):=by
  rw [vV (by decide) (qm fun e he=>?_) (by decide)];rfl
  simp only [L2,List.cons_append,List.nil_append,List.mem_cons,List.not_mem_nil,or_false] at he
  rcases he with rfl | rfl | rfl
  ·exact fun h=>zaf h.2
  ·exact fun h=>by have:=zg4 oo oo oo oo h.1;omega
  ·exact fun h=>zbl _ h.2.symm
 have h3:=zdG (a:=⟨true,zeroTag,0,L2,[]⟩) (key:=vW 109 1) (msg:=y9 (yP 3)) (by rw [h1]) (by rw [h1];simp only;rw [h2])
 rw [h1] at h3
 simp only at h3
 rw [h2] at h3
 unfold zba
 rw [if_neg (by decide),if_neg (by decide),h3,if_pos rfl]
 rfl
end
section
variable [W:W32]
def al31:Alg:=⟨true,zeroTag,0,L2,[]⟩
def pa31:Pa:=⟨1,1,[],vW 109 1⟩
theorem zh1:zdF aF 1 zeroTag 1=(al31,pa31,0):=ziM
def r31:Pr:=⟨7,0,0,0,[],3⟩
theorem zae:zY al31 0 pa31 (zR r31)=(⟨true,zeroTag,0,L4 (yP 3),[]⟩,0,⟨1,1,[yP 3],vW 109 3⟩):=by
 have h:=zau al31 pa31 (zR r31)
 have h2:zba al31 pa31 (zR r31)=(⟨true,zeroTag,0,L4 (yP 3),[]⟩,⟨1,1,[yP 3],vW 109 3⟩,0):=zmt
 rw [h2] at h
 generalize zY al31 0 pa31 (zR r31)=X at *
 obtain ⟨x1,x2,x3⟩:=X
 simp only at h
 by_cases h0:x2=0
 ·rw [if_pos h0] at h
  simp only [Prod.mk.injEq] at h
  rw [h0,← h.1,← h.2.1]
 ·rw [if_neg h0] at h
  simp only [Prod.mk.injEq] at h
  exact absurd h.2.2.symm h0
def zpd:Pa:=⟨1,1,[yP 3],vW 109 3⟩
omit W in
theorem zqU:yZ (zE zpd [] ⟨0,1⟩)=0:=by kernel_rfl
theorem zaa (g h:Nat) (hgh:g≠h) (k:Nat):ACall prog 25 [] k [(g,yE),(h,zS)] (.lit (.bool true)) []:=by
 have hin:AlgIn al31 2:=by have:=zix zld 1 zeroTag 1;rw [zh1] at this;exact this
 have hc3:wY (yP 3):=⟨by simp [yP,zR],by simp [yP,zR]⟩
 have hP3:PrOk (yP 3).first:=⟨by decide,by decide,by decide⟩
 have hb:BuIn (zE zpd [] ⟨0,1⟩):=⟨by simp [zE,zpd],by simp [zE],fun c hc=>by
  simp only [zE,zpd,List.mem_singleton] at hc
  rw [hc];exact hP3,fun d hd=>by simp [zE] at hd⟩
 have hin3:AlgIn (zY al31 0 pa31 (zR r31)).1 (2+2):=zdE hin _ _ _
 have hbx:(zV (zY al31 0 pa31 (zR r31)).1 (zY al31 0 pa31 (zR r31)).2.2 [] ⟨0,1⟩).1.boxes=al31.boxes:=by
  rw [vo hin3 _ _ (by decide) (by simp),zae];rfl
 have c3:=zck al31 2 hin (by decide) pa31 (by simp [pa31]) (fun x hx=>by simp [pa31] at hx) r31 hP3 ⟨0,1⟩ (by rw [zae]) hin3 (by rw [zae];exact hb) (by rw [zae];exact zqU) (by rw [zae];intro c hc;simp only [List.mem_singleton] at hc;rw [hc];exact hc3) hbx g h
 have hB:(zV (zY al31 0 pa31 (zR r31)).1 (zY al31 0 pa31 (zR r31)).2.2 [] ⟨0,1⟩).2=⟨⟨0,1⟩,1,1,[yP 3],(zV (zY al31 0 pa31 (zR r31)).1 (zY al31 0 pa31 (zR r31)).2.2 [] ⟨0,1⟩).2.proof,[]⟩:=by
  rw [zae];rfl
 rw [hB] at c3
 generalize (zV (zY al31 0 pa31 (zR r31)).1 (zY al31 0 pa31 (zR r31)).2.2 [] ⟨0,1⟩).2.proof=T at *
 generalize (zV (zY al31 0 pa31 (zR r31)).1 (zY al31 0 pa31 (zR r31)).2.2 [] ⟨0,1⟩).1=A9 at *
 have c1:=zcO aF 0 zld (by decide) 1 1 zeroTag
 rw [zh1] at c1
 have c2:=zco pa31 ⟨by simp [pa31],fun x hx=>by simp [pa31] at hx⟩
 have c4:=zbH ⟨[pa31],[],[],[]⟩ ⟨by simp,fun x hx=>by rw [List.mem_singleton.1 hx];exact ⟨by simp [pa31],fun c hc=>by simp [pa31] at hc⟩,by simp,fun d hd=>(by cases hd),by simp,fun b hb=>(by cases hb),by simp,fun b hb=>(by cases hb)⟩ pa31.tag
 have hh:zka ⟨[pa31],[],[],[]⟩ pa31.tag=true:=by unfold zka;simp
 rw [hh] at c4
 unfold zdZ at c1
 have e0:((0:Nat):Int)=0:=rfl
 simp only [ziJ,e0] at c1
 have hpA:zG pa31=.agg [.lit (.int .i64 1),.lit (.int .i64 1),.slice none [],zd pa31.tag]:=rfl
 have hkA:xT ⟨[],[],[],[]⟩=.agg [.slice none [],.slice none [],.slice none [],.slice none []]:=rfl
 have hbA:ye ⟨⟨0,1⟩,1,1,[yP 3],T,[]⟩=.agg [.agg [.lit (.int .i64 0),.lit (.int .i64 1)],.lit (.int .i64 1),.lit (.int .i64 1),.slice none [z8 (yP 3)],zd T,.slice none []]:=rfl
 have hrA:yD ⟨0,1⟩=.agg [.lit (.int .i64 0),.lit (.int .i64 1)]:=rfl
 have h3A:zU r31=.agg [.lit (.int .i64 7),.lit (.int .u64 0),.lit (.int .i64 0),.lit (.int .i64 0),.lit (.string ⟨#[]⟩),.lit (.int .i64 3)]:=rfl
 have hkp:xT ⟨[pa31],[],[],[]⟩=.agg [.slice none [.agg [.lit (.int .i64 1),.lit (.int .i64 1),.slice none [],zd pa31.tag]],.slice none [],.slice none [],.slice none []]:=rfl
 have c3:=fun k=>c3 k hgh
 rw [hpA] at c1
 rw [hkA,hpA,hkp] at c2
 rw [hkp,h3A,hrA,hbA] at c3
 rw [hkp] at c4
 clear hin hc3 hP3 hb hin3 hbx hB hh hpA hkA hbA hrA h3A hkp e0
 generalize pa31.tag=TP at *
 generalize al31=A3 at *
 generalize z8 (yP 3)=C3 at *
 refine Bd func25 ntmps25 fun σ N hp hpn hk hkn hfree=>?_
 simp only [List.mem_cons,List.not_mem_nil,or_false,forall_eq_or_imp,forall_eq] at hp hpn;obtain ⟨hd1,hd2⟩:=hp;obtain ⟨hdn1,hdn2⟩:=hpn
 have hcs:=And.intro c1 (And.intro c2 (And.intro c3 (And.intro c4 True.intro)))
 clear c1 c2 c3 c4
 exact W0
end
section
variable [W:W32]
theorem zas (s:Sc) (m:Nat) (ha:AlgIn s.alg m) (hm:m≤50000) (hg:s.grants.length≤100) (hb:BuIn (zE s.pass s.grants s.req)) (h0:yZ (zE s.pass s.grants s.req)=0) (d k:Nat):ACall prog 27 [.ptr d [] 0] k [(d,.box 51 (zbS s))] (ye (zV s.alg s.pass s.grants s.req).2) [(d,.box 51 (zbS { s with alg:=(zV s.alg s.pass s.grants s.req).1 }))]:=by
 have c1:=qt s.alg m ha s.pass s.grants s.req hg hm hb h0
 clear ha hb h0
 generalize zV s.alg s.pass s.grants s.req=B at *
 obtain ⟨A',b⟩:=B
 obtain ⟨A,rg,con,p,gs,r,hol,mi⟩:=s
 have hdS:zbS ⟨A,rg,con,p,gs,r,hol,mi⟩=.agg [zA A,zbF rg,xW con,zG p,.slice none (gs.map zw),yD r,.lit (.string ⟨hol.toArray⟩),.lit (.int .i64 mi)]:=rfl
 have hdS':zbS ⟨A',rg,con,p,gs,r,hol,mi⟩=.agg [zA A',zbF rg,xW con,zG p,.slice none (gs.map zw),yD r,.lit (.string ⟨hol.toArray⟩),.lit (.int .i64 mi)]:=rfl
 simp only at c1 ⊢
 rw [hdS,hdS']
 clear hdS hdS'
 refine Bd func27 ntmps27 fun σ N hp hpn hk hkn hfree=>?_
 obtain ⟨hd,hdn⟩:=HD0 hp hpn;clear hp hpn
 have hcs:=And.intro c1 True.intro
 clear c1
 refine Wk ?_
 clear hcs
 exact RW (d) (.box 51 (.agg [zA A',zbF rg,xW con,zG p,.slice none (gs.map zw),yD r,.lit (.string ⟨hol.toArray⟩),.lit (.int .i64 mi)]))
theorem zeL {s:Sc} (hs:ScV s) {r:Rq} (hr:rqB r=true):BuIn (zE s.pass s.grants r)∧yZ (zE s.pass s.grants r)=0:=by
 obtain ⟨se,hG,s1,s2⟩:=hs.good
 obtain ⟨A,rg,con,⟨ep,sr,L,tg⟩,gs,r0,hol,mi⟩:=s
 obtain rfl:ep=2:=hG.ep
 obtain rfl:sr=se:=hG.es
 have hbl:∀ i (hi:i < gs.length) (hj:i < (gs.map zu).length),((gs.map zu)[i]).ticket=(gs[i]).ticket∧((gs.map zu)[i]).conds=(gs[i]).conds:=fun i hi hj=>by rw [List.getElem_map];exact ⟨rfl,rfl⟩
 exact zg1 (tg:=zeroTag) hr s1 s2 hG.cl hG.cv hG.th hG.gl hG.gv hG.gd (gs.map zu) (by simp) hbl
end
structure Few (q:Kn):Prop where
 p:∀ x∈q.ps,x.cavs.length≤70
 b:∀ x∈q.bs,x.cavs.length≤70∧x.dis.length≤30
 pl:q.ps.length≤40
 dl:q.ds.length≤40
 bl:q.bs.length≤70
 il:q.its.length≤70
theorem zht (q:Kn) (h1:q.ps.length≤9223372036854775807) (h2:q.bs.length≤9223372036854775807) (r:Bool) (hr:r=true↔Few q) (k:Nat):
  ACall prog 30 [xT q] k [] (.lit (.bool r)) []:=by
 have hr0:(Few q→False)→r=false:=fun h=>by
  cases r with
  | false=>rfl
  | true=>exact (h (hr.1 rfl)).elim
 have hr1:=hr.2
 clear hr
 obtain ⟨P,D,B,I⟩:=q
 unfold xT
 simp only at *
 refine Bd func30 ntmps30 fun σ N hp hpn hk hkn hfree=>?_
 refine Wk ?_
 refine ze zi (by kernel_rfl) [2,3,5,6,7,8,9,10,11,12,13,14,15,16,17,18,19] [] (fun m_ s_ σ_ n_=>∃ (u:Nat),m_=P.length - u∧s_ 3=.lit (.int .i64 u)∧(u≤P.length)∧(∀ x∈P.take u,x.cavs.length≤70)) ⟨_,0,rfl,WF,WC,WC⟩ ?_
 intro m_1 s_1 σ_1 n_1 hs_1 hf_1 hn_1 hI_1
 obtain ⟨u,hm_1,h1_3,hu,hP⟩:=hI_1
 have h1_1:=KS hs_1 1
 have k1_0:=KE hf_1 (N)
 have hlow:=KL (N:=N) (σ:=σ) hf_1
 by_cases hul:u=P.length
 ·subst hul
  rw [List.take_length] at hP
  refine Wk ?_
  refine ze zi (by kernel_rfl) [2,4,20,21,22,23,24,25,26,27,28,29,30,31,32,33,34,35,36,37,38,39,40,41,42,43,44] [] (fun m_ s_ σ_ n_=>∃ (u:Nat),m_=B.length - u∧s_ 4=.lit (.int .i64 u)∧(u≤B.length)∧(∀ x∈B.take u,x.cavs.length≤70∧x.dis.length≤30)) ⟨_,0,rfl,WF,WC,WC⟩ ?_
  intro m_2 s_2 σ_2 n_2 hs_2 hf_2 hn_2 hI_2
  obtain ⟨u,hm_2,h2_4,hu,hB⟩:=hI_2
  have h2_1:=KS hs_2 1
  have k2_0:=KE hf_2 (N)
  have hlow:=KL (N:=N) (σ:=σ) hf_2
  by_cases hul:u=B.length
  ·subst hul
   rw [List.take_length] at hB
   by_cases a1:P.length≤40
   ·have b1:(P.length:Int)≤40:=by omega
    by_cases a2:D.length≤40
    ·have b2:(D.length:Int)≤40:=by omega
     by_cases a3:B.length≤70
     ·have b3:(B.length:Int)≤70:=by omega
      by_cases a4:I.length≤70
      ·have b4:(I.length:Int)≤70:=by omega
       obtain rfl:r=true:=hr1 ⟨hP,hB,a1,a2,a3,a4⟩
       clear hP hB hr1 hr0
       exact W0
      ·have b4:¬ (I.length:Int)≤70:=by omega
       obtain rfl:r=false:=hr0 (fun h=>a4 h.il)
       clear hP hB hr1 hr0
       exact W0
     ·have b3:¬ (B.length:Int)≤70:=by omega
      obtain rfl:r=false:=hr0 (fun h=>a3 h.bl)
      clear hP hB hr1 hr0
      exact W0
    ·have b2:¬ (D.length:Int)≤40:=by omega
     obtain rfl:r=false:=hr0 (fun h=>a2 h.dl)
     clear hP hB hr1 hr0
     exact W0
   ·have b1:¬ (P.length:Int)≤40:=by omega
    obtain rfl:r=false:=hr0 (fun h=>a1 h.pl)
    clear hP hB hr1 hr0
    exact W0
  ·have hu1:u < B.length:=by omega
   obtain ⟨z,hz⟩:∃ z,B[u]=z:=⟨_,rfl⟩
   have hzB:z∈B:=by rw [← hz];exact List.getElem_mem _
   have hzm:(B.map ye)[u]?=some (.agg [yD z.req,.lit (.int .i64 z.epoch),.lit (.int .i64 z.serial),.slice none (z.cavs.map z8),zd z.proof,.slice none (z.dis.map zC)]):=by rw [List.getElem?_map,List.getElem?_eq_getElem hu1,hz];rfl
   by_cases a1:z.cavs.length≤70
   ·have b1:¬ (70:Int) < (z.cavs.length:Int):=by omega
    by_cases a2:z.dis.length≤30
    ·have b2:¬ (30:Int) < (z.dis.length:Int):=by omega
     have hB2:∀ x∈B.take (u+1),x.cavs.length≤70∧x.dis.length≤30:=fun x hx=>by
      rw [List.take_add_one,List.getElem?_eq_getElem hu1,hz] at hx
      rcases List.mem_append.1 hx with hx | hx
      ·exact hB x hx
      ·have hx2:x=z:=by simpa using hx
       rw [hx2];exact ⟨a1,a2⟩
     clear hB hr0 hr1 hP
     refine Wk ?_
     exact ⟨WS,WG,WN,_,(show B.length - (u+1) < m_2 by omega),u+1,rfl,WF,WC,WC⟩
    ·have b2:(30:Int) < (z.dis.length:Int):=by omega
     obtain rfl:r=false:=hr0 (fun h=>a2 (h.b z hzB).2)
     clear hP hB hr1 hr0
     exact W0
   ·have b1:(70:Int) < (z.cavs.length:Int):=by omega
    obtain rfl:r=false:=hr0 (fun h=>a1 (h.b z hzB).1)
    clear hP hB hr1 hr0
    exact W0
 ·have hu1:u < P.length:=by omega
  obtain ⟨z,hz⟩:∃ z,P[u]=z:=⟨_,rfl⟩
  have hzB:z∈P:=by rw [← hz];exact List.getElem_mem _
  have hzm:(P.map zG)[u]?=some (.agg [.lit (.int .i64 z.epoch),.lit (.int .i64 z.serial),.slice none (z.cavs.map z8),zd z.tag]):=by rw [List.getElem?_map,List.getElem?_eq_getElem hu1,hz];rfl
  by_cases a1:z.cavs.length≤70
  ·have b1:¬ (70:Int) < (z.cavs.length:Int):=by omega
   have hP2:∀ x∈P.take (u+1),x.cavs.length≤70:=fun x hx=>by
    rw [List.take_add_one,List.getElem?_eq_getElem hu1,hz] at hx
    rcases List.mem_append.1 hx with hx | hx
    ·exact hP x hx
    ·have hx2:x=z:=by simpa using hx
     rw [hx2];exact a1
   clear hP hr0 hr1
   refine Wk ?_
   exact ⟨WS,WG,WN,_,(show P.length - (u+1) < m_1 by omega),u+1,rfl,WF,WC,WC⟩
  ·have b1:(70:Int) < (z.cavs.length:Int):=by omega
   obtain rfl:r=false:=hr0 (fun h=>a1 (h.p z hzB))
   clear hP hr1 hr0
   exact W0
section
variable [W:W32]
def zaN (l:List Int) (s:Sc) (n:Nat) (X:Alg × Kn × Nat):Alg × Kn × Nat:=
 if (yl l X.2.2 3).1=0 then ((zV X.1 s.pass s.grants s.req).1,⟨X.2.1.ps,X.2.1.ds,xy X.2.1.bs (zV X.1 s.pass s.grants s.req).2,X.2.1.its⟩,(yl l X.2.2 3).2)
 else if (yl l X.2.2 3).1=1 then (X.1,⟨X.2.1.ps,X.2.1.ds,X.2.1.bs,xy X.2.1.its ⟨n,0,0,zeroTag,[],(zg5 l (yl l X.2.2 3).2).1⟩⟩,(zg5 l (yl l X.2.2 3).2).2)
 else (X.1,(if (v7 X.2.1 s.pass s.grants).2=0 then (v7 X.2.1 s.pass s.grants).1 else X.2.1),(yl l X.2.2 3).2)
def zno (l:List Int) (s:Sc):Nat→Alg × Kn × Nat→Alg × Kn × Nat
 | 0,X=>X
 | n+1,X=>zno l s n (zaN l s (n+1) X)
structure KB (s:Sc) (A:Alg) (q:Kn) (i:Nat):Prop where
 ain:AlgIn A (1000+6 * i)
 ok:AlgOk A
 fr:A.free=s.alg.free
 bx:A.boxes=s.alg.boxes
 sub:∀ e∈s.alg.macs,e∈A.macs
 kc:KnC q
 p0:∃ r,q.ps=s.pass::r
 d0:∃ r,q.ds=s.grants++r∧∀ d∈r,d∈s.grants
 pl:q.ps.length≤1+i
 bl:q.bs.length≤i
 il:q.its.length≤i
 dl:q.ds.length≤100
theorem yW {s:Sc} (hs:ScV s):PaC s.pass∧(∀ d∈s.grants,WdT d.ticket d.conds)∧s.grants.length≤5:=by
 obtain ⟨⟨se,hG,_⟩,_⟩:=hs
 have hgl:=hG.gl
 have hcl:=hG.cl
 have hgv:=hG.gv
 have hcv:=hG.cv
 simp only at hgl hcl hgv hcv
 refine ⟨⟨by omega,fun c hc=>?_⟩,fun d hd=>?_,hgl⟩
 ·have:=hcv c hc
  exact ⟨by omega,by omega⟩
 ·have hv:=hgv d hd
  have v1:=hv.t2
  have v2:=hv.cl
  exact ⟨by omega,by omega⟩
theorem zbQ {s:Sc} (hs:ScV s) {A:Alg} {m:Nat} (hin0:AlgIn A m) (hm:m≤10000):BuC (zV A s.pass s.grants s.req).2:=by
 have hr:=hs.rq
 obtain ⟨hp,hd,hgl⟩:=yW hs
 have hin:AlgIn (qa A s.pass s.req).1 (m+1):=yN hin0 _ _
 obtain ⟨_,b2⟩:=zaw (leaf:=s.pass.tag) hr s.grants s.grants 0 _ (s.grants.map zu) (m+1) hin oo rfl (by simp) (fun i hi hj=>by rw [List.getElem_map];exact ⟨rfl,rfl⟩)
 have hl:(zV A s.pass s.grants s.req).2.dis.length=s.grants.length:=by unfold zV;simp only;rw [xO];simp
 refine ⟨?_,fun c hc=>hp.2 c hc,by omega,fun d hd2=>?_⟩
 ·show s.pass.cavs.length≤100000;exact hp.1
 ·obtain ⟨i,hi,rfl⟩:=List.getElem_of_mem hd2
  have hi2:i < s.grants.length:=by rw [← hl];exact hi
  obtain ⟨t1,t2⟩:=b2 i hi2 hi
  have hv:=hd _ (List.getElem_mem hi2)
  show WdT ((zV A s.pass s.grants s.req).2.dis[i]).ticket ((zV A s.pass s.grants s.req).2.dis[i]).conds
  rw [show ((zV A s.pass s.grants s.req).2.dis[i]).ticket=(s.grants[i]).ticket from t1,show ((zV A s.pass s.grants s.req).2.dis[i]).conds=(s.grants[i]).conds from t2]
  exact hv
theorem KB.step {s:Sc} (hs:ScV s) {l:List Int} {n:Nat} {X:Alg × Kn × Nat} {i:Nat} (h:KB s X.1 X.2.1 i) (hi:i≤10):KB s (zaN l s n X).1 (zaN l s n X).2.1 (i+1):=by
 obtain ⟨A,q,j⟩:=X
 obtain ⟨hp,hd,hgl⟩:=yW hs
 have hbl:=h.bl
 have hil:=h.il
 have hpl:=h.pl
 simp only at h hbl hil hpl ⊢
 unfold zaN
 simp only
 by_cases h0:(yl l j 3).1=0
 ·rw [if_pos h0]
  obtain ⟨k1,k2,k3,k4,_⟩:=zeZ h.ain h.ok s.pass s.grants hs.rq oo
  have k5:=vo h.ain s.pass s.grants hs.rq oo
  have hb:=zbQ hs h.ain oo
  refine ⟨k2.more oo,k1,k3.trans h.fr,k5.trans h.bx,fun e he=>k4 e (h.sub e he),h.kc.see hb oo,h.p0,h.d0,by first | omega | (simp only;omega),?_,by first | omega | (simp only;omega),h.dl⟩
  have:=xu q.bs (zV A s.pass s.grants s.req).2
  simp only;omega
 ·rw [if_neg h0]
  by_cases h1:(yl l j 3).1=1
  ·rw [if_pos h1]
   refine ⟨h.ain.more oo,h.ok,h.fr,h.bx,h.sub,h.kc.watch (by simp) oo,h.p0,h.d0,by first | omega | (simp only;omega),by first | omega | (simp only;omega),?_,h.dl⟩
   have:=xu q.its (⟨n,0,0,zeroTag,[],(zg5 l (yl l j 3).2).1⟩:It)
   simp only;omega
  ·rw [if_neg h1]
   unfold v7
   by_cases hc:q.ps.length < 32∧q.ds.length+s.grants.length≤32
   ·rw [if_pos hc]
    simp only [↓reduceIte]
    obtain ⟨r,hr⟩:=h.p0
    obtain ⟨r2,hr2,hr3⟩:=h.d0
    refine ⟨h.ain.more oo,h.ok,h.fr,h.bx,h.sub,h.kc.learn hp hd oo oo,⟨r++[s.pass],by rw [hr];rfl⟩,⟨r2++s.grants,by rw [hr2,List.append_assoc],fun d hd=>?_⟩,?_,(show q.bs.length≤i+1 by omega),(show q.its.length≤i+1 by omega),by simp only [List.length_append];omega⟩
    ·rcases List.mem_append.1 hd with hd | hd
     ·exact hr3 d hd
     ·exact hd
    ·rw [List.length_append,List.length_singleton];omega
   ·rw [if_neg hc]
    simp only [show ¬ (2=0) by omega,if_false]
    exact ⟨h.ain.more oo,h.ok,h.fr,h.bx,h.sub,h.kc,h.p0,h.d0,by omega,by omega,by omega,h.dl⟩
theorem zg3 {l:List Int} {s:Sc} {n:Nat} {X:Alg × Kn × Nat} (h:Dk l X.2.2):Dk l (zaN l s n X).2.2:=by
 unfold zaN
 have h1:=yu 3 h
 split
 ·exact h1
 ·split
  ·exact zl5 h1
  ·exact h1
theorem zgZ {s:Sc} (hs:ScV s) {l:List Int}:∀ (n:Nat) (X:Alg × Kn × Nat) (i:Nat),KB s X.1 X.2.1 i→i+n≤10→Dk l X.2.2→KB s (zno l s n X).1 (zno l s n X).2.1 (i+n)∧Dk l (zno l s n X).2.2
 | 0,X,i,h,_,hd=>⟨h,hd⟩
 | n+1,X,i,h,hi,hd=>by
  have:=zgZ hs n (zaN l s (n+1) X) (i+1) (h.step hs oo) oo (zg3 hd)
  rw [show i+(n+1)=i+1+n by omega]
  exact this
theorem KB.first {s:Sc} (hs:ScV s):KB s s.alg ⟨[s.pass],s.grants,[],[]⟩ 0:=by
 obtain ⟨hp,hd,hgl⟩:=yW hs
 obtain ⟨⟨se,hG,_⟩,_⟩:=hs
 exact ⟨hG.ain,hG.ok,rfl,rfl,fun e he=>he,⟨by simp,fun x hx=>by rw [List.mem_singleton.1 hx];exact hp,by simp only;omega,hd,by simp,fun x hx=>(by cases hx),by simp,fun x hx=>(by cases hx)⟩,⟨[],rfl⟩,⟨[],by simp,fun d hd=>(by cases hd)⟩,by simp,by simp,by simp,by simp only;omega⟩
set_option maxHeartbeats 16000000 in
theorem zjA (l:List Int) (hl:l.length≤9223372036854775807):∃ (s:Sc) (A:Alg) (q:Kn) (i j:Nat),ScV s∧KB s A q i∧i≤4∧Dk l j ∧
  ∀ k,ACall prog 31 [.slice none (l.map jI)] k [] (.tup [zbS { s with alg:=A },xT q,.ptr k [] 0]) [(k,zy l j)]:=by
 obtain ⟨s,j0,hs,d0,c2⟩:=zeS l 0 ⟨hl,Nat.zero_le _⟩
 have c1:=zeR l
 have c4:=yV l j0 4 d0 oo oo
 have b4:=y7 l j0 4 oo
 have d4:=yu 4 d0
 generalize yl l j0 4=X at *
 obtain ⟨b,j4⟩:=X
 simp only at c4 b4 d4
 obtain ⟨hp,hd,hgl⟩:=yW hs
 have hK0:=KB.first hs
 have hall:=zgZ hs b (s.alg,⟨[s.pass],s.grants,[],[]⟩,j4) 0 hK0 oo d4
 obtain ⟨⟨Af,qf,jf⟩,hrun⟩:∃ R,zno l s b (s.alg,⟨[s.pass],s.grants,[],[]⟩,j4)=R:=⟨_,rfl⟩
 rw [hrun] at hall
 simp only at hall
 refine ⟨s,Af,qf,0+b,jf,hs,hall.1,by omega,hall.2,fun k=>?_⟩
 clear hall
 have c3:=zeC ⟨[],[],[],[]⟩ s.pass s.grants (by simp) (by simp only [List.length_nil];omega)
 simp only [List.nil_append] at c3
 have hsA:∀ A:Alg,zbS { s with alg:=A }=.agg [zA A,zbF s.ring,xW s.con,zG s.pass,.slice none (s.grants.map zw),yD s.req,.lit (.string ⟨s.holder.toArray⟩),.lit (.int .i64 s.minute)]:=fun A=>rfl
 have hs0:zbS s=.agg [zA s.alg,zbF s.ring,xW s.con,zG s.pass,.slice none (s.grants.map zw),yD s.req,.lit (.string ⟨s.holder.toArray⟩),.lit (.int .i64 s.minute)]:=rfl
 rw [hs0] at c2
 rw [hsA]
 have hKn0:xT ⟨[],[],[],[]⟩=.agg [.slice none [],.slice none [],.slice none [],.slice none []]:=rfl
 rw [hKn0] at c3
 clear hs0 hKn0
 refine Bd func31 ntmps31 fun σ N hp hpn hk hkn hfree=>?_
 have hcs:=And.intro c1 (And.intro (c2 (N+3+1)) (And.intro c3 (And.intro (c4 (N+3+1)) True.intro)))
 clear c1 c2 c3 c4
 refine Wk ?_
 clear hcs
 refine ze zi (by kernel_rfl) [9,10,11,27,28,29,30,31,32,33,34,35,36,37,38,39,40,41,42,43,44,45,46,47,48,49,50,51,52,53,54,55,56,57,58,59] [N+3+1,N+6+2,N+10+9] (fun m_ s_ σ_ n_=>∃ (n:Nat) (i:Nat) (A:Alg) (q:Kn) (j:Nat),m_=n∧s_ 9=.lit (.int .i64 n)∧σ_ (N+3+1)=zy l j∧σ_ (N+6+2)=.box 51 (.agg [zA A,zbF s.ring,xW s.con,zG s.pass,.slice none (s.grants.map zw),yD s.req,.lit (.string ⟨s.holder.toArray⟩),.lit (.int .i64 s.minute)])∧σ_ (N+10+9)=.box 71 (xT q)∧(n≤4)∧(i+n≤4)∧(KB s A q i)∧(Dk l j)∧(zno l s n (A,q,j)=(Af,qf,jf))) ⟨_,b,0,s.alg,⟨[s.pass],s.grants,[],[]⟩,j4,rfl,WF,WF,WF,WF,WC,WC,WC,WC,WC⟩ ?_
 intro m_3 s_3 σ_3 n_3 hs_3 hf_3 hn_3 hI_3
 obtain ⟨n,i,A,q,j,hm_3,h3_9,e3_0,e3_1,e3_2,hn,hi,hK,hj,hrun⟩:=hI_3
 have h3_2:=KS hs_3 2
 have h3_3:=KS hs_3 3
 have h3_4:=KS hs_3 4
 have h3_5:=KS hs_3 5
 have h3_6:=KS hs_3 6
 have h3_7:=KS hs_3 7
 have k3_0:=KE hf_3 (N)
 have k3_1:=KE hf_3 (N+1)
 have hlow:=KL (N:=N) (σ:=σ) hf_3
 cases n with
 | zero=>
  simp only [zno,Prod.mk.injEq] at hrun
  obtain ⟨rfl,rfl,rfl⟩:=hrun
  clear hK hs hK0
  refine Wk ?_
  refine zQ (r0:=N+3+1) (by simp (disch:=omega) [go_sem, *,-List.reduceReplicate];rfl) oo (by simp (disch:=omega) [go_sem];try rfl) (fun id hid=>by simp (disch:=omega) only [zg];try exact hlow id hid) (by simp (disch:=omega) [go_sem, *,-List.reduceReplicate];rfl) (by simp (disch:=omega) [go_sem])
 | succ n=>
  have h0n:(0:Int) < ((n+1:Nat):Int):=by omega
  have hnm:((n+1:Nat):Int) - 1=(n:Int):=by omega
  have hin:=hK.ain
  have hst:=hK.step hs (l:=l) (n:=n+1) (X:=(A,q,j)) oo
  have hdk:=zg3 (s:=s) (n:=n+1) (X:=(A,q,j)) hj
  have hbl:=hK.bl
  have hil:=hK.il
  have hpl:=hK.kc.pl
  have hdl:=hK.kc.dl
  have c5:=yV l j 3 hj oo oo
  have b5:=y7 l j 3 oo
  have d5:=yu 3 hj
  rw [zno] at hrun
  clear hK hK0 hj
  unfold zaN at hst hdk hrun
  simp only at hst hdk hrun
  generalize yl l j 3=Y at *
  obtain ⟨v,j5⟩:=Y
  simp only at c5 b5 d5 hst hdk hrun
  by_cases hv0:v=0
  ·subst hv0
   simp only [↓reduceIte] at hst hdk hrun
   obtain ⟨sb1,sb2⟩:=zeL hs hs.rq
   have c6:=zas { s with alg:=A } (1000+6 * i) hin oo (by simp only;omega) sb1 sb2
   have c7:=zeD q (zV A s.pass s.grants s.req).2 oo
   simp only at c6
   generalize zV A s.pass s.grants s.req=Z at *
   obtain ⟨A2,b2⟩:=Z
   simp only at c6 c7 hst hdk hrun
   rw [hsA,hsA] at c6
   clear hs sb1 sb2 hin
   have hcs:=And.intro (c5 (N+3+1)) (And.intro (c6 (N+6+2)) (And.intro c7 True.intro))
   clear c5 c6 c7
   refine Wk ?_
   clear hcs
   exact ⟨WS,WG,WN,_,(show (n) < m_3 by omega),n,i+1,A2,⟨q.ps,q.ds,xy q.bs b2,q.its⟩,j5,rfl,WF,WF,WF,WF,WC,WC,WC,WC,WC⟩
  ·rw [if_neg hv0] at hst hdk hrun
   have hv0i:((v:Int) == 0)=false:=by rw [beq_eq_false_iff_ne];omega
   by_cases hv1:v=1
   ·subst hv1
    simp only [↓reduceIte] at hst hdk hrun
    have c6:=zlc l j5 d5
    have c7:=zcu q ⟨((n+1:Nat):Int),0,0,zeroTag,[],(zg5 l j5).1⟩ oo
    have hitA:xm ⟨((n+1:Nat):Int),0,0,zeroTag,[],(zg5 l j5).1⟩=.agg [.lit (.int .i64 ((n+1:Nat):Int)),.lit (.int .i64 0),.lit (.int .i64 0),zd zeroTag,.slice none [],zd (zg5 l j5).1]:=rfl
    rw [hitA] at c7
    clear hitA
    generalize hT:zg5 l j5=T at *
    obtain ⟨t,j6⟩:=T
    simp only at c6 c7 hst hdk hrun
    clear hs hin
    have hcs:=And.intro (c5 (N+3+1)) (And.intro (c6 (N+3+1)) (And.intro c7 True.intro))
    clear c5 c6 c7
    refine Wk ?_
    clear hcs
    exact ⟨WS,WG,WN,_,(show (n) < m_3 by omega),n,i+1,A,⟨q.ps,q.ds,q.bs,xy q.its ⟨((n+1:Nat):Int),0,0,zeroTag,[],t⟩⟩,j6,rfl,WF,WF,WF,WF,WC,WC,WC,WC,WC⟩
   ·rw [if_neg hv1] at hst hdk hrun
    have hv1i:((v:Int) == 1)=false:=by rw [beq_eq_false_iff_ne];omega
    obtain rfl:v=2:=by omega
    have c7:=zct q oo oo s.pass s.grants oo
    generalize v7 q s.pass s.grants=Z at *
    obtain ⟨q2,e2⟩:=Z
    simp only at c7 hst hdk hrun
    clear hs hin
    by_cases he:e2=0
    ·subst he
     simp only [↓reduceIte] at hst hrun
     have hcs:=And.intro (c5 (N+3+1)) (And.intro c7 True.intro)
     clear c5 c7
     refine Wk ?_
     clear hcs
     exact ⟨WS,WG,WN,_,(show (n) < m_3 by omega),n,i+1,A,q2,j5,rfl,WF,WF,WF,WF,WC,WC,WC,WC,WC⟩
    ·rw [if_neg he] at hst hrun
     have he2:((e2:Int) == 0)=false:=by rw [beq_eq_false_iff_ne];omega
     have hcs:=And.intro (c5 (N+3+1)) (And.intro c7 True.intro)
     clear c5 c7
     refine Wk ?_
     clear hcs
     exact ⟨WS,WG,WN,_,(show (n) < m_3 by omega),n,i+1,A,q,j5,rfl,WF,WF,WF,WF,WC,WC,WC,WC,WC⟩
end
end Go.Proofs.YtglmjglbobhbbaaGreatDoor
namespace Go.Proofs.YtglmjglbobhbbaaGreatDoor
open _root_.Go.Proofs.Tryz
open Go.Ab
attribute [local irreducible] Go.Ab.tyAV Go.Ab.aw Go.Ab.aops Go.Ab.kReg Go.Ab.aThen Go.Ab.aBlk Go.Ab.acond Go.Ab.aguard Go.Ab.astep Go.Ab.AStepX Go.Ab.aRet
theorem zr7 {a:Int} (h:(Lit.int .u64 a).wf=true):0≤a∧a < 18446744073709551616:=by
 have hw:IntKind.u64.min≤a∧a≤IntKind.u64.max:=by simpa [Lit.wf] using h
 have e1:IntKind.u64.min=0:=by decide
 have e2:IntKind.u64.max=18446744073709551615:=by decide
 omega
theorem zkz {m:Nat} {x:AV} (h:tyAV prog (m+2) 138 x):∃ p:Pr,PrOk p∧x=zU p:=by
 obtain ⟨xs,rfl,h1,h2⟩:=xY underlying138 h
 obtain ⟨a,b,c,d,e,f,rfl⟩:∃ a b c d e f,xs=[a,b,c,d,e,f]:=by
  match xs,h1 with
  | [a,b,c,d,e,f],_=>exact ⟨a,b,c,d,e,f,rfl⟩
 obtain ⟨v1,_,rfl⟩:=vv it3 (h2 0 _ _ rfl rfl)
 obtain ⟨v2,w2,rfl⟩:=vv zsI (h2 1 _ _ rfl rfl)
 obtain ⟨v3,_,rfl⟩:=vv it3 (h2 2 _ _ rfl rfl)
 obtain ⟨v4,_,rfl⟩:=vv it3 (h2 3 _ _ rfl rfl)
 obtain ⟨v5,w5,rfl⟩:=zj5 st9 (h2 4 _ _ rfl rfl)
 obtain ⟨v6,_,rfl⟩:=vv it3 (h2 5 _ _ rfl rfl)
 exact ⟨⟨v1,v2,v3,v4,v5,v6⟩,⟨(zr7 w2).1,(zr7 w2).2,w5⟩,rfl⟩
structure DiW (d:Di):Prop where
 tl:d.ticket.length≤140737488351232
 cl:d.conds.length≤9223372036854775807
 ok:∀ p∈d.conds,PrOk p
def CaW (c:Ca):Prop:=PrOk c.first∧wY c
theorem zhk {m:Nat} {x:AV} (h:tyAV prog (m+4) 140 x):∃ c:Ca,CaW c∧x=z8 c:=by
 obtain ⟨ys,rfl,h3,h4⟩:=xY underlying140 h
 obtain ⟨a,b,c,d,e,rfl⟩:∃ a b c d e,ys=[a,b,c,d,e]:=by
  match ys,h3 with
  | [a,b,c,d,e],_=>exact ⟨a,b,c,d,e,rfl⟩
 obtain ⟨v1,rfl⟩:=zoN bt4 (h4 0 _ _ rfl rfl)
 obtain ⟨v2,w2,rfl⟩:=zkz (h4 1 _ _ rfl rfl)
 obtain ⟨v3,_,rfl⟩:=vv it3 (h4 2 _ _ rfl rfl)
 obtain ⟨v4,w4,rfl⟩:=ja ztk by5 (by kernel_rfl) (h4 3 _ _ rfl rfl)
 obtain ⟨v5,w5,rfl⟩:=ja ztk by5 (by kernel_rfl) (h4 4 _ _ rfl rfl)
 exact ⟨⟨v1,v2,v3,v4,v5⟩,⟨w2,w4,w5⟩,rfl⟩
structure PaW (p:Pa):Prop where
 cl:p.cavs.length≤9223372036854775807
 ok:∀ c∈p.cavs,CaW c
theorem zlQ {x:AV} (h:tyAV prog 8 30 x):∃ p:Pa,PaW p∧x=zG p:=by
 obtain ⟨ys,rfl,h3,h4⟩:=xY underlying30 h
 obtain ⟨a,b,c,d,rfl⟩:∃ a b c d,ys=[a,b,c,d]:=by
  match ys,h3 with
  | [a,b,c,d],_=>exact ⟨a,b,c,d,rfl⟩
 obtain ⟨v1,_,rfl⟩:=vv it3 (h4 0 _ _ rfl rfl)
 obtain ⟨v2,_,rfl⟩:=vv it3 (h4 1 _ _ rfl rfl)
 obtain ⟨v3,⟨w3,w3'⟩,rfl⟩:=jb zwG (fun y hy=>zhk hy) (h4 2 _ _ rfl rfl)
 obtain ⟨v4,_,rfl⟩:=zcR zqx by5 (h4 3 _ _ rfl rfl)
 exact ⟨⟨v1,v2,v3,v4⟩,⟨w3,w3'⟩,rfl⟩
theorem zuX {x:AV} (h:tyAV prog 8 28 x):∃ a:Tg,True∧x=zd a:=zcR zqx by5 h
theorem ziC {P:Program} {α:Type} {R:α→Prop} {f:α→AV} {m b:Nat} {t e:TypeId} {x:AV} (ht:zT P t=some e) (hb:P.bytesOf e=b) (he:∀ y,tyAV P m e y→∃ d,R d∧y=f d) (h:tyAV P (m+1) t x):∃ l:List α,(l.length * b≤140737488351232∧∀ d∈l,R d)∧x=.slice none (l.map f):=by
 obtain ⟨xs,h1,h2,rfl,h0⟩:=zcy ht h
 obtain ⟨l,h3,h4,h5⟩:=xF fun y hy=>he y (h2 y hy)
 rw [hb] at h0
 exact ⟨l,⟨by rw [h5];exact h0,h3⟩,by rw [h4]⟩
theorem zuj {m:Nat} {x:AV} (h:tyAV prog (m+4) 168 x):∃ b:Bo,(WdT b.ticket b.conds∧∀ p∈b.conds,PrOk p)∧x=zC b:=by
 obtain ⟨ys,rfl,h3,h4⟩:=xY underlying168 h
 obtain ⟨a,b,c,rfl⟩:∃ a b c,ys=[a,b,c]:=by
  match ys,h3 with
  | [a,b,c],_=>exact ⟨a,b,c,rfl⟩
 obtain ⟨v1,w1,rfl⟩:=ja ztk by5 (by kernel_rfl) (h4 0 _ _ rfl rfl)
 obtain ⟨v2,⟨w2,w3⟩,rfl⟩:=ziC zwH (b:=56) (by kernel_rfl) (fun y hy=>zkz hy) (h4 1 _ _ rfl rfl)
 obtain ⟨v3,_,rfl⟩:=zcR zqx by5 (h4 2 _ _ rfl rfl)
 exact ⟨⟨v1,v2,v3⟩,⟨⟨w1,w2⟩,w3⟩,rfl⟩
theorem zdy {m:Nat} {x:AV} (h:tyAV prog (m+4) 34 x):∃ b:Di,(WdT b.ticket b.conds∧∀ p∈b.conds,PrOk p)∧x=zw b:=by
 obtain ⟨ys,rfl,h3,h4⟩:=xY underlying34 h
 obtain ⟨a,b,c,rfl⟩:∃ a b c,ys=[a,b,c]:=by
  match ys,h3 with
  | [a,b,c],_=>exact ⟨a,b,c,rfl⟩
 obtain ⟨v1,w1,rfl⟩:=ja ztk by5 (by kernel_rfl) (h4 0 _ _ rfl rfl)
 obtain ⟨v2,⟨w2,w3⟩,rfl⟩:=ziC zwH (b:=56) (by kernel_rfl) (fun y hy=>zkz hy) (h4 1 _ _ rfl rfl)
 obtain ⟨v3,_,rfl⟩:=zcR zqx by5 (h4 2 _ _ rfl rfl)
 exact ⟨⟨v1,v2,v3⟩,⟨⟨w1,w2⟩,w3⟩,rfl⟩
theorem zrK {m:Nat} {x:AV} (h:tyAV prog (m+6) 30 x):∃ p:Pa,PaW p∧x=zG p:=by
 obtain ⟨ys,rfl,h3,h4⟩:=xY underlying30 h
 obtain ⟨a,b,c,d,rfl⟩:∃ a b c d,ys=[a,b,c,d]:=by
  match ys,h3 with
  | [a,b,c,d],_=>exact ⟨a,b,c,d,rfl⟩
 obtain ⟨v1,_,rfl⟩:=vv it3 (h4 0 _ _ rfl rfl)
 obtain ⟨v2,_,rfl⟩:=vv it3 (h4 1 _ _ rfl rfl)
 obtain ⟨v3,⟨w3,w3'⟩,rfl⟩:=jb zwG (fun y hy=>zhk hy) (h4 2 _ _ rfl rfl)
 obtain ⟨v4,_,rfl⟩:=zcR zqx by5 (h4 3 _ _ rfl rfl)
 exact ⟨⟨v1,v2,v3,v4⟩,⟨w3,w3'⟩,rfl⟩
structure BuWd (b:Bu):Prop where
 cl:b.cavs.length≤9223372036854775807
 cs:∀ c∈b.cavs,CaW c
 dl:b.dis.length≤9223372036854775807
 ds:∀ d∈b.dis,WdT d.ticket d.conds∧∀ p∈d.conds,PrOk p
theorem zoY {m:Nat} {x:AV} (h:tyAV prog (m+6) 75 x):∃ b:Bu,BuWd b∧x=ye b:=by
 obtain ⟨xs,rfl,h1,h2⟩:=xY underlying75 h
 obtain ⟨a,b,c,d,e,f,rfl⟩:∃ a b c d e f,xs=[a,b,c,d,e,f]:=by
  match xs,h1 with
  | [a,b,c,d,e,f],_=>exact ⟨a,b,c,d,e,f,rfl⟩
 obtain ⟨v1,rfl⟩:∃ r:Rq,a=yD r:=by
  obtain ⟨ys,rfl,h3,h4⟩:=xY underlying49 (h2 0 _ _ rfl rfl)
  obtain ⟨a,b,rfl⟩:∃ a b,ys=[a,b]:=by
   match ys,h3 with
   | [a,b],_=>exact ⟨a,b,rfl⟩
  obtain ⟨v1,_,rfl⟩:=vv it3 (h4 0 _ _ rfl rfl)
  obtain ⟨v2,_,rfl⟩:=vv it3 (h4 1 _ _ rfl rfl)
  exact ⟨⟨v1,v2⟩,rfl⟩
 obtain ⟨v2,_,rfl⟩:=vv it3 (h2 1 _ _ rfl rfl)
 obtain ⟨v3,_,rfl⟩:=vv it3 (h2 2 _ _ rfl rfl)
 obtain ⟨v4,⟨w4,w4'⟩,rfl⟩:=jb zwG (fun y hy=>zhk hy) (h2 3 _ _ rfl rfl)
 obtain ⟨v5,_,rfl⟩:=zcR zqx by5 (h2 4 _ _ rfl rfl)
 obtain ⟨v6,⟨w6,w6'⟩,rfl⟩:=jb zwI (fun y hy=>zuj hy) (h2 5 _ _ rfl rfl)
 exact ⟨⟨v1,v2,v3,v4,v5,v6⟩,⟨w4,w4',w6,w6'⟩,rfl⟩
theorem znQ {x:AV} (h:tyAV prog 8 75 x):∃ b:Bu,BuWd b∧x=ye b:=zoY h
theorem ztM {m:Nat} {x:AV} (h:tyAV prog (m+3) 85 x):∃ b:It,b.box.length≤140737488351232∧x=xm b:=by
 obtain ⟨xs,rfl,h1,h2⟩:=xY underlying85 h
 obtain ⟨a,b,c,d,e,f,rfl⟩:∃ a b c d e f,xs=[a,b,c,d,e,f]:=by
  match xs,h1 with
  | [a,b,c,d,e,f],_=>exact ⟨a,b,c,d,e,f,rfl⟩
 obtain ⟨v1,_,rfl⟩:=vv it3 (h2 0 _ _ rfl rfl)
 obtain ⟨v2,_,rfl⟩:=vv it3 (h2 1 _ _ rfl rfl)
 obtain ⟨v3,_,rfl⟩:=vv it3 (h2 2 _ _ rfl rfl)
 obtain ⟨v4,_,rfl⟩:=zcR zqx by5 (h2 3 _ _ rfl rfl)
 obtain ⟨v5,w5,rfl⟩:=ja ztk by5 (by kernel_rfl) (h2 4 _ _ rfl rfl)
 obtain ⟨v6,_,rfl⟩:=zcR zqx by5 (h2 5 _ _ rfl rfl)
 exact ⟨⟨v1,v2,v3,v4,v5,v6⟩,w5,rfl⟩
theorem zrm {x:AV} (h:tyAV prog 8 85 x):∃ b:It,b.box.length≤140737488351232∧x=xm b:=ztM h
structure KnW (q:Kn):Prop where
 pl:q.ps.length≤9223372036854775807
 ps:∀ p∈q.ps,PaW p
 dl:q.ds.length≤9223372036854775807
 ds:∀ d∈q.ds,WdT d.ticket d.conds∧∀ p∈d.conds,PrOk p
 bl:q.bs.length≤9223372036854775807
 bs:∀ b∈q.bs,BuWd b
 il:q.its.length≤9223372036854775807
 its:∀ x∈q.its,x.box.length≤140737488351232
theorem zro {x:AV} (h:tyAV prog 8 71 x):∃ b:Kn,KnW b∧x=xT b:=by
 obtain ⟨xs,rfl,h1,h2⟩:=xY underlying71 h
 obtain ⟨a,b,c,d,rfl⟩:∃ a b c d,xs=[a,b,c,d]:=by
  match xs,h1 with
  | [a,b,c,d],_=>exact ⟨a,b,c,d,rfl⟩
 obtain ⟨v1,⟨w1,w1'⟩,rfl⟩:=jb sl22 (fun y hy=>zrK hy) (h2 0 _ _ rfl rfl)
 obtain ⟨v2,⟨w2,w2'⟩,rfl⟩:=jb sl23 (fun y hy=>zdy hy) (h2 1 _ _ rfl rfl)
 obtain ⟨v3,⟨w3,w3'⟩,rfl⟩:=jb zyA (fun y hy=>zoY hy) (h2 2 _ _ rfl rfl)
 obtain ⟨v4,⟨w4,w4'⟩,rfl⟩:=jb zyB (fun y hy=>ztM hy) (h2 3 _ _ rfl rfl)
 exact ⟨⟨v1,v2,v3,v4⟩,⟨w1,w1',w2,w2',w3,w3',w4,w4'⟩,rfl⟩
attribute [local irreducible] yE
theorem KnW.c {q:Kn} (h:KnW q) (f:Few q):KnC q:=⟨by have:=f.pl;omega,fun p hp=>⟨by have:=f.p p hp;omega,fun c hc=>((h.ps p hp).ok c hc).2⟩,by have:=f.dl;omega,fun d hd=>(h.ds d hd).1,by have:=f.bl;omega,fun b hb=>⟨by have:=(f.b b hb).1;omega,fun c hc=>((h.bs b hb).cs c hc).2,by have:=(f.b b hb).2;omega,fun d hd=>((h.bs b hb).ds d hd).1⟩,by have:=f.il;omega,h.its⟩
theorem zo5 {q:Kn} (h:KnC q) {p:Pa} (hp:PaC p) {L:List Di} (hL:∀ d∈L,WdT d.ticket d.conds) (_hl:L.length≤1000000):KnC (v7 q p L).1:=by
 unfold v7
 by_cases hc:q.ps.length < 32∧q.ds.length+L.length≤32
 ·rw [if_pos hc];exact h.learn hp hL oo oo
 ·rw [if_neg hc]
  exact ⟨by simp,fun x hx=>(by cases hx),by simp,fun x hx=>(by cases hx),by simp,fun x hx=>(by cases hx),by simp,fun x hx=>(by cases hx)⟩
theorem zrq {q:Kn} {p:Pa} {L:List Di}:(v7 q p L).1.bs.length≤q.bs.length∧(v7 q p L).1.its.length≤q.its.length:=by
 unfold v7
 by_cases hc:q.ps.length < 32∧q.ds.length+L.length≤32
 ·rw [if_pos hc];exact ⟨Nat.le_refl _,Nat.le_refl _⟩
 ·rw [if_neg hc];exact ⟨Nat.zero_le _,Nat.zero_le _⟩
section
variable [W:W32]
theorem zf9 (raw:Kn) (hraw:KnW raw) (p:Pa) (b:Bu) (x:It) (t:Tg) (xs:List Int) (n:Nat) (hout:¬ (Few raw∧p.cavs.length≤70∧b.cavs.length≤70∧b.dis.length≤30)) (g h:Nat) (hgh:g≠h) (k:Nat):
  ACall prog 5 [xT raw,zG p,ye b,xm x,zd t,.slice none (xs.map jI),.lit (.int .u8 n)] k [(g,yE),(h,zS)] (.lit (.bool true)) []:=by
 have c9:=zaa g h hgh
 have hpA:zG p=.agg [.lit (.int .i64 p.epoch),.lit (.int .i64 p.serial),.slice none (p.cavs.map z8),zd p.tag]:=rfl
 have hbA:ye b=.agg [yD b.req,.lit (.int .i64 b.epoch),.lit (.int .i64 b.serial),.slice none (b.cavs.map z8),zd b.proof,.slice none (b.dis.map zC)]:=rfl
 rw [hpA,hbA]
 clear hpA hbA
 by_cases h0:Few raw
 ·have c1:=zht raw hraw.pl hraw.bl true ⟨fun _=>h0,fun _=>rfl⟩
  by_cases h1:p.cavs.length≤70
  ·have h1i:¬ (70:Int) < (p.cavs.length:Int):=by omega
   by_cases h2:b.cavs.length≤70
   ·have h2i:¬ (70:Int) < (b.cavs.length:Int):=by omega
    have h3:¬ b.dis.length≤30:=fun h3=>hout ⟨h0,h1,h2,h3⟩
    have h3i:(30:Int) < (b.dis.length:Int):=by omega
    clear hout h0 hraw
    refine Bd func5 ntmps5 fun σ N hp hpn hk hkn hfree=>?_
    simp only [List.mem_cons,List.not_mem_nil,or_false,forall_eq_or_imp,forall_eq] at hp hpn;obtain ⟨hd1,hd2⟩:=hp;obtain ⟨hdn1,hdn2⟩:=hpn
    have hcs:=And.intro c1 (And.intro c9 True.intro)
    clear c1 c9
    exact W0
   ·have h2i:(70:Int) < (b.cavs.length:Int):=by omega
    clear hout h0 hraw
    refine Bd func5 ntmps5 fun σ N hp hpn hk hkn hfree=>?_
    simp only [List.mem_cons,List.not_mem_nil,or_false,forall_eq_or_imp,forall_eq] at hp hpn;obtain ⟨hd1,hd2⟩:=hp;obtain ⟨hdn1,hdn2⟩:=hpn
    have hcs:=And.intro c1 (And.intro c9 True.intro)
    clear c1 c9
    exact W0
  ·have h1i:(70:Int) < (p.cavs.length:Int):=by omega
   clear hout h0 hraw
   refine Bd func5 ntmps5 fun σ N hp hpn hk hkn hfree=>?_
   simp only [List.mem_cons,List.not_mem_nil,or_false,forall_eq_or_imp,forall_eq] at hp hpn;obtain ⟨hd1,hd2⟩:=hp;obtain ⟨hdn1,hdn2⟩:=hpn
   have hcs:=And.intro c1 (And.intro c9 True.intro)
   clear c1 c9
   exact W0
 ·have c1:=zht raw hraw.pl hraw.bl false ⟨fun h=>(by cases h),fun h=>absurd h h0⟩
  clear hout h0 hraw
  refine Bd func5 ntmps5 fun σ N hp hpn hk hkn hfree=>?_
  simp only [List.mem_cons,List.not_mem_nil,or_false,forall_eq_or_imp,forall_eq] at hp hpn;obtain ⟨hd1,hd2⟩:=hp;obtain ⟨hdn1,hdn2⟩:=hpn
  have hcs:=And.intro c1 (And.intro c9 True.intro)
  clear c1 c9
  exact W0
set_option maxHeartbeats 16000000 in
theorem zhc (raw:Kn) (hraw:KnW raw) (p:Pa) (hp:PaW p) (b:Bu) (hb:BuWd b) (x:It) (hx:x.box.length≤140737488351232) (t:Tg) (xs:List Int) (hxs:xs.length≤9223372036854775807) (n:Nat) (hn:n < 256)
  (h0:Few raw) (h1:p.cavs.length≤70) (h2:b.cavs.length≤70) (h3:b.dis.length≤30) (g h:Nat) (hgh:g≠h) (k:Nat):
  ACall prog 5 [xT raw,zG p,ye b,xm x,zd t,.slice none (xs.map jI),.lit (.int .u8 n)] k [(g,yE),(h,zS)] (.lit (.bool true)) []:=by
 have c9:=zaa g h hgh
 have c1:=zht raw hraw.pl hraw.bl true ⟨fun _=>h0,fun _=>rfl⟩
 obtain ⟨s,A,q,i0,j,hs,hK,hi0,hj,c2⟩:=zjA xs hxs
 obtain ⟨hsp,hsg,hsl⟩:=yW hs
 have hqc:=hK.kc
 have hqb:=hK.bl
 have hqi:=hK.il
 have hrc:KnC raw:=hraw.c h0
 have hrb:=h0.bl
 have hri:=h0.il
 have hpc:PaC p:=⟨by omega,fun c hc=>(hp.ok c hc).2⟩
 have hbc:BuC b:=⟨by omega,fun c hc=>(hb.cs c hc).2,by omega,fun d hd=>(hb.ds d hd).1⟩
 have h1i:¬ (70:Int) < (p.cavs.length:Int):=by omega
 have h2i:¬ (70:Int) < (b.cavs.length:Int):=by omega
 have h3i:¬ (30:Int) < (b.dis.length:Int):=by omega
 have hhas:zka q s.pass.tag=true:=by
  obtain ⟨r,hr⟩:=hK.p0
  unfold zka
  rw [hr,List.any_cons,decide_eq_true rfl,Bool.true_or,Bool.true_or]
 have c8:=zbH q hqc s.pass.tag
 rw [hhas] at c8
 have hsA:zbS { s with alg:=A }=.agg [zA A,zbF s.ring,xW s.con,.agg [.lit (.int .i64 s.pass.epoch),.lit (.int .i64 s.pass.serial),.slice none (s.pass.cavs.map z8),zd s.pass.tag],.slice none (s.grants.map zw),yD s.req,.lit (.string ⟨s.holder.toArray⟩),.lit (.int .i64 s.minute)]:=rfl
 rw [hsA] at c2
 have hpA:zG p=.agg [.lit (.int .i64 p.epoch),.lit (.int .i64 p.serial),.slice none (p.cavs.map z8),zd p.tag]:=rfl
 have hbA:ye b=.agg [yD b.req,.lit (.int .i64 b.epoch),.lit (.int .i64 b.serial),.slice none (b.cavs.map z8),zd b.proof,.slice none (b.dis.map zC)]:=rfl
 have hwm:(n:Int).tmod 40=((n % 40:Nat):Int):=by rw [Int.tmod_eq_emod_of_nonneg oo];omega
 have hwn:IntKind.i64.wrap (n:Int)=n:=wrap_i64 oo oo
 have hn4:n % 40 < 40:=Nat.mod_lt _ (by decide)
 generalize hm:n % 40=m at *
 clear hm
 have h75:∀ z:Int,ye ⟨⟨0,0⟩,0,z,[],zeroTag,[]⟩=.agg [.agg [.lit (.int .i64 0),.lit (.int .i64 0)],.lit (.int .i64 0),.lit (.int .i64 z),.slice none [],zd zeroTag,.slice none []]:=fun _=>rfl
 have h85:∀ z:Int,xm ⟨z,0,0,zeroTag,[],zeroTag⟩=.agg [.lit (.int .i64 z),.lit (.int .i64 0),.lit (.int .i64 0),zd zeroTag,.slice none [],zd zeroTag]:=fun _=>rfl
 have h30:∀ z:Int,zG ⟨0,z,[],zeroTag⟩=.agg [.lit (.int .i64 0),.lit (.int .i64 z),.slice none [],zd zeroTag]:=fun _=>rfl
 clear hraw h0 hs hK hj hp hb hhas hsA
 rw [hpA,hbA]
 refine Bd func5 ntmps5 fun σ N hp hpn hk hkn hfree=>?_
 simp only [List.mem_cons,List.not_mem_nil,or_false,forall_eq_or_imp,forall_eq] at hp hpn;obtain ⟨hd1,hd2⟩:=hp;obtain ⟨hdn1,hdn2⟩:=hpn
 have hcs:=And.intro c1 (And.intro c2 True.intro)
 clear c1 c2
 refine Wk ?_
 clear hcs
 refine ze zi (by kernel_rfl) [19,20,21,57,58,59,60,61,62,63,64,65,66,67,68,69,70,71,72,73,74,75,76,77,78,79,80,81,82,83] [N+38+1] (fun m_ s_ σ_ n_=>∃ (u:Nat) (F:Kn),m_=m+30 - u∧s_ 19=.lit (.int .i64 u)∧σ_ (N+38+1)=.box 71 (xT F)∧(u≤m+30)∧(KnC F)∧(F.bs.length≤4+u)∧(F.its.length≤4+u)) ⟨_,0,q,rfl,WF,WF,WC,WC,WC,WC⟩ ?_
 intro m_1 s_1 σ_1 n_1 hs_1 hf_1 hn_1 hI_1
 obtain ⟨u,F,hm_1,h1_19,e1_0,hu,hF,hFb,hFi⟩:=hI_1
 have h1_6:=KS hs_1 6
 have h1_7:=KS hs_1 7
 have h1_8:=KS hs_1 8
 have h1_9:=KS hs_1 9
 have h1_10:=KS hs_1 10
 have h1_11:=KS hs_1 11
 have h1_14:=KS hs_1 14
 have h1_15:=KS hs_1 15
 have h1_16:=KS hs_1 16
 have h1_18:=KS hs_1 18
 have k1_0:=KE hf_1 (N)
 have k1_1:=KE hf_1 (N+1)
 have k1_2:=KE hf_1 (N+2)
 have k1_3:=KE hf_1 (N+3)
 have k1_4:=KE hf_1 (N+4)
 have k1_5:=KE hf_1 (N+27+6)
 have k1_6:=KE hf_1 (N+27+7)
 have k1_7:=KE hf_1 (g)
 have k1_8:=KE hf_1 (h)
 have hlow:=KL (N:=N) (σ:=σ) hf_1
 by_cases hul:u=m+30
 ·subst hul
  have hui:¬ (((m+30:Nat):Int) < (m:Int)+30):=by omega
  obtain ⟨L3,hL3⟩:∃ L3:List Kn,L3=[q,raw,F]:=⟨_,rfl⟩
  have hl3:L3.length=3:=by rw [hL3];rfl
  have hle:∀ r,AV.le (.slice (some r) [xT q,xT raw,xT F]) (.slice none (L3.map xT)):=fun r=>by rw [hL3];exact AV.le_own _ _
  have hall:∀ z∈L3,KnC z∧z.bs.length < 100000∧z.its.length < 100000:=fun z hz=>by
   rw [hL3] at hz
   simp only [List.mem_cons,List.not_mem_nil,or_false] at hz
   rcases hz with rfl | rfl | rfl
   ·exact ⟨hqc,by omega,by omega⟩
   ·exact ⟨hrc,by omega,by omega⟩
   ·exact ⟨hF,by omega,by omega⟩
  clear hF hFb hFi hrc hqc hL3
  refine Wm ?_
  iterate 2 refine Wz ?_
  refine jB 87 (by simp (disch:=omega) [go_sem, *];try rfl) (hle _) ?_
  clear hle
  refine ze zi (by kernel_rfl) (14::23::24::25::26::27::89::90::91::92::93::94::95::96::97::98::99::100::101::102::103::104::105::106::107::108::109::110::111::112::113::114::115::116::117::118::119::120::121::122::123::124::125::126::127::128::129::130::131::132::133::134::135::136::137::138::139::140::141::142::143::144::145::146::147::148::149::150::151::152::153::154::155::156::157::158::159::160::[]) [] (fun m_ s_ σ_ n_=>∃ (v:Nat),m_=3 - v∧s_ 89=.lit (.int .i64 v)∧(v≤3)) ⟨_,0,rfl,WF,WC⟩ ?_
  intro m_2 s_2 σ_2 n_2 hs_2 hf_2 hn_2 hI_2
  obtain ⟨v,hm_2,h2_89,hv⟩:=hI_2
  have h2_8:=KS hs_2 8
  have h2_9:=KS hs_2 9
  have h2_10:=KS hs_2 10
  have h2_11:=KS hs_2 11
  have h2_15:=KS hs_2 15
  have h2_16:=KS hs_2 16
  have h2_87:=KS hs_2 87
  have h2_88:=KS hs_2 88
  have k2_0:=KE hf_2 (N)
  have k2_1:=KE hf_2 (N+1)
  have k2_2:=KE hf_2 (N+2)
  have k2_3:=KE hf_2 (N+3)
  have k2_4:=KE hf_2 (N+4)
  have k2_5:=KE hf_2 (N+27+6)
  have k2_6:=KE hf_2 (N+27+7)
  have k2_7:=KE hf_2 (g)
  have k2_8:=KE hf_2 (h)
  have hlow:=KL (N:=N) (σ:=σ) hf_2
  by_cases hvl:v=3
  ·subst hvl
   have hcs:=And.intro c8 (And.intro c9 True.intro)
   clear c8 c9 hall
   exact W0
  ·have hv1:v < L3.length:=by omega
   obtain ⟨z,hz⟩:∃ z,L3[v]=z:=⟨_,rfl⟩
   obtain ⟨hzc,hzb,hzi⟩:=hall z (by rw [← hz];exact List.getElem_mem _)
   have hzm:(L3.map xT)[v]?=some (xT z):=by rw [List.getElem?_map,List.getElem?_eq_getElem hv1,hz];rfl
   have e1:=zpF z hzc p hpc s.grants hsg oo
   have e2:=zct z (by have:=hzc.pl;omega) (by have:=hzc.dl;omega) p s.grants oo
   have e3:=zfr _ (zo5 hzc hpc hsg oo)
   have e4:=zlb z b hzc hbc hzb
   have e5:=zeD z b oo
   have e6:=zfr _ (hzc.see hbc hzb)
   have e7:=zpK z x hzc hx hzi
   have e8:=zcu z x oo
   have e9:=zfr _ (hzc.watch hx hzi)
   have e10:=zbH z hzc t
   have e11:=zm8 z hzc t
   have e12:=zbH z hzc s.pass.tag
   have e13:=zm8 z hzc s.pass.tag
   generalize v7 z p s.grants=X1 at *
   obtain ⟨X1,E1⟩:=X1
   generalize (⟨z.ps,z.ds,xy z.bs b,z.its⟩:Kn)=X2 at *
   generalize (⟨z.ps,z.ds,z.bs,xy z.its x⟩:Kn)=X3 at *
   generalize zka z t=B1 at *
   generalize zka z s.pass.tag=B2 at *
   rw [hpA] at e1 e2
   rw [hbA] at e4 e5
   simp only at e1 e2 e3
   clear hall hzc hpc hbc hpA hbA c8 c9 hsp hsg h75 h85 h30 hx
   have hcs:=And.intro e1 (And.intro e2 (And.intro e3 (And.intro e4 (And.intro e5 (And.intro e6 (And.intro e7 (And.intro e8 (And.intro e9 (And.intro e10 (And.intro e11 (And.intro e12 (And.intro e13 True.intro))))))))))))
   clear e1 e2 e3 e4 e5 e6 e7 e8 e9 e10 e11 e12 e13
   refine Wk ?_
   clear hcs
   exact ⟨WS,WG,WN,_,(show 3 - (v+1) < m_2 by omega),v+1,rfl,WF,WC⟩
 ·have hui:(u:Int) < (m:Int)+30:=by omega
  have k1:=zeD F ⟨⟨0,0⟩,0,(u:Int)+1,[],zeroTag,[]⟩ oo
  have g1:=hF.see (b:=⟨⟨0,0⟩,0,(u:Int)+1,[],zeroTag,[]⟩) ⟨by simp,fun c hc=>(by cases hc),by simp,fun c hc=>(by cases hc)⟩ oo
  have l1:=xu F.bs (⟨⟨0,0⟩,0,(u:Int)+1,[],zeroTag,[]⟩:Bu)
  have k2:=zcu ⟨F.ps,F.ds,xy F.bs ⟨⟨0,0⟩,0,(u:Int)+1,[],zeroTag,[]⟩,F.its⟩ ⟨(u:Int)+1,0,0,zeroTag,[],zeroTag⟩ (by simp only;omega)
  have g2:=g1.watch (b:=⟨(u:Int)+1,0,0,zeroTag,[],zeroTag⟩) (by simp) (by simp only;omega)
  have l2:=xu F.its (⟨(u:Int)+1,0,0,zeroTag,[],zeroTag⟩:It)
  simp only at k2 g2
  rw [h75] at k1
  rw [h85] at k2
  generalize xy F.bs (⟨⟨0,0⟩,0,(u:Int)+1,[],zeroTag,[]⟩:Bu)=F1 at *
  generalize xy F.its (⟨(u:Int)+1,0,0,zeroTag,[],zeroTag⟩:It)=F2 at *
  have k3:=zct ⟨F.ps,F.ds,F1,F2⟩ (by have:=hF.pl;simp only;omega) (by have:=hF.dl;simp only;omega) ⟨0,u,[],zeroTag⟩ [] (by simp)
  have g3:=zo5 (p:=⟨0,u,[],zeroTag⟩) (L:=[]) g2 ⟨by simp,fun c hc=>(by cases hc)⟩ (fun d hd=>by cases hd) (by simp)
  have l3:=zrq (q:=⟨F.ps,F.ds,F1,F2⟩) (p:=⟨0,u,[],zeroTag⟩) (L:=[])
  rw [h30,List.map_nil] at k3
  generalize v7 (⟨F.ps,F.ds,F1,F2⟩:Kn) ⟨0,u,[],zeroTag⟩ []=Z at *
  obtain ⟨F3,e3⟩:=Z
  simp only at k3 g3 l3
  clear g1 hF hrc hqc hpc hbc hpA hbA c8 c9 hsp hsg h75 h85 h30 hx
  have hcs:=And.intro k1 (And.intro k2 (And.intro k3 True.intro))
  clear k1 k2 k3
  by_cases he:e3=0
  ·subst he
   refine Wk ?_
   clear hcs
   exact ⟨WS,WG,WN,_,(show m+30 - (u+1) < m_1 by omega),u+1,F3,rfl,WF,WF,WC,WC,WC,WC⟩
  ·have he2:((e3:Int) == 0)=false:=by rw [beq_eq_false_iff_ne];omega
   refine Wk ?_
   clear hcs
   exact ⟨WS,WG,WN,_,(show m+30 - (u+1) < m_1 by omega),u+1,⟨F.ps,F.ds,F1,F2⟩,rfl,WF,WF,WC,WC,WC,WC⟩
end
theorem zfp (raw:Kn) (hraw:KnW raw) (p:Pa) (hp:PaW p) (b:Bu) (hb:BuWd b) (x:It) (hx:x.box.length≤140737488351232) (t:Tg) (_:True) (xs:List Int) (_:∀ n∈xs,(Lit.int .i64 n).wf=true) (hxs:xs.length≤9223372036854775807) (n:Int) (w:(Lit.int .u8 n).wf=true) (g h:Nat) (hgh:g≠h) (k:Nat):
  ACall prog 5 [xT raw,zG p,ye b,xm x,zd t,.slice none (xs.map jI),.lit (.int .u8 n)] k [(g,yE),(h,zS)] (.lit (.bool true)) []:=by
 obtain ⟨c,_,rfl⟩:=kB w
 by_cases hh:Few raw∧p.cavs.length≤70∧b.cavs.length≤70∧b.dis.length≤30
 ·exact @zhc w32 raw hraw p hp b hb x hx t xs hxs c.toNat (by have:=c.toNat_lt;omega) hh.1 hh.2.1 hh.2.2.1 hh.2.2.2 g h hgh k
 ·exact @zf9 w32 raw hraw p b x t xs c.toNat hh g h hgh k
end Go.Proofs.YtglmjglbobhbbaaGreatDoor
