/- Texts P20, P21, P15, P22, P1, W4p, P23, C14, C15, X1, X2, X3, X4, X5, X6, C16, X7, X8, X9, X10, X11, W17, X13, W12, W15, I3, U27p, U24, Y8p, Y15, P26, P16, U19, joined. -/
import Derived.Test.YtglmjglbobhbbaaGreatDoorMD1
import Derived.RecoverIn
import Derived.RangeFuncLeaves
namespace Go.Proofs.YtglmjglbobhbbaaGreatDoor
open _root_.Go.Proofs.Tryz
open Go.Ab
attribute [local irreducible] Go.Ab.tyAV Go.Ab.aw Go.Ab.aops Go.Ab.kReg Go.Ab.aThen Go.Ab.aBlk Go.Ab.acond Go.Ab.aguard Go.Ab.astep Go.Ab.AStepX Go.Ab.aRet
@[go_sem] theorem zft (l:List Di):(l.map zw).all (fun x=>x.cell)=true:=by
 rw [List.all_eq_true];intro x hx;obtain ⟨b,_,rfl⟩:=List.mem_map.1 hx;exact zbd b
@[go_sem] theorem zse:zDiAV.sz=34:=by unfold zDiAV;simp [AV.sz,AV.szl,zB]
@[go_sem] theorem zmc:zDiAV.cell=true:=by unfold zDiAV;simp [AV.cell,AV.celll,zj]
set_option maxHeartbeats 1000000 in
theorem ku (l:List Di) (hl:l.length≤100000) (hc:∀ x∈l,WdT x.ticket x.conds) (k:Nat):
  ACall prog 59 [.slice none (l.map zw)] k [] (.ms k 1 34 0 l.length) [(k,.mrow 1 34 34 (l.map zw))]:=by
 have c0:=zbG l hl
 refine Bd func59 ntmps59 fun σ N hp hpn hk hkn hfree=>?_
 have hcs:=And.intro c0 True.intro
 clear c0
 refine Wk ?_
 clear hcs
 refine ze zi (by kernel_rfl) [4,9,10,11,12,13,14,15,16,17,18,19,20,21,22,23,24,25,26,27,28,29,30,31,32] [N+2] (fun m_ s_ σ_ n_=>∃ (u:Nat),m_=l.length - u∧s_ 9=.lit (.int .i64 u)∧s_ 3=.ms (N+2) 1 34 0 l.length∧σ_ (N+2)=.mrow 1 34 34 (l.map zw)∧(u≤l.length)) ⟨_,0,rfl,WF,WF,WF,WC⟩ ?_
 intro m_1 s_1 σ_1 n_1 hs_1 hf_1 hn_1 hI_1
 obtain ⟨u,hm_1,h1_9,h1_3,e1_0,hu⟩:=hI_1
 have h1_2:=KS hs_1 2
 have h1_3:=KS hs_1 3
 have h1_8:=KS hs_1 8
 have hlow:=KL (N:=N) (σ:=σ) hf_1
 by_cases hul:u=l.length
 ·subst hul
  clear hc
  refine Wk ?_
  refine zQ (r0:=N+2) (E':=.mrow 1 34 34 (l.map zw)) (by simp (disch:=omega) [go_sem, *,-List.reduceReplicate];rfl) oo (by simp (disch:=omega) [go_sem];try rfl) (fun id hid=>by simp (disch:=omega) only;try exact hlow id hid) (by simp (disch:=omega) only;assumption) (by simp (disch:=omega) [go_sem])
 ·have hu1:u < l.length:=by omega
  have hmz:=hc _ (List.getElem_mem hu1)
  obtain ⟨z,hz⟩:∃ z,l[u]=z:=⟨_,rfl⟩
  rw [hz] at hmz
  have hset:(l.map zw).set u (zw z)=l.map zw:=by
   rw [← hz,← List.getElem_map (f:=zw) (h:=by rw [List.length_map];exact hu1)]
   exact List.set_getElem_self _
  have hzm:(l.map zw)[u]?=some (zw z):=by rw [List.getElem?_map,List.getElem?_eq_getElem hu1,hz];rfl
  have hsz:AV.szl ((l.map zw).take u)=u * 34:=by
   rw [← List.map_take,AV.szl_uniform _ 34 (fun x hx=>by obtain ⟨c,_,rfl⟩:=List.mem_map.1 hx;exact zbt c),List.length_map,List.length_take,Nat.min_eq_left oo]
  have ho0:(AV.agg (l.map zw)).offs [u,0]=u * 34+0:=by simp only [AV.offs,hzm,hsz];rfl
  have hp0:(zw z).put [0] (.slice none (z.ticket.map za))=zw z:=rfl
  have k0:=yC z.ticket hmz.1
  have ho1:(AV.agg (l.map zw)).offs [u,1]=u * 34+1:=by simp only [AV.offs,hzm,hsz];rfl
  have hp1:(zw z).put [1] (.slice none (z.conds.map zU))=zw z:=rfl
  have k1:=qO z.conds hmz.2
  have hcs:=And.intro k0 (And.intro k1 (True.intro))
  clear k0 k1 hc hmz
  refine Wk ?_
  exact ⟨WS,WG,WN,_,(show l.length - (u+1) < m_1 by omega),u+1,rfl,WF,WF,WF,WC⟩
theorem zc8 {l:List Di} {i:Nat}:l.take i++(l.drop (i+1))=l.eraseIdx i:=(List.eraseIdx_eq_take_drop_succ l i).symm
theorem zao (l:List Di) (i:Nat) (hi:i < l.length) (hl:l.length≤100000) (d k:Nat):
  ACall prog 58 [.ms d 1 34 0 l.length,.lit (.int .i64 i),.lit (.int .i64 (i+1))] k [(d,.mrow 1 34 34 (l.map zw))] (.ms d 1 34 0 (l.length - 1)) [(d,.mrow 1 34 34 ((l.eraseIdx i).map zw++[zDiAV]))]:=by
 obtain ⟨L,hL⟩:∃ L,l.length=L:=⟨_,rfl⟩
 have hiL:i+1≤L:=by omega
 have hlen:(l.eraseIdx i).length=L - 1:=by rw [List.length_eraseIdx_of_lt hi];omega
 have ht1:((i:Int)+1).toNat=i+1:=by omega
 have ht2:(0:Int)≤(i:Int)+1:=by omega
 have hkm:i+(L - (i+1))=L - 1:=by omega
 have hne:((i:Int) == (i:Int)+1)=false:=by rw [beq_eq_false_iff_ne];omega
 have hL1:((L - 1:Nat):Int).toNat=L - 1:=by omega
 have hL2:L - (L - 1)=1:=by omega
 have hL3:L - 1+1=L:=by omega
 have h1:i+1+(L - (i+1))=L:=by omega
 have h2:((l.map zw).drop (i+1)).take (L - (i+1))=(l.map zw).drop (i+1):=List.take_of_length_le (by simp;omega)
 have e1:(l.map zw).take i++((l.map zw).drop (i+1)++(l.map zw).drop (L - 1))=(l.eraseIdx i).map zw++(l.map zw).drop (L - 1):=by
  rw [← List.append_assoc,← List.map_take,← List.map_drop (i:=i+1),← List.map_append,zc8]
 obtain ⟨M,hM⟩:∃ M,(l.map zw).take i++((l.map zw).drop (i+1)++(l.map zw).drop (L - 1))=M:=⟨_,rfl⟩
 have m1:M.take (L - 1)=(l.eraseIdx i).map zw:=by rw [← hM,e1,List.take_left' (by simp [hlen])]
 have m2:M.length=L:=by rw [← hM,e1];simp [hlen];omega
 have m3:M.drop L=[]:=by rw [List.drop_eq_nil_iff];omega
 have hz0:AV.agg [.nils,.nils,zd zeroTag]=zDiAV:=rfl
 clear e1
 rw [hL]
 refine Bd func58 ntmps58 fun σ N hp hpn hk hkn hfree=>?_
 obtain ⟨hd,hdn⟩:=HD0 hp hpn;clear hp hpn
 refine Wk ?_
 exact RW (d) (.mrow 1 34 34 ((l.eraseIdx i).map zw++[zDiAV]))
theorem kT (l:List Di) (hl:l.length≤1000000) (hc:∀ x∈l,x.ticket.length≤140737488351232) (t:List UInt8) (ht:t.length≤140737488351232) (d k:Nat):
  ACall prog 57 [.ms d 1 34 0 l.length,.slice none (t.map za)] k [(d,.mrow 1 34 34 (l.map zw))] (kx (fdI (isT t) l 0)) []:=by
 obtain ⟨R,hR⟩:∃ R,fdI (isT t) l 0=R:=⟨_,rfl⟩
 rw [hR]
 have hdr:l.drop 0=l:=rfl
 refine Bd func57 ntmps57 fun σ N hp hpn hk hkn hfree=>?_
 obtain ⟨hd,hdn⟩:=HD0 hp hpn;clear hp hpn
 refine Wk ?_
 refine ze zi (by kernel_rfl) [4,5,6,7,8,9,12,13,14,15,16,17,18,19,20,21,22,23,24,25,26,27,28,29,30] [] (fun m_ s_ σ_ n_=>∃ (u:Nat),m_=l.length - u∧s_ 12=.lit (.int .i64 u)∧(u≤l.length)∧(fdI (isT t) (l.drop u) u=R)) ⟨_,0,rfl,WF,WC,WC⟩ ?_
 intro m_2 s_2 σ_2 n_2 hs_2 hf_2 hn_2 hI_2
 obtain ⟨u,hm_2,h2_12,hu,hno⟩:=hI_2
 have h2_1:=KS hs_2 1
 have h2_10:=KS hs_2 10
 have h2_11:=KS hs_2 11
 have k2_0:=KE hf_2 (d)
 have hlow:=KL (N:=N) (σ:=σ) hf_2
 clear hR hdr
 by_cases hul:u=l.length
 ·subst hul
  rw [List.drop_length,fdI] at hno
  subst hno
  unfold kx
  clear hc
  exact W0
 ·have hu1:u < l.length:=by omega
  rw [List.drop_eq_getElem_cons hu1,fdI] at hno
  have hzt:=hc _ (List.getElem_mem hu1)
  obtain ⟨z,hz⟩:∃ z,l[u]=z:=⟨_,rfl⟩
  rw [hz] at hno hzt
  have hzm:(l.map zw)[u]?=some (zw z):=by rw [List.getElem?_map,List.getElem?_eq_getElem hu1,hz];rfl
  have hsz:AV.szl ((l.map zw).take u)=u * 34:=by
   rw [← List.map_take,AV.szl_uniform _ 34 (fun x hx=>by obtain ⟨c,_,rfl⟩:=List.mem_map.1 hx;exact zbt c),List.length_map,List.length_take,Nat.min_eq_left oo]
  have ho:(AV.agg (l.map zw)).offs [u]=u * 34:=by simp only [AV.offs,hzm,hsz];rfl
  have c1:=zaO z
  have c2:=xB z.ticket t hzt ht
  unfold isT at hno
  by_cases hq:z.ticket=t
  ·rw [decide_eq_true hq] at hno c2
   rw [if_pos rfl] at hno
   subst hno
   unfold kx
   clear hc hq
   have hcs:=And.intro c1 (And.intro c2 True.intro)
   clear c1 c2
   exact W0
  ·rw [decide_eq_false hq] at hno c2
   rw [if_neg (by simp)] at hno
   clear hc hq
   have hcs:=And.intro c1 (And.intro c2 True.intro)
   clear c1 c2
   refine Wk ?_
   clear hcs
   exact ⟨WS,WG,WN,_,(show l.length - (u+1) < m_2 by omega),u+1,rfl,WF,WC,WC⟩
structure WaC (w:Wa):Prop where
 pl:w.ps.length≤100000
 pc:∀ p∈w.ps,PaC p
 dl:w.ds.length≤100000
 dc:∀ d∈w.ds,WdT d.ticket d.conds
theorem za8 (w:Wa) (h:WaC w) (k:Nat):ACall prog 53 [yp w] k [] (yp w) []:=by
 have c1:=qR w.ps h.pl h.pc
 have c2:=yx w.ds h.dl h.dc
 clear h
 obtain ⟨P,D⟩:=w
 unfold yp
 simp only at *
 refine Bd func53 ntmps53 fun σ N hp hpn hk hkn hfree=>?_
 have hcs:=And.intro c1 (And.intro c2 True.intro)
 clear c1 c2
 exact W0
theorem qe (w:Wa) (h:WaC w) (k:Nat):ACall prog 53 [yp w] k [] (.agg [.slice none (w.ps.map zG),.ms k 1 34 0 w.ds.length]) [(k,.mrow 1 34 34 (w.ds.map zw))]:=by
 have c1:=qR w.ps h.pl h.pc
 have c2:=ku w.ds h.dl h.dc
 clear h
 obtain ⟨P,D⟩:=w
 unfold yp
 simp only at *
 refine Bd func53 ntmps53 fun σ N hp hpn hk hkn hfree=>?_
 have hcs:=And.intro c1 (And.intro c2 True.intro)
 clear c1 c2
 refine Wk ?_
 refine zQ (r0:=N+2+5) (E':=.mrow 1 34 34 (D.map zw)) (by simp (disch:=omega) [go_sem, *,-List.reduceReplicate];rfl) oo (by simp (disch:=omega) [go_sem];try rfl) (fun id hid=>by simp (disch:=omega) only [zg,zF,yi];try exact hlow id hid) (by simp (disch:=omega) [go_sem, *,-List.reduceReplicate]) (by simp (disch:=omega) [go_sem])
def w0:Wa:=⟨[],[]⟩
def wW (w:Wa) (p:Pa):Wa × Nat:=if w.ps.length < 32 then (⟨w.ps++[p],w.ds⟩,0) else (w0,2)
theorem ziD (w:Wa) (h:WaC w) (p:Pa) (hp:PaC p) (hl:w.ps.length < 32) (k:Nat):ACall prog 14 [yp w,zG p] k [] (.tup [yp ⟨w.ps++[p],w.ds⟩,.lit (.int .i64 0)]) []:=by
 have c1:=zaR w.ps oo
 have c2:=za8 ⟨w.ps++[p],w.ds⟩ ⟨by simp only [List.length_append,List.length_singleton];omega,fun x hx=>by
  rcases List.mem_append.1 hx with hx | hx
  ·exact h.pc x hx
  ·rw [List.mem_singleton.1 hx];exact hp,h.dl,h.dc⟩
 clear h hp
 obtain ⟨P,D⟩:=w
 unfold yp at *
 simp only at *
 have hp1:¬ (32:Int)≤(P.length:Int):=by omega
 have hb26:(P.length+1) * 72≤140737488355328:=by omega
 have hmm:P.map zG++[zG p]=(P++[p]).map zG:=by simp
 generalize P++[p]=P2 at *
 refine Bd func14 ntmps14 fun σ N hp hpn hk hkn hfree=>?_
 have hcs:=And.intro c1 (And.intro c2 True.intro)
 clear c1 c2
 refine Wk ?_
 exact WD
theorem zf7 (w:Wa) (p:Pa) (hl:32≤w.ps.length) (k:Nat):ACall prog 14 [yp w,zG p] k [] (.tup [.agg [.nils,.nils],.lit (.int .i64 2)]) []:=by
 obtain ⟨P,D⟩:=w
 unfold yp at *
 simp only at *
 have hp1:(32:Int)≤(P.length:Int):=by omega
 refine Bd func14 ntmps14 fun σ N hp hpn hk hkn hfree=>?_
 exact W0
theorem zdY:AV.le (.agg [.nils,.nils]) (yp w0):=AV.sub_agg (.cons AV.le_nils0 (.cons AV.le_nils0 .nil))
theorem qc (w:Wa) (h:WaC w) (p:Pa) (hp:PaC p) (k:Nat):ACall prog 14 [yp w,zG p] k [] (.tup [yp (wW w p).1,.lit (.int .i64 (wW w p).2)]) []:=by
 unfold wW
 by_cases hc:w.ps.length < 32
 ·rw [if_pos hc];exact ziD w h p hp hc k
 ·rw [if_neg hc]
  exact (zf7 w p oo k).result (AV.sub_tup (.cons zdY (.cons (AV.le_refl _) .nil)))
def wL (w:Wa) (d:Di):Wa × Nat:=if (w.ds.eraseP (isT d.ticket)).length < 32 then (⟨w.ps,w.ds.eraseP (isT d.ticket)++[d]⟩,0) else (w0,2)
set_option maxHeartbeats 4000000 in
theorem zd1 (w:Wa) (h:WaC w) (d:Di) (hd:WdT d.ticket d.conds) (hf:fdI (isT d.ticket) w.ds 0=none) (k:Nat):
  ACall prog 17 [yp w,zw d] k [] (.tup [yp (wL w d).1,.lit (.int .i64 (wL w d).2)]) []:=by
 have he:=(zcI hf).1
 unfold wL
 rw [he]
 have c1:=qe w h
 have c2:=fun a=>kT w.ds (by have:=h.dl;omega) (fun x hx=>(h.dc x hx).1) d.ticket hd.1 a
 have c3:=yx [d] (by simp) (fun x hx=>by rw [List.mem_singleton.1 hx];exact hd)
 rw [hf] at c2
 have hdl:=h.dl
 clear h hd hf he
 obtain ⟨P,D⟩:=w
 obtain ⟨ti,L,tg⟩:=d
 have hdA:zw ⟨ti,L,tg⟩=.agg [.slice none (ti.map za),.slice none (L.map zU),zd tg]:=rfl
 unfold yp kx at *
 simp only [List.map_cons,List.map_nil] at *
 have hmm:D.map zw++[zw ⟨ti,L,tg⟩]=(D++[(⟨ti,L,tg⟩:Di)]).map zw:=by simp
 have htk:(D.map zw).take D.length=D.map zw:=List.take_of_length_le (by simp)
 have hll:(D++[(⟨ti,L,tg⟩:Di)]).length=D.length+1:=by simp
 have hb80:(D.length+1) * 80≤140737488355328:=by omega
 generalize hD2:D++[(⟨ti,L,tg⟩:Di)]=D2 at *
 clear hD2
 rw [hdA] at c3 hmm ⊢
 clear hdA
 by_cases h32:D.length < 32
 ·rw [if_pos h32]
  have h32i:¬ (32:Int) < (D.length:Int)+1:=by omega
  simp only
  refine Bd func17 ntmps17 fun σ N hp hpn hk hkn hfree=>?_
  have hcs:=And.intro c1 (And.intro (c2 (N+4+1)) (And.intro c3 True.intro))
  clear c1 c2 c3
  refine Wm ?_
  iterate 6 refine Wz ?_
  refine yM (N+4+2) [1] (r:=N+4+1) (ver:=2) (size:=34) (e:=34) (xs:=D2.map zw) (k:=D.length+1) (by simp (disch:=omega) [go_sem, *,-List.reduceReplicate];try exact ⟨rfl,rfl⟩) (by simp (disch:=omega) [go_sem, *,-List.reduceReplicate]) (by simp (disch:=omega) [go_sem, *,-List.reduceReplicate]) (by simp [hll]) ?_
  refine Wk ?_
  exact WD
 ·rw [if_neg h32]
  have h32i:(32:Int) < (D.length:Int)+1:=by omega
  refine ACall.result (r:=.tup [.agg [.nils,.nils],.lit (.int .i64 2)]) ?_ (AV.sub_tup (.cons zdY (.cons (AV.le_refl _) .nil)))
  refine Bd func17 ntmps17 fun σ N hp hpn hk hkn hfree=>?_
  have hcs:=And.intro c1 (And.intro (c2 (N+4+1)) (And.intro c3 True.intro))
  clear c1 c2 c3
  exact W0
set_option maxHeartbeats 4000000 in
theorem zd2 (w:Wa) (h:WaC w) (d:Di) (hd:WdT d.ticket d.conds) (i:Nat) (hf:fdI (isT d.ticket) w.ds 0=some i) (k:Nat):
  ACall prog 17 [yp w,zw d] k [] (.tup [yp (wL w d).1,.lit (.int .i64 (wL w d).2)]) []:=by
 obtain ⟨_,hi,he⟩:=zcJ hf
 unfold wL
 rw [he]
 simp only [Nat.sub_zero,Nat.zero_add] at hi ⊢
 have c1:=qe w h
 have c2:=fun a=>kT w.ds (by have:=h.dl;omega) (fun x hx=>(h.dc x hx).1) d.ticket hd.1 a
 have c3:=yx [d] (by simp) (fun x hx=>by rw [List.mem_singleton.1 hx];exact hd)
 have c4:=fun a=>zao w.ds i hi h.dl a
 rw [hf] at c2
 have hdl:=h.dl
 have hel:(w.ds.eraseIdx i).length=w.ds.length - 1:=List.length_eraseIdx_of_lt hi
 clear h hd hf he
 obtain ⟨P,D⟩:=w
 obtain ⟨ti,L,tg⟩:=d
 have hdA:zw ⟨ti,L,tg⟩=.agg [.slice none (ti.map za),.slice none (L.map zU),zd tg]:=rfl
 unfold yp kx at *
 simp only [List.map_cons,List.map_nil] at *
 generalize D.eraseIdx i=E at *
 have hmm:E.map zw++[zw ⟨ti,L,tg⟩]=(E++[(⟨ti,L,tg⟩:Di)]).map zw:=by simp
 have htk:(E.map zw++[zDiAV]).take (D.length - 1)=E.map zw:=List.take_left' (by simp [hel])
 have hll:(E++[(⟨ti,L,tg⟩:Di)]).length=D.length - 1+1:=by simp [hel]
 have hb80:(D.length - 1+1) * 80≤140737488355328:=by omega
 have hb80':D.length * 80≤140737488355328:=by omega
 have hcast:((D.length - 1:Nat):Int)+1=(D.length:Int):=by omega
 have hcn:D.length - 1+1=D.length:=by omega
 generalize hD2:E++[(⟨ti,L,tg⟩:Di)]=D2 at *
 clear hD2
 rw [hdA] at c3 hmm ⊢
 clear hdA
 by_cases h32:E.length < 32
 ·rw [if_pos h32]
  have h32i:¬ (32:Int) < (D.length:Int):=by omega
  simp only
  refine Bd func17 ntmps17 fun σ N hp hpn hk hkn hfree=>?_
  have hcs:=And.intro c1 (And.intro (c2 (N+4+1)) (And.intro (c4 (N+4+1)) (And.intro c3 True.intro)))
  clear c1 c2 c3 c4
  refine Wm ?_
  iterate 7 refine Wz ?_
  refine yM (N+4+2) [1] (r:=N+4+1) (ver:=2) (size:=34) (e:=34) (xs:=D2.map zw) (k:=D.length) (by simp (disch:=omega) [go_sem, *,-List.reduceReplicate];try exact ⟨rfl,rfl⟩) (by simp (disch:=omega) [go_sem, *,-List.reduceReplicate]) (by simp (disch:=omega) [go_sem, *,-List.reduceReplicate]) (by simp [hll];omega) ?_
  refine Wk ?_
  exact WD
 ·rw [if_neg h32]
  have h32i:(32:Int) < (D.length:Int):=by omega
  refine ACall.result (r:=.tup [.agg [.nils,.nils],.lit (.int .i64 2)]) ?_ (AV.sub_tup (.cons zdY (.cons (AV.le_refl _) .nil)))
  refine Bd func17 ntmps17 fun σ N hp hpn hk hkn hfree=>?_
  have hcs:=And.intro c1 (And.intro (c2 (N+4+1)) (And.intro (c4 (N+4+1)) (And.intro c3 True.intro)))
  clear c1 c2 c3 c4
  exact W0
theorem zbV (w:Wa) (h:WaC w) (d:Di) (hd:WdT d.ticket d.conds) (k:Nat):
  ACall prog 17 [yp w,zw d] k [] (.tup [yp (wL w d).1,.lit (.int .i64 (wL w d).2)]) []:=by
 rcases hf:fdI (isT d.ticket) w.ds 0 with _ | i
 ·exact zd1 w h d hd hf k
 ·exact zd2 w h d hd i hf k
def yf (w:Wa) (i:Int):Pa × Bool:=if 0≤i∧i < (w.ps.length:Int) then ((w.ps[i.toNat]?).getD pa0,true) else (pa0,false)
theorem vE {w:Wa} {i:Int}:(yf w i).1=pa0∨(yf w i).1∈w.ps:=by
 unfold yf
 split
 ·rename_i h
  have hi:i.toNat < w.ps.length:=by omega
  rw [List.getElem?_eq_getElem hi,Option.getD_some]
  exact Or.inr (List.getElem_mem _)
 ·exact Or.inl rfl
theorem zfX:PaC pa0:=⟨by simp [pa0],fun c hc=>by simp [pa0] at hc⟩
theorem wA {w:Wa} (h:∀ p∈w.ps,PaC p) (i:Int):PaC (yf w i).1:=by
 rcases vE (w:=w) (i:=i) with h1 | h1
 ·rw [h1];exact zfX
 ·exact h _ h1
theorem vF (w:Wa) (hw:w.ps.length≤1000000) (i:Int) (k:Nat):ACall prog 61 [yp w,.lit (.int .i64 i)] k [] (.tup [zG (yf w i).1,.lit (.bool (yf w i).2)]) []:=by
 obtain ⟨P,D⟩:=w
 unfold yf
 simp only at *
 have h0A:zG pa0=.agg [.lit (.int .i64 0),.lit (.int .i64 0),.slice none [],zd zeroTag]:=rfl
 have hle:AV.le (.tup [.agg [.lit (.int .i64 0),.lit (.int .i64 0),.nils,zd zeroTag],.lit (.bool false)]) (.tup [zG pa0,.lit (.bool false)]):=by
  rw [h0A]
  exact AV.sub_tup (.cons (AV.sub_agg (.cons (AV.le_refl _) (.cons (AV.le_refl _) (.cons AV.le_nils0 (.cons (AV.le_refl _) .nil))))) (.cons (AV.le_refl _) .nil))
 by_cases h1:i < 0
 ·rw [if_neg oo]
  refine ACall.result ?_ hle
  clear hle h0A
  unfold yp
  simp only
  refine Bd func61 ntmps61 fun σ N hp hpn hk hkn hfree=>?_
  exact W0
 ·by_cases h2:(P.length:Int)≤i
  ·rw [if_neg oo]
   refine ACall.result ?_ hle
   clear hle h0A
   unfold yp
   simp only
   refine Bd func61 ntmps61 fun σ N hp hpn hk hkn hfree=>?_
   exact W0
  ·rw [if_pos oo]
   clear hle h0A
   obtain ⟨n,rfl⟩:=Int.eq_ofNat_of_zero_le (show 0≤i by omega)
   have hn:n < P.length:=by omega
   rw [Int.toNat_natCast,List.getElem?_eq_getElem hn,Option.getD_some]
   obtain ⟨z,hz⟩:∃ z,P[n]=z:=⟨_,rfl⟩
   have hzm:(P.map zG)[n]?=some (zG z):=by rw [List.getElem?_map,List.getElem?_eq_getElem hn,hz];rfl
   rw [hz]
   unfold yp
   simp only
   refine Bd func61 ntmps61 fun σ N hp hpn hk hkn hfree=>?_
   exact W0
theorem qb (w:Wa) (hw:w.ps.length≤1000000) (i:Int) (k:Nat):ACall prog 63 [yp w,.lit (.int .i64 i)] k [] (.tup [zG (yf w i).1,.lit (.bool (yf w i).2)]) []:=by
 obtain ⟨P,D⟩:=w
 unfold yf
 simp only at *
 have h0A:zG pa0=.agg [.lit (.int .i64 0),.lit (.int .i64 0),.slice none [],zd zeroTag]:=rfl
 have hle:AV.le (.tup [.agg [.lit (.int .i64 0),.lit (.int .i64 0),.nils,zd zeroTag],.lit (.bool false)]) (.tup [zG pa0,.lit (.bool false)]):=by
  rw [h0A]
  exact AV.sub_tup (.cons (AV.sub_agg (.cons (AV.le_refl _) (.cons (AV.le_refl _) (.cons AV.le_nils0 (.cons (AV.le_refl _) .nil))))) (.cons (AV.le_refl _) .nil))
 by_cases h1:i < 0
 ·rw [if_neg oo]
  refine ACall.result ?_ hle
  clear hle h0A
  unfold yp
  simp only
  refine Bd func63 ntmps63 fun σ N hp hpn hk hkn hfree=>?_
  exact W0
 ·by_cases h2:(P.length:Int)≤i
  ·rw [if_neg oo]
   refine ACall.result ?_ hle
   clear hle h0A
   unfold yp
   simp only
   refine Bd func63 ntmps63 fun σ N hp hpn hk hkn hfree=>?_
   exact W0
  ·rw [if_pos oo]
   clear hle h0A
   obtain ⟨n,rfl⟩:=Int.eq_ofNat_of_zero_le (show 0≤i by omega)
   have hn:n < P.length:=by omega
   rw [Int.toNat_natCast,List.getElem?_eq_getElem hn,Option.getD_some]
   obtain ⟨z,hz⟩:∃ z,P[n]=z:=⟨_,rfl⟩
   have hzm:(P.map zG)[n]?=some (zG z):=by rw [List.getElem?_map,List.getElem?_eq_getElem hn,hz];rfl
   rw [hz]
   unfold yp
   simp only
   refine Bd func63 ntmps63 fun σ N hp hpn hk hkn hfree=>?_
   exact W0
theorem zaP (p:Pa) (hp:PaC p) (t:List UInt8) (_ht:t.length≤140737488351232) (k:Nat):
  ACall prog 64 [zG p,.slice none (t.map za)] k [] (.lit (.bool (p.cavs.any (isC t)))) []:=by
 obtain ⟨hpl,hpc⟩:=hp
 obtain ⟨ep,se,l,tg⟩:=p
 unfold zG
 simp only at *
 obtain ⟨R,hR⟩:∃ R,(l.drop 0).any (isC t)=R:=⟨_,rfl⟩
 rw [show l.any (isC t)=R from hR]
 refine Bd func64 ntmps64 fun σ N hp hpn hk hkn hfree=>?_
 refine Wk ?_
 refine ze zi (by kernel_rfl) [4,5,6,7,8,9,10,11,12,13,14,15,16,17,18,19,20,21,22,23,24,25,26,27,28] [] (fun m_ s_ σ_ n_=>∃ (u:Nat),m_=l.length - u∧s_ 5=.lit (.int .i64 u)∧(u≤l.length)∧((l.drop u).any (isC t)=R)) ⟨_,0,rfl,WF,WC,WC⟩ ?_
 intro m_1 s_1 σ_1 n_1 hs_1 hf_1 hn_1 hI_1
 obtain ⟨u,hm_1,h1_5,hu,hno⟩:=hI_1
 have h1_1:=KS hs_1 1
 have h1_2:=KS hs_1 2
 have k1_0:=KE hf_1 (N)
 have hlow:=KL (N:=N) (σ:=σ) hf_1
 clear hR
 by_cases hul:u=l.length
 ·subst hul
  rw [List.drop_length,List.any_nil] at hno
  subst hno
  clear hpc
  exact W0
 ·have hu1:u < l.length:=by omega
  rw [List.drop_eq_getElem_cons hu1,List.any_cons] at hno
  have hzt:=(hpc _ (List.getElem_mem hu1)).1
  obtain ⟨z,hz⟩:∃ z,l[u]=z:=⟨_,rfl⟩
  rw [hz] at hno hzt
  have hzm:(l.map z8)[u]?=some (.agg [.lit (.bool z.third),zU z.first,.lit (.int .i64 z.party),.slice none (z.ticket.map za),.slice none (z.box.map za)]):=by rw [List.getElem?_map,List.getElem?_eq_getElem hu1,hz];rfl
  have c2:=vG z.ticket t hzt
  unfold isC at hno
  cases h3:z.third with
  | false=>
   rw [h3,Bool.false_and,Bool.false_or] at hno
   rw [h3] at hzm
   clear hpc c2
   refine Wk ?_
   exact ⟨WS,WG,WN,_,(show l.length - (u+1) < m_1 by omega),u+1,rfl,WF,WC,WC⟩
  | true=>
   rw [h3,Bool.true_and] at hno
   rw [h3] at hzm
   by_cases hq:z.ticket=t
   ·rw [decide_eq_true hq] at hno c2
    rw [Bool.true_or] at hno
    subst hno
    clear hpc hq
    have hcs:=And.intro c2 True.intro
    clear c2
    exact W0
   ·rw [decide_eq_false hq] at hno c2
    rw [Bool.false_or] at hno
    clear hpc hq
    have hcs:=And.intro c2 True.intro
    clear c2
    refine Wk ?_
    clear hcs
    exact ⟨WS,WG,WN,_,(show l.length - (u+1) < m_1 by omega),u+1,rfl,WF,WC,WC⟩
def jc (p:Pa) (D:List Di):List Di:=D.filter fun d=>p.cavs.any (isC d.ticket)
def zbr (w:Wa) (i:Int):List Di:=jc (yf w i).1 w.ds
theorem zdj {w:Wa} (h:∀ d∈w.ds,WdT d.ticket d.conds) (i:Int):∀ d∈zbr w i,WdT d.ticket d.conds:=fun d hd=>h d (List.mem_filter.1 hd).1
theorem kK {w:Wa} (i:Int):(zbr w i).length≤w.ds.length:=List.length_filter_le ..
theorem zgN (D:List Di):jc pa0 D=[]:=by
 unfold jc pa0
 simp
set_option maxHeartbeats 4000000 in
theorem we (w:Wa) (h:WaC w) (i:Int) (k:Nat):ACall prog 19 [yp w,.lit (.int .i64 i)] k [] (.slice none ((zbr w i).map zw)) []:=by
 have c1:=vF w (by have:=h.pl;omega) i
 have hpz:=wA h.pc i
 have c3:=yx (zbr w i) (by have:=kK (w:=w) i;have:=h.dl;omega) (zdj h.dc i)
 unfold zbr at *
 generalize yf w i=X at *
 obtain ⟨p,b⟩:=X
 have hdl:=h.dl
 have hdc:=h.dc
 clear h
 simp only at *
 have c2:=fun (d:Di) (hd:WdT d.ticket d.conds)=>za1 p.cavs (by have:=hpz.1;omega) hpz.2 d.ticket hd.1
 clear hpz
 have hpA:zG p=.agg [.lit (.int .i64 p.epoch),.lit (.int .i64 p.serial),.slice none (p.cavs.map z8),zd p.tag]:=rfl
 obtain ⟨P,D⟩:=w
 unfold yp at *
 simp only at *
 rw [hpA] at c1
 clear hpA
 obtain ⟨M,hM⟩:∃ M,jc p (D.drop 0)=M:=⟨_,rfl⟩
 rw [show jc p D=M from hM] at c3 ⊢
 refine Bd func19 ntmps19 fun σ N hp hpn hk hkn hfree=>?_
 have hcs:=And.intro c1 True.intro
 clear c1
 refine Wk ?_
 clear hcs
 refine ALoop.nilrow 7 34 34 (by simp (disch:=omega) [go_sem, *,-List.reduceReplicate]) ?_
 refine yn (N) zi (by kernel_rfl) [7,9,10,11,21,22,23,24,25,26,27,28,29,30,31,32,33,34,35,36,37,38] [] (fun m_ s_ σ_ n_=>∃ (u:Nat) (r:Nat) (acc:List Di),m_=D.length - u∧s_ 21=.lit (.int .i64 u)∧s_ 7=.slice (some r) (acc.map zw)∧σ_ (N)=.box 25 (.agg [.slice none (P.map zG),.slice none (D.map zw)])∧σ_ (N+2+6)=.box 30 (.agg [.lit (.int .i64 p.epoch),.lit (.int .i64 p.serial),.slice none (p.cavs.map z8),zd p.tag])∧σ_ (r)=.row 34 34 acc.length∧(N+16≤r)∧(r < n_)∧(u≤D.length)∧(acc.length≤u)∧(acc++jc p (D.drop u)=M)) ⟨_,0,_,[],rfl,WF,WF,WF,WF,WF,WC,WC,WC,WC,WC⟩ ?_
 intro m_2 s_2 σ_2 n_2 hs_2 hf_2 hn_2 hI_2
 obtain ⟨u,r,acc,hm_2,h2_21,h2_7,e2_0,e2_1,e2_2,hNr,hrn,hu,hal,hacc⟩:=hI_2
 have h2_4:=KS hs_2 4
 have h2_5:=KS hs_2 5
 have h2_19:=KS hs_2 19
 have h2_20:=KS hs_2 20
 have hlow:=KL (N:=N) (σ:=σ) hf_2
 clear hM
 by_cases hul:u=D.length
 ·subst hul
  rw [List.drop_length] at hacc
  simp only [jc,List.filter_nil,List.append_nil] at hacc
  subst hacc
  clear hdc c2
  have hcs:=And.intro c3 True.intro
  clear c3
  exact WM
 ·have hu1:u < D.length:=by omega
  have hzd:=hdc _ (List.getElem_mem hu1)
  rw [List.drop_eq_getElem_cons hu1] at hacc
  obtain ⟨z,hz⟩:∃ z,D[u]=z:=⟨_,rfl⟩
  rw [hz] at hacc hzd
  have c4:=c2 z hzd
  have hzA:zw z=.agg [.slice none (z.ticket.map za),.slice none (z.conds.map zU),zd z.tag]:=rfl
  have hzm:(D.map zw)[u]?=some (.agg [.slice none (z.ticket.map za),.slice none (z.conds.map zU),zd z.tag]):=by rw [List.getElem?_map,List.getElem?_eq_getElem hu1,hz];rfl
  have ha:=zci (q:=isC z.ticket) (l:=p.cavs) (u:=0)
  have hb80:(acc.length+1) * 80≤140737488355328:=by omega
  unfold jc at hacc
  rw [List.filter_cons] at hacc
  rcases hf:fdI (isC z.ticket) p.cavs 0 with _ | ix
  ·rw [hf] at ha c4
   simp only [Option.isSome_none] at ha
   rw [← ha] at hacc
   simp only [Bool.false_eq_true,if_false] at hacc
   unfold kx at c4
   clear hdc c2 c3 hzd hf ha
   have hcs:=And.intro c4 True.intro
   clear c4
   refine Wk ?_
   clear hcs
   exact ⟨WS,WG,WN,_,(show D.length - (u+1) < m_2 by omega),u+1,r,acc,rfl,WF,WF,WF,WF,WF,WC,WC,WC,WC,WC⟩
  ·rw [hf] at ha c4
   simp only [Option.isSome_some] at ha
   rw [← ha] at hacc
   simp only [if_true] at hacc
   have hacc2:acc++[z]++List.filter (fun d=>p.cavs.any (isC d.ticket)) (D.drop (u+1))=M:=by rw [← hacc];simp
   have hmm:acc.map zw++[zw z]=(acc++[z]).map zw:=by simp
   have hll:(acc++[z]).length=acc.length+1:=by simp
   generalize hac:acc++[z]=acc2 at *
   rw [hzA] at hmm
   unfold kx at c4
   clear hdc c2 c3 hzd hf ha hacc
   have hcs:=And.intro c4 True.intro
   clear c4
   refine Wk ?_
   clear hcs
   exact ⟨WS,WG,WN,_,(show D.length - (u+1) < m_2 by omega),u+1,r,acc2,rfl,WF,WF,WF,WF,WF,WC,WC,WC,WC,WC⟩
set_option maxHeartbeats 4000000 in
theorem kD (w:Wa) (h:WaC w) (i:Int) (k:Nat):ACall prog 20 [yp w,.lit (.int .i64 i)] k [] (.slice none ((zbr w i).map zw)) []:=by
 have c1:=qb w (by have:=h.pl;omega) i
 have hpz:=wA h.pc i
 have hp0:(yf w i).2=false→(yf w i).1=pa0:=by
  unfold yf
  split
  ·intro h;cases h
  ·intro _;rfl
 unfold zbr at *
 generalize yf w i=X at *
 obtain ⟨p,b⟩:=X
 have hdl:=h.dl
 have hdc:=h.dc
 clear h
 simp only at *
 have c2:=fun (d:Di) (hd:WdT d.ticket d.conds)=>zaP p hpz d.ticket hd.1
 clear hpz
 obtain ⟨P,D⟩:=w
 unfold yp at *
 simp only at *
 obtain ⟨M,hM⟩:∃ M,jc p (D.drop 0)=M:=⟨_,rfl⟩
 rw [show jc p D=M from hM]
 cases b with
 | false=>
  rw [hp0 rfl,zgN] at hM
  subst hM
  clear c2 hp0 hdc
  refine Bd func20 ntmps20 fun σ N hp hpn hk hkn hfree=>?_
  have hcs:=And.intro c1 True.intro
  clear c1
  refine Wk ?_
  clear hcs
  refine ze zi (by kernel_rfl) [7,8,15,16,17,18,19,20,21,22,23,24,25,26,27,28,29,30,31,32,33,34,35,36,37,38,39,40] [] (fun m_ s_ σ_ n_=>∃ (u:Nat),m_=0 - u∧s_ 8=.lit (.int .i64 u)∧s_ 7=.nils∧(u≤0)) ⟨_,0,rfl,WF,WF,WC⟩ ?_
  intro m_3 s_3 σ_3 n_3 hs_3 hf_3 hn_3 hI_3
  obtain ⟨u,hm_3,h3_8,h3_7,hu⟩:=hI_3
  have h3_2:=KS hs_3 2
  have h3_4:=KS hs_3 4
  have h3_5:=KS hs_3 5
  have h3_6:=KS hs_3 6
  have k3_0:=KE hf_3 (N)
  have k3_1:=KE hf_3 (N+2+6)
  have hlow:=KL (N:=N) (σ:=σ) hf_3
  obtain rfl:u=0:=by omega
  by_cases hD:D.length=0
  ·have hD1:¬ (0:Int) < (D.length:Int):=by omega
   exact WM
  ·have hD1:(0:Int) < (D.length:Int):=by omega
   exact WM
 | true=>
  clear hp0
  refine Bd func20 ntmps20 fun σ N hp hpn hk hkn hfree=>?_
  have hcs:=And.intro c1 True.intro
  clear c1
  refine Wk ?_
  clear hcs
  refine ALoop.nilrow 7 34 34 (by simp (disch:=omega) [go_sem, *,-List.reduceReplicate]) ?_
  refine yn (N) zi (by kernel_rfl) [7,8,15,16,17,18,19,20,21,22,23,24,25,26,27,28,29,30,31,32,33,34,35,36,37,38,39,40] [] (fun m_ s_ σ_ n_=>∃ (u:Nat) (r:Nat) (acc:List Di),m_=D.length - u∧s_ 8=.lit (.int .i64 u)∧s_ 7=.slice (some r) (acc.map zw)∧σ_ (N)=.box 25 (.agg [.slice none (P.map zG),.slice none (D.map zw)])∧σ_ (N+2+6)=.box 30 (zG p)∧σ_ (r)=.row 34 34 acc.length∧(N+13≤r)∧(r < n_)∧(u≤D.length)∧(acc.length≤u)∧(acc++jc p (D.drop u)=M)) ⟨_,0,_,[],rfl,WF,WF,WF,WF,WF,WC,WC,WC,WC,WC⟩ ?_
  intro m_4 s_4 σ_4 n_4 hs_4 hf_4 hn_4 hI_4
  obtain ⟨u,r,acc,hm_4,h4_8,h4_7,e4_0,e4_1,e4_2,hNr,hrn,hu,hal,hacc⟩:=hI_4
  have h4_2:=KS hs_4 2
  have h4_4:=KS hs_4 4
  have h4_5:=KS hs_4 5
  have h4_6:=KS hs_4 6
  have hlow:=KL (N:=N) (σ:=σ) hf_4
  clear hM
  by_cases hul:u=D.length
  ·subst hul
   rw [List.drop_length] at hacc
   simp only [jc,List.filter_nil,List.append_nil] at hacc
   subst hacc
   clear hdc c2
   exact WM
  ·have hu1:u < D.length:=by omega
   have hzd:=hdc _ (List.getElem_mem hu1)
   rw [List.drop_eq_getElem_cons hu1] at hacc
   obtain ⟨z,hz⟩:∃ z,D[u]=z:=⟨_,rfl⟩
   rw [hz] at hacc hzd
   have c4:=c2 z hzd
   have hzA:zw z=.agg [.slice none (z.ticket.map za),.slice none (z.conds.map zU),zd z.tag]:=rfl
   have hzm:(D.map zw)[u]?=some (.agg [.slice none (z.ticket.map za),.slice none (z.conds.map zU),zd z.tag]):=by rw [List.getElem?_map,List.getElem?_eq_getElem hu1,hz];rfl
   have hb80:(acc.length+1) * 80≤140737488355328:=by omega
   unfold jc at hacc
   rw [List.filter_cons] at hacc
   cases ha:p.cavs.any (isC z.ticket) with
   | false=>
    rw [ha] at c4 hacc
    simp only [Bool.false_eq_true,if_false] at hacc
    clear hdc c2 hzd ha
    have hcs:=And.intro c4 True.intro
    clear c4
    refine Wk ?_
    clear hcs
    exact ⟨WS,WG,WN,_,(show D.length - (u+1) < m_4 by omega),u+1,r,acc,rfl,WF,WF,WF,WF,WF,WC,WC,WC,WC,WC⟩
   | true=>
    rw [ha] at c4 hacc
    simp only [if_true] at hacc
    have hacc2:acc++[z]++List.filter (fun d=>p.cavs.any (isC d.ticket)) (D.drop (u+1))=M:=by rw [← hacc];simp
    have hmm:acc.map zw++[zw z]=(acc++[z]).map zw:=by simp
    have hll:(acc++[z]).length=acc.length+1:=by simp
    generalize hac:acc++[z]=acc2 at *
    rw [hzA] at hmm
    clear hdc c2 hzd ha hacc
    have hcs:=And.intro c4 True.intro
    clear c4
    refine Wk ?_
    clear hcs
    exact ⟨WS,WG,WN,_,(show D.length - (u+1) < m_4 by omega),u+1,r,acc2,rfl,WF,WF,WF,WF,WF,WC,WC,WC,WC,WC⟩
theorem zgT (w:Wa) (p:Pa) (hl:w.ps.length < 32) (k:Nat):ACall prog 15 [yp w,zG p] k [] (.tup [yp ⟨w.ps++[p],w.ds⟩,.lit (.int .i64 0)]) []:=by
 obtain ⟨P,D⟩:=w
 unfold yp at *
 simp only at *
 have hp1:¬ (32:Int)≤(P.length:Int):=by omega
 have hb26:(P.length+1) * 72≤140737488355328:=by omega
 have hb27:P.length * 72≤140737488355328:=by omega
 have hmm:P.map zG++[zG p]=(P++[p]).map zG:=by simp
 have hll:(P++[p]).length=P.length+1:=by simp
 generalize P++[p]=P2 at *
 refine Bd func15 ntmps15 fun σ N hp hpn hk hkn hfree=>?_
 refine Wk ?_
 exact WD
theorem zeB (w:Wa) (p:Pa) (hl:32≤w.ps.length) (k:Nat):ACall prog 15 [yp w,zG p] k [] (.tup [.agg [.nils,.nils],.lit (.int .i64 2)]) []:=by
 obtain ⟨P,D⟩:=w
 unfold yp at *
 simp only at *
 have hp1:(32:Int)≤(P.length:Int):=by omega
 refine Bd func15 ntmps15 fun σ N hp hpn hk hkn hfree=>?_
 exact W0
theorem zah (w:Wa) (p:Pa) (k:Nat):ACall prog 15 [yp w,zG p] k [] (.tup [yp (wW w p).1,.lit (.int .i64 (wW w p).2)]) []:=by
 unfold wW
 by_cases hc:w.ps.length < 32
 ·rw [if_pos hc];exact zgT w p hc k
 ·rw [if_neg hc]
  exact (zeB w p oo k).result (AV.sub_tup (.cons zdY (.cons (AV.le_refl _) .nil)))
theorem kX (l:List Pa) (hl:l.length≤1000000) (hc:∀ x∈l,PaC x) (k:Nat):
  ACall prog 55 [.slice none (l.map zG),.slice none (l.map zG)] k [] (.lit (.bool true)) []:=by
 refine Bd func55 ntmps55 fun σ N hp hpn hk hkn hfree=>?_
 refine Wk ?_
 refine ze zi (by kernel_rfl) [4,5,11,12,13,14,15,16,17,18,19,20,21,22,23,24,25,26] [] (fun m_ s_ σ_ n_=>∃ (u:Nat),m_=l.length - u∧s_ 5=.lit (.int .i64 u)∧(u≤l.length)) ⟨_,0,rfl,WF,WC⟩ ?_
 intro m_1 s_1 σ_1 n_1 hs_1 hf_1 hn_1 hI_1
 obtain ⟨u,hm_1,h1_5,hu⟩:=hI_1
 have h1_0:=KS hs_1 0
 have h1_1:=KS hs_1 1
 have hlow:=KL (N:=N) (σ:=σ) hf_1
 by_cases hul:u=l.length
 ·subst hul
  clear hc
  exact W0
 ·have hu1:u < l.length:=by omega
  have hmz:=hc _ (List.getElem_mem hu1)
  obtain ⟨z,hz⟩:∃ z,l[u]=z:=⟨_,rfl⟩
  rw [hz] at hmz
  have hzm:(l.map zG)[u]?=some (zG z):=by rw [List.getElem?_map,List.getElem?_eq_getElem hu1,hz];rfl
  have c1:=zat z hmz.1 hmz.2
  clear hc hmz
  have hcs:=And.intro c1 True.intro
  clear c1
  refine Wk ?_
  exact ⟨WS,WG,WN,_,(show l.length - (u+1) < m_1 by omega),u+1,rfl,WF,WC⟩
theorem wU (l:List Di) (hl:l.length≤1000000) (hc:∀ x∈l,WdT x.ticket x.conds) (k:Nat):
  ACall prog 56 [.slice none (l.map zw),.slice none (l.map zw)] k [] (.lit (.bool true)) []:=by
 refine Bd func56 ntmps56 fun σ N hp hpn hk hkn hfree=>?_
 refine Wk ?_
 refine ze zi (by kernel_rfl) [4,5,11,12,13,14,15,16,17,18,19,20,21,22,23,24,25,26] [] (fun m_ s_ σ_ n_=>∃ (u:Nat),m_=l.length - u∧s_ 5=.lit (.int .i64 u)∧(u≤l.length)) ⟨_,0,rfl,WF,WC⟩ ?_
 intro m_2 s_2 σ_2 n_2 hs_2 hf_2 hn_2 hI_2
 obtain ⟨u,hm_2,h2_5,hu⟩:=hI_2
 have h2_0:=KS hs_2 0
 have h2_1:=KS hs_2 1
 have hlow:=KL (N:=N) (σ:=σ) hf_2
 by_cases hul:u=l.length
 ·subst hul
  clear hc
  exact W0
 ·have hu1:u < l.length:=by omega
  have hmz:=hc _ (List.getElem_mem hu1)
  obtain ⟨z,hz⟩:∃ z,l[u]=z:=⟨_,rfl⟩
  rw [hz] at hmz
  have hzm:(l.map zw)[u]?=some (zw z):=by rw [List.getElem?_map,List.getElem?_eq_getElem hu1,hz];rfl
  have c1:=ziG z hmz
  clear hc hmz
  have hcs:=And.intro c1 True.intro
  clear c1
  refine Wk ?_
  exact ⟨WS,WG,WN,_,(show l.length - (u+1) < m_2 by omega),u+1,rfl,WF,WC⟩
attribute [local irreducible] yE
theorem zes {w:Wa} (h:WaC w) {d:Di} (hd:WdT d.ticket d.conds):WaC (wL w d).1:=by
 unfold wL
 split
 ·rename_i hc
  refine ⟨h.pl,h.pc,by simp only [List.length_append,List.length_singleton];omega,fun x hx=>?_⟩
  rcases List.mem_append.1 hx with hx | hx
  ·exact h.dc x (List.mem_of_mem_eraseP hx)
  ·rw [List.mem_singleton.1 hx];exact hd
 ·exact ⟨by simp [w0],fun x hx=>by simp [w0] at hx,by simp [w0],fun x hx=>by simp [w0] at hx⟩
theorem zff {w:Wa} (h:WaC w) {p:Pa} (hp:PaC p):WaC (wW w p).1:=by
 unfold wW
 split
 ·refine ⟨by simp only [List.length_append,List.length_singleton];omega,fun x hx=>?_,h.dl,h.dc⟩
  rcases List.mem_append.1 hx with hx | hx
  ·exact h.pc x hx
  ·rw [List.mem_singleton.1 hx];exact hp
 ·exact ⟨by simp [w0],fun x hx=>by simp [w0] at hx,by simp [w0],fun x hx=>by simp [w0] at hx⟩
def qD (X:Wa × Nat):List Di→Wa × Nat
 | []=>X
 | d::r=>if X.2=0 then qD (wL X.1 d) r else X
def zcA (f t:Wa) (i:Int):Wa × Nat:=if (yf f i).2=true then qD (wW t (yf f i).1) (zbr f i) else (w0,12)
theorem zdf {X:Wa × Nat} (h:X.2≠0) (l:List Di):qD X l=X:=by
 cases l with
 | nil=>rfl
 | cons d r=>rw [qD,if_neg h]
set_option maxHeartbeats 4000000 in
theorem zaT (f t:Wa) (hf:WaC f) (ht:WaC t) (i:Int) (k:Nat):ACall prog 21 [yp f,yp t,.lit (.int .i64 i)] k [] (.tup [yp (zcA f t i).1,.lit (.int .i64 (zcA f t i).2)]) []:=by
 have c1:=vF f (by have:=hf.pl;omega) i
 have c2:=qc t ht _ (wA hf.pc i)
 have h0:=zff ht (wA hf.pc i)
 have c3:=we f hf i
 have hmc:=zdj hf.dc i
 have hml:=kK (w:=f) i
 have hfl:=hf.dl
 unfold zcA
 generalize zbr f i=M at *
 clear hf ht
 generalize yf f i=Z at *
 obtain ⟨p,b⟩:=Z
 simp only at *
 cases b with
 | false=>
  rw [if_neg (by simp)]
  refine ACall.result (r:=.tup [.agg [.nils,.nils],.lit (.int .i64 12)]) ?_ (AV.sub_tup (.cons zdY (.cons (AV.le_refl _) .nil)))
  clear c2 c3 hmc h0
  refine Bd func21 ntmps21 fun σ N hp hpn hk hkn hfree=>?_
  have hcs:=And.intro c1 True.intro
  clear c1
  exact W0
 | true=>
  rw [if_pos rfl]
  obtain ⟨⟨R1,R2⟩,hR⟩:∃ R,qD (wW t p) (M.drop 0)=R:=⟨_,rfl⟩
  rw [show qD (wW t p) M=(R1,R2) from hR]
  simp only
  generalize hY:wW t p=Y at *
  obtain ⟨Y1,Y2⟩:=Y
  simp only at c2 h0
  clear hY
  refine Bd func21 ntmps21 fun σ N hp hpn hk hkn hfree=>?_
  have hcs:=And.intro c1 (And.intro c2 (And.intro c3 True.intro))
  clear c1 c2 c3
  refine Wk ?_
  clear hcs
  refine ze zi (by kernel_rfl) [11,13,33,34,35,36,37,38,39,40,41,42,43,44,45] [N+15+6] (fun m_ s_ σ_ n_=>∃ (u:Nat) (w:Wa) (e:Nat),m_=M.length - u∧s_ 33=.lit (.int .i64 u)∧s_ 11=.lit (.int .i64 e)∧σ_ (N+15+6)=.box 25 (yp w)∧(u≤M.length)∧(WaC w)∧(qD (w,e) (M.drop u)=(R1,R2))) ⟨_,0,Y1,Y2,rfl,WF,WF,WF,WC,WC,WC⟩ ?_
  intro m_1 s_1 σ_1 n_1 hs_1 hf_1 hn_1 hI_1
  obtain ⟨u,w,e,hm_1,h1_33,h1_11,e1_0,hu,hw,hres⟩:=hI_1
  have h1_6:=KS hs_1 6
  have h1_7:=KS hs_1 7
  have h1_10:=KS hs_1 10
  have h1_31:=KS hs_1 31
  have h1_32:=KS hs_1 32
  have k1_0:=KE hf_1 (N)
  have k1_1:=KE hf_1 (N+1)
  have k1_2:=KE hf_1 (N+2)
  have k1_3:=KE hf_1 (N+4+6)
  have hlow:=KL (N:=N) (σ:=σ) hf_1
  clear hR h0
  by_cases hul:u=M.length
  ·subst hul
   rw [List.drop_length,qD] at hres
   simp only [Prod.mk.injEq] at hres
   obtain ⟨rfl,rfl⟩:=hres
   clear hmc hw
   refine Wk ?_
   exact WD
  ·have hu1:u < M.length:=by omega
   rw [List.drop_eq_getElem_cons hu1,qD] at hres
   have hzd:=hmc _ (List.getElem_mem hu1)
   obtain ⟨z,hz⟩:∃ z,M[u]=z:=⟨_,rfl⟩
   rw [hz] at hres hzd
   have hzm:(M.map zw)[u]?=some (zw z):=by rw [List.getElem?_map,List.getElem?_eq_getElem hu1,hz];rfl
   by_cases he:e=0
   ·subst he
    simp only [↓reduceIte] at hres
    have c4:=zbV w hw z hzd
    have hw2:=zes hw hzd
    generalize wL w z=X at *
    obtain ⟨w2,e2⟩:=X
    simp only at c4 hw2 hres
    clear hmc hzd hw
    have hcs:=And.intro c4 True.intro
    clear c4
    refine Wk ?_
    clear hcs
    exact ⟨WS,WG,WN,_,(show M.length - (u+1) < m_1 by omega),u+1,w2,e2,rfl,WF,WF,WF,WC,WC,WC⟩
   ·simp only [if_neg he] at hres
    have he2:((e:Int) == 0)=false:=by rw [beq_eq_false_iff_ne];omega
    have hres2:qD (w,e) (M.drop (u+1))=(R1,R2):=by rw [zdf (X:=(w,e)) he];exact hres
    clear hmc hzd hres
    refine Wk ?_
    exact ⟨WS,WG,WN,_,(show M.length - (u+1) < m_1 by omega),u+1,w,e,rfl,WF,WF,WF,WC,WC,WC⟩
theorem jU (w:Wa) (h:WaC w) (k:Nat):ACall prog 16 [yp w,yp w] k [] (.lit (.bool true)) []:=by
 have c1:=kX w.ps (by have:=h.pl;omega) h.pc
 have c2:=wU w.ds (by have:=h.dl;omega) h.dc
 clear h
 obtain ⟨P,D⟩:=w
 unfold yp
 simp only at *
 refine Bd func16 ntmps16 fun σ N hp hpn hk hkn hfree=>?_
 have hcs:=And.intro c1 (And.intro c2 True.intro)
 clear c1 c2
 exact W0
section
variable [W:W32]
def wj (a:Alg) (p:Pa):List Pr→Alg × Nat × Pa
 | []=>(a,0,p)
 | x::r=>if (zY a 0 p (zR x)).2.1=0 then wj (zY a 0 p (zR x)).1 (zY a 0 p (zR x)).2.2 r else zY a 0 p (zR x)
theorem vz (a:Alg) (e:Nat) (p:Pa) (c:Ca):(zY a e p c).1.boxes=a.boxes:=by unfold zY;simp only [wa]
theorem vN (a:Alg) (e:Nat) (p:Pa) (c:Ca):(zY a e p c).2.2.cavs=p.cavs++[c]:=rfl
theorem zbM {a:Alg} {m:Nat} (h:AlgIn a m) (e:Nat) (p:Pa) (c:Ca):AlgIn (zY a e p c).1 (m+2):=zdE h _ _ _
theorem wb:∀ (l:List Pr) (a:Alg) (p:Pa),(wj a p l).1.boxes=a.boxes
 | [],a,p=>rfl
 | x::r,a,p=>by
  rw [wj]
  split
  ·rw [wb r,vz]
  ·exact vz a 0 p _
theorem jR:∀ (l:List Pr) (a:Alg) (p:Pa),yT a p l=if (wj a p l).2.1=0 then ((wj a p l).1,(wj a p l).2.2,0) else (wZ,pa0,(wj a p l).2.1)
 | [],a,p=>rfl
 | x::r,a,p=>by
  rw [yT,wj,zau]
  by_cases h:(zY a 0 p (zR x)).2.1=0
  ·rw [if_pos h,if_pos h,if_pos rfl]
   exact jR r _ _
  ·rw [if_neg h,if_neg h,if_neg h,if_neg h]
theorem kW:∀ (l:List Pr) (a:Alg) (p:Pa),(wj a p l).2.2.cavs.length≤p.cavs.length+l.length∧∀ c∈(wj a p l).2.2.cavs,c∈p.cavs∨∃ x∈l,c=zR x
 | [],a,p=>⟨by simp [wj],fun c hc=>Or.inl hc⟩
 | x::r,a,p=>by
  rw [wj]
  split
  ·obtain ⟨h1,h2⟩:=kW r (zY a 0 p (zR x)).1 (zY a 0 p (zR x)).2.2
   rw [vN,List.length_append,List.length_singleton] at h1
   refine ⟨by simp only [List.length_cons];omega,fun c hc=>?_⟩
   rcases h2 c hc with h | ⟨y,hy,h⟩
   ·rw [vN] at h
    rcases List.mem_append.1 h with h | h
    ·exact Or.inl h
    ·exact Or.inr ⟨x,List.mem_cons_self ..,List.mem_singleton.1 h⟩
   ·exact Or.inr ⟨y,List.mem_cons_of_mem _ hy,h⟩
  ·rw [vN,List.length_append,List.length_singleton]
   refine ⟨by simp only [List.length_cons];omega,fun c hc=>?_⟩
   rcases List.mem_append.1 hc with h | h
   ·exact Or.inl h
   ·exact Or.inr ⟨x,List.mem_cons_self ..,List.mem_singleton.1 h⟩
set_option maxHeartbeats 16000000 in
theorem zdI (a:Alg) (m:Nat) (ha:AlgIn a m) (l:List Pr) (hl:l.length≤1000) (hm:m≤100000) (p:Pa) (hpl:p.cavs.length≤1000) (hpc:∀ x∈p.cavs,wY x) (hlk:∀ x∈l,PrOk x) (q r1 r2 g h k:Nat):
  ACall prog 100 [.ptr q [] 0,zG p,.slice none (l.map zU)] k (vA a 0 q r1 r2++[(g,yE),(h,zS)]) (zG (wj a p l).2.2) [(q,zcM (wj a p l).1 (wj a p l).2.1 r1 r2),(r1,zfk (wj a p l).1.macs.length)]:=by
 have hRb:=wb l a p
 obtain ⟨R,hR⟩:∃ R,wj a p (l.drop 0)=R:=⟨_,rfl⟩
 rw [show wj a p l=R from hR] at hRb ⊢
 obtain ⟨Ra,Re,Rp⟩:=R
 simp only at hRb ⊢
 obtain ⟨BX,hBX⟩:∃ x,a.boxes=x:=⟨_,rfl⟩
 rw [hBX] at hRb
 unfold vA
 simp only [List.cons_append,List.nil_append]
 simp only [zW,zP,zO,hRb,hBX]
 have e00:((0:Nat):Int)=0:=rfl
 simp only [e00]
 refine Bd func100 ntmps100 fun σ N hp hpn hk hkn hfree=>?_
 simp only [List.mem_cons,List.not_mem_nil,or_false,forall_eq_or_imp,forall_eq] at hp hpn
 obtain ⟨hd1,hd2,hd3,hd4,hd5⟩:=hp
 obtain ⟨hdn1,hdn2,hdn3,hdn4,hdn5⟩:=hpn
 have hne:q≠r1:=by rintro rfl;rw [hd1] at hd2;cases hd2
 have hne3:q≠r2:=by rintro rfl;rw [hd1] at hd3;cases hd3
 have hneg:g≠q:=by rintro rfl;rw [hd4] at hd1;exact ya hd1
 have hneg1:g≠r1:=by rintro rfl;rw [hd4] at hd2;exact yb hd2
 have hneh:h≠q:=by rintro rfl;rw [hd5] at hd1;exact v8 hd1
 have hneh1:h≠r1:=by rintro rfl;rw [hd5] at hd2;exact v9 hd2
 have hne23:r1≠r2:=by
  rintro rfl
  rw [hd2] at hd3
  simp at hd3
 refine Wk ?_
 refine ze zi (by kernel_rfl) [8,9,10,13,14,15,16,17,18,19,20,21,22,23,24,25,26,27,28,29] [N,q,r1] (fun m_ s_ σ_ n_=>∃ (u:Nat) (A:Alg) (P:Pa),m_=l.length - u∧s_ 13=.lit (.int .i64 u)∧σ_ (N)=.box 30 (zG P)∧σ_ (q)=.box 249 (.agg [.agg [.lit (.bool A.free),zd A.seed,.lit (.int .i64 A.fresh),.slice (some r1) (A.macs.map zJ),.slice (some r2) (BX.map zo)],.lit (.int .i64 0)])∧σ_ (r1)=.row 190 65 A.macs.length∧(u≤l.length)∧(AlgIn A (m+2 * u))∧(A.boxes=BX)∧(P.cavs.length≤p.cavs.length+u)∧(∀ x∈P.cavs,wY x)∧(wj A P (l.drop u)=(Ra,Re,Rp))) ⟨_,0,a,p,rfl,WF,WF,WF,WF,WC,WC,WC,WC,WC,WC⟩ ?_
 intro m_3 s_3 σ_3 n_3 hs_3 hf_3 hn_3 hI_3
 obtain ⟨u,A,P,hm_3,h3_13,e3_0,e3_1,e3_2,hu,hA,hAb,hPl,hPc,hres⟩:=hI_3
 have h3_0:=KS hs_3 0
 have h3_4:=KS hs_3 4
 have h3_6:=KS hs_3 6
 have h3_11:=KS hs_3 11
 have h3_12:=KS hs_3 12
 have k3_0:=KE hf_3 (N+1)
 have k3_1:=KE hf_3 (r2)
 have k3_2:=KE hf_3 (g)
 have k3_3:=KE hf_3 (h)
 have hlow:∀ id,id < N→id≠q→id≠r1→σ_3 id=σ id:=fun id hid hdd0 hdd1=>(hf_3.at id oo (by simp [hdd0,hdd1];try omega)).trans (by simp (disch:=omega) only [zg];try first | exact hlow id hid hdd0 hdd1 | exact hlow id hid)
 clear hR ha hpc
 by_cases hul:u=l.length
 ·subst hul
  rw [List.drop_length,wj] at hres
  simp only [Prod.mk.injEq] at hres
  obtain ⟨rfl,rfl,rfl⟩:=hres
  clear hlk hA hPc
  refine Wk ?_
  refine yd [(q,(.box 249 (.agg [.agg [.lit (.bool A.free),zd A.seed,.lit (.int .i64 A.fresh),.slice (some r1) (A.macs.map zJ),.slice (some r2) (BX.map zo)],.lit (.int .i64 0)]))),(r1,(.row 190 65 A.macs.length))] (by simp (disch:=omega) [go_sem, *,-List.reduceReplicate];rfl) (by first | rfl | (simp (disch:=omega) [go_sem];done) | (simp (disch:=omega) [go_sem, *];done) | simp (disch:=omega) [go_sem]) (fun id hid=>by simp only [zF,yi];(by_cases hdd:id=q;(· (subst hdd;simp (disch:=omega) [go_sem, *]));(· (by_cases hdd2:id=r1;(· (subst hdd2;simp (disch:=omega) [go_sem, *]));(· (simp (disch:=omega) only [zg];try (first | exact hlow id hid hdd hdd2 | exact hlow id hid))))))) (by simp) (by simp (disch:=omega) [go_sem, *])
 ·have hu1:u < l.length:=by omega
  rw [List.drop_eq_getElem_cons hu1,wj] at hres
  have hx:=hlk _ (List.getElem_mem hu1)
  obtain ⟨x,hxe⟩:∃ x,l[u]=x:=⟨_,rfl⟩
  rw [hxe] at hres hx
  have hxm:(l.map zU)[u]?=some (zU x):=by rw [List.getElem?_map,List.getElem?_eq_getElem hu1,hxe];rfl
  have c1:=jl A (m+2 * u) hA oo 0 P oo hPc (zR x) ⟨by simp [zR],by simp [zR]⟩ hx q r1 r2 g h
  have hin:=zbM hA 0 P (zR x)
  have hbx:=vz A 0 P (zR x)
  have hcv:=vN A 0 P (zR x)
  generalize zY A 0 P (zR x)=X at *
  obtain ⟨a1,e1,p1⟩:=X
  simp only at c1 hbx hin hcv hres
  have hp1l:p1.cavs.length≤p.cavs.length+(u+1):=by rw [hcv,List.length_append,List.length_singleton];omega
  have hp1c:∀ y∈p1.cavs,wY y:=fun y hy=>by
   rw [hcv] at hy
   rcases List.mem_append.1 hy with hy | hy
   ·exact hPc y hy
   ·rw [List.mem_singleton.1 hy];exact ⟨by simp [zR],by simp [zR]⟩
  have hfA:z8 (zR x)=.agg [.lit (.bool false),zU x,.lit (.int .i64 0),.slice none [],.slice none []]:=rfl
  rw [hfA] at c1
  have hs1:=xv P
  have hs2:=yw P
  have hs3:=xv p1
  have hs4:=yw p1
  have hin2:AlgIn a1 (m+2 * (u+1)):=hin.more oo
  have hb2:a1.boxes=BX:=hbx.trans hAb
  clear hA hPl hPc hx hfA hlk hin hcv
  by_cases he:e1=0
  ·subst he
   have c2:=kF a1 q r1 r2
   unfold vA at c1 c2
   simp only [List.cons_append,List.nil_append] at c1 c2
   simp only [zW,zP,zO,hb2,hAb,e00] at c1 c2
   simp only [↓reduceIte] at hres
   have hcs:=And.intro c1 (And.intro c2 True.intro)
   clear c1 c2
   refine Wk ?_
   clear hcs
   exact ⟨WS,WG,WN,_,(show l.length - (u+1) < m_3 by omega),u+1,a1,p1,rfl,WF,WF,WF,WF,WC,WC,WC,WC,WC,WC⟩
  ·have c2:=qP a1 e1 he q r1 r2
   unfold vA at c1 c2
   simp only [List.cons_append,List.nil_append] at c1 c2
   simp only [zW,zP,zO,hb2,hAb,e00] at c1 c2
   simp only [if_neg he,Prod.mk.injEq] at hres
   obtain ⟨rfl,rfl,rfl⟩:=hres
   have he3:((e1:Int) != 0)=true:=by rw [bne_iff_ne];omega
   clear hp1l hp1c hin2
   have hcs:=And.intro c1 (And.intro c2 True.intro)
   clear c1 c2
   refine Wk ?_
   refine yd [(q,(.box 249 (.agg [.agg [.lit (.bool a1.free),zd a1.seed,.lit (.int .i64 a1.fresh),.slice (some r1) (a1.macs.map zJ),.slice (some r2) (BX.map zo)],.lit (.int .i64 e1)]))),(r1,(.row 190 65 a1.macs.length))] (by simp (disch:=omega) [go_sem, *,-List.reduceReplicate];rfl) (by first | rfl | (simp (disch:=omega) [go_sem];done) | (simp (disch:=omega) [go_sem, *];done) | simp (disch:=omega) [go_sem]) (fun id hid=>by simp only [zF,yi];(by_cases hdd:id=q;(· (subst hdd;simp (disch:=omega) [go_sem, *]));(· (by_cases hdd2:id=r1;(· (subst hdd2;simp (disch:=omega) [go_sem, *]));(· (simp (disch:=omega) only [zg];try (first | exact hlow id hid hdd hdd2 | exact hlow id hid))))))) (by simp) (by simp (disch:=omega) [go_sem, *])
end
def w3P:Pr:=⟨4,0,0,3000,[],0⟩
section
variable [W:W32]
theorem AlgOk.node0 {a:Alg} (h:AlgOk a) (key:Tg) (msg:List UInt8):AlgOk (xS a key msg).1:=by
 unfold xS
 split
 ·split
  ·exact (h.mac _ _).mac _ _
  ·exact AlgOk.zero
 ·exact AlgOk.zero
theorem AlgOk.att {a:Alg} (h:AlgOk a) (p:Pa) (c:Ca):AlgOk (zba a p c).1:=by
 unfold zba
 split
 ·exact AlgOk.zero
 ·split
  ·exact AlgOk.zero
  ·split
   ·exact h.node0 _ _
   ·exact AlgOk.zero
theorem AlgOk.nar:∀ {l:List Pr} {a:Alg} (_:AlgOk a) (p:Pa),AlgOk (yT a p l).1
 | [],_,h,_=>h
 | x::r,a,h,p=>by
  unfold yT
  split
  ·exact AlgOk.nar (l:=r) (h.att _ _) _
  ·exact AlgOk.zero
theorem AlgOk.restr {a:Alg} (h:AlgOk a) (d:Di) (p:Pr):AlgOk (wD a d p).1:=by
 unfold wD
 split
 ·exact AlgOk.zero
 ·split
  ·exact AlgOk.zero
  ·split
   ·exact AlgOk.zero
   ·split
    ·exact h.mac _ _
    ·exact AlgOk.zero
theorem AlgOk.blank {a:Alg} (h:AlgOk a) (c:Co) (t:Te):AlgOk (zax a c t).1:=by
 unfold zax
 split
 ·exact AlgOk.zero
 ·split
  ·split
   ·exact h.key.sealed _ _ _
   ·exact AlgOk.zero
  ·exact AlgOk.zero
theorem AlgOk.addT {a:Alg} (h:AlgOk a) (p:Pa) (b:Bl):AlgOk (zbq a p b).1:=by
 unfold zbq
 split
 ·split
  ·exact ((h.mac _ _).sealed _ _ _).att _ _
  ·exact AlgOk.zero
 ·exact AlgOk.zero
theorem AlgOk.grant {a:Alg} (h:AlgOk a) (c:Co) (t holder:List UInt8) (mi:Int):AlgOk (zaD a c t holder mi).1:=by
 unfold zaD
 split
 ·exact AlgOk.zero
 ·split
  ·exact AlgOk.zero
  ·split
   ·exact AlgOk.zero
   ·split
    ·exact AlgOk.zero
    ·split
     ·exact AlgOk.zero
     ·split
      ·exact (h.mac _ _).restr _ _
      ·exact AlgOk.zero
theorem zbz:∀ {l:List Pr} {a:Alg} {m:Nat} (_:AlgIn a m) (p:Pa),AlgIn (yT a p l).1 (m+2 * l.length)
 | [],_,_,h,_=>h
 | x::r,a,m,h,p=>by
  unfold yT
  split
  ·have:=zbz (l:=r) (zhi h p (zR x)) (zba a p (zR x)).2.1
   rw [show m+2 * (x::r).length=m+2+2 * r.length by simp;omega]
   exact this
  ·exact xE _
theorem zaJ:∀ {l:List Pr} {a:Alg} (p:Pa),(yT a p l).2.1.cavs.length≤p.cavs.length+l.length
 | [],_,_=>Nat.le_refl _
 | x::r,a,p=>by
  unfold yT
  split
  ·have:=zaJ (l:=r) (a:=(zba a p (zR x)).1) (zba a p (zR x)).2.1
   have h2:=zbJ (a:=a) (p:=p) (c:=zR x)
   rw [List.length_cons]
   omega
  ·simp [pa0]
theorem zaW {a:Alg} {p:Pa} {b:Bl}:(zbq a p b).2.1.cavs.length≤p.cavs.length+1:=by
 unfold zbq
 split
 ·split
  ·exact zbJ
  ·simp [pa0]
 ·simp [pa0]
structure SoW (S:Ss) (n m:Nat):Prop where
 ain:AlgIn S.A m
 ok:AlgOk S.A
 cl:S.p.cavs.length≤n
 gl:S.gs.length≤n
def zf1 (l:List Int):Nat→Nat→Alg→Di→(Alg × Di × Nat)→Prop
 | 0,j,A,g,R=>R=(A,g,j)
 | f+1,j,A,g,R=>∃ p j1,PRD l j false p j1∧zf1 l f j1 (wD A g w3P).1 (wD A g w3P).2.1 R
theorem zaL {l:List Int}:∀ (f j:Nat) (A:Alg) (g:Di) (R:Alg × Di × Nat) (m:Nat),zf1 l f j A g R→Dk l j→AlgIn A m→AlgOk A→Dk l R.2.2∧AlgIn R.1 (m+f)∧AlgOk R.1
 | 0,j,A,g,R,m,hR,h,ha,ok=>by
  have hR:R=(A,g,j):=hR
  subst hR
  exact ⟨h,ha,ok⟩
 | f+1,j,A,g,R,m,hR,h,ha,ok=>by
  obtain ⟨p,j1,hp,hR⟩:=hR
  have:=zaL f j1 _ _ R (m+1) hR hp.2.2.2.1 (zdm ha g w3P) (ok.restr g w3P)
  rw [show m+(f+1)=m+1+f by omega]
  exact this
theorem SoW.thd {con:Co} {mi:Int} {S:Ss} {n m:Nat} (h:SoW S n m) {l:List Int} {f j:Nat} (hj:Dk l j) (hf2:f≤2) {R2:Alg × Di × Nat} (hR:zf1 l f j (GR S con mi).1 (GR S con mi).2.1 R2):Dk l R2.2.2∧SoW ⟨R2.1,(AD S con).2.1,S.gs++[R2.2.1]⟩ (n+1) (m+12):=by
 have iB:AlgIn (BL S con).1 (m+2):=zc4 h.ain con ⟨0,150⟩
 have iA:AlgIn (AD S con).1 (m+6):=zhf iB S.p (BL S con).2.1
 have iG:AlgIn (GR S con mi).1 (m+8):=zel iA con (BL S con).2.1.ticket ann mi
 have oB:AlgOk (BL S con).1:=h.ok.blank con ⟨0,150⟩
 have oA:AlgOk (AD S con).1:=oB.addT S.p (BL S con).2.1
 have oG:AlgOk (GR S con mi).1:=oA.grant con (BL S con).2.1.ticket ann mi
 obtain ⟨h1,h2,h3⟩:=zaL f j _ _ R2 _ hR hj iG oG
 have hc:(AD S con).2.1.cavs.length≤S.p.cavs.length+1:=zaW
 have:=h.cl
 have:=h.gl
 exact ⟨h1,h2.more oo,h3,by simp only;omega,by simp;omega⟩
theorem SoW.nar {S:Ss} {n m:Nat} (h:SoW S n m) {L:List Pr} (hL:L.length≤1):SoW ⟨(yT S.A S.p L).1,(yT S.A S.p L).2.1,S.gs⟩ (n+1) (m+12):=by
 have h1:=zaJ (l:=L) (a:=S.A) S.p
 have:=h.cl
 have:=h.gl
 exact ⟨(zbz (l:=L) h.ain S.p).more oo,h.ok.nar S.p,by simp only;omega,by simp only;omega⟩
end
section
variable [W:W32]
omit W in
theorem ziJ:zA aF=.agg [.lit (.bool true),zd zeroTag,.lit (.int .i64 0),.slice none [],.slice none []]:=rfl
end
structure FewW (w:Wa):Prop where
 p:∀ x∈w.ps,x.cavs.length≤70
 pl:w.ps.length≤40
 dl:w.ds.length≤40
theorem kO:yp w0=.agg [.slice none [],.slice none []]:=rfl
theorem zd8 {w:Wa} {p:Pa}:(wW w p).2=0∨(wW w p).2=2:=by
 unfold wW
 split
 ·exact Or.inl rfl
 ·exact Or.inr rfl
section
variable [W:W32]
def zbK (a:Alg) (w:Wa) (i:Int) (l:List Pr):Alg × Wa × Nat:=
 if (yf w i).2=true then
  if (yT a (yf w i).1 l).2.2=0 then
   if (wW w (yT a (yf w i).1 l).2.1).2=0 then ((yT a (yf w i).1 l).1,(wW w (yT a (yf w i).1 l).2.1).1,0)
   else (wZ,w0,(wW w (yT a (yf w i).1 l).2.1).2)
  else (wZ,w0,(yT a (yf w i).1 l).2.2)
 else (wZ,w0,12)
def ze9 (R:Alg × Wa × Nat):AV:=.tup [zA R.1,yp R.2.1,.lit (.int .i64 R.2.2)]
theorem ze2 {a:Alg} {p:Pa} {l:List Pr} (hp:PaC p) (hl:p.cavs.length+l.length≤100000):PaC (wj a p l).2.2:=by
 obtain ⟨h1,h2⟩:=kW l a p
 refine ⟨by omega,fun c hc=>?_⟩
 rcases h2 c hc with h | ⟨x,_,rfl⟩
 ·exact hp.2 c h
 ·exact ⟨by simp [zR],by simp [zR]⟩
set_option maxHeartbeats 8000000 in
theorem zb1 (a:Alg) (m:Nat) (ha:AlgIn a m) (hm:m≤100000) (w:Wa) (hw:WaC w) (hpz:∀ p∈w.ps,p.cavs.length≤1000) (i:Int) (l:List Pr) (hl:l.length≤1000) (hlk:∀ x∈l,PrOk x) (g h k:Nat) (_hgh:g≠h):
  ACall prog 41 [zA a,yp w,.lit (.int .i64 i),.slice none (l.map zU)] k [(g,yE),(h,zS)] (ze9 (zbK a w i l)) []:=by
 have cf:=vF w (by have:=hw.pl;omega) i
 have hpc:=wA hw.pc i
 have hpl:(yf w i).1.cavs.length≤1000:=by
  rcases vE (w:=w) (i:=i) with h1 | h1
  ·rw [h1];simp [pa0]
  ·exact hpz _ h1
 clear hpz
 unfold zbK ze9
 generalize yf w i=Z at *
 obtain ⟨p,b⟩:=Z
 simp only at *
 cases b with
 | false=>
  rw [if_neg (by simp)]
  simp only
  rw [kO,zZ]
  clear hpc hlk ha hw
  refine Bd func41 ntmps41 fun σ N hp hpn hk hkn hfree=>?_
  simp only [List.mem_cons,List.not_mem_nil,or_false,forall_eq_or_imp,forall_eq] at hp hpn;obtain ⟨hd1,hd2⟩:=hp;obtain ⟨hdn1,hdn2⟩:=hpn
  have hcs:=And.intro cf True.intro
  clear cf
  refine Wk ?_
  exact WD
 | true=>
  rw [if_pos rfl,jR]
  have cb:=wK a (by have:=ha.ml;omega) (by have:=ha.bl;omega)
  have c1:=fun q r1 r2=>zdI a m ha l hl hm p hpl hpc.2 hlk q r1 r2 g h
  have hbx:=wb l a p
  have hpc2:=ze2 (a:=a) (l:=l) hpc oo
  generalize wj a p l=R at *
  obtain ⟨a1,e1,p1⟩:=R
  simp only at *
  have hs1:=xv p
  have hs2:=yw p
  have hs3:=xv p1
  have hs4:=yw p1
  have e00:((0:Nat):Int)=0:=rfl
  unfold zbN at cb
  unfold vA at c1
  simp only [List.cons_append,List.nil_append] at c1
  simp only [zW,zP,zO,hbx,e00] at cb c1
  by_cases he:e1=0
  ·subst he
   have c2:=kF a1
   unfold vA at c2
   simp only [zW,zP,zO,hbx,e00] at c1 c2
   simp only [↓reduceIte]
   have c3:=qc w hw p1 hpc2
   have hae:=zd8 (w:=w) (p:=p1)
   generalize wW w p1=Y at *
   obtain ⟨w2,e2⟩:=Y
   simp only at *
   clear hpc hpc2 hlk ha hw
   rcases hae with rfl | rfl
   ·simp only [↓reduceIte]
    refine Bd func41 ntmps41 fun σ N hp hpn hk hkn hfree=>?_
    simp only [List.mem_cons,List.not_mem_nil,or_false,forall_eq_or_imp,forall_eq] at hp hpn;obtain ⟨hd1,hd2⟩:=hp;obtain ⟨hdn1,hdn2⟩:=hpn
    have hcs:=And.intro cf (And.intro cb True.intro)
    clear cf cb
    refine Wm ?_
    iterate 4 refine Wz ?_
    clear hcs
    refine zL (N+16+1) [0,3] 190 65 (bt:=249) (c:=.agg [.agg [.lit (.bool a.free),zd a.seed,.lit (.int .i64 a.fresh),.clip (a.macs.map zJ),.clip (a.boxes.map zo)],.lit (.int .i64 ((0:Nat):Int))]) (xs:=a.macs.map zJ) (by simp (disch:=omega) [go_sem, *,-List.reduceReplicate]) rfl (vg _) ?_;refine zL (N+16+1) [0,4] 192 35 (bt:=249) (c:=.agg [.agg [.lit (.bool a.free),zd a.seed,.lit (.int .i64 a.fresh),.slice (some (N+16+3)) (a.macs.map zJ),.clip (a.boxes.map zo)],.lit (.int .i64 ((0:Nat):Int))]) (xs:=a.boxes.map zo) (by simp (disch:=omega) [go_sem, *,-List.reduceReplicate]) rfl (xC _) ?_
    have hcs:=And.intro (c1 (N+16+1) (N+16+3) (N+16+3+1)) (And.intro (c2 (N+16+1) (N+16+3) (N+16+3+1)) (And.intro c3 True.intro))
    clear c1 c2 c3
    refine Wk ?_
    exact WD
   ·simp only [show ¬ (2=0) by omega,if_false]
    rw [kO,zZ]
    refine Bd func41 ntmps41 fun σ N hp hpn hk hkn hfree=>?_
    simp only [List.mem_cons,List.not_mem_nil,or_false,forall_eq_or_imp,forall_eq] at hp hpn;obtain ⟨hd1,hd2⟩:=hp;obtain ⟨hdn1,hdn2⟩:=hpn
    have hcs:=And.intro cf (And.intro cb True.intro)
    clear cf cb
    refine Wm ?_
    iterate 4 refine Wz ?_
    clear hcs
    refine zL (N+16+1) [0,3] 190 65 (bt:=249) (c:=.agg [.agg [.lit (.bool a.free),zd a.seed,.lit (.int .i64 a.fresh),.clip (a.macs.map zJ),.clip (a.boxes.map zo)],.lit (.int .i64 ((0:Nat):Int))]) (xs:=a.macs.map zJ) (by simp (disch:=omega) [go_sem, *,-List.reduceReplicate]) rfl (vg _) ?_;refine zL (N+16+1) [0,4] 192 35 (bt:=249) (c:=.agg [.agg [.lit (.bool a.free),zd a.seed,.lit (.int .i64 a.fresh),.slice (some (N+16+3)) (a.macs.map zJ),.clip (a.boxes.map zo)],.lit (.int .i64 ((0:Nat):Int))]) (xs:=a.boxes.map zo) (by simp (disch:=omega) [go_sem, *,-List.reduceReplicate]) rfl (xC _) ?_
    have hcs:=And.intro (c1 (N+16+1) (N+16+3) (N+16+3+1)) (And.intro (c2 (N+16+1) (N+16+3) (N+16+3+1)) (And.intro c3 True.intro))
    clear c1 c2 c3
    refine Wk ?_
    exact WD
  ·have c2:=qP a1 e1 he
   unfold vA at c2
   simp only [zW,zP,zO,hbx] at c1 c2
   have he3:((e1:Int) != 0)=true:=by rw [bne_iff_ne];omega
   rw [if_neg he]
   simp only [if_neg he]
   rw [kO]
   simp only [zZ] at *
   clear hpc hpc2 hlk ha hw
   refine Bd func41 ntmps41 fun σ N hp hpn hk hkn hfree=>?_
   simp only [List.mem_cons,List.not_mem_nil,or_false,forall_eq_or_imp,forall_eq] at hp hpn;obtain ⟨hd1,hd2⟩:=hp;obtain ⟨hdn1,hdn2⟩:=hpn
   have hcs:=And.intro cf (And.intro cb True.intro)
   clear cf cb
   refine Wm ?_
   iterate 4 refine Wz ?_
   clear hcs
   refine zL (N+16+1) [0,3] 190 65 (bt:=249) (c:=.agg [.agg [.lit (.bool a.free),zd a.seed,.lit (.int .i64 a.fresh),.clip (a.macs.map zJ),.clip (a.boxes.map zo)],.lit (.int .i64 ((0:Nat):Int))]) (xs:=a.macs.map zJ) (by simp (disch:=omega) [go_sem, *,-List.reduceReplicate]) rfl (vg _) ?_;refine zL (N+16+1) [0,4] 192 35 (bt:=249) (c:=.agg [.agg [.lit (.bool a.free),zd a.seed,.lit (.int .i64 a.fresh),.slice (some (N+16+3)) (a.macs.map zJ),.clip (a.boxes.map zo)],.lit (.int .i64 ((0:Nat):Int))]) (xs:=a.boxes.map zo) (by simp (disch:=omega) [go_sem, *,-List.reduceReplicate]) rfl (xC _) ?_
   have hcs:=And.intro (c1 (N+16+1) (N+16+3) (N+16+3+1)) (And.intro (c2 (N+16+1) (N+16+3) (N+16+3+1)) True.intro)
   clear c1 c2
   refine Wk ?_
   exact WD
set_option maxHeartbeats 4000000 in
theorem zbY (a:Alg) (m:Nat) (ha:AlgIn a m) (w:Wa) (hw:w.ps.length≤1000000) (hpz:∀ p∈w.ps,p.cavs.length≤1000) (i:Int) (l:List Pr) (hm:m+2 * l.length≤800000) (hl:l.length≤1000) (hlk:∀ x∈l,PrOk x) (k:Nat):
  ACall prog 42 [zA a,yp w,.lit (.int .i64 i),.slice none (l.map zU)] k [] (ze9 (zbK a w i l)) []:=by
 have cf:=qb w hw i
 have hpl:(yf w i).1.cavs.length≤1000:=by
  rcases vE (w:=w) (i:=i) with h1 | h1
  ·rw [h1];simp [pa0]
  ·exact hpz _ h1
 clear hpz
 unfold zbK ze9
 generalize yf w i=Z at *
 obtain ⟨p,b⟩:=Z
 simp only at *
 cases b with
 | false=>
  rw [if_neg (by simp)]
  simp only
  rw [kO,zZ]
  clear hlk ha
  refine Bd func42 ntmps42 fun σ N hp hpn hk hkn hfree=>?_
  have hcs:=And.intro cf True.intro
  clear cf
  refine Wk ?_
  exact WD
 | true=>
  rw [if_pos rfl]
  have c1:=zdq a m ha p l hm oo hlk
  generalize yT a p l=R at *
  obtain ⟨a1,p1,e1⟩:=R
  unfold zdZ at c1
  simp only at *
  by_cases he:e1=0
  ·subst he
   simp only [↓reduceIte]
   have c3:=zah w p1
   have hae:=zd8 (w:=w) (p:=p1)
   generalize wW w p1=Y at *
   obtain ⟨w2,e2⟩:=Y
   simp only at *
   clear hlk ha
   rcases hae with rfl | rfl
   ·simp only [↓reduceIte]
    refine Bd func42 ntmps42 fun σ N hp hpn hk hkn hfree=>?_
    have hcs:=And.intro cf (And.intro c1 (And.intro c3 True.intro))
    clear cf c1 c3
    refine Wk ?_
    exact WD
   ·simp only [show ¬ (2=0) by omega,if_false]
    rw [kO,zZ]
    refine Bd func42 ntmps42 fun σ N hp hpn hk hkn hfree=>?_
    have hcs:=And.intro cf (And.intro c1 (And.intro c3 True.intro))
    clear cf c1 c3
    refine Wk ?_
    exact WD
  ·have he3:((e1:Int) != 0)=true:=by rw [bne_iff_ne];omega
   rw [if_neg he]
   simp only
   rw [kO,zZ]
   clear hlk ha
   refine Bd func42 ntmps42 fun σ N hp hpn hk hkn hfree=>?_
   have hcs:=And.intro cf (And.intro c1 True.intro)
   clear cf c1
   refine Wk ?_
   exact WD
def qK:Pa:=⟨1,1,[],zeroTag⟩
omit W in
theorem zjG:zG qK=.agg [.lit (.int .i64 1),.lit (.int .i64 1),.slice none [],zd zeroTag]:=rfl
omit W in
theorem zpu (L:List Pa) (hL:L.length≤10) (h:∀ p∈L,p=qK):WaC ⟨L,[]⟩:=
 ⟨by simp only;omega,fun p hp=>by rw [h p hp];exact ⟨by simp [qK],fun c hc=>by simp [qK] at hc⟩,by simp,fun d hd=>by cases hd⟩
set_option maxHeartbeats 4000000 in
theorem jZ (g h:Nat) (hgh:g≠h) (k:Nat):ACall prog 10 [] k [(g,yE),(h,zS)] (.lit (.bool true)) []:=by
 have c1:=qc w0 (zpu [] (by simp) (fun p hp=>by cases hp)) qK ⟨by simp [qK],fun c hc=>by simp [qK] at hc⟩
 have c2:=fun k=>zb1 aF 0 zld oo ⟨[qK],[]⟩ (zpu [qK] (by simp) (fun p hp=>List.mem_singleton.1 hp)) (fun p hp=>by rw [List.mem_singleton.1 hp];simp [qK]) 0 [] (by simp) (fun x hx=>by cases hx) g h k hgh
 have c3:=zaT ⟨[qK,qK],[]⟩ w0 (zpu [qK,qK] (by simp) (fun p hp=>by simpa using hp)) (zpu [] (by simp) (fun p hp=>by cases hp)) 2
 have h1:wW w0 qK=(⟨[qK],[]⟩,0):=rfl
 have h2:zbK aF ⟨[qK],[]⟩ 0 []=(aF,⟨[qK,qK],[]⟩,0):=rfl
 have h3:zcA ⟨[qK,qK],[]⟩ w0 2=(w0,12):=rfl
 rw [h1] at c1
 rw [h2] at c2
 rw [h3] at c3
 have e1:yp ⟨[qK],[]⟩=.agg [.slice none [zG qK],.slice none []]:=rfl
 have e2:yp ⟨[qK,qK],[]⟩=.agg [.slice none [zG qK,zG qK],.slice none []]:=rfl
 unfold ze9 at c2
 simp only at *
 rw [e1,kO] at c1
 rw [e1,e2,ziJ] at c2
 rw [e2,kO] at c3
 simp only [zjG,List.map_nil] at c1 c2 c3
 have f0:((0:Nat):Int)=0:=rfl
 have f12:((12:Nat):Int)=12:=rfl
 rw [f0] at c1 c2
 rw [f12] at c3
 clear h1 h2 h3 e1 e2 f0 f12
 refine Bd func10 ntmps10 fun σ N hp hpn hk hkn hfree=>?_
 simp only [List.mem_cons,List.not_mem_nil,or_false,forall_eq_or_imp,forall_eq] at hp hpn;obtain ⟨hd1,hd2⟩:=hp;obtain ⟨hdn1,hdn2⟩:=hpn
 have hcs:=And.intro c1 (And.intro c2 (And.intro c3 True.intro))
 clear c1 c2 c3
 exact W0
end
end Go.Proofs.YtglmjglbobhbbaaGreatDoor
namespace Go.Ab
open Go.RowKit
section
variable {W0:World} {N:Nat} {P:Program} {ops:Array Oper} {m:Nat} {out:Nat→Step}
end
end Go.Ab
namespace Go.Proofs.YtglmjglbobhbbaaGreatDoor
open _root_.Go.Proofs.Tryz
open Go.Ab
attribute [local irreducible] Go.Ab.tyAV Go.Ab.aw Go.Ab.aops Go.Ab.kReg Go.Ab.aThen Go.Ab.aBlk Go.Ab.acond Go.Ab.aguard Go.Ab.astep Go.Ab.AStepX Go.Ab.aRet
attribute [local irreducible] yE
theorem jV (m:Int) (k:Nat):
  ACall prog 210 [.lit (.int .i64 m)] k [] (.slice (some k) ((yh m).map za)) [(k,.row 5 1 8)]:=by
 have e7:=z9 m 56
 have e6:=z9 m 48
 have e5:=z9 m 40
 have e4:=z9 m 32
 have e3:=z9 m 24
 have e2:=z9 m 16
 have e1:=z9 m 8
 have e0:=z9 m 0
 simp only [Int.reducePow,Int.pow_zero,Int.fdiv_one] at e7 e6 e5 e4 e3 e2 e1 e0
 unfold yh
 generalize sh8 m 56=b7 at *
 generalize sh8 m 48=b6 at *
 generalize sh8 m 40=b5 at *
 generalize sh8 m 32=b4 at *
 generalize sh8 m 24=b3 at *
 generalize sh8 m 16=b2 at *
 generalize sh8 m 8=b1 at *
 generalize sh8 m 0=b0 at *
 refine Bd func210 ntmps210 fun σ N hp hpn hk hkn hfree=>?_
 refine Wk ?_
 refine ALoop.nilrow 3 5 1 (by simp (disch:=omega) [go_sem, *,-List.reduceReplicate]) ?_
 refine yn (N) zi (by kernel_rfl) [3,4,5,6,7,8,9,10,11,12,13,14,15] [] (fun m_ s_ σ_ n_=>∃ (u:Nat) (q:Nat) (acc:List UInt8),m_=8 - u∧s_ 4=.lit (.int .i64 (56 - 8 * (u:Int)))∧s_ 3=.slice (some q) (acc.map za)∧σ_ (q)=.row 5 1 acc.length∧(u≤8)∧(N≤q)∧(q < n_)∧(acc=[b7,b6,b5,b4,b3,b2,b1,b0].take u)) ⟨_,0,_,[],rfl,WF,WF,WF,WC,WC,WC,WC⟩ ?_
 intro m_1 s_1 σ_1 n_1 hs_1 hf_1 hn_1 hI_1
 obtain ⟨u,q,acc,hm_1,h1_4,h1_3,e1_0,hu,hq,hqn,hacc⟩:=hI_1
 have h1_0:=KS hs_1 0
 have h1_2:=KS hs_1 2
 have hlow:=KL (N:=N) (σ:=σ) hf_1
 have hb7:za b7=.lit (.int .u8 b7.toNat):=rfl
 have hb6:za b6=.lit (.int .u8 b6.toNat):=rfl
 have hb5:za b5=.lit (.int .u8 b5.toNat):=rfl
 have hb4:za b4=.lit (.int .u8 b4.toNat):=rfl
 have hb3:za b3=.lit (.int .u8 b3.toNat):=rfl
 have hb2:za b2=.lit (.int .u8 b2.toNat):=rfl
 have hb1:za b1=.lit (.int .u8 b1.toNat):=rfl
 have hb0:za b0=.lit (.int .u8 b0.toNat):=rfl
 have hcase:u=0∨u=1∨u=2∨u=3∨u=4∨u=5∨u=6∨u=7∨u=8:=by omega
 rcases hcase with rfl | hcase
 ·simp only [List.take_zero] at hacc
  subst hacc
  refine Wk ?_
  exact ⟨WS,WG,WN,_,(show 8 - (1) < m_1 by omega),1,q,[b7],rfl,WF,WF,WF,WC,WC,WC,WC⟩
 rcases hcase with rfl | hcase
 ·simp only [List.take_succ_cons,List.take_zero] at hacc
  subst hacc
  refine Wk ?_
  exact ⟨WS,WG,WN,_,(show 8 - (2) < m_1 by omega),2,q,[b7,b6],rfl,WF,WF,WF,WC,WC,WC,WC⟩
 rcases hcase with rfl | hcase
 ·simp only [List.take_succ_cons,List.take_zero] at hacc
  subst hacc
  refine Wk ?_
  exact ⟨WS,WG,WN,_,(show 8 - (3) < m_1 by omega),3,q,[b7,b6,b5],rfl,WF,WF,WF,WC,WC,WC,WC⟩
 rcases hcase with rfl | hcase
 ·simp only [List.take_succ_cons,List.take_zero] at hacc
  subst hacc
  refine Wk ?_
  exact ⟨WS,WG,WN,_,(show 8 - (4) < m_1 by omega),4,q,[b7,b6,b5,b4],rfl,WF,WF,WF,WC,WC,WC,WC⟩
 rcases hcase with rfl | hcase
 ·simp only [List.take_succ_cons,List.take_zero] at hacc
  subst hacc
  refine Wk ?_
  exact ⟨WS,WG,WN,_,(show 8 - (5) < m_1 by omega),5,q,[b7,b6,b5,b4,b3],rfl,WF,WF,WF,WC,WC,WC,WC⟩
 rcases hcase with rfl | hcase
 ·simp only [List.take_succ_cons,List.take_zero] at hacc
  subst hacc
  refine Wk ?_
  exact ⟨WS,WG,WN,_,(show 8 - (6) < m_1 by omega),6,q,[b7,b6,b5,b4,b3,b2],rfl,WF,WF,WF,WC,WC,WC,WC⟩
 rcases hcase with rfl | hcase
 ·simp only [List.take_succ_cons,List.take_zero] at hacc
  subst hacc
  refine Wk ?_
  exact ⟨WS,WG,WN,_,(show 8 - (7) < m_1 by omega),7,q,[b7,b6,b5,b4,b3,b2,b1],rfl,WF,WF,WF,WC,WC,WC,WC⟩
 rcases hcase with rfl | hcase
 ·simp only [List.take_succ_cons,List.take_zero] at hacc
  subst hacc
  refine Wk ?_
  exact ⟨WS,WG,WN,_,(show 8 - (8) < m_1 by omega),8,q,[b7,b6,b5,b4,b3,b2,b1,b0],rfl,WF,WF,WF,WC,WC,WC,WC⟩
 subst hcase
 simp only [List.take_succ_cons,List.take_zero] at hacc
 subst hacc
 clear hb7 hb6 hb5 hb4 hb3 hb2 hb1 hb0
 refine Wk ?_
 refine zQ (r0:=q) (by simp (disch:=omega) [go_sem, *,-List.reduceReplicate];rfl) oo (by simp (disch:=omega) [go_sem];try rfl) (fun id hid=>by simp (disch:=omega) only;try exact hlow id hid) (by simp (disch:=omega) [go_sem, *,-List.reduceReplicate];rfl) (by simp (disch:=omega) [go_sem])
section
variable [W:W32]
theorem zaX (key:Tg) (b:List UInt8) (hb:b.length≤90000) (g k:Nat):
  ACall prog 212 [zd key,.slice none (b.map za)] k [(g,yE)] (zd (qC key.1 ([98,111,120]++b))) []:=by
 have c1:=qA key.1 ([98,111,120]++b) (by rw [key.2];decide) (by simp) (by simp;omega) g
 generalize qC key.1 ([98,111,120]++b)=T at *
 have h98:za 98=.lit (.int .u8 98):=rfl
 have h111:za 111=.lit (.int .u8 111):=rfl
 have h120:za 120=.lit (.int .u8 120):=rfl
 have hs1:=zB key
 have hs2:=zj key
 obtain ⟨K,hK⟩:=key
 have hkA:zd ⟨K,hK⟩=.agg (K.map za):=rfl
 simp only [hkA] at hs1 hs2 c1 ⊢
 clear hkA
 have htk:(K.map za).take 32=K.map za:=List.take_of_length_le (by rw [List.length_map];omega)
 refine Bd func212 ntmps212 fun σ N hp hpn hk hkn hfree=>?_
 have M:Mut (N+2+1):=⟨⟩
 obtain ⟨hd,hdn⟩:=HD0 hp hpn;clear hp hpn
 have hcs:=And.intro c1 True.intro
 clear c1
 exact W0
omit W in
theorem zbb (key:Tg) (nonce:List UInt8) (k:Nat):
  ACall prog 244 [zd key,.slice none (nonce.map za)] k [] (.fn 259 [.view (.slice none (nonce.map za)),.view (zd key)]) []:=by
 refine Bd func244 ntmps244 fun σ N hp hpn hk hkn hfree=>?_
 refine Wm ?_
 refine Wz ?_
 refine yz 2 (id:=N) (bt:=28) (x:=zd key) (by simp (disch:=omega) [go_sem, *,-List.reduceReplicate]) (by simp (disch:=omega) [go_sem, *,-List.reduceReplicate]) ?_
 refine yz 3 (id:=N+1) (bt:=31) (x:=.slice none (nonce.map za)) (by simp (disch:=omega) [go_sem, *,-List.reduceReplicate]) (by simp (disch:=omega) [go_sem, *,-List.reduceReplicate]) ?_
 exact W0
set_option maxHeartbeats 1000000 in
theorem zav (key:Tg) (nn:Int) (R:Nat) (hR:R≤1000000) (l Nt:Nat) (r r':Loop) (s:Slots) (E:Ent) (Rw:Nat→Ent) (g x q j k:Nat) (h1:g < q) (h2:q < x) (h3:x < j)
  (hE0:E≠.none) (hR0:Rw 0≠.none) (hRr:∀ u n0 kk,j < n0→(Rw u).ren (rn n0 kk none)=Rw u) (hsr:∀ n0 kk,j < n0→(fun t=>(s t).ren (rn n0 kk none))=s)
  (hY:∀ u,u < R→∀ kk,AYield prog l [.lit (.int .i64 ((u:Int) * 32)),zd (kst key.1 nn u)] kk [(j,.loop l Nt r s),(x,E),(q,Rw u)] (.lit (.bool true)) [(j,.loop l Nt r s),(q,Rw (u+1))])
  (hZ:∀ kk,AYield prog l [.lit (.int .i64 ((R:Int) * 32)),zd (kst key.1 nn R)] kk [(j,.loop l Nt r s),(x,E),(q,Rw R)] (.lit (.bool false)) [(j,.loop l Nt r' s),(q,Rw R)]):
  ACall prog 259 [.lit (.func (.yield l) #[] #[]),.view (.slice none ((yh nn).map za)),.view (zd key)] k [(j,.loop l Nt r s),(x,E),(q,Rw 0),(g,yE)] (.tup []) [(j,.loop l Nt r' s),(q,Rw R)]:=by
 have h115:za 115=.lit (.int .u8 115):=rfl
 have h116:za 116=.lit (.int .u8 116):=rfl
 have h114:za 114=.lit (.int .u8 114):=rfl
 have h101:za 101=.lit (.int .u8 101):=rfl
 have h97:za 97=.lit (.int .u8 97):=rfl
 have h109:za 109=.lit (.int .u8 109):=rfl
 obtain ⟨E1,hE1⟩:∃ e,yh nn=e:=⟨_,rfl⟩
 have hE1l:E1.length=8:=by rw [← hE1];rfl
 have hst:∀ u:Nat,kst key.1 nn u=qC key.1 ([115,116,114,101,97,109]++(E1++yh (u:Int))):=fun u=>by rw [← hE1];rfl
 rw [hE1]
 have hs1:=zB key
 have hs2:=zj key
 obtain ⟨K,hK⟩:=key
 have hkA:zd ⟨K,hK⟩=.agg (K.map za):=rfl
 simp only [hkA] at hs1 hs2 ⊢
 simp only at hY hZ hst
 clear hkA hE1
 have htk:(K.map za).take 32=K.map za:=List.take_of_length_le (by rw [List.length_map];omega)
 refine Bd (hpre:=by simp [hE0,hR0]) func259 ntmps259 fun σ N hp hpn hk hkn hfree=>?_
 simp only [List.mem_cons,List.not_mem_nil,or_false,forall_eq_or_imp,forall_eq] at hp hpn
 obtain ⟨hd1,hd2,hd3,hd4⟩:=hp
 obtain ⟨hn1,hn2,hn3,hn4⟩:=hpn
 refine Wk ?_
 refine yn (N) zi (by kernel_rfl) [4,5,6,7,8,9,10,11,12,13,14,15,16,17,18,19,20,21,22] [j,q] (fun m_ s_ σ_ n_=>∃ (u:Nat),m_=R+1 - u∧s_ 4=.lit (.int .i64 u)∧σ_ (j)=.loop l Nt r s∧σ_ (q)=Rw u∧(u≤R)) ⟨_,0,rfl,WF,WF,WF,WC⟩ ?_
 intro m_2 s_2 σ_2 n_2 hs_2 hf_2 hn_2 hI_2
 obtain ⟨u,hm_2,h2_4,e2_0,e2_1,hu⟩:=hI_2
 have h2_0:=KS hs_2 0
 have h2_1:=KS hs_2 1
 have h2_2:=KS hs_2 2
 have k2_0:=KE hf_2 (x)
 have k2_1:=KE hf_2 (g)
 have hlow:∀ id,id < N→id≠j→id≠q→σ_2 id=σ id:=fun id hid hdd0 hdd1=>(hf_2.at id oo (by simp [hdd0,hdd1];try omega)).trans (by simp (disch:=omega) only;try first | exact hlow id hid hdd0 hdd1 | exact hlow id hid)
 have c1:=jV (u:Int)
 have c2:=qA K ([115,116,114,101,97,109]++(E1++yh (u:Int))) oo (by simp) (by rw [List.length_append,List.length_append,hE1l,xD];decide) g
 rw [← hst u] at c2
 have hE2l:=xD (u:Int)
 generalize yh (u:Int)=E2 at *
 clear hst
 have M:Mut n_2:=⟨⟩
 by_cases huR:u=R
 ·subst huR
  have c3:=hZ
  generalize kst K nn u=T at *
  have hcs:=And.intro c1 (And.intro c2 (And.intro c3 True.intro))
  clear c1 c2 c3 hY hZ
  refine Wk ?_
  refine yd [(j,.loop l Nt r' s),(q,Rw u)] (by simp (disch:=omega) [go_sem, *,-List.reduceReplicate];rfl) rfl (fun id hid=>?_) (by simp) (by simp only [zfj,List.map_cons,List.map_nil,hRr _ _ _ hn1];rw [show Ent.ren (rn N k none) (.loop l Nt r' s)=.loop l Nt r' (fun t=>(s t).ren (rn N k none)) from rfl,hsr _ _ hn1])
  simp only [zF,yi]
  by_cases i1:id=j
  ·subst i1;simp (disch:=omega) [go_sem, *]
  by_cases i2:id=q
  ·subst i2;simp (disch:=omega) [go_sem, *]
  simp (disch:=omega) only [zg]
  exact hlow id hid i1 i2
 ·have c3:=hY u oo
  generalize kst K nn u=T at *
  have hcs:=And.intro c1 (And.intro c2 (And.intro c3 True.intro))
  clear c1 c2 c3 hY hZ
  refine Wk ?_
  exact ⟨WS,WG,WN,_,(show R+1 - (u+1) < m_2 by omega),u+1,rfl,WF,WF,WF,WC⟩
end
section
variable [W:W32]
theorem zmA {key:Tg} {nn:Int} {b P:List UInt8} (hP:P.length=b.length) (hAt:∀ i (hi:i < b.length),P[i]'oo=x8 b[i] ((kst key.1 nn (i / 32)).1[i % 32]'(by rw [(kst key.1 nn (i / 32)).2];omega))) {u:Nat}:
  ∀ i (hi:i < b.length),u * 32≤i→i < u * 32+32→∃ y,(kst key.1 nn u).1[i - u * 32]?=some y∧P[i]?=some (x8 b[i] y):=fun i hi h1 h2=>by
 have hq:i / 32=u:=by omega
 have hr:i % 32=i - u * 32:=by omega
 have h:=hAt i hi
 simp only [hq,hr] at h
 exact ⟨_,List.getElem?_eq_getElem (by rw [(kst key.1 nn u).2];omega),by rw [List.getElem?_eq_getElem oo,h]⟩
end
section
variable [W:W32]
def zgm (N L:Nat):Ent:=.box 31 (.ms (N+2+1) 1 1 0 L)
def zab (P b:List UInt8) (u:Nat):Ent:=.mrow 1 5 1 ((zio P b (min b.length (u * 32))).map za)
omit W in
theorem zaz (P b:List UInt8) (u:Nat) (f:Nat→Option Nat):(zab P b u).ren f=zab P b u:=by
 simp only [zab,zeg,xr]
omit W in
theorem zce (N L:Nat):zgm N L≠.none:=by simp [zgm]
omit W in
theorem zcf (P b:List UInt8) (u:Nat):zab P b u≠.none:=by simp [zab]
def zee (N f:Nat) (key:Tg) (E1 b:List UInt8):Slots:=upd (upd (upd (upd (upd (upd (upd (upd (zcB [zd key,.slice none (E1.map za),.slice none (b.map za)]) 3 (.ptr N [] 0)) 6 .nils) 11 (.slice none (b.map za))) 12 (.ms (N+2+(0+1)) 1 1 0 b.length)) 7 (.ptr (N+2+2) [] 0)) 13 (zd key)) 14 (.slice none (E1.map za))) 15 (.fn f [.view (.slice none (E1.map za)),.view (zd key)])
omit W in
theorem zgn (N f:Nat) (key:Tg) (E1 b:List UInt8) (n0 kk:Nat) (h:N+9 < n0):(fun t=>(zee N f key E1 b t).ren (rn n0 kk none))=zee N f key E1 b:=by
 unfold zee
 have r0:rn n0 kk none N=some N:=zkB oo
 have r1:rn n0 kk none (N+2+(0+1))=some (N+2+(0+1)):=zkB oo
 have r2:rn n0 kk none (N+2+2)=some (N+2+2):=zkB oo
 refine wm _ _ (wm _ _ (wm _ _ (wm _ _ (wm _ _ (wm _ _ (wm _ _ (wm _ _ (zgX ?_) ?_) ?_) ?_) ?_) ?_) ?_) ?_) ?_
 ·simp only [AV.renl,AV.ren,xr,Option.bind_none,xR]
 ·simp only [AV.ren,r0]
 ·rfl
 ·simp only [AV.ren,xr,Option.bind_none]
 ·simp only [AV.ren,r1]
 ·simp only [AV.ren,r2]
 ·simp only [xR]
 ·simp only [AV.ren,xr,Option.bind_none]
 ·simp only [AV.ren,AV.renl,xr,Option.bind_none,xR]
set_option maxHeartbeats 4000000 in
theorem zaY (key:Tg) (nn:Int) (b:List UInt8) (hb:b.length≤100000) (g k:Nat):
  ACall prog 211 [zd key,.slice none ((yh nn).map za),.slice none (b.map za)] k [(g,yE)] (.slice none ((jz key.1 nn b).map za)) []:=by
 have c1:=zb5 b oo
 have c2:=zbb key (yh nn)
 have hP:=qL key.1 nn b
 have hat:=ze5 key.1 nn b
 generalize hPP:jz key.1 nn b=P at *
 have hAt:∀ i (hi:i < b.length),P[i]'oo=x8 b[i] ((kst key.1 nn (i / 32)).1[i % 32]'(by rw [(kst key.1 nn (i / 32)).2];omega)):=fun i hi=>hat i hi _ _
 clear hat hPP
 have hm0:zab P b 0=.mrow 1 5 1 (b.map za):=by simp [zab,zpa]
 have hmR:zab P b ((b.length+31) / 32)=.mrow 1 5 1 (P.map za):=by
  unfold zab
  rw [Nat.min_eq_left oo,ziy hP]
 obtain ⟨R,hRd⟩:∃ R,(b.length+31) / 32=R:=⟨_,rfl⟩
 rw [hRd] at hmR
 refine Bd func211 ntmps211 fun σ N hp hpn hk hkn hfree=>?_
 obtain ⟨hd,hdn⟩:=HD0 hp hpn;clear hp hpn
 have hcs:=And.intro c1 (And.intro c2 True.intro)
 clear c1 c2
 refine Wk ?_
 clear hcs
 change aw _ _ _ _ ⟨zee N 259 key (yh nn) b,_,_⟩
 refine zbf (.exit 0) (f:=259) (caps:=[.view (.slice none ((yh nn).map za)),.view (zd key)]) (pre:=[(N+2+2,zgm N b.length),(N+2+1,zab P b 0),(g,yE)])
  (post:=[(N+2+1,zab P b R)]) (res:=.tup []) (by unfold zee;simp (disch:=omega) [go_sem, *,-List.reduceReplicate]) (by rw [hm0];unfold zgm;intro p hp;simp at hp;rcases hp with rfl | rfl | rfl <;> (simp (disch:=omega) [go_sem, *,-List.reduceReplicate])) (by simp;omega) (by simp) ?_ ?_
 ·intro l r hst hpe hps hA hB
  refine ⟨.done,by simp,?_⟩
  refine zav key nn R oo l 47 r { r with state:=.done,pending:=ww (.exit 0) } (zee N 259 key (yh nn) b) (zgm N b.length) (fun u=>zab P b u) g (N+2+2) (N+2+1) (N+9+1) (N+9+2) oo oo oo (zce _ _) (zcf _ _ _) (fun u n0 kk h=>zaz _ _ _ _) (fun n0 kk h=>zgn _ _ _ _ _ _ _ oo) ?_ ?_
  ·intro u hu kk
   have hu32:u * 32 < b.length:=by omega
   have hyl:=AYield.of_body (P:=prog) (l:=l) (N:=47) (r:=r) (s:=zee N 259 key (yh nn) b) (j:=N+9+1) (k:=kk) (args:=[.lit (.int .i64 ((u:Int) * 32)),zd (kst key.1 nn u)]) (pre:=[(N+2+2,zgm N b.length),(N+2+1,zab P b u)]) (ws:=[(N+2+1,zab P b (u+1))]) (post:=[(N+2+1,zab P b (u+1))])
    .normal zi hst (ps:=[16,17]) (by rw [hps]) hA hB rfl (by simp) (by kernel_rfl) (by kernel_rfl) (by kernel_rfl) (by kernel_rfl) (by simp [zce,zcf]) (by simp) (by simp) (by simp) ?_
   ·rw [zaA hst hpe] at hyl
    exact hyl
   ·clear hA hB hm0 hmR hd hdn hk hkn hfree
    obtain ⟨N0,hN0⟩:∃ N0,N0=N:=⟨N,rfl⟩
    subst hN0
    intro σ N hp hpn hj hjn hk hkn hfree
    simp only [List.mem_cons,List.not_mem_nil,or_false,forall_eq_or_imp,forall_eq] at hp hpn
    obtain ⟨e1,e2⟩:=hp
    obtain ⟨n1,n2⟩:=hpn
    refine ⟨by simp only [zfj,List.map_cons,List.map_nil,zaz],?_⟩
    have hT:=zmA hP hAt (u:=u)
    have hTl:=(kst key.1 nn u).2
    generalize kst key.1 nn u=T at *
    obtain ⟨T,hT32⟩:=T
    simp only at hT hTl
    have hTA:zd ⟨T,hT32⟩=.agg (T.map za):=rfl
    have hs1:=zB ⟨T,hT32⟩
    have hs2:=zj ⟨T,hT32⟩
    rw [hTA] at hs1 hs2 ⊢
    clear hTA hAt
    have ha:(u:Int) * 32=((u * 32:Nat):Int):=by omega
    rw [ha]
    clear ha
    unfold zgm zab at *
    rw [Nat.min_eq_right (Nat.le_of_lt hu32)] at e2
    obtain ⟨e,he⟩:∃ e,min b.length ((u+1) * 32)=e:=⟨_,rfl⟩
    rw [he]
    have he1:u * 32≤e:=by omega
    have he2:e≤b.length:=by omega
    have he3:e≤u * 32+32:=by omega
    have he4:e < b.length→e=u * 32+32:=by omega
    clear he
    generalize u * 32=a at *
    have hage:¬ ((b.length:Int)≤(a:Int)):=by omega
    unfold zee zcC zcC zcC at *
    refine Wk ?_
    refine ⟨rfl,by simp (disch:=omega) [go_sem, *,-List.reduceReplicate],?_⟩
    refine Wk ?_
    obtain ⟨C0,hC0⟩:∃ c,zio P b a=c:=⟨_,rfl⟩
    rw [hC0] at e2
    refine yn (N+3) zi (by kernel_rfl) [10,23,24,25,26,27,28,29,30,31,32,33,34,35,36,37,38,39,40,41,42,43,44,45] [N0+2+1] (fun m_ s_ σ_ n_=>∃ (i:Nat) (cur:List UInt8),m_=e - i∧s_ 10=.lit (.int .i64 i)∧σ_ (N0+2+1)=.mrow 1 5 1 (cur.map za)∧(a≤i)∧(i≤e)∧(zio P b i=cur)) ⟨_,a,C0,rfl,WF,WF,WC,WC,WC⟩ ?_
    intro m_1 s_1 σ_1 n_1 hs_1 hf_1 hn_1 hI_1
    obtain ⟨i,cur,hm_1,h1_10,e1_0,hi1,hi2,hc⟩:=hI_1
    have h1_6:=KS hs_1 6
    have h1_7:=KS hs_1 7
    have h1_8:=KS hs_1 8
    have h1_9:=KS hs_1 9
    have k1_0:=KE hf_1 (N0+2+2)
    have k1_1:=KE hf_1 (N0+9+1)
    have k1_2:=KE hf_1 (N+1+0)
    have hlow:∀ id,id < N→id≠N0+2+1→id≠N0+9+1→σ_1 id=σ id:=fun id hid hdd0 hdd1=>(hf_1.at id oo (by simp [hdd0];try omega)).trans (by simp (disch:=omega) only [zg];try first | exact hlow id hid hdd0 hdd1 | exact hlow id hid)
    by_cases hie:i=e
    ·subst hie
     rw [hc]
     have hend:(i:Int) < (b.length:Int)→¬ ((i:Int) < (a:Int)+32):=fun h=>by have:=he4 oo;omega
     by_cases hib:i=b.length
     ·have hib1:¬ ((i:Int) < (b.length:Int)):=by omega
      clear hT hend
      refine Wk ?_
      refine ⟨rfl,fun id hid=>?_⟩
      simp only [zF,yi]
      by_cases i1:id=N0+2+1
      ·subst i1;simp (disch:=omega) [go_sem, *]
      by_cases i2:id=N0+9+1
      ·subst i2;simp (disch:=omega) [go_sem, *]
      simp (disch:=omega) only [zg]
      exact hlow id hid i1 i2
     ·have hib1:((i:Int) < (b.length:Int)):=by omega
      have hib2:=hend hib1
      clear hT hend
      refine Wk ?_
      refine ⟨rfl,fun id hid=>?_⟩
      simp only [zF,yi]
      by_cases i1:id=N0+2+1
      ·subst i1;simp (disch:=omega) [go_sem, *]
      by_cases i2:id=N0+9+1
      ·subst i2;simp (disch:=omega) [go_sem, *]
      simp (disch:=omega) only [zg]
      exact hlow id hid i1 i2
    ·have hil:i < b.length:=by omega
     have hib1:((i:Int) < (b.length:Int)):=by omega
     have hib2:((i:Int) < (a:Int)+32):=by omega
     obtain ⟨y,hy,hPy⟩:=hT i hil hi1 oo
     have hcl:=ziz hP i oo
     have ha0:=zlM hP i hil
     have hset0:=ziA hP i oo
     rw [hc] at hcl ha0 hset0
     have hPi:P[i]'oo=x8 b[i] y:=by
      rw [List.getElem?_eq_getElem oo] at hPy
      exact Option.some.inj hPy
     rw [hPi] at hset0
     obtain ⟨z,hz⟩:∃ z,b[i]=z:=⟨_,rfl⟩
     rw [List.getElem?_eq_getElem hil,hz] at ha0
     rw [hz] at hset0
     have hset:=zbn cur i (x8 z y)
     rw [hset0] at hset
     have hx:=znA z y
     generalize x8 z y=v at *
     have hyb:za y=.lit (.int .u8 y.toNat):=rfl
     have hzb:za z=.lit (.int .u8 z.toNat):=rfl
     have hvb:za v=.lit (.int .u8 v.toNat):=rfl
     rw [hvb] at hset
     generalize hc':zio P b (i+1)=cn at *
     have hic:i < cur.length:=by omega
     have hci:cur[i]=z:=by rw [List.getElem?_eq_getElem hic] at ha0;exact Option.some.inj ha0
     obtain ⟨dd,hdd⟩:∃ dd:Nat,i - a=dd:=⟨_,rfl⟩
     rw [hdd] at hy
     have hsub:(i:Int) - (a:Int)=(dd:Int):=by omega
     have hdd32:dd < 32:=by omega
     have hyT:T[dd]'oo=y:=by rw [List.getElem?_eq_getElem oo] at hy;exact Option.some.inj hy
     clear hy ha0
     clear hT hPi hPy hdd hset0 hz hc
     refine Wk ?_
     exact ⟨WS,WG,WN,_,(show e - (i+1) < m_1 by omega),i+1,cn,rfl,WF,WF,WC,WC,WC⟩
  ·intro kk
   have hR32:b.length≤R * 32:=by omega
   have hyl:=AYield.of_body (P:=prog) (l:=l) (N:=47) (r:=r) (s:=zee N 259 key (yh nn) b) (j:=N+9+1) (k:=kk) (args:=[.lit (.int .i64 ((R:Int) * 32)),zd (kst key.1 nn R)]) (pre:=[(N+2+2,zgm N b.length),(N+2+1,zab P b R)]) (ws:=[(N+2+1,zab P b R)]) (post:=[(N+2+1,zab P b R)])
    (.exit 0) zi hst (ps:=[16,17]) (by rw [hps]) hA hB rfl (by simp) (by kernel_rfl) (by kernel_rfl) (by kernel_rfl) (by kernel_rfl) (by simp [zce,zcf]) (by simp) (by simp) (by simp) ?_
   ·exact hyl
   ·clear hA hB hm0 hmR hd hdn hk hkn hfree
    obtain ⟨N0,hN0⟩:∃ N0,N0=N:=⟨N,rfl⟩
    subst hN0
    intro σ N hp hpn hj hjn hk hkn hfree
    simp only [List.mem_cons,List.not_mem_nil,or_false,forall_eq_or_imp,forall_eq] at hp hpn
    obtain ⟨e1,e2⟩:=hp
    obtain ⟨n1,n2⟩:=hpn
    refine ⟨by simp only [zfj,List.map_cons,List.map_nil,zaz],?_⟩
    generalize kst key.1 nn R=T at *
    have ha:(R:Int) * 32=((R * 32:Nat):Int):=by omega
    rw [ha]
    clear ha
    unfold zgm zab at *
    rw [Nat.min_eq_left hR32] at e2 ⊢
    generalize R * 32=a at *
    have hage:(b.length:Int)≤(a:Int):=by omega
    unfold zee zcC zcC zcC at *
    refine Wk ?_
    refine ⟨rfl,by simp (disch:=omega) [go_sem, *,-List.reduceReplicate],?_⟩
    refine Wk ?_
    refine ⟨rfl,fun id hid=>?_⟩
    simp only [zF,yi]
    by_cases i1:id=N0+2+1
    ·subst i1;simp (disch:=omega) [go_sem, *]
    by_cases i2:id=N0+9+1
    ·subst i2;simp (disch:=omega) [go_sem, *]
    simp (disch:=omega) only [zg]
 ·intro l r
  rw [hmR]
  unfold zee
  apply kP
  apply zek
  refine yM (N+2+2) [] (r:=N+2+1) (ver:=1) (size:=1) (e:=5) (bt:=31) (c:=.ms (N+2+1) 1 1 0 b.length) (xs:=P.map za) (k:=b.length) (by simp (disch:=omega) [go_sem, *,-List.reduceReplicate]) (by simp (disch:=omega) [go_sem, *,-List.reduceReplicate]) rfl (by rw [List.length_map,hP]) ?_
  exact WM
end
section
variable [W:W32]
end
def bI (key:Tg) (nonce:Int) (plain:List UInt8):List BoxE→Nat→Int
 | [],_=>-1
 | e::r,u=>if e.key=key∧e.nonce=nonce∧e.plain=plain then u else bI key nonce plain r (u+1)
theorem ziN {key:Tg} {nonce:Int} {plain:List UInt8}:∀ (L:List BoxE) (u:Nat),zhV key nonce plain L=none→bI key nonce plain L u=-1
 | [],_,_=>rfl
 | e::r,u,h=>by
  rw [zhV] at h
  split at h
  ·cases h
  ·rename_i hn
   rw [bI,if_neg hn]
   exact ziN r _ h
theorem ziO {key:Tg} {nonce:Int} {plain t:List UInt8}:∀ (L:List BoxE) (u:Nat),zhV key nonce plain L=some t→∃ (i:Nat) (h:i < L.length),bI key nonce plain L u=((u+i:Nat):Int)∧(L[i]).box=t
 | [],_,h=>by cases h
 | e::r,u,h=>by
  rw [zhV] at h
  split at h
  ·rename_i hc
   injection h with h
   exact ⟨0,by simp,by rw [bI,if_pos hc,Nat.add_zero],h⟩
  ·rename_i hn
   obtain ⟨i,hi,h1,h2⟩:=ziO r (u+1) h
   exact ⟨i+1,by simp;omega,by rw [bI,if_neg hn,h1];congr 1;omega,h2⟩
theorem ziS (e:BoxE) (key:Tg) (nonce:Int) (plain:List UInt8) (he:e.plain.length≤100000) (hm:plain.length≤1000000) (k:Nat):
  ACall prog 243 [zo e,.view (zd key),.view (.lit (.int .i64 nonce)),.view (.slice none (plain.map za))] k [] (.lit (.bool (decide (e.key=key∧e.nonce=nonce∧e.plain=plain)))) []:=by
 obtain ⟨zk,zn,zp,zb⟩:=e
 simp only at he ⊢
 have c1:=xB zp plain oo oo
 have hzd:zo ⟨zk,zn,zp,zb⟩=.agg [zd zk,.lit (.int .i64 zn),bAV zp,bAV zb]:=rfl
 have hzb:=qS zp
 by_cases h1:zk=key
 ·have d1:decide (zk=key)=true:=decide_eq_true h1
  by_cases h3:zn=nonce
  ·have d3:decide (zn=nonce)=true:=decide_eq_true h3
   have d3':(zn == nonce)=true:=by simp [h3]
   by_cases h2:zp=plain
   ·have d2:decide (zp=plain)=true:=decide_eq_true h2
    rw [decide_eq_true (show zk=key∧zn=nonce∧zp=plain from ⟨h1,h3,h2⟩)]
    rw [d2] at c1
    refine Bd func243 ntmps243 fun σ N hp hpn hk hkn hfree=>?_
    have hcs:=And.intro c1 True.intro
    clear c1 h1 h2 d2 h3
    exact W0
   ·have d2:decide (zp=plain)=false:=decide_eq_false h2
    rw [decide_eq_false (show ¬ (zk=key∧zn=nonce∧zp=plain) from fun h=>h2 h.2.2)]
    rw [d2] at c1
    refine Bd func243 ntmps243 fun σ N hp hpn hk hkn hfree=>?_
    have hcs:=And.intro c1 True.intro
    clear c1 h1 h2 d2 h3
    exact W0
  ·have d3:decide (zn=nonce)=false:=decide_eq_false h3
   have d3':(zn == nonce)=false:=by simp [h3]
   rw [decide_eq_false (show ¬ (zk=key∧zn=nonce∧zp=plain) from fun h=>h3 h.2.1)]
   refine Bd func243 ntmps243 fun σ N hp hpn hk hkn hfree=>?_
   clear c1 h1 h3
   exact W0
 ·have d1:decide (zk=key)=false:=decide_eq_false h1
  rw [decide_eq_false (show ¬ (zk=key∧zn=nonce∧zp=plain) from fun h=>h1 h.1)]
  refine Bd func243 ntmps243 fun σ N hp hpn hk hkn hfree=>?_
  clear c1 h1
  exact W0
theorem zfo (L:List BoxE) (key:Tg) (nonce:Int) (plain:List UInt8) (hl:L.length≤1000000) (hm:∀ e∈L,e.plain.length≤100000∧e.box.length≤100000) (hp0:plain.length≤1000000) (k:Nat):
  ACall prog 242 [.slice none (L.map zo),.fn 243 [.view (zd key),.view (.lit (.int .i64 nonce)),.view (.slice none (plain.map za))]] k [] (.lit (.int .i64 (bI key nonce plain L 0))) []:=by
 obtain ⟨R,hR⟩:∃ R,bI key nonce plain L 0=R:=⟨_,rfl⟩
 rw [hR]
 have hdr:L.drop 0=L:=rfl
 refine Bd func242 ntmps242 fun σ N hp hpn hk hkn hfree=>?_
 refine Wk ?_
 refine ze zi (by kernel_rfl) [4,5,8,9,10,11,12,13,14,15,16,17,18] [] (fun m_ s_ σ_ n_=>∃ (u:Nat),m_=L.length - u∧s_ 8=.lit (.int .i64 u)∧(u≤L.length)∧(bI key nonce plain (L.drop u) u=R)) ⟨_,0,rfl,WF,WC,WC⟩ ?_
 intro m_1 s_1 σ_1 n_1 hs_1 hf_1 hn_1 hI_1
 obtain ⟨u,hm_1,h1_8,hu,hno⟩:=hI_1
 have h1_0:=KS hs_1 0
 have h1_1:=KS hs_1 1
 have h1_7:=KS hs_1 7
 have hlow:=KL (N:=N) (σ:=σ) hf_1
 clear hR hdr
 by_cases hul:u=L.length
 ·subst hul
  rw [List.drop_length] at hno
  simp only [bI] at hno
  subst hno
  clear hm
  exact W0
 ·have hu1:u < L.length:=by omega
  rw [List.drop_eq_getElem_cons hu1,bI] at hno
  have hmz:=(hm _ (List.getElem_mem hu1)).1
  obtain ⟨z,hz⟩:∃ z,L[u]=z:=⟨_,rfl⟩
  rw [hz] at hno hmz
  have c1:=ziS z key nonce plain hmz hp0
  by_cases hc:z.key=key∧z.nonce=nonce∧z.plain=plain
  ·rw [if_pos hc] at hno
   subst hno
   rw [decide_eq_true hc] at c1
   have hcs:=And.intro c1 True.intro
   clear c1 hm hc hmz
   exact W0
  ·rw [if_neg hc] at hno
   rw [decide_eq_false hc] at c1
   have hcs:=And.intro c1 True.intro
   clear c1 hm hc hmz
   refine Wk ?_
   exact ⟨WS,WG,WN,_,(show L.length - (u+1) < m_1 by omega),u+1,rfl,WF,WC,WC⟩
section
variable [W:W32]
theorem zfw (key:Tg) (nn:Int) (plain:List UInt8) (hp0:plain.length≤10000) (g k:Nat):
  ACall prog 209 [.view (.lit (.int .i64 nn)),.view (zd key),.view (.slice none (plain.map za))] k [(g,yE)] (.slice none ((zcw key.1 nn plain).map za)) []:=by
 have c1:=jV nn
 have c2:=zaY key nn plain oo g
 have hE:=xD nn
 have hS:=qL key.1 nn plain
 have c3:=zaX key (yh nn++jz key.1 nn plain) (by rw [List.length_append,hE,hS];omega) g
 unfold zcw
 generalize qC key.1 ([98,111,120]++(yh nn++jz key.1 nn plain))=T at *
 generalize yh nn=E at *
 generalize jz key.1 nn plain=S at *
 have hbm:E.map za++S.map za=(E++S).map za:=by rw [List.map_append]
 have hbl:E.length+S.length=(E++S).length:=by rw [List.length_append]
 have hbs:(E++S).length≤20000:=by rw [List.length_append];omega
 generalize E++S=b0 at *
 have ht1:=zB T
 have ht2:=zj T
 obtain ⟨T,hT⟩:=T
 have htA:zd ⟨T,hT⟩=.agg (T.map za):=rfl
 simp only [htA] at c3 ht1 ht2 ⊢
 clear htA
 have htk2:(T.map za).take 32=T.map za:=List.take_of_length_le (by rw [List.length_map];omega)
 have hbbm:b0.map za++T.map za=(b0++T).map za:=by rw [List.map_append]
 generalize b0++T=bb at *
 refine Bd func209 ntmps209 fun σ N hp hpn hk hkn hfree=>?_
 obtain ⟨hd,hdn⟩:=HD0 hp hpn;clear hp hpn
 have hcs:=And.intro c1 (And.intro c2 (And.intro c3 True.intro))
 clear c1 c2 c3
 exact WM
end
theorem RV2 {P:Program} {rs:List ResultVar} {k:Nat} {σ0:Nat→Ent} {n0:Nat} {pre post:Foot} {r r0:AV} {c:Cfg} (d1:Nat) (E1:Ent) (d2:Nat) (E2:Ent) (h1:kJ P c rs=some r0:=by simp (disch:=omega) [go_sem, *,-List.reduceReplicate];rfl) (hle:AV.le r0 r:=by first | exact AV.le_refl _ | ((first | apply AV.le_slices | apply AV.le_nilsE | apply AV.le_clipE);first | rfl | (simp (disch:=omega) [go_sem, *,-List.reduceReplicate];done)) | (apply AV.sub_tup;repeat' first | exact ALe.nil | exact AV.le_refl _ | apply ALe.cons | ((first | apply AV.le_slices | apply AV.le_nilsE | apply AV.le_clipE);first | rfl | (simp (disch:=omega) [go_sem, *,-List.reduceReplicate];done)))) (h2:r.ren (rn n0 k none)=r:=by first | rfl | (simp (disch:=omega) [go_sem];done) | (simp (disch:=omega) [go_sem, *];done) | simp (disch:=omega) [go_sem])
  (ha:c.σ d1=E1:=by simp (disch:=omega) [go_sem, *]) (hb:c.σ d2=E2:=by simp (disch:=omega) [go_sem, *]) (h3:∀ id,id < n0→id≠d1→id≠d2→c.σ id=σ0 id:=by intro id hid hdd hdd2;simp (disch:=omega) only [zg,zF,yi];try (first | exact hlow id hid hdd hdd2 | exact hlow id hid)) (h4:∃ p∈pre,p.1=d1:=by simp) (h6:∃ p∈pre,p.1=d2:=by simp) (h5:zfj (rn n0 k none) [(d1,E1),(d2,E2)]=post:=by simp (disch:=omega) [go_sem, *]):aRet P rs k σ0 n0 pre r post .ret c:=
 zfK [(d1,E1),(d2,E2)] h1 hle h2 (fun id hid=>by
  rw [zF,zF,yi]
  by_cases hdd:id=d2
  ·subst hdd;rw [zr,hb]
  ·rw [zg _ _ _ _ hdd]
   by_cases hde:id=d1
   ·subst hde;rw [zr,ha]
   ·rw [zg _ _ _ _ hde];exact h3 id hid hde hdd) (fun q hq=>by
  simp only [List.mem_cons,List.not_mem_nil,or_false] at hq
  rcases hq with rfl | rfl
  ·exact h4
  ·exact h6) h5
section
variable [W:W32]
def zcp (a:Alg) (e:Nat) (key:Tg) (nn:Int) (plain:List UInt8):Alg × Nat × List UInt8:=
 if e≠0 then (a,e,[]) else match zhV key nn plain a.boxes with
  | some b=>(a,0,b)
  | none=>if 65536≤a.boxes.length then (a,2,[]) else ({ a with boxes:=a.boxes++[⟨key,nn,plain,zg0 a key nn plain⟩] },0,zg0 a key nn plain)
set_option maxHeartbeats 4000000 in
theorem zaF (a:Alg) (e:Nat) (key:Tg) (nn:Int) (plain:List UInt8) (hl:a.boxes.length≤1000000) (hm:∀ x∈a.boxes,x.plain.length≤100000∧x.box.length≤100000) (hp0:plain.length≤10000) (d r1 r2 g k:Nat):
  ACall prog 208 [.ptr d [] 0,zd key,.lit (.int .i64 nn),.slice none (plain.map za),.fn 209 [.view (.lit (.int .i64 nn)),.view (zd key),.view (.slice none (plain.map za))]] k (vA a e d r1 r2++[(g,yE)])
   (.slice none ((zcp a e key nn plain).2.2.map za)) [(d,zcM (zcp a e key nn plain).1 (zcp a e key nn plain).2.1 r1 r2),(r2,ztS (zcp a e key nn plain).1.boxes.length)]:=by
 obtain ⟨fr,sd,fs,L,B⟩:=a
 simp only at hl hm
 unfold vA
 simp only [List.cons_append,List.nil_append]
 by_cases he0:e=0
 ·subst he0
  have c2:=zfo B key nn plain hl hm oo
  cases he:zhV key nn plain B with
  | some t=>
   have hmb:zcp ⟨fr,sd,fs,L,B⟩ 0 key nn plain=(⟨fr,sd,fs,L,B⟩,0,t):=by unfold zcp;simp only [he];rfl
   rw [hmb]
   obtain ⟨i,hi,hfi,hti⟩:=ziO B 0 he
   rw [hfi,Nat.zero_add] at c2
   have hbt:t.length≤100000:=by rw [← hti];exact (hm _ (List.getElem_mem hi)).2
   obtain ⟨z,hz⟩:∃ z,B[i]=z:=⟨_,rfl⟩
   rw [hz] at hti
   have hzm:(B.map zo)[i]?=some (zo z):=by rw [List.getElem?_map,List.getElem?_eq_getElem hi,hz];rfl
   obtain ⟨zk,zn,zp,zb⟩:=z
   simp only at hti
   subst hti
   have hzd:zo ⟨zk,zn,zp,zb⟩=.agg [zd zk,.lit (.int .i64 zn),bAV zp,bAV zb]:=rfl
   have hzb:=qS zb
   have c3:=yC zb oo
   simp only [qr,zP,zO] at *
   refine Bd func208 ntmps208 fun σ N hp hpn hk hkn hfree=>?_
   simp only [List.mem_cons,List.not_mem_nil,or_false,forall_eq_or_imp,forall_eq] at hp hpn;obtain ⟨hd1,hd2,hd3,hd4⟩:=hp;obtain ⟨hdn1,hdn2,hdn3,hdn4⟩:=hpn
   have hne:d≠r1:=by rintro rfl;rw [hd1] at hd2;cases hd2
   have hne3:d≠r2:=by rintro rfl;rw [hd1] at hd3;cases hd3
   have hneg:g≠d:=by rintro rfl;rw [hd4] at hd1;exact ya hd1
   have hneg1:g≠r2:=by rintro rfl;rw [hd4] at hd3;exact yb hd3
   refine Wm ?_
   refine Wz ?_
   refine yz 6 (id:=N) (bt:=28) (x:=zd key) (by simp (disch:=omega) [go_sem, *,-List.reduceReplicate]) (by simp (disch:=omega) [go_sem, *,-List.reduceReplicate]) ?_
   refine yz 7 (id:=N+1) (bt:=3) (x:=.lit (.int .i64 nn)) (by simp (disch:=omega) [go_sem, *,-List.reduceReplicate]) (by simp (disch:=omega) [go_sem, *,-List.reduceReplicate]) ?_
   refine yz 8 (id:=N+2) (bt:=31) (x:=.slice none (plain.map za)) (by simp (disch:=omega) [go_sem, *,-List.reduceReplicate]) (by simp (disch:=omega) [go_sem, *,-List.reduceReplicate]) ?_
   have hcs:=And.intro c2 (And.intro c3 True.intro)
   clear c2 c3 hm he hfi hmb
   refine Wk ?_
   exact RV2 (d) ((.box 249 (.agg [.agg [.lit (.bool fr),zd sd,.lit (.int .i64 fs),.slice (some r1) (L.map zJ),.slice (some r2) (B.map zo)],.lit (.int .i64 0)]))) (r2) ((.row 192 35 B.length))
  | none=>
   rw [ziN B 0 he] at c2
   have c3:=zeA 98 (B.length+1) oo
   have e98:((98:UInt8).toNat:Int)=98:=rfl
   have hn1:((B.length+1:Nat):Int)=(B.length:Int)+1:=by omega
   rw [e98,hn1] at c3
   by_cases hf:65536≤B.length
   ·have hmb:zcp ⟨fr,sd,fs,L,B⟩ 0 key nn plain=(⟨fr,sd,fs,L,B⟩,2,[]):=by unfold zcp;simp only [he,if_pos hf];rfl
    rw [hmb]
    have hfi:(65536:Int) < (B.length:Int)+1:=by omega
    have c1:=xN ⟨fr,sd,fs,L,B⟩ 0 2
    rw [if_pos rfl] at c1
    unfold vA at c1
    have e02:((2:Nat):Int)=2:=rfl
    clear c3 e98 hn1
    simp only [qr,zP,zO,e02] at *
    refine Bd func208 ntmps208 fun σ N hp hpn hk hkn hfree=>?_
    simp only [List.mem_cons,List.not_mem_nil,or_false,forall_eq_or_imp,forall_eq] at hp hpn;obtain ⟨hd1,hd2,hd3,hd4⟩:=hp;obtain ⟨hdn1,hdn2,hdn3,hdn4⟩:=hpn
    have hne:d≠r1:=by rintro rfl;rw [hd1] at hd2;cases hd2
    have hne3:d≠r2:=by rintro rfl;rw [hd1] at hd3;cases hd3
    have hneg:g≠d:=by rintro rfl;rw [hd4] at hd1;exact ya hd1
    have hneg1:g≠r2:=by rintro rfl;rw [hd4] at hd3;exact yb hd3
    refine Wm ?_
    refine Wz ?_
    refine yz 6 (id:=N) (bt:=28) (x:=zd key) (by simp (disch:=omega) [go_sem, *,-List.reduceReplicate]) (by simp (disch:=omega) [go_sem, *,-List.reduceReplicate]) ?_
    refine yz 7 (id:=N+1) (bt:=3) (x:=.lit (.int .i64 nn)) (by simp (disch:=omega) [go_sem, *,-List.reduceReplicate]) (by simp (disch:=omega) [go_sem, *,-List.reduceReplicate]) ?_
    refine yz 8 (id:=N+2) (bt:=31) (x:=.slice none (plain.map za)) (by simp (disch:=omega) [go_sem, *,-List.reduceReplicate]) (by simp (disch:=omega) [go_sem, *,-List.reduceReplicate]) ?_
    have hcs:=And.intro c2 (And.intro (c1 d r1 r2) True.intro)
    clear c1 c2 hm he hmb
    refine Wk ?_
    exact RV2 (d) ((.box 249 (.agg [.agg [.lit (.bool fr),zd sd,.lit (.int .i64 fs),.slice (some r1) (L.map zJ),.slice (some r2) (B.map zo)],.lit (.int .i64 2)]))) (r2) ((.row 192 35 B.length))
   ·have hfi:¬ (65536:Int) < (B.length:Int)+1:=by omega
    have hb:(B.length+1) * 88≤140737488355328:=by omega
    have hb0:B.length * 88≤140737488355328:=by omega
    have hb1:B.length≤140737488355327:=by omega
    have hsl:=zeJ ⟨fr,sd,fs,L,B⟩ key nn plain
    obtain ⟨bb,hbb⟩:∃ bb,zg0 ⟨fr,sd,fs,L,B⟩ key nn plain=bb:=⟨_,rfl⟩
    have hmb:zcp ⟨fr,sd,fs,L,B⟩ 0 key nn plain=(⟨fr,sd,fs,L,B++[⟨key,nn,plain,bb⟩]⟩,0,bb):=by unfold zcp;simp only [he,if_neg hf,hbb];rfl
    rw [hbb] at hsl
    rw [hmb]
    have hL2:(B++[(⟨key,nn,plain,bb⟩:BoxE)]).map zo=B.map zo++[.agg [zd key,.lit (.int .i64 nn),.slice none (plain.map za),.slice none (bb.map za)]]:=by rw [List.map_append];rfl
    have hL3:(B++[(⟨key,nn,plain,bb⟩:BoxE)]).length=B.length+1:=by simp
    have c4:=zfw key nn plain oo g
    have c5:=yC plain oo
    have c6:=yC bb oo
    have hbbT:fr=true→bb=(vW 98 ((B.length:Int)+1)).1++List.replicate (plain.length+8) 0:=fun h=>by subst h;rw [← hbb];rfl
    have hbbF:fr=false→bb=zcw key.1 nn plain:=fun h=>by subst h;rw [← hbb];rfl
    clear hbb
    generalize vW 98 ((B.length:Int)+1)=T at *
    have ht1:=zB T
    have ht2:=zj T
    obtain ⟨pz,hpz⟩:∃ pz,T.1++List.replicate (plain.length+8) 0=pz:=⟨_,rfl⟩
    have hpzm:T.1.map za++List.replicate ((plain.length:Int)+8).toNat (AV.lit (.int .u8 0))=pz.map za:=by
     rw [← hpz,List.map_append,List.map_replicate,show ((plain.length:Int)+8).toNat=plain.length+8 by omega];rfl
    have hpzl:32+((plain.length:Int)+8).toNat=pz.length:=by rw [← hpz,List.length_append,List.length_replicate,T.2];omega
    have hpz2:pz.length≤20000:=by omega
    cases fr with
    | true=>
     have hbz:bb=pz:=(hbbT rfl).trans hpz
     subst hbz
     clear hbbT hbbF hpz
     obtain ⟨T,hT⟩:=T
     have htA:zd ⟨T,hT⟩=.agg (T.map za):=rfl
     simp only [htA] at c3 ht1 ht2 hpzm
     clear htA
     simp only [qr,zP,zO,hL2,hL3] at *
     refine Bd func208 ntmps208 fun σ N hp hpn hk hkn hfree=>?_
     simp only [List.mem_cons,List.not_mem_nil,or_false,forall_eq_or_imp,forall_eq] at hp hpn;obtain ⟨hd1,hd2,hd3,hd4⟩:=hp;obtain ⟨hdn1,hdn2,hdn3,hdn4⟩:=hpn
     have hne:d≠r1:=by rintro rfl;rw [hd1] at hd2;cases hd2
     have hne3:d≠r2:=by rintro rfl;rw [hd1] at hd3;cases hd3
     have hneg:g≠d:=by rintro rfl;rw [hd4] at hd1;exact ya hd1
     have hneg1:g≠r2:=by rintro rfl;rw [hd4] at hd3;exact yb hd3
     refine Wm ?_
     refine Wz ?_
     refine yz 6 (id:=N) (bt:=28) (x:=zd key) (by simp (disch:=omega) [go_sem, *,-List.reduceReplicate]) (by simp (disch:=omega) [go_sem, *,-List.reduceReplicate]) ?_
     refine yz 7 (id:=N+1) (bt:=3) (x:=.lit (.int .i64 nn)) (by simp (disch:=omega) [go_sem, *,-List.reduceReplicate]) (by simp (disch:=omega) [go_sem, *,-List.reduceReplicate]) ?_
     refine yz 8 (id:=N+2) (bt:=31) (x:=.slice none (plain.map za)) (by simp (disch:=omega) [go_sem, *,-List.reduceReplicate]) (by simp (disch:=omega) [go_sem, *,-List.reduceReplicate]) ?_
     have hcs:=And.intro c2 (And.intro c3 True.intro)
     iterate 6 refine Wz ?_
     clear hcs
     (apply xI;· (simp only [List.length_cons,List.length_nil,Nat.reduceAdd,Nat.add_assoc];rfl))
     refine zaC (id:=N+29+2) (path:=[]) (off:=0) (bt:=28) (c:=.agg (T.map za)) (ys:=T.map za) (by simp (disch:=omega) [go_sem, *,-List.reduceReplicate]) (by simp (disch:=omega) [go_sem, *,-List.reduceReplicate]) zwu rfl rfl (by rw [List.length_map];exact hT) (qI T) (by unfold maxLen;omega) ?_
     refine Wm ?_
     refine zcm (xs:=T.map za) (q:=(plain.length:Int)+8) (by simp (disch:=omega) [go_sem, *,-List.reduceReplicate]) zwE it3 rfl (by simp) (by simp (disch:=omega) [go_sem, *,-List.reduceReplicate];try rfl) oo (qI T) (by rw [List.length_map,hT,hpzl];omega) (by rw [List.length_map,hT,hpzl];omega) ?_
     rw [hpzm,List.length_map,hT,hpzl]
     have hcs:=And.intro c5 (And.intro c6 True.intro)
     clear c2 c3 c4 c5 c6 hm he hmb hL2 hL3 hpzm
     refine Wk ?_
     exact RV2 (d) ((.box 249 (.agg [.agg [.lit (.bool true),zd sd,.lit (.int .i64 fs),.slice (some r1) (L.map zJ),.slice (some r2) (B.map zo++[.agg [zd key,.lit (.int .i64 nn),.slice none (plain.map za),.slice none (bb.map za)]])],.lit (.int .i64 0)]))) (r2) ((.row 192 35 (B.length+1)))
    | false=>
     rw [← hbbF rfl] at c4
     clear hbbT hbbF hpz
     obtain ⟨T,hT⟩:=T
     have htA:zd ⟨T,hT⟩=.agg (T.map za):=rfl
     simp only [htA] at c3 ht1 ht2 hpzm
     clear htA
     simp only [qr,zP,zO,hL2,hL3] at *
     refine Bd func208 ntmps208 fun σ N hp hpn hk hkn hfree=>?_
     simp only [List.mem_cons,List.not_mem_nil,or_false,forall_eq_or_imp,forall_eq] at hp hpn;obtain ⟨hd1,hd2,hd3,hd4⟩:=hp;obtain ⟨hdn1,hdn2,hdn3,hdn4⟩:=hpn
     have hne:d≠r1:=by rintro rfl;rw [hd1] at hd2;cases hd2
     have hne3:d≠r2:=by rintro rfl;rw [hd1] at hd3;cases hd3
     have hneg:g≠d:=by rintro rfl;rw [hd4] at hd1;exact ya hd1
     have hneg1:g≠r2:=by rintro rfl;rw [hd4] at hd3;exact yb hd3
     refine Wm ?_
     refine Wz ?_
     refine yz 6 (id:=N) (bt:=28) (x:=zd key) (by simp (disch:=omega) [go_sem, *,-List.reduceReplicate]) (by simp (disch:=omega) [go_sem, *,-List.reduceReplicate]) ?_
     refine yz 7 (id:=N+1) (bt:=3) (x:=.lit (.int .i64 nn)) (by simp (disch:=omega) [go_sem, *,-List.reduceReplicate]) (by simp (disch:=omega) [go_sem, *,-List.reduceReplicate]) ?_
     refine yz 8 (id:=N+2) (bt:=31) (x:=.slice none (plain.map za)) (by simp (disch:=omega) [go_sem, *,-List.reduceReplicate]) (by simp (disch:=omega) [go_sem, *,-List.reduceReplicate]) ?_
     have hcs:=And.intro c2 (And.intro c3 True.intro)
     iterate 6 refine Wz ?_
     clear hcs
     (apply xI;· (simp only [List.length_cons,List.length_nil,Nat.reduceAdd,Nat.add_assoc];rfl))
     refine zaC (id:=N+29+2) (path:=[]) (off:=0) (bt:=28) (c:=.agg (T.map za)) (ys:=T.map za) (by simp (disch:=omega) [go_sem, *,-List.reduceReplicate]) (by simp (disch:=omega) [go_sem, *,-List.reduceReplicate]) zwu rfl rfl (by rw [List.length_map];exact hT) (qI T) (by unfold maxLen;omega) ?_
     refine Wm ?_
     refine zcm (xs:=T.map za) (q:=(plain.length:Int)+8) (by simp (disch:=omega) [go_sem, *,-List.reduceReplicate]) zwE it3 rfl (by simp) (by simp (disch:=omega) [go_sem, *,-List.reduceReplicate];try rfl) oo (qI T) (by rw [List.length_map,hT,hpzl];omega) (by rw [List.length_map,hT,hpzl];omega) ?_
     rw [hpzm,List.length_map,hT,hpzl]
     have hcs:=And.intro (c4) (And.intro c5 (And.intro c6 True.intro))
     clear c2 c3 c4 c5 c6 hm he hmb hL2 hL3 hpzm
     refine Wk ?_
     exact RV2 (d) ((.box 249 (.agg [.agg [.lit (.bool false),zd sd,.lit (.int .i64 fs),.slice (some r1) (L.map zJ),.slice (some r2) (B.map zo++[.agg [zd key,.lit (.int .i64 nn),.slice none (plain.map za),.slice none (bb.map za)]])],.lit (.int .i64 0)]))) (r2) ((.row 192 35 (B.length+1)))
 ·have hmb:zcp ⟨fr,sd,fs,L,B⟩ e key nn plain=(⟨fr,sd,fs,L,B⟩,e,[]):=by unfold zcp;rw [if_pos he0]
  rw [hmb]
  have hei:((e:Int) != 0)=true:=by simp;omega
  simp only [qr,zP,zO] at *
  refine Bd func208 ntmps208 fun σ N hp hpn hk hkn hfree=>?_
  simp only [List.mem_cons,List.not_mem_nil,or_false,forall_eq_or_imp,forall_eq] at hp hpn;obtain ⟨hd1,hd2,hd3,hd4⟩:=hp;obtain ⟨hdn1,hdn2,hdn3,hdn4⟩:=hpn
  have hne:d≠r1:=by rintro rfl;rw [hd1] at hd2;cases hd2
  have hne3:d≠r2:=by rintro rfl;rw [hd1] at hd3;cases hd3
  have hneg:g≠d:=by rintro rfl;rw [hd4] at hd1;exact ya hd1
  have hneg1:g≠r2:=by rintro rfl;rw [hd4] at hd3;exact yb hd3
  clear hm hmb
  refine Wk ?_
  exact RV2 (d) ((.box 249 (.agg [.agg [.lit (.bool fr),zd sd,.lit (.int .i64 fs),.slice (some r1) (L.map zJ),.slice (some r2) (B.map zo)],.lit (.int .i64 e)]))) (r2) ((.row 192 35 B.length))
end
section
variable [W:W32]
theorem kU (a:Alg) (e:Nat) (key:Tg) (nn:Int) (plain:List UInt8):(zcp a e key nn plain).1.macs=a.macs:=by
 unfold zcp
 split
 ·rfl
 ·split
  ·rfl
  ·split <;> rfl
def bxE (e:Nat) (nn:Int) (plain:List UInt8):Nat:=if e=0 then (if nn < 0∨281474976710656 < nn then 1 else if 256 < plain.length then 2 else 0) else e
def xV (a:Alg) (e:Nat) (key:Tg) (nn:Int) (plain:List UInt8):Alg × Nat × List UInt8:=zcp a (bxE e nn plain) key nn plain
theorem zcc (a:Alg) (key:Tg) (nn:Int) (plain:List UInt8):vm a key nn plain=if (xV a 0 key nn plain).2.1=0 then ((xV a 0 key nn plain).1,(xV a 0 key nn plain).2.2,0) else (wZ,[],(xV a 0 key nn plain).2.1):=by
 unfold vm xV bxE zcp
 rw [if_pos rfl]
 by_cases h1:nn < 0∨281474976710656 < nn
 ·rw [if_pos h1,if_pos h1];rfl
 ·rw [if_neg h1,if_neg h1]
  by_cases h2:256 < plain.length
  ·rw [if_pos h2,if_pos h2];rfl
  ·rw [if_neg h2,if_neg h2]
   simp only [ne_eq,not_true_eq_false,if_false]
   cases zhV key nn plain a.boxes with
   | some b=>rfl
   | none=>
    by_cases h3:65536≤a.boxes.length
    ·simp only [if_pos h3];rfl
    ·simp only [if_neg h3];rfl
set_option maxHeartbeats 2000000 in
theorem zfz (a:Alg) (e:Nat) (key:Tg) (nn:Int) (plain:List UInt8) (hl:a.boxes.length≤1000000) (hm:∀ x∈a.boxes,x.plain.length≤100000∧x.box.length≤100000) (hp0:plain.length≤10000) (d r1 r2 g k:Nat):
  ACall prog 167 [.ptr d [] 0,zd key,.lit (.int .i64 nn),.slice none (plain.map za)] k (vA a e d r1 r2++[(g,yE)])
   (.slice none ((xV a e key nn plain).2.2.map za)) [(d,zcM (xV a e key nn plain).1 (xV a e key nn plain).2.1 r1 r2),(r2,ztS (xV a e key nn plain).1.boxes.length)]:=by
 unfold xV bxE
 by_cases h1:nn < 0
 ·rw [if_pos (show nn < 0∨281474976710656 < nn from .inl h1)]
  have c1:=xN a e 1 d r1 r2
  have c2:=zaF a (if e=0 then 1 else e) key nn plain hl hm hp0 d r1 r2 g
  have hmx:=kU a (if e=0 then 1 else e) key nn plain
  generalize (if e=0 then 1 else e)=e1 at *
  generalize zcp a e1 key nn plain=X at *
  obtain ⟨a2,e2,b2⟩:=X
  simp only at c2 hmx ⊢
  unfold vA at *
  simp only [List.cons_append,List.nil_append] at *
  have e01:((1:Nat):Int)=1:=rfl
  simp only [zW,zP,zO,hmx,e01] at *
  clear hm hmx e01
  refine Bd func167 ntmps167 fun σ N hp hpn hk hkn hfree=>?_
  simp only [List.mem_cons,List.not_mem_nil,or_false,forall_eq_or_imp,forall_eq] at hp hpn;obtain ⟨hd1,hd2,hd3,hd4⟩:=hp;obtain ⟨hdn1,hdn2,hdn3,hdn4⟩:=hpn
  have hne:d≠r1:=by rintro rfl;rw [hd1] at hd2;cases hd2
  have hne3:d≠r2:=by rintro rfl;rw [hd1] at hd3;cases hd3
  have hneg:g≠d:=by rintro rfl;rw [hd4] at hd1;exact ya hd1
  have hneg1:g≠r2:=by rintro rfl;rw [hd4] at hd3;exact yb hd3
  refine Wm ?_
  refine Wz ?_
  refine yz 5 (id:=N) (bt:=28) (x:=zd key) (by simp (disch:=omega) [go_sem, *,-List.reduceReplicate]) (by simp (disch:=omega) [go_sem, *,-List.reduceReplicate]) ?_
  refine yz 6 (id:=N+1) (bt:=3) (x:=.lit (.int .i64 nn)) (by simp (disch:=omega) [go_sem, *,-List.reduceReplicate]) (by simp (disch:=omega) [go_sem, *,-List.reduceReplicate]) ?_
  refine yz 7 (id:=N+2) (bt:=31) (x:=.slice none (plain.map za)) (by simp (disch:=omega) [go_sem, *,-List.reduceReplicate]) (by simp (disch:=omega) [go_sem, *,-List.reduceReplicate]) ?_
  have hcs:=And.intro c1 (And.intro c2 True.intro)
  clear c1 c2
  refine Wk ?_
  exact RV2 (d) ((.box 249 (.agg [.agg [.lit (.bool a2.free),zd a2.seed,.lit (.int .i64 a2.fresh),.slice (some r1) (a.macs.map zJ),.slice (some r2) (a2.boxes.map zo)],.lit (.int .i64 (e2:Int))]))) (r2) ((.row 192 35 a2.boxes.length))
 by_cases h2:281474976710656 < nn
 ·rw [if_pos (show nn < 0∨281474976710656 < nn from .inr h2)]
  have c1:=xN a e 1 d r1 r2
  have c2:=zaF a (if e=0 then 1 else e) key nn plain hl hm hp0 d r1 r2 g
  have hmx:=kU a (if e=0 then 1 else e) key nn plain
  generalize (if e=0 then 1 else e)=e1 at *
  generalize zcp a e1 key nn plain=X at *
  obtain ⟨a2,e2,b2⟩:=X
  simp only at c2 hmx ⊢
  unfold vA at *
  simp only [List.cons_append,List.nil_append] at *
  have e01:((1:Nat):Int)=1:=rfl
  simp only [zW,zP,zO,hmx,e01] at *
  clear hm hmx e01
  refine Bd func167 ntmps167 fun σ N hp hpn hk hkn hfree=>?_
  simp only [List.mem_cons,List.not_mem_nil,or_false,forall_eq_or_imp,forall_eq] at hp hpn;obtain ⟨hd1,hd2,hd3,hd4⟩:=hp;obtain ⟨hdn1,hdn2,hdn3,hdn4⟩:=hpn
  have hne:d≠r1:=by rintro rfl;rw [hd1] at hd2;cases hd2
  have hne3:d≠r2:=by rintro rfl;rw [hd1] at hd3;cases hd3
  have hneg:g≠d:=by rintro rfl;rw [hd4] at hd1;exact ya hd1
  have hneg1:g≠r2:=by rintro rfl;rw [hd4] at hd3;exact yb hd3
  refine Wm ?_
  refine Wz ?_
  refine yz 5 (id:=N) (bt:=28) (x:=zd key) (by simp (disch:=omega) [go_sem, *,-List.reduceReplicate]) (by simp (disch:=omega) [go_sem, *,-List.reduceReplicate]) ?_
  refine yz 6 (id:=N+1) (bt:=3) (x:=.lit (.int .i64 nn)) (by simp (disch:=omega) [go_sem, *,-List.reduceReplicate]) (by simp (disch:=omega) [go_sem, *,-List.reduceReplicate]) ?_
  refine yz 7 (id:=N+2) (bt:=31) (x:=.slice none (plain.map za)) (by simp (disch:=omega) [go_sem, *,-List.reduceReplicate]) (by simp (disch:=omega) [go_sem, *,-List.reduceReplicate]) ?_
  have hcs:=And.intro c1 (And.intro c2 True.intro)
  clear c1 c2
  refine Wk ?_
  exact RV2 (d) ((.box 249 (.agg [.agg [.lit (.bool a2.free),zd a2.seed,.lit (.int .i64 a2.fresh),.slice (some r1) (a.macs.map zJ),.slice (some r2) (a2.boxes.map zo)],.lit (.int .i64 (e2:Int))]))) (r2) ((.row 192 35 a2.boxes.length))
 rw [if_neg (show ¬ (nn < 0∨281474976710656 < nn) by omega)]
 by_cases h3:256 < plain.length
 ·rw [if_pos h3]
  have h3i:(256:Int) < (plain.length:Int):=by omega
  have c1:=xN a e 2 d r1 r2
  have c2:=zaF a (if e=0 then 2 else e) key nn plain hl hm hp0 d r1 r2 g
  have hmx:=kU a (if e=0 then 2 else e) key nn plain
  generalize (if e=0 then 2 else e)=e1 at *
  generalize zcp a e1 key nn plain=X at *
  obtain ⟨a2,e2,b2⟩:=X
  simp only at c2 hmx ⊢
  unfold vA at *
  simp only [List.cons_append,List.nil_append] at *
  have e02:((2:Nat):Int)=2:=rfl
  simp only [zW,zP,zO,hmx,e02] at *
  clear hm hmx e02
  refine Bd func167 ntmps167 fun σ N hp hpn hk hkn hfree=>?_
  simp only [List.mem_cons,List.not_mem_nil,or_false,forall_eq_or_imp,forall_eq] at hp hpn;obtain ⟨hd1,hd2,hd3,hd4⟩:=hp;obtain ⟨hdn1,hdn2,hdn3,hdn4⟩:=hpn
  have hne:d≠r1:=by rintro rfl;rw [hd1] at hd2;cases hd2
  have hne3:d≠r2:=by rintro rfl;rw [hd1] at hd3;cases hd3
  have hneg:g≠d:=by rintro rfl;rw [hd4] at hd1;exact ya hd1
  have hneg1:g≠r2:=by rintro rfl;rw [hd4] at hd3;exact yb hd3
  refine Wm ?_
  refine Wz ?_
  refine yz 5 (id:=N) (bt:=28) (x:=zd key) (by simp (disch:=omega) [go_sem, *,-List.reduceReplicate]) (by simp (disch:=omega) [go_sem, *,-List.reduceReplicate]) ?_
  refine yz 6 (id:=N+1) (bt:=3) (x:=.lit (.int .i64 nn)) (by simp (disch:=omega) [go_sem, *,-List.reduceReplicate]) (by simp (disch:=omega) [go_sem, *,-List.reduceReplicate]) ?_
  refine yz 7 (id:=N+2) (bt:=31) (x:=.slice none (plain.map za)) (by simp (disch:=omega) [go_sem, *,-List.reduceReplicate]) (by simp (disch:=omega) [go_sem, *,-List.reduceReplicate]) ?_
  have hcs:=And.intro c1 (And.intro c2 True.intro)
  clear c1 c2
  refine Wk ?_
  exact RV2 (d) ((.box 249 (.agg [.agg [.lit (.bool a2.free),zd a2.seed,.lit (.int .i64 a2.fresh),.slice (some r1) (a.macs.map zJ),.slice (some r2) (a2.boxes.map zo)],.lit (.int .i64 (e2:Int))]))) (r2) ((.row 192 35 a2.boxes.length))
 ·rw [if_neg h3]
  have h3i:¬ (256:Int) < (plain.length:Int):=by omega
  rw [show (if e=0 then 0 else e)=e by split <;> omega]
  have c1:=True.intro
  have c2:=zaF a e key nn plain hl hm hp0 d r1 r2 g
  have hmx:=kU a e key nn plain
  generalize zcp a e key nn plain=X at *
  obtain ⟨a2,e2,b2⟩:=X
  simp only at c2 hmx ⊢
  unfold vA at *
  simp only [List.cons_append,List.nil_append] at *
  simp only [zW,zP,zO,hmx] at *
  clear hm hmx
  refine Bd func167 ntmps167 fun σ N hp hpn hk hkn hfree=>?_
  simp only [List.mem_cons,List.not_mem_nil,or_false,forall_eq_or_imp,forall_eq] at hp hpn;obtain ⟨hd1,hd2,hd3,hd4⟩:=hp;obtain ⟨hdn1,hdn2,hdn3,hdn4⟩:=hpn
  have hne:d≠r1:=by rintro rfl;rw [hd1] at hd2;cases hd2
  have hne3:d≠r2:=by rintro rfl;rw [hd1] at hd3;cases hd3
  have hneg:g≠d:=by rintro rfl;rw [hd4] at hd1;exact ya hd1
  have hneg1:g≠r2:=by rintro rfl;rw [hd4] at hd3;exact yb hd3
  refine Wm ?_
  refine Wz ?_
  refine yz 5 (id:=N) (bt:=28) (x:=zd key) (by simp (disch:=omega) [go_sem, *,-List.reduceReplicate]) (by simp (disch:=omega) [go_sem, *,-List.reduceReplicate]) ?_
  refine yz 6 (id:=N+1) (bt:=3) (x:=.lit (.int .i64 nn)) (by simp (disch:=omega) [go_sem, *,-List.reduceReplicate]) (by simp (disch:=omega) [go_sem, *,-List.reduceReplicate]) ?_
  refine yz 7 (id:=N+2) (bt:=31) (x:=.slice none (plain.map za)) (by simp (disch:=omega) [go_sem, *,-List.reduceReplicate]) (by simp (disch:=omega) [go_sem, *,-List.reduceReplicate]) ?_
  have hcs:=And.intro c2 True.intro
  clear c1 c2
  refine Wk ?_
  exact RV2 (d) ((.box 249 (.agg [.agg [.lit (.bool a2.free),zd a2.seed,.lit (.int .i64 a2.fresh),.slice (some r1) (a.macs.map zJ),.slice (some r2) (a2.boxes.map zo)],.lit (.int .i64 (e2:Int))]))) (r2) ((.row 192 35 a2.boxes.length))
end
section
variable [W:W32]
end
end Go.Proofs.YtglmjglbobhbbaaGreatDoor
namespace Go.Ab
open Go.RowKit
def LQP (W0:World) (g:Ghost) (N:Nat) (D:List Deferred) (Q:AExit→Cfg→Prop) (QP:List PanicEntry→Cfg→Prop):Exit→Act→World→Prop:=fun e a w=>
 ∃ c g',g.le g'∧SimA W0 g' N c a w∧a.defers=D∧match e with
  | .normal=>Q .normal c
  | .exit id=>Q (.exit id) c
  | .ret=>Q .ret c
  | .panic ch=>QP ch c
  | _=>False
theorem LQP.mono {W0:World} {g g':Ghost} {N:Nat} {D D':List Deferred} {Q:AExit→Cfg→Prop} {QP:List PanicEntry→Cfg→Prop} (hg:g.le g') (hD:D'=D) {e:Exit} {a:Act} {w:World} (h:LQP W0 g' N D' Q QP e a w):LQP W0 g N D Q QP e a w:=
 let ⟨c,g'',hle,hs,hm,hq⟩:=h
 ⟨c,g'',hg.trans hle,hs,hm.trans hD,hq⟩
def awP (P:Program) (N:Nat) (b:Code) (Q:AExit→Cfg→Prop) (QP:List PanicEntry→Cfg→Prop) (c:Cfg):Prop:=
 wJ N b=true→P.follows .mixedOrders=true→∀ W0 g a w,SimA W0 g N c a w→b.wpIn (wideAt none) 0 P (LQP W0 g N a.defers Q QP) a w
section
variable {P:Program} {N:Nat} {Q:AExit→Cfg→Prop} {QP:List PanicEntry→Cfg→Prop} {c:Cfg}
def APanic (P:Program) (f:FuncId) (args:List AV) (k:Nat) (ch:List PanicEntry):Prop:=
 qV P f=true∧∀ (W0:World) (g:Ghost) (σ:Nat→Ent) (n:Nat) (w:World) (vals:List Value),Sim W0 g σ n w→vals.length=args.length→(∀ (i:Nat) (x:AV) (v:Value),args[i]?=some x→vals[i]?=some v→Rep g x v) →
  σ k=.none→k < n→Calls P f vals.toArray w fun e w'=>e=.panicked ch∧∃ g',g.le g'∧Sim W0 g' σ n w'
end
theorem SimA.init {W0:World} {g:Ghost} {σ:Nat→Ent} {n:Nat} {w:World} {args:List AV} {vals:List Value} {N:Nat} (hS:Sim W0 g σ n w) (hl:vals.length=args.length) (hv:∀ (i:Nat) (x:AV) (v:Value),args[i]?=some x→vals[i]?=some v→Rep g x v) (hargs:args.length≤N):
  SimA W0 g N ⟨zcB args,σ,n⟩ { tmps:=vals.toArray++Array.replicate (N - vals.toArray.size) undef,defers:=[] } w:=by
 refine ⟨hS,by simp;omega,fun t=>?_⟩
 show Rep g (args.getD t (.tup [])) ((vals.toArray++Array.replicate (N - vals.toArray.size) undef).getD t undef)
 by_cases ht:t < args.length
 ·have ht':t < vals.length:=by omega
  have:=hv t args[t] vals[t] (List.getElem?_eq_getElem ht) (List.getElem?_eq_getElem ht')
  have e1:args.getD t (.tup [])=args[t]:=by simp [List.getD,List.getElem?_eq_getElem ht]
  have e2:(vals.toArray++Array.replicate (N - vals.toArray.size) undef).getD t undef=vals[t]:=by simp [Array.getElem?_append,ht']
  rw [e1,e2];exact this
 ·have e1:args.getD t (.tup [])=.tup []:=by simp [List.getD,List.getElem?_eq_none (Nat.not_lt.1 ht)]
  have e2:(vals.toArray++Array.replicate (N - vals.toArray.size) undef).getD t undef=undef:=by
   rw [Array.getD_eq_getD_getElem?,Array.getElem?_append]
   rw [if_neg (by simp;omega),Array.getElem?_replicate]
   split <;> rfl
  rw [e1,e2]
  exact .tup [] [] rfl fun i x v h _=>by simp at h
theorem APanic.of_body {P:Program} {f:FuncId} {fn:Func} {body:Code} {args:List AV} {k:Nat} {ch:List PanicEntry} (hmix:P.follows .mixedOrders=true) (hf:P.funcs[f]?=some fn) (hb:fn.body=some body)
  (hname : (fn.name == "runtime.NumGoroutine") = false) {N : Nat} (hN : fn.ntmps = N) (hok : wJ N body = true) (hargs : args.length ≤ N)
  (h:∀ (σ:Nat→Ent) (n:Nat),σ k=.none→k < n→(∀ id,n≤id→σ id=.none)→awP P N body (fun _ _=>False) (fun ch' c'=>ch'=ch∧∀ id,id < n→c'.σ id=σ id) ⟨zcB args,σ,n⟩):APanic P f args k ch:=by
 refine ⟨by simp [qV,hf,hb,hname],fun W0 g σ n w vals hS hl hv hk hkn=>?_⟩
 subst hN
 refine callsIn_wide.1 (callsIn_of_wp_marks (n:=0) hf hb trivial (wpIn_mono (h σ n hk hkn hS.bound hok hmix W0 g _ w (SimA.init hS hl hv hargs)) fun e a' w' hq=>?_))
 obtain ⟨c',g',hle,hS',hD,hq⟩:=hq
 cases e with
 | panic ch'=>
  obtain ⟨rfl,h3⟩:=hq
  obtain ⟨g2,hle2,hS2,_⟩:=hS.leave hS'.sim hle hk hkn (ws:=[]) (post:=[]) (fresh:=none) h3 (fun q hq=>by cases hq) rfl
  show LeavesInM Fence.wide 0 P fn a'.tmps _ a'.defers (.panicking ch') w'
  rw [hD]
  exact ⟨rfl,g2,hle2,hS2⟩
 | normal=>exact hq.elim
 | ret=>exact hq.elim
 | exit id=>exact hq.elim
 | goto=>exact hq.elim
 | outgrown=>exact hq.elim
theorem ARet.of {P:Program} {rs:List ResultVar} {k:Nat} {σ0:Nat→Ent} {n0:Nat} {pre:Foot} {r:AV} {post:Foot} {c:Cfg} (h:aRet P rs k σ0 n0 pre r post .ret c):ARet P rs k σ0 n0 pre r post c:=h
end Go.Ab
namespace Go.Proofs.YtglmjglbobhbbaaGreatDoor
open _root_.Go.Proofs.Tryz
open Go.Ab
attribute [local irreducible] Go.Ab.tyAV Go.Ab.aw Go.Ab.aops Go.Ab.kReg Go.Ab.aThen Go.Ab.aBlk Go.Ab.acond Go.Ab.aguard Go.Ab.astep Go.Ab.AStepX Go.Ab.aRet
attribute [local irreducible] yE
section
variable [W:W32]
end
section
variable [W:W32]
theorem zc5 {a:Alg} {e:Nat} (key:Tg) (nn:Int) (plain:List UInt8) (h:e≠0):xV a e key nn plain=(a,e,[]):=by
 unfold xV bxE zcp
 rw [if_neg h,if_pos h]
theorem ziT {a:Alg} {m:Nat} (h:AlgIn a m) (e:Nat) (key:Tg) (nn:Int) (plain:List UInt8):AlgIn (xV a e key nn plain).1 (m+1):=by
 by_cases he:e=0
 ·subst he
  by_cases h0:(xV a 0 key nn plain).2.1=0
  ·have hs:=zdL h key nn plain
   rw [zcc,if_pos h0] at hs
   exact hs
  ·have h1:(xV a 0 key nn plain).1=a:=by
    revert h0
    unfold xV zcp
    by_cases hx:bxE 0 nn plain=0
    ·rw [if_neg (by simpa using hx)]
     cases hb:zhV key nn plain a.boxes with
     | some b=>intro _;rfl
     | none=>
      simp only
      by_cases hf:65536≤a.boxes.length
      ·rw [if_pos hf];intro _;rfl
      ·rw [if_neg hf];intro h2;exact absurd rfl h2
    ·rw [if_pos hx];intro _;rfl
   rw [h1]
   exact h.more (Nat.le_succ _)
 ·rw [zc5 _ _ _ he]
  exact h.more (Nat.le_succ _)
theorem zc6 {a:Alg} {m:Nat} (h:AlgIn a m) (e:Nat) (key:Tg) (nn:Int) (plain:List UInt8):(xV a e key nn plain).2.2.length≤100000:=by
 unfold xV zcp
 by_cases hx:bxE e nn plain=0
 ·rw [if_neg (by simpa using hx)]
  have hp:plain.length≤256:=by
   unfold bxE at hx
   split at hx
   ·split at hx
    ·cases hx
    ·split at hx
     ·cases hx
     ·omega
   ·contradiction
  cases hb:zhV key nn plain a.boxes with
  | some b=>
   obtain ⟨x,hx1,_,_,_,rfl⟩:=zeT hb
   exact (h.bm x hx1).2
  | none=>
   simp only
   split
   ·simp
   ·have:=zeJ a key nn plain
    simp only
    omega
 ·rw [if_pos hx]
  simp
theorem zer {a:Alg} {e:Nat} (p:Pa) (c:Ca) (h:e≠0):(zY a e p c).2.1=e:=by
 have hi:inE e p c=e:=by unfold inE;rw [if_neg h,if_neg h]
 unfold zY
 rw [hi]
 unfold jW
 simp only [jO h]
def adM (a:Alg) (p:Pa) (b:Bl):Alg × Nat × Tg:=zbk a 0 p.tag (xw b.ticket)
def adX (a:Alg) (p:Pa) (b:Bl):Alg × Nat × List UInt8:=xV (adM a p b).1 (adM a p b).2.1 (adM a p b).2.2 0 b.key.1
def zhe (a:Alg) (p:Pa) (b:Bl):Alg × Nat × Pa:=zY (adX a p b).1 (adX a p b).2.1 p ⟨true,x9,b.party,b.ticket,(adX a p b).2.2⟩
theorem zmr (a:Alg) (p:Pa) (b:Bl):zbq a p b=if (zhe a p b).2.1=0 then ((zhe a p b).1,(zhe a p b).2.2,0) else (wZ,pa0,(zhe a p b).2.1):=by
 unfold zbq
 by_cases hm:(yJ a p.tag (xw b.ticket)).2.2=0
 ·have hM:adM a p b=((yJ a p.tag (xw b.ticket)).1,0,(yJ a p.tag (xw b.ticket)).2.1):=by unfold adM zbk;rw [if_neg (by simp),if_pos hm]
  rw [if_pos hm]
  have hX:adX a p b=xV (yJ a p.tag (xw b.ticket)).1 0 (yJ a p.tag (xw b.ticket)).2.1 0 b.key.1:=by unfold adX;rw [hM]
  generalize yJ a p.tag (xw b.ticket)=Y at *
  have hs:=zcc Y.1 Y.2.1 0 b.key.1
  rw [← hX] at hs
  by_cases hb:(adX a p b).2.1=0
  ·rw [if_pos hb] at hs
   rw [hs]
   simp only [if_true]
   rw [zau]
   unfold zhe
   rw [hb]
  ·rw [if_neg hb] at hs
   rw [hs]
   simp only
   rw [if_neg hb]
   have h2:(zhe a p b).2.1=(adX a p b).2.1:=by unfold zhe;exact zer _ _ hb
   rw [h2,if_neg hb]
 ·have hM:adM a p b=(a,(yJ a p.tag (xw b.ticket)).2.2,zeroTag):=by unfold adM zbk;rw [if_neg (by simp),if_neg hm]
  rw [if_neg hm]
  have hX:adX a p b=(a,(yJ a p.tag (xw b.ticket)).2.2,[]):=by unfold adX;rw [hM];exact zc5 _ _ _ hm
  have h2:(zhe a p b).2.1=(yJ a p.tag (xw b.ticket)).2.2:=by unfold zhe;rw [hX];exact zer _ _ hm
  rw [h2,if_neg hm]
end
section
variable [W:W32]
set_option maxHeartbeats 2000000 in
theorem zk2 (a:Alg) (m:Nat) (ha:AlgIn a m) (hm:m≤800000) (p:Pa) (hpl:p.cavs.length≤10000) (hpc:∀ x∈p.cavs,wY x) (b:Bl) (hb:b.ticket.length≤90000) (g h k:Nat):
  ACall prog 102 [zA a,zG p,zeb b] k [(g,yE),(h,zS)] (zdZ (zbq a p b)) []:=by
 have cb:=wK a (by have:=ha.ml;omega) (by have:=ha.bl;omega)
 have c1:=yH [115,101,97,108] b.ticket (by decide) oo
 have hM:[115,101,97,108]++b.ticket=xw b.ticket:=rfl
 rw [hM] at c1
 have c2:=fun q r1 r2=>vD a 0 p.tag (xw b.ticket) (by have:=ha.ml;omega) ha.mm (fun _=>by simp [xw]) (by simp [xw];omega) q r1 r2 g
 have i1:=zfT ha 0 p.tag (xw b.ticket)
 have x1:=zdh a 0 p.tag (xw b.ticket)
 rw [show zbk a 0 p.tag (xw b.ticket)=adM a p b from rfl] at c2 i1 x1
 have c3:=fun q r1 r2=>zfz (adM a p b).1 (adM a p b).2.1 (adM a p b).2.2 0 b.key.1 (by have:=i1.bl;omega) i1.bm (by rw [b.key.2];decide) q r1 r2 g
 have i2:=ziT i1 (adM a p b).2.1 (adM a p b).2.2 0 b.key.1
 have l2:=zc6 i1 (adM a p b).2.1 (adM a p b).2.2 0 b.key.1
 have x2:(xV (adM a p b).1 (adM a p b).2.1 (adM a p b).2.2 0 b.key.1).1.macs=(adM a p b).1.macs:=by unfold xV;exact kU _ _ _ _ _
 rw [show xV (adM a p b).1 (adM a p b).2.1 (adM a p b).2.2 0 b.key.1=adX a p b from rfl] at c3 i2 l2 x2
 have c4:=yC b.ticket oo
 have c5:=fun q r1 r2=>jl (adX a p b).1 (m+1+1) i2 oo (adX a p b).2.1 p hpl hpc ⟨true,x9,b.party,b.ticket,(adX a p b).2.2⟩ ⟨by simp only;omega,by simp only;omega⟩ zdp q r1 r2 g h
 have x3:(zhe a p b).1.boxes=(adX a p b).1.boxes:=by unfold zhe zY;simp only [wa]
 rw [show zY (adX a p b).1 (adX a p b).2.1 p ⟨true,x9,b.party,b.ticket,(adX a p b).2.2⟩=zhe a p b from rfl] at c5
 rw [zmr]
 generalize zhe a p b=Z at *
 generalize adX a p b=X at *
 generalize adM a p b=M at *
 obtain ⟨a1,e1,t1⟩:=M
 obtain ⟨a2,e2,b2⟩:=X
 obtain ⟨a3,e3,p3⟩:=Z
 generalize xw b.ticket=MS at *
 clear i1 i2 ha hpc hM
 have haA:zA a=.agg [.lit (.bool a.free),zd a.seed,.lit (.int .i64 a.fresh),.slice none (a.macs.map zJ),.slice none (a.boxes.map zo)]:=rfl
 obtain ⟨ep,se,L,tg⟩:=p
 obtain ⟨bp,bk,bt⟩:=b
 simp only at c1 c2 c3 c4 c5 hb x1 x2 x3 l2 ⊢
 have hs1:=zB bk
 have hs2:=zj bk
 obtain ⟨K,hK⟩:=bk
 have hkA:zd ⟨K,hK⟩=.agg (K.map za):=rfl
 have hs3:AV.celll (K.map za)=true:=zX K
 have htk:(K.map za).take 32=K.map za:=List.take_of_length_le (by rw [List.length_map];omega)
 have hzp:zU x9=.agg [.lit (.int .i64 0),.lit (.int .u64 0),.lit (.int .i64 0),.lit (.int .i64 0),.lit (.string ⟨#[]⟩),.lit (.int .i64 0)]:=rfl
 have hpA:zG ⟨ep,se,L,tg⟩=.agg [.lit (.int .i64 ep),.lit (.int .i64 se),.slice none (L.map z8),zd tg]:=rfl
 unfold z8 zeb at *
 simp only [hkA,hzp] at *
 clear hkA hzp
 by_cases he:e3=0
 ·subst he
  rw [if_pos rfl]
  unfold zdZ
  simp only
  have cd:=kF a3
  unfold zbN at cb
  unfold vA at c2 c3 c5 cd
  simp only [List.cons_append,List.nil_append] at *
  simp only [zW,zP,zO,x1,x2,x3] at *
  refine Bd func102 ntmps102 fun σ N hp hpn hk hkn hfree=>?_
  simp only [List.mem_cons,List.not_mem_nil,or_false,forall_eq_or_imp,forall_eq] at hp hpn;obtain ⟨hd1,hd2⟩:=hp;obtain ⟨hdn1,hdn2⟩:=hpn
  have hcs:=And.intro cb True.intro
  refine Wm ?_
  iterate 2 refine Wz ?_
  clear hcs
  refine zL (N+6+1) [0,3] 190 65 (bt:=249) (c:=.agg [.agg [.lit (.bool a.free),zd a.seed,.lit (.int .i64 a.fresh),.clip (a.macs.map zJ),.clip (a.boxes.map zo)],.lit (.int .i64 ((0:Nat):Int))]) (xs:=a.macs.map zJ) (by simp (disch:=omega) [go_sem, *,-List.reduceReplicate]) rfl (vg _) ?_;refine zL (N+6+1) [0,4] 192 35 (bt:=249) (c:=.agg [.agg [.lit (.bool a.free),zd a.seed,.lit (.int .i64 a.fresh),.slice (some (N+6+3)) (a.macs.map zJ),.clip (a.boxes.map zo)],.lit (.int .i64 ((0:Nat):Int))]) (xs:=a.boxes.map zo) (by simp (disch:=omega) [go_sem, *,-List.reduceReplicate]) rfl (xC _) ?_
  have hcs:=And.intro c1 (And.intro (c2 (N+6+1) (N+6+3) (N+6+3+1)) (And.intro (c3 (N+6+1) (N+6+3) (N+6+3+1)) (And.intro c4 (And.intro (c5 (N+6+1) (N+6+3) (N+6+3+1)) (And.intro (cd (N+6+1) (N+6+3) (N+6+3+1)) True.intro)))))
  clear cb c1 c2 c3 c4 c5 cd
  refine Wk ?_
  exact WD
 ·rw [if_neg he]
  unfold zdZ
  simp only [zZ,zm3]
  have h1i:((e3:Int) != 0)=true:=by rw [bne_iff_ne];omega
  have cd:=qP a3 e3 he
  unfold zbN at cb
  unfold vA at c2 c3 c5 cd
  simp only [List.cons_append,List.nil_append] at *
  simp only [zW,zP,zO,x1,x2,x3,zZ] at *
  refine Bd func102 ntmps102 fun σ N hp hpn hk hkn hfree=>?_
  simp only [List.mem_cons,List.not_mem_nil,or_false,forall_eq_or_imp,forall_eq] at hp hpn;obtain ⟨hd1,hd2⟩:=hp;obtain ⟨hdn1,hdn2⟩:=hpn
  have hcs:=And.intro cb True.intro
  refine Wm ?_
  iterate 2 refine Wz ?_
  clear hcs
  refine zL (N+6+1) [0,3] 190 65 (bt:=249) (c:=.agg [.agg [.lit (.bool a.free),zd a.seed,.lit (.int .i64 a.fresh),.clip (a.macs.map zJ),.clip (a.boxes.map zo)],.lit (.int .i64 ((0:Nat):Int))]) (xs:=a.macs.map zJ) (by simp (disch:=omega) [go_sem, *,-List.reduceReplicate]) rfl (vg _) ?_;refine zL (N+6+1) [0,4] 192 35 (bt:=249) (c:=.agg [.agg [.lit (.bool a.free),zd a.seed,.lit (.int .i64 a.fresh),.slice (some (N+6+3)) (a.macs.map zJ),.clip (a.boxes.map zo)],.lit (.int .i64 ((0:Nat):Int))]) (xs:=a.boxes.map zo) (by simp (disch:=omega) [go_sem, *,-List.reduceReplicate]) rfl (xC _) ?_
  have hcs:=And.intro c1 (And.intro (c2 (N+6+1) (N+6+3) (N+6+3+1)) (And.intro (c3 (N+6+1) (N+6+3) (N+6+3+1)) (And.intro c4 (And.intro (c5 (N+6+1) (N+6+3) (N+6+3+1)) (And.intro (cd (N+6+1) (N+6+3) (N+6+3+1)) True.intro)))))
  clear cb c1 c2 c3 c4 c5 cd
  refine Wk ?_
  exact WD
end
section
variable [W:W32]
end
end Go.Proofs.YtglmjglbobhbbaaGreatDoor
namespace Go.Proofs.YtglmjglbobhbbaaGreatDoor
open _root_.Go.Proofs.Tryz
open Go.Ab
attribute [local irreducible] Go.Ab.tyAV Go.Ab.aw Go.Ab.aops Go.Ab.kReg Go.Ab.aThen Go.Ab.aBlk Go.Ab.acond Go.Ab.aguard Go.Ab.astep Go.Ab.AStepX Go.Ab.aRet
theorem zr7 {a:Int} (h:(Lit.int .u64 a).wf=true):0≤a∧a < 18446744073709551616:=by
 have hw:IntKind.u64.min≤a∧a≤IntKind.u64.max:=by simpa [Lit.wf] using h
 have e1:IntKind.u64.min=0:=by decide
 have e2:IntKind.u64.max=18446744073709551615:=by decide
 omega
theorem zkz {m:Nat} {x:AV} (h:tyAV prog (m+2) 138 x):∃ p:Pr,PrOk p∧x=zU p:=by
 obtain ⟨xs,rfl,h1,h2⟩:=xY underlying138 h
 obtain ⟨a,b,c,d,e,f,rfl⟩:∃ a b c d e f,xs=[a,b,c,d,e,f]:=by
  match xs,h1 with
  | [a,b,c,d,e,f],_=>exact ⟨a,b,c,d,e,f,rfl⟩
 obtain ⟨v1,_,rfl⟩:=vv it3 (h2 0 _ _ rfl rfl)
 obtain ⟨v2,w2,rfl⟩:=vv zsI (h2 1 _ _ rfl rfl)
 obtain ⟨v3,_,rfl⟩:=vv it3 (h2 2 _ _ rfl rfl)
 obtain ⟨v4,_,rfl⟩:=vv it3 (h2 3 _ _ rfl rfl)
 obtain ⟨v5,w5,rfl⟩:=zj5 st9 (h2 4 _ _ rfl rfl)
 obtain ⟨v6,_,rfl⟩:=vv it3 (h2 5 _ _ rfl rfl)
 exact ⟨⟨v1,v2,v3,v4,v5,v6⟩,⟨(zr7 w2).1,(zr7 w2).2,w5⟩,rfl⟩
structure DiW (d:Di):Prop where
 tl:d.ticket.length≤140737488351232
 cl:d.conds.length≤9223372036854775807
 ok:∀ p∈d.conds,PrOk p
theorem zqN {x:AV} (h:tyAV prog 8 96 x):∃ b:Bl,b.ticket.length≤140737488351232∧x=zeb b:=by
 obtain ⟨ys,rfl,h3,h4⟩:=xY underlying96 h
 obtain ⟨a,b,c,rfl⟩:∃ a b c,ys=[a,b,c]:=by
  match ys,h3 with
  | [a,b,c],_=>exact ⟨a,b,c,rfl⟩
 obtain ⟨v1,_,rfl⟩:=vv it3 (h4 0 _ _ rfl rfl)
 obtain ⟨v2,_,rfl⟩:=zcR zqx by5 (h4 1 _ _ rfl rfl)
 obtain ⟨v3,w3,rfl⟩:=ja ztk by5 (by kernel_rfl) (h4 2 _ _ rfl rfl)
 exact ⟨⟨v1,v2,v3⟩,w3,rfl⟩
def CaW (c:Ca):Prop:=PrOk c.first∧wY c
structure PaW (p:Pa):Prop where
 cl:p.cavs.length≤9223372036854775807
 ok:∀ c∈p.cavs,CaW c
theorem zoE {x:AV} (h:tyAV prog 8 49 x):∃ r:Rq,True∧x=yD r:=by
 obtain ⟨ys,rfl,h3,h4⟩:=xY underlying49 h
 obtain ⟨a,b,rfl⟩:∃ a b,ys=[a,b]:=by
  match ys,h3 with
  | [a,b],_=>exact ⟨a,b,rfl⟩
 obtain ⟨v1,_,rfl⟩:=vv it3 (h4 0 _ _ rfl rfl)
 obtain ⟨v2,_,rfl⟩:=vv it3 (h4 1 _ _ rfl rfl)
 exact ⟨⟨v1,v2⟩,trivial,rfl⟩
theorem zjJ {x:AV} (h:tyAV prog 8 32 x):∃ l:List Pr,(l.length≤9223372036854775807∧∀ p∈l,PrOk p)∧x=.slice none (l.map zU):=jb zwH (fun _y hy=>zkz hy) h
attribute [local irreducible] yE
theorem cutW (c:Nat) (b:List UInt8):∃ (m:Nat) (t:List UInt8),(if (c:Int) < (b.length:Int) then (c:Int) else (b.length:Int))=(m:Int)∧m≤b.length∧m≤c∧t.length=m∧(b.map za).take m=t.map za:=by
 refine ⟨min c b.length,b.take c,?_,Nat.min_le_right ..,Nat.min_le_left ..,by simp,?_⟩
 ·split <;> omega
 ·rw [← List.map_take]
  congr 1
  by_cases h:c≤b.length
  ·rw [Nat.min_eq_left h]
  ·rw [Nat.min_eq_right oo,List.take_length,List.take_of_length_le oo]
def c12:Ca:=⟨true,x9,0,[1],[2]⟩
section
variable [W:W32]
theorem ziK {a:Alg} {m:Nat} (h:AlgIn a m) (p:Pa) (b:Bl):(zbq a p b).2.1.cavs=[]∨∃ x:List UInt8,x.length≤100000∧(zbq a p b).2.1.cavs=p.cavs++[⟨true,x9,b.party,b.ticket,x⟩]:=by
 rw [zmr]
 split
 ·exact .inr ⟨(adX a p b).2.2,zc6 (zfT h 0 p.tag (xw b.ticket)) _ _ _ _,rfl⟩
 ·exact .inl rfl
end
section
variable [W:W32]
end
theorem zcF (w b:List UInt8) (r:Rq) (hw:w.length≤1000) (hb:b.length≤1000):∃ R:List UInt8,R.length≤100000∧∀ k,ACall prog 171 [.lit (.string ⟨w.toArray⟩),.slice none (b.map za),yD r] k [] (.slice none (R.map za)) []:=by
 have c1:=yH w b oo oo
 have hwb:(w++b).length≤2000:=by rw [List.length_append];omega
 obtain ⟨rg,rn⟩:=r
 have hrA:yD ⟨rg,rn⟩=.agg [.lit (.int .i64 rg),.lit (.int .i64 rn)]:=rfl
 rw [hrA]
 clear hrA
 generalize w++b=R1 at *
 obtain ⟨X,hX,c2⟩:∃ (X:List UInt8 × Nat),X.1.length≤3000∧∀ k,ACall prog 214 [.slice none (R1.map za),.lit (.int .i64 rg)] k [] (zbu X) []:=by
  by_cases h:rg < 0∨281474976710656 < rg
  ·exact ⟨([],1),by simp,fun k=>(jY R1 rg h k).result (AV.sub_tup (.cons AV.le_nils0 (.cons (AV.le_refl _) .nil)))⟩
  ·obtain ⟨n,rfl⟩:=Int.eq_ofNat_of_zero_le (show 0≤rg by omega)
   have hl:=zh n 7 oo
   exact ⟨(R1++leb n,0),by simp only [List.length_append];omega,fun k=>yU R1 oo n oo k⟩
 obtain ⟨R2,E2⟩:=X
 simp only at hX
 obtain ⟨Y,hY,c3⟩:∃ (X:List UInt8 × Nat),X.1.length≤4000∧∀ k,ACall prog 214 [.slice none (R2.map za),.lit (.int .i64 rn)] k [] (zbu X) []:=by
  by_cases h:rn < 0∨281474976710656 < rn
  ·exact ⟨([],1),by simp,fun k=>(jY R2 rn h k).result (AV.sub_tup (.cons AV.le_nils0 (.cons (AV.le_refl _) .nil)))⟩
  ·obtain ⟨n,rfl⟩:=Int.eq_ofNat_of_zero_le (show 0≤rn by omega)
   have hl:=zh n 7 oo
   exact ⟨(R2++leb n,0),by simp only [List.length_append];omega,fun k=>yU R2 oo n oo k⟩
 obtain ⟨R3,E3⟩:=Y
 simp only at hY
 refine ⟨R3,by omega,fun k=>?_⟩
 unfold zbu at c2 c3
 simp only at c2 c3
 clear hX hY hwb
 refine Bd func171 ntmps171 fun σ N hp hpn hk hkn hfree=>?_
 have hcs:=And.intro c1 (And.intro c2 (And.intro c3 True.intro))
 clear c1 c2 c3
 exact WM
section
variable [W:W32]
end
def zeU:Bu:=⟨⟨0,0⟩,0,0,[],zeroTag,[]⟩
section
variable [W:W32]
set_option maxHeartbeats 4000000 in
theorem zef (a:Alg) (m:Nat) (ha:AlgIn a m) (hm:m≤60000) (e:Nat) (he:e≠0) (d:Di) (leaf:Tg) (r:Rq) (ht:d.ticket.length≤100000) (hc:d.conds.length≤100000) (q r1 r2 g k:Nat):
  ACall prog 172 [.ptr q [] 0,zw d,zd leaf,yD r] k (vA a e q r1 r2++[(g,yE)]) (zC (zu d)) [(q,zcM a e r1 r2),(r1,zfk a.macs.length)]:=by
 have c1:=wg r
 have cf:=xN a e 1 q r1 r2
 rw [if_neg he] at cf
 have c2:=yC d.ticket oo
 have c3:=vS d.conds hc
 obtain ⟨R,hRl,c4⟩:=zcF [98,105,110,100] leaf.1 r (by decide) (by rw [leaf.2];decide)
 have c5:=vD a e d.tag R (by have:=ha.ml;omega) ha.mm (fun h=>absurd h he) hRl q r1 r2 g
 rw [jO he] at c5
 simp only at c5
 obtain ⟨rg,rn⟩:=r
 obtain ⟨ti,cs,dt⟩:=d
 simp only at *
 have hrA:yD ⟨rg,rn⟩=.agg [.lit (.int .i64 rg),.lit (.int .i64 rn)]:=rfl
 have hdA:zw ⟨ti,cs,dt⟩=.agg [.slice none (ti.map za),.slice none (cs.map zU),zd dt]:=rfl
 have hoA:zC (zu ⟨ti,cs,dt⟩)=.agg [.slice none (ti.map za),.slice none (cs.map zU),zd zeroTag]:=rfl
 have hlA:zd leaf=.agg (leaf.1.map za):=rfl
 have ps1:=zB leaf
 have ps2:=zj leaf
 obtain ⟨K,hK⟩:=leaf
 rw [hlA] at ps1 ps2 ⊢
 rw [hrA] at c1 c4 ⊢
 rw [hdA,hoA]
 simp only at *
 clear hrA hdA hoA hlA ha hRl he
 have htk:(K.map za).take 32=K.map za:=List.take_of_length_le (by rw [List.length_map];omega)
 have e01:((1:Nat):Int)=1:=rfl
 unfold vA at *
 simp only [List.cons_append,List.nil_append] at *
 simp only [zW,zP,zO,e01] at *
 clear e01
 cases hr:rqB ⟨rg,rn⟩ with
 | false=>
  rw [hr] at c1
  clear hr
  refine Bd func172 ntmps172 fun σ N hp hpn hk hkn hfree=>?_
  simp only [List.mem_cons,List.not_mem_nil,or_false,forall_eq_or_imp,forall_eq] at hp hpn;obtain ⟨hd1,hd2,hd3,hd4⟩:=hp;obtain ⟨hdn1,hdn2,hdn3,hdn4⟩:=hpn
  have hne:q≠r1:=by rintro rfl;rw [hd1] at hd2;cases hd2
  have hne3:q≠r2:=by rintro rfl;rw [hd1] at hd3;cases hd3
  have hneg:g≠q:=by rintro rfl;rw [hd4] at hd1;exact ya hd1
  have hneg1:g≠r1:=by rintro rfl;rw [hd4] at hd2;exact yb hd2
  have hne23:r1≠r2:=by rintro rfl;rw [hd2] at hd3;simp at hd3
  have hcs:=And.intro c1 (And.intro cf (And.intro c2 (And.intro c3 (And.intro c4 (And.intro c5 True.intro)))))
  clear c1 cf c2 c3 c4 c5
  refine Wk ?_
  refine yd [(q,(.box 249 (.agg [.agg [.lit (.bool a.free),zd a.seed,.lit (.int .i64 a.fresh),.slice (some r1) (a.macs.map zJ),.slice (some r2) (a.boxes.map zo)],.lit (.int .i64 (e:Int))]))),(r1,(.row 190 65 a.macs.length))] (by simp (disch:=omega) [go_sem, *,-List.reduceReplicate];rfl) (by first | rfl | (simp (disch:=omega) [go_sem];done) | (simp (disch:=omega) [go_sem, *];done) | simp (disch:=omega) [go_sem]) (fun id hid=>by simp only [zF,yi];(by_cases hdd:id=q;(· (subst hdd;simp (disch:=omega) [go_sem, *]));(· (by_cases hdd2:id=r1;(· (subst hdd2;simp (disch:=omega) [go_sem, *]));(· (simp (disch:=omega) only [zg];try (first | exact hlow id hid hdd hdd2 | exact hlow id hid))))))) (by simp) (by simp (disch:=omega) [go_sem, *])
 | true=>
  rw [hr] at c1
  clear hr
  refine Bd func172 ntmps172 fun σ N hp hpn hk hkn hfree=>?_
  simp only [List.mem_cons,List.not_mem_nil,or_false,forall_eq_or_imp,forall_eq] at hp hpn;obtain ⟨hd1,hd2,hd3,hd4⟩:=hp;obtain ⟨hdn1,hdn2,hdn3,hdn4⟩:=hpn
  have hne:q≠r1:=by rintro rfl;rw [hd1] at hd2;cases hd2
  have hne3:q≠r2:=by rintro rfl;rw [hd1] at hd3;cases hd3
  have hneg:g≠q:=by rintro rfl;rw [hd4] at hd1;exact ya hd1
  have hneg1:g≠r1:=by rintro rfl;rw [hd4] at hd2;exact yb hd2
  have hne23:r1≠r2:=by rintro rfl;rw [hd2] at hd3;simp at hd3
  have hcs:=And.intro c1 (And.intro c2 (And.intro c3 (And.intro c4 (And.intro c5 True.intro))))
  clear c1 cf c2 c3 c4 c5
  refine Wk ?_
  refine yd [(q,(.box 249 (.agg [.agg [.lit (.bool a.free),zd a.seed,.lit (.int .i64 a.fresh),.slice (some r1) (a.macs.map zJ),.slice (some r2) (a.boxes.map zo)],.lit (.int .i64 (e:Int))]))),(r1,(.row 190 65 a.macs.length))] (by simp (disch:=omega) [go_sem, *,-List.reduceReplicate];rfl) (by first | rfl | (simp (disch:=omega) [go_sem];done) | (simp (disch:=omega) [go_sem, *];done) | simp (disch:=omega) [go_sem]) (fun id hid=>by simp only [zF,yi];(by_cases hdd:id=q;(· (subst hdd;simp (disch:=omega) [go_sem, *]));(· (by_cases hdd2:id=r1;(· (subst hdd2;simp (disch:=omega) [go_sem, *]));(· (simp (disch:=omega) only [zg];try (first | exact hlow id hid hdd hdd2 | exact hlow id hid))))))) (by simp) (by simp (disch:=omega) [go_sem, *])
set_option maxHeartbeats 16000000 in
theorem zc3 (a:Alg) (m:Nat) (ha:AlgIn a m) (p:Pa) (gs:List Di) (r:Rq) (hg:gs.length≤100) (hm:m≤50000) (hb:BuIn (zE p gs r)) (e0 e:Nat) (hE:(if e0=0 then yZ (zE p gs r) else e0)=e) (he:e≠0) (hpl:p.cavs.length≤1000) (hcm:∀ c∈p.cavs,wY c) (hgm:∀ d∈gs,d.ticket.length≤100000∧d.conds.length≤100000) (q r1 r2 g h k:Nat):
  ACall prog 105 [.ptr q [] 0,zG p,.slice none (gs.map zw),yD r] k (vA a e0 q r1 r2++[(g,yE),(h,zS)]) (ye (zE p gs r)) [(q,zcM a e r1 r2),(r1,zfk a.macs.length)]:=by
 have c0:=vB p.cavs oo hcm
 have hc:=wo (zE p gs r) hb 1 0
 obtain ⟨ec,hec⟩:∃ ec,yZ (zE p gs r)=ec:=⟨_,rfl⟩
 rw [hec] at hc hE
 have c1:=xN a e0 ec q r1 r2
 rw [hE] at c1
 clear hec
 obtain ⟨rm,hrml,c2⟩:=zcF [114,101,113,117,101,115,116] [] r (by decide) (by decide)
 have c3:=vD a e p.tag rm (by have:=ha.ml;omega) ha.mm (fun h=>absurd h he) hrml q r1 r2 g
 rw [jO he] at c3
 simp only at c3
 clear hE hb hrml
 obtain ⟨ep,se,L,tg⟩:=p
 obtain ⟨rg,rn⟩:=r
 simp only at *
 have hpA:zG ⟨ep,se,L,tg⟩=.agg [.lit (.int .i64 ep),.lit (.int .i64 se),.slice none (L.map z8),zd tg]:=rfl
 have hrA:yD ⟨rg,rn⟩=.agg [.lit (.int .i64 rg),.lit (.int .i64 rn)]:=rfl
 have hsA:ye (zE ⟨ep,se,L,tg⟩ gs ⟨rg,rn⟩)=.agg [.agg [.lit (.int .i64 rg),.lit (.int .i64 rn)],.lit (.int .i64 ep),.lit (.int .i64 se),.slice none (L.map z8),zd zeroTag,.slice none ((gs.map zu).map zC)]:=rfl
 rw [hsA] at hc ⊢
 rw [hrA] at c2
 rw [hpA,hrA]
 clear hpA hsA
 have hb24:gs.length * 80≤140737488355328:=by omega
 have hb25:gs.length≤140737488355327:=by omega
 unfold vA at *
 simp only [List.cons_append,List.nil_append,List.map_nil] at *
 simp only [zW,zP,zO] at *
 obtain ⟨D0,hD00⟩:∃ D0,gs.map zu=D0:=⟨_,rfl⟩
 have hD0:D0.length=gs.length:=by rw [← hD00];exact List.length_map ..
 have hDv:∀ (v:Nat) (z:Di),gs[v]?=some z→D0[v]?=some (zu z)∧(D0.map zC).set v (zC (zu z))=D0.map zC:=fun v z hz=>by
  have h1:D0[v]?=some (zu z):=by rw [← hD00,List.getElem?_map,hz];rfl
  refine ⟨h1,?_⟩
  have h2:(D0.map zC)[v]?=some (zC (zu z)):=by rw [List.getElem?_map,h1];rfl
  obtain ⟨h3,h4⟩:=List.getElem?_eq_some_iff.1 h2
  rw [← h4,List.set_getElem_self]
 rw [hD00]
 refine Bd func105 ntmps105 fun σ N hp hpn hk hkn hfree=>?_
 simp only [List.mem_cons,List.not_mem_nil,or_false,forall_eq_or_imp,forall_eq] at hp hpn
 obtain ⟨hd1,hd2,hd3,hd4,hd5⟩:=hp
 obtain ⟨hdn1,hdn2,hdn3,hdn4,hdn5⟩:=hpn
 have hne:q≠r1:=by rintro rfl;rw [hd1] at hd2;cases hd2
 have hne3:q≠r2:=by rintro rfl;rw [hd1] at hd3;cases hd3
 have hneg:g≠q:=by rintro rfl;rw [hd4] at hd1;exact ya hd1
 have hneg1:g≠r1:=by rintro rfl;rw [hd4] at hd2;exact yb hd2
 have hneh:h≠q:=by rintro rfl;rw [hd5] at hd1;exact v8 hd1
 have hneh1:h≠r1:=by rintro rfl;rw [hd5] at hd2;exact v9 hd2
 have hne23:r1≠r2:=by rintro rfl;rw [hd2] at hd3;simp at hd3
 rw [jM] at hd5 hc
 have hcs:=And.intro c0 True.intro
 clear c0
 refine Wk ?_
 clear hcs
 refine vM (N+12) [5] 168 34 (bt:=75) (c:=.agg [.agg [.lit (.int .i64 rg),.lit (.int .i64 rn)],.lit (.int .i64 ep),.lit (.int .i64 se),.slice none (L.map z8),zd zeroTag,.nils]) (by simp (disch:=omega) [go_sem, *,-List.reduceReplicate];try rfl) rfl ?_
 refine ze zi (by kernel_rfl) [11,25,26,27,28,29,30,31,32,33,34,35,36,37,38,39] [N+12,N+17] (fun m_ s_ σ_ n_=>∃ (u:Nat),m_=gs.length - u∧s_ 25=.lit (.int .i64 u)∧σ_ (N+12)=.box 75 (.agg [.agg [.lit (.int .i64 rg),.lit (.int .i64 rn)],.lit (.int .i64 ep),.lit (.int .i64 se),.slice none (L.map z8),zd zeroTag,.ms (N+17) u 34 0 u])∧σ_ (N+17)=.mrow u 168 34 (shX gs u)∧(u≤gs.length)) ⟨_,0,rfl,WF,WF,WF,WC⟩ ?_
 intro m_1 s_1 σ_1 n_1 hs_1 hf_1 hn_1 hI_1
 obtain ⟨u,hm_1,h1_25,e1_0,e1_1,hu⟩:=hI_1
 have h1_0:=KS hs_1 0
 have h1_2:=KS hs_1 2
 have h1_5:=KS hs_1 5
 have h1_7:=KS hs_1 7
 have h1_8:=KS hs_1 8
 have h1_9:=KS hs_1 9
 have h1_23:=KS hs_1 23
 have h1_24:=KS hs_1 24
 have k1_0:=KE hf_1 (N)
 have k1_1:=KE hf_1 (N+1)
 have k1_2:=KE hf_1 (N+2)
 have k1_3:=KE hf_1 (q)
 have k1_4:=KE hf_1 (r1)
 have k1_5:=KE hf_1 (r2)
 have k1_6:=KE hf_1 (g)
 have k1_7:=KE hf_1 (h)
 have hlow:=KL (N:=N) (σ:=σ) hf_1
 by_cases hul:u=gs.length
 ·subst hul
  rw [kj,hD00] at e1_1
  clear hu
  rw [hD00] at hc
  clear hD00
  iterate 2 refine Wz ?_
  (apply xI;· (simp only [List.length_cons,List.length_nil,Nat.reduceAdd,Nat.add_assoc];rfl))
  refine Wm ?_
  refine vT (d:=h) (pre:=[(N+17,.mrow gs.length 168 34 (D0.map zC)),(h,.glob 0 (.agg bitsL))]) hc w8 (by simp) (by simp (disch:=omega) [go_sem, *,-List.reduceReplicate]) rfl (by simp) (by
   simp (disch:=omega) [go_sem, *,-List.reduceReplicate]
   exact .cons (.agg (.cons (.shut (AV.le_refl _) rfl) (.cons (.shut (AV.le_refl _) rfl) (.cons (.shut (AV.le_refl _) rfl) (.cons (.shut (AV.le_refl _) (qW L)) (.cons (.shut (AV.le_refl _) (vQ _)) (.cons (.ms (List.mem_cons_self ..) (by simp [hD0]) (qT D0)) .nil))))))) .nil) (by simp (disch:=omega) [go_sem, *,-List.reduceReplicate]) ?_
  have hcs:=And.intro c1 True.intro
  refine Wm ?_
  have hcs:=And.intro c2 (And.intro c3 True.intro)
  clear c1 c2 c3 hc
  refine Wk ?_
  clear hcs
  refine ze zi (by kernel_rfl) [12,13,53,54,55,56,57,58,59,60,61,62,63,64,65,66,67,68] [q,r1,N+12,N+17] (fun m_ s_ σ_ n_=>∃ (v:Nat),m_=gs.length - v∧s_ 53=.lit (.int .i64 v)∧σ_ (q)=.box 249 (.agg [.agg [.lit (.bool a.free),zd a.seed,.lit (.int .i64 a.fresh),.slice (some r1) (a.macs.map zJ),.slice (some r2) (a.boxes.map zo)],.lit (.int .i64 (e:Int))])∧σ_ (r1)=.row 190 65 a.macs.length∧σ_ (N+12)=.box 75 (.agg [.agg [.lit (.int .i64 rg),.lit (.int .i64 rn)],.lit (.int .i64 ep),.lit (.int .i64 se),.slice none (L.map z8),zd zeroTag,.ms (N+17) gs.length 34 0 gs.length])∧σ_ (N+17)=.mrow gs.length 168 34 (D0.map zC)∧(v≤gs.length)) ⟨_,0,rfl,WF,WF,WF,WF,WF,WC⟩ ?_
  intro m_2 s_2 σ_2 n_2 hs_2 hf_2 hn_2 hI_2
  obtain ⟨v,hm_2,h2_53,e2_0,e2_1,e2_2,e2_3,hv⟩:=hI_2
  have h2_0:=KS hs_2 0
  have h2_5:=KS hs_2 5
  have h2_7:=KS hs_2 7
  have h2_8:=KS hs_2 8
  have h2_9:=KS hs_2 9
  have h2_51:=KS hs_2 51
  have h2_52:=KS hs_2 52
  have k2_0:=KE hf_2 (N)
  have k2_1:=KE hf_2 (N+1)
  have k2_2:=KE hf_2 (N+2)
  have k2_3:=KE hf_2 (r2)
  have k2_4:=KE hf_2 (g)
  have hlow:∀ id,id < N→id≠q→id≠r1→σ_2 id=σ id:=fun id hid hdd0 hdd1=>(hf_2.at id oo (by simp [hdd0,hdd1];try omega)).trans (by simp (disch:=omega) only [zg,zF,yi];try first | exact hlow id hid hdd0 hdd1 | exact hlow id hid)
  by_cases hvl:v=gs.length
  ·subst hvl
   clear hv hDv
   iterate 2 refine Wz ?_
   refine yM (N+12) [5] (r:=N+17) (ver:=gs.length) (size:=34) (e:=168) (xs:=D0.map zC) (k:=gs.length) (by simp (disch:=omega) [go_sem, *,-List.reduceReplicate];try exact ⟨rfl,rfl⟩) (by simp (disch:=omega) [go_sem, *,-List.reduceReplicate]) (by simp (disch:=omega) [go_sem, *,-List.reduceReplicate]) (by simp [hD0]) ?_
   refine Wk ?_
   refine yd [(q,(.box 249 (.agg [.agg [.lit (.bool a.free),zd a.seed,.lit (.int .i64 a.fresh),.slice (some r1) (a.macs.map zJ),.slice (some r2) (a.boxes.map zo)],.lit (.int .i64 (e:Int))]))),(r1,(.row 190 65 a.macs.length))] (by simp (disch:=omega) [go_sem, *,-List.reduceReplicate];rfl) (by first | rfl | (simp (disch:=omega) [go_sem];done) | (simp (disch:=omega) [go_sem, *];done) | simp (disch:=omega) [go_sem]) (fun id hid=>by simp only [zF,yi];(by_cases hdd:id=q;(· (subst hdd;simp (disch:=omega) [go_sem, *]));(· (by_cases hdd2:id=r1;(· (subst hdd2;simp (disch:=omega) [go_sem, *]));(· (simp (disch:=omega) only [zg];try (first | exact hlow id hid hdd hdd2 | exact hlow id hid))))))) (by simp) (by simp (disch:=omega) [go_sem, *])
  ·have hv1:v < gs.length:=by omega
   have hv1i:(v:Int) < (gs.length:Int):=by omega
   obtain ⟨z,hz⟩:∃ z,gs[v]=z:=⟨_,rfl⟩
   have hz0:gs[v]?=some z:=by rw [List.getElem?_eq_getElem hv1,hz]
   have hzm:(gs.map zw)[v]?=some (zw z):=by rw [List.getElem?_map,hz0];rfl
   obtain ⟨hgt,hgc⟩:=hgm z (by rw [← hz];exact List.getElem_mem _)
   have c3:=zef a m ha oo e he z tg ⟨rg,rn⟩ hgt hgc q r1 r2 g
   obtain ⟨hy0,hset⟩:=hDv v z hz0
   rw [hrA] at c3
   unfold vA at c3
   simp only [List.cons_append,List.nil_append] at c3
   simp only [zW,zP,zO] at c3
   generalize zu z=y at *
   have hv2:v < D0.length:=by omega
   have hym:(D0.map zC)[v]?=some (zC y):=by rw [List.getElem?_map,hy0];rfl
   have hysz:AV.szl ((D0.map zC).take v)=v * 34:=by
    rw [← List.map_take,AV.szl_uniform _ 34 (fun x hx=>by obtain ⟨c,_,rfl⟩:=List.mem_map.1 hx;exact kG c),List.length_map,List.length_take,Nat.min_eq_left oo]
   have hyo:(AV.agg (D0.map zC)).offs [v]=v * 34:=by simp only [AV.offs,hym,hysz];rfl
   clear hDv hgt hgc hgm ha
   have hcs:=And.intro c3 True.intro
   clear c3
   refine Wk ?_
   clear hcs
   exact ⟨WS,WG,WN,_,(show gs.length - (v+1) < m_2 by omega),v+1,rfl,WF,WF,WF,WF,WF,WC⟩
 ·have hu1:u < gs.length:=by omega
  have hu1i:(u:Int) < (gs.length:Int):=by omega
  obtain ⟨z,hz⟩:∃ z,gs[u]=z:=⟨_,rfl⟩
  have hzm:(gs.map zw)[u]?=some (.agg [.slice none (z.ticket.map za),.slice none (z.conds.map zU),zd z.tag]):=by rw [List.getElem?_map,List.getElem?_eq_getElem hu1,hz];rfl
  have htk:=wH hu1 hz
  have htk2:(shX gs u).take u++[.agg [.slice none (z.ticket.map za),.slice none (z.conds.map zU),zd zeroTag]]=shX gs (u+1):=by rw [List.take_of_length_le (by rw [ve hu];exact Nat.le_refl _)];exact htk
  have hXl:=ve hu
  have hb26:(u+1) * 80≤140737488355328:=by omega
  have hb27:u≤140737488355327:=by omega
  clear c1 c2 c3 hc hDv
  refine Wk ?_
  exact ⟨WS,WG,WN,_,(show gs.length - (u+1) < m_1 by omega),u+1,rfl,WF,WF,WF,WC⟩
theorem ziP (a:Alg) (m:Nat) (ha:AlgIn a m) (p:Pa) (gs:List Di) (r:Rq) (hg:gs.length≤100) (hm:m≤50000) (hb:BuIn (zE p gs r)) (e:Nat) (hE:yZ (zE p gs r)=e) (he:e≠0) (hpl:p.cavs.length≤1000) (hcm:∀ c∈p.cavs,wY c) (hgm:∀ d∈gs,d.ticket.length≤100000∧d.conds.length≤100000) (q r1 r2 g h k:Nat):
  ACall prog 105 [.ptr q [] 0,zG p,.slice none (gs.map zw),yD r] k (vA a 0 q r1 r2++[(g,yE),(h,zS)]) (ye (zE p gs r)) [(q,zcM a e r1 r2),(r1,zfk a.macs.length)]:=
 zc3 a m ha p gs r hg hm hb 0 e (by rw [if_pos rfl];exact hE) he hpl hcm hgm q r1 r2 g h k
set_option maxHeartbeats 4000000 in
theorem zfq (a:Alg) (m:Nat) (ha:AlgIn a m) (p:Pa) (gs:List Di) (r:Rq) (hg:gs.length≤100) (hm:m≤50000) (hb:BuIn (zE p gs r)) (e:Nat) (hE:yZ (zE p gs r)=e) (he:e≠0) (hpl:p.cavs.length≤1000) (hcm:∀ c∈p.cavs,wY c) (hgm:∀ d∈gs,d.ticket.length≤100000∧d.conds.length≤100000) (g h k:Nat) (hgh:g≠h):
  ACall prog 103 [zA a,zG p,.slice none (gs.map zw),yD r] k [(g,yE),(h,zS)] (.tup [zA wZ,ye zeU,.lit (.int .i64 (e:Int))]) []:=by
 have cb:=wK a (by have:=ha.ml;omega) (by have:=ha.bl;omega)
 have c1:=fun q r1 r2=>ziP a m ha p gs r hg hm hb e hE he hpl hcm hgm q r1 r2 g h
 have cd:=qP a e he
 have h1i:((e:Int) != 0)=true:=by rw [bne_iff_ne];omega
 generalize zE p gs r=b1 at *
 clear ha hb hE hcm hgm
 have hz:ye zeU=.agg [.agg [.lit (.int .i64 0),.lit (.int .i64 0)],.lit (.int .i64 0),.lit (.int .i64 0),.slice none [],zd zeroTag,.slice none []]:=rfl
 rw [hz]
 unfold zbN at cb
 unfold vA at c1 cd
 simp only [List.cons_append,List.nil_append] at *
 simp only [zW,zP,zO,zZ] at *
 clear hz
 refine Bd func103 ntmps103 fun σ N hp hpn hk hkn hfree=>?_
 simp only [List.mem_cons,List.not_mem_nil,or_false,forall_eq_or_imp,forall_eq] at hp hpn;obtain ⟨hd1,hd2⟩:=hp;obtain ⟨hdn1,hdn2⟩:=hpn
 have hcs:=And.intro cb True.intro
 refine Wm ?_
 iterate 2 refine Wz ?_
 clear hcs
 refine zL (N+6+1) [0,3] 190 65 (bt:=249) (c:=.agg [.agg [.lit (.bool a.free),zd a.seed,.lit (.int .i64 a.fresh),.clip (a.macs.map zJ),.clip (a.boxes.map zo)],.lit (.int .i64 ((0:Nat):Int))]) (xs:=a.macs.map zJ) (by simp (disch:=omega) [go_sem, *,-List.reduceReplicate]) rfl (vg _) ?_;refine zL (N+6+1) [0,4] 192 35 (bt:=249) (c:=.agg [.agg [.lit (.bool a.free),zd a.seed,.lit (.int .i64 a.fresh),.slice (some (N+6+3)) (a.macs.map zJ),.clip (a.boxes.map zo)],.lit (.int .i64 ((0:Nat):Int))]) (xs:=a.boxes.map zo) (by simp (disch:=omega) [go_sem, *,-List.reduceReplicate]) rfl (xC _) ?_
 have hcs:=And.intro (c1 (N+6+1) (N+6+3) (N+6+3+1)) (And.intro (cd (N+6+1) (N+6+3) (N+6+3+1)) True.intro)
 clear cb c1 cd
 refine Wk ?_
 exact WD
omit W in
set_option maxHeartbeats 8000000 in
theorem zf2 (a:Alg) (p:Pa) (gs:List Di) (r:Rq) (hg:gs.length≤100) (hb:BuIn (zE p gs r)) (e:Nat) (hE:yZ (zE p gs r)=e) (he:e≠0) (k:Nat):
  ACall prog 78 [zA a,zG p,.slice none (gs.map zw),yD r] k [] (.tup [zA wZ,ye zeU,.lit (.int .i64 (e:Int))]) []:=by
 have hc:=wT (zE p gs r) hb 0
 rw [hE] at hc
 have h1i:((e:Int) != 0)=true:=by rw [bne_iff_ne];omega
 clear hb hE he
 obtain ⟨ep,se,L,tg⟩:=p
 obtain ⟨rg,rn⟩:=r
 have hpA:zG ⟨ep,se,L,tg⟩=.agg [.lit (.int .i64 ep),.lit (.int .i64 se),.slice none (L.map z8),zd tg]:=rfl
 have hrA:yD ⟨rg,rn⟩=.agg [.lit (.int .i64 rg),.lit (.int .i64 rn)]:=rfl
 have hsA:ye (zE ⟨ep,se,L,tg⟩ gs ⟨rg,rn⟩)=.agg [.agg [.lit (.int .i64 rg),.lit (.int .i64 rn)],.lit (.int .i64 ep),.lit (.int .i64 se),.slice none (L.map z8),zd zeroTag,.slice none ((gs.map zu).map zC)]:=rfl
 have hz:ye zeU=.agg [.agg [.lit (.int .i64 0),.lit (.int .i64 0)],.lit (.int .i64 0),.lit (.int .i64 0),.slice none [],zd zeroTag,.slice none []]:=rfl
 rw [hsA] at hc
 rw [hpA,hrA,hz,zZ]
 clear hpA hsA hz hrA
 have hb24:gs.length * 80≤140737488355328:=by omega
 have hb25:gs.length≤140737488355327:=by omega
 refine Bd func78 ntmps78 fun σ N hp hpn hk hkn hfree=>?_
 refine Wk ?_
 refine vM (N+14) [5] 168 34 (bt:=75) (c:=.agg [.agg [.lit (.int .i64 rg),.lit (.int .i64 rn)],.lit (.int .i64 ep),.lit (.int .i64 se),.slice none (L.map z8),zd zeroTag,.nils]) (by simp (disch:=omega) [go_sem, *,-List.reduceReplicate];try rfl) rfl ?_
 refine ze zi (by kernel_rfl) [12,25,26,27,28,29,30,31,32,33,34,35,36,37,38,39,40,41,42,43,44,45,46] [N+14,N+17] (fun m_ s_ σ_ n_=>∃ (u:Nat),m_=gs.length - u∧s_ 12=.lit (.int .i64 u)∧σ_ (N+14)=.box 75 (.agg [.agg [.lit (.int .i64 rg),.lit (.int .i64 rn)],.lit (.int .i64 ep),.lit (.int .i64 se),.slice none (L.map z8),zd zeroTag,.ms (N+17) u 34 0 u])∧σ_ (N+17)=.mrow u 168 34 (shX gs u)∧(u≤gs.length)) ⟨_,0,rfl,WF,WF,WF,WC⟩ ?_
 intro m_3 s_3 σ_3 n_3 hs_3 hf_3 hn_3 hI_3
 obtain ⟨u,hm_3,h3_12,e3_0,e3_1,hu⟩:=hI_3
 have h3_2:=KS hs_3 2
 have h3_4:=KS hs_3 4
 have h3_5:=KS hs_3 5
 have h3_7:=KS hs_3 7
 have h3_8:=KS hs_3 8
 have h3_9:=KS hs_3 9
 have h3_10:=KS hs_3 10
 have h3_11:=KS hs_3 11
 have k3_0:=KE hf_3 (N)
 have k3_1:=KE hf_3 (N+1)
 have k3_2:=KE hf_3 (N+2)
 have k3_3:=KE hf_3 (N+3)
 have k3_4:=KE hf_3 (N+4)
 have hlow:=KL (N:=N) (σ:=σ) hf_3
 by_cases hul:u=gs.length
 ·subst hul
  rw [kj] at e3_1
  have hD0:(gs.map zu).length=gs.length:=List.length_map ..
  clear hu
  generalize gs.map zu=D0 at *
  iterate 2 refine Wz ?_
  (apply xI;· (simp only [List.length_cons,List.length_nil,Nat.reduceAdd,Nat.add_assoc];rfl))
  refine Wm ?_
  refine wS (pre:=[(N+17,.mrow gs.length 168 34 (D0.map zC))]) hc (by simp (disch:=omega) [go_sem, *,-List.reduceReplicate]) rfl (by simp) (by
   simp (disch:=omega) [go_sem, *,-List.reduceReplicate]
   exact .cons (.agg (.cons (.shut (AV.le_refl _) rfl) (.cons (.shut (AV.le_refl _) rfl) (.cons (.shut (AV.le_refl _) rfl) (.cons (.shut (AV.le_refl _) (qW L)) (.cons (.shut (AV.le_refl _) (vQ _)) (.cons (.ms (List.mem_singleton.2 rfl) (by simp [hD0]) (qT D0)) .nil))))))) .nil) (by simp (disch:=omega) [go_sem, *,-List.reduceReplicate]) ?_
  clear hc
  refine Wk ?_
  exact WD
 ·have hu1:u < gs.length:=by omega
  have hu1i:(u:Int) < (gs.length:Int):=by omega
  obtain ⟨z,hz⟩:∃ z,gs[u]=z:=⟨_,rfl⟩
  have hzm:(gs.map zw)[u]?=some (.agg [.slice none (z.ticket.map za),.slice none (z.conds.map zU),zd z.tag]):=by rw [List.getElem?_map,List.getElem?_eq_getElem hu1,hz];rfl
  have htk:=wH hu1 hz
  have htk2:(shX gs u).take u++[.agg [.slice none (z.ticket.map za),.slice none (z.conds.map zU),zd zeroTag]]=shX gs (u+1):=by rw [List.take_of_length_le (by rw [ve hu];exact Nat.le_refl _)];exact htk
  have hXl:=ve hu
  have hb26:(u+1) * 80≤140737488355328:=by omega
  have hb27:u≤140737488355327:=by omega
  refine Wk ?_
  exact ⟨WS,WG,WN,_,(show gs.length - (u+1) < m_3 by omega),u+1,rfl,WF,WF,WF,WC⟩
end
section
variable [W:W32]
theorem xU {leaf:Tg} {r:Rq} (hr:rqB r=true):∀ (L:List Di) (u m:Nat) (a:Alg) (D:List Bo),AlgIn a m→m+L.length≤60000→(xj leaf r L u a D).1.boxes=a.boxes
 | [],_,_,_,_,_,_=>rfl
 | d::L,u,m,a,D,ha,hm=>by
  simp only [List.length_cons] at hm
  obtain ⟨h0,hB⟩:=vw ha oo d leaf hr
  have h1:=(xJ h0).2.2.2
  have h3:=yN ha d.tag (y8 leaf r.gate.toNat r.nonce.toNat)
  rw [xj,hB]
  simp only
  rw [xU hr L (u+1) (m+1) _ _ h3 oo]
  exact h1
theorem vo {a:Alg} {m:Nat} (ha:AlgIn a m) (p:Pa) (gs:List Di) {r:Rq} (hr:rqB r=true) (hm:m+gs.length≤50000):(zV a p gs r).1.boxes=a.boxes:=by
 have h0:=ka ha oo p hr
 have h1:(qa a p r).1.boxes=a.boxes:=(xJ h0).2.2.2
 have h3:AlgIn (qa a p r).1 (m+1):=yN ha _ _
 unfold zV
 simp only
 rw [xU hr gs 0 (m+1) _ _ h3 oo]
 exact h1
end
end Go.Proofs.YtglmjglbobhbbaaGreatDoor
namespace Go.Proofs.YtglmjglbobhbbaaGreatDoor
open _root_.Go.Proofs.Tryz
open Go.Ab
attribute [local irreducible] Go.Ab.tyAV Go.Ab.aw Go.Ab.aops Go.Ab.kReg Go.Ab.aThen Go.Ab.aBlk Go.Ab.acond Go.Ab.aguard Go.Ab.astep Go.Ab.AStepX Go.Ab.aRet
theorem znL (z:Bu) (h:BuSm z) (k:Nat):ACall prog 48 [ye z,ye z] k [] (.lit (.bool true)) []:=by
 obtain ⟨⟨g,n⟩,ep,se,L,tg,D⟩:=z
 have hdl:=h.dl
 have hds:=h.ds
 have c1:=kg L L h.cs h.cs (by have:=h.cl;simp only at this;omega) (by have:=h.cl;simp only at this;omega)
 rw [decide_eq_true rfl] at c1
 clear h
 simp only [ye,yD] at *
 refine Bd func48 ntmps48 fun σ N hp hpn hk hkn hfree=>?_
 have hcs:=And.intro c1 True.intro
 clear c1
 refine Wk ?_
 clear hcs
 refine ze zi (by kernel_rfl) [4,5,49,50,51,52,53,54,55,56,57,58,59,60,61,62,63,64,65,66,67] [] (fun m_ s_ σ_ n_=>∃ (u:Nat),m_=D.length - u∧s_ 5=.lit (.int .i64 u)∧(u≤D.length)) ⟨_,0,rfl,WF,WC⟩ ?_
 intro m_1 s_1 σ_1 n_1 hs_1 hf_1 hn_1 hI_1
 obtain ⟨u,hm_1,h1_5,hu⟩:=hI_1
 have h1_2:=KS hs_1 2
 have h1_3:=KS hs_1 3
 have k1_0:=KE hf_1 (N)
 have k1_1:=KE hf_1 (N+1)
 have hlow:=KL (N:=N) (σ:=σ) hf_1
 by_cases hul:u=D.length
 ·subst hul
  exact W0
 ·have hlt:u < D.length:=by omega
  obtain ⟨z,hz⟩:∃ z,D[u]=z:=⟨_,rfl⟩
  have hm:=hds z (by rw [← hz];exact List.getElem_mem _)
  have c2:=zke z hm.1 hm.2
  clear hds hm
  have hcs:=And.intro c2 True.intro
  clear c2
  refine Wk ?_
  clear hcs
  exact ⟨WS,WG,WN,_,(show D.length - (u+1) < m_1 by omega),u+1,rfl,WF,WC⟩
attribute [local irreducible] yE
section
variable [W:W32]
def zfd (a:Alg) (p:Pa) (gs:List Di) (r:Rq):Alg × Bu × Nat:=
 if yZ (zE p gs r)=0 then ((zV a p gs r).1,(zV a p gs r).2,0) else (wZ,zeU,yZ (zE p gs r))
def zby (r:Alg × Bu × Nat):AV:=.tup [zA r.1,ye r.2.1,.lit (.int .i64 (r.2.2:Nat))]
end
section
variable [W:W32]
def zif (a:Alg) (w:Wa) (i:Int) (b:Bl):Alg × Wa × Nat:=
 if (yf w i).2=true then
  if (zbq a (yf w i).1 b).2.2=0 then
   if (wW w (zbq a (yf w i).1 b).2.1).2=0 then ((zbq a (yf w i).1 b).1,(wW w (zbq a (yf w i).1 b).2.1).1,0)
   else (wZ,w0,(wW w (zbq a (yf w i).1 b).2.1).2)
  else (wZ,w0,(zbq a (yf w i).1 b).2.2)
 else (wZ,w0,12)
theorem zir {a:Alg} {m:Nat} (ha:AlgIn a m) {p:Pa} (hp:PaC p) (hpl:p.cavs.length≤1000) {b:Bl} (hb:b.ticket.length≤90000):PaC (zbq a p b).2.1:=by
 rcases ziK ha p b with hq | ⟨y,hy,hq⟩
 ·exact ⟨by rw [hq];simp,fun c hc=>by rw [hq] at hc;cases hc⟩
 ·refine ⟨by rw [hq,List.length_append,List.length_singleton];omega,fun c hc=>?_⟩
  rw [hq] at hc
  rcases List.mem_append.1 hc with hc | hc
  ·exact hp.2 c hc
  ·rw [List.mem_singleton.1 hc];exact ⟨by simp only;omega,by simp only;omega⟩
set_option maxHeartbeats 8000000 in
theorem zkF (a:Alg) (m:Nat) (ha:AlgIn a m) (hm:m≤100000) (w:Wa) (hw:WaC w) (hpz:∀ p∈w.ps,p.cavs.length≤1000) (i:Int) (b:Bl) (hb:b.ticket.length≤90000) (g h k:Nat):
  ACall prog 44 [zA a,yp w,.lit (.int .i64 i),zeb b] k [(g,yE),(h,zS)] (ze9 (zif a w i b)) []:=by
 have cf:=vF w (by have:=hw.pl;omega) i
 have hpc:=wA hw.pc i
 have hpl:(yf w i).1.cavs.length≤1000:=by
  rcases vE (w:=w) (i:=i) with h1 | h1
  ·rw [h1];simp [pa0]
  ·exact hpz _ h1
 clear hpz
 unfold zif ze9
 generalize yf w i=Z at *
 obtain ⟨p,bo⟩:=Z
 simp only at *
 cases bo with
 | false=>
  rw [if_neg (by simp)]
  simp only
  rw [kO,zZ]
  clear hpc ha hw
  refine Bd func44 ntmps44 fun σ N hp hpn hk hkn hfree=>?_
  simp only [List.mem_cons,List.not_mem_nil,or_false,forall_eq_or_imp,forall_eq] at hp hpn;obtain ⟨hd1,hd2⟩:=hp;obtain ⟨hdn1,hdn2⟩:=hpn
  have hcs:=And.intro cf True.intro
  clear cf
  refine Wk ?_
  exact WD
 | true=>
  rw [if_pos rfl]
  have c1:=zk2 a m ha oo p oo hpc.2 b hb g h
  have hpc2:=zir ha hpc hpl hb
  generalize zbq a p b=R at *
  obtain ⟨a1,p1,e1⟩:=R
  unfold zdZ at c1
  simp only at *
  by_cases he:e1=0
  ·subst he
   simp only [↓reduceIte]
   have c3:=qc w hw p1 hpc2
   have hae:=zd8 (w:=w) (p:=p1)
   generalize wW w p1=Y at *
   obtain ⟨w2,e2⟩:=Y
   simp only at *
   clear hpc hpc2 ha hw
   rcases hae with rfl | rfl
   ·simp only [↓reduceIte]
    refine Bd func44 ntmps44 fun σ N hp hpn hk hkn hfree=>?_
    simp only [List.mem_cons,List.not_mem_nil,or_false,forall_eq_or_imp,forall_eq] at hp hpn;obtain ⟨hd1,hd2⟩:=hp;obtain ⟨hdn1,hdn2⟩:=hpn
    have hcs:=And.intro cf (And.intro c1 (And.intro c3 True.intro))
    clear cf c1 c3
    refine Wk ?_
    exact WD
   ·simp only [show ¬ (2=0) by omega,if_false]
    rw [kO,zZ]
    refine Bd func44 ntmps44 fun σ N hp hpn hk hkn hfree=>?_
    simp only [List.mem_cons,List.not_mem_nil,or_false,forall_eq_or_imp,forall_eq] at hp hpn;obtain ⟨hd1,hd2⟩:=hp;obtain ⟨hdn1,hdn2⟩:=hpn
    have hcs:=And.intro cf (And.intro c1 (And.intro c3 True.intro))
    clear cf c1 c3
    refine Wk ?_
    exact WD
  ·have he3:((e1:Int) != 0)=true:=by rw [bne_iff_ne];omega
   rw [if_neg he]
   simp only
   rw [kO,zZ]
   clear hpc hpc2 ha hw
   refine Bd func44 ntmps44 fun σ N hp hpn hk hkn hfree=>?_
   simp only [List.mem_cons,List.not_mem_nil,or_false,forall_eq_or_imp,forall_eq] at hp hpn;obtain ⟨hd1,hd2⟩:=hp;obtain ⟨hdn1,hdn2⟩:=hpn
   have hcs:=And.intro cf (And.intro c1 True.intro)
   clear cf c1
   refine Wk ?_
   exact WD
set_option maxHeartbeats 4000000 in
theorem zot (a:Alg) (m:Nat) (ha:AlgIn a m) (hm:m≤100000) (w:Wa) (hw:w.ps.length≤1000000) (hpz:∀ p∈w.ps,p.cavs.length≤1000) (i:Int) (b:Bl) (hb:b.ticket.length≤90000) (k:Nat):
  ACall prog 45 [zA a,yp w,.lit (.int .i64 i),zeb b] k [] (ze9 (zif a w i b)) []:=by
 have cf:=qb w hw i
 have hpl:(yf w i).1.cavs.length≤1000:=by
  rcases vE (w:=w) (i:=i) with h1 | h1
  ·rw [h1];simp [pa0]
  ·exact hpz _ h1
 clear hpz
 unfold zif ze9
 generalize yf w i=Z at *
 obtain ⟨p,bo⟩:=Z
 simp only at *
 cases bo with
 | false=>
  rw [if_neg (by simp)]
  simp only
  rw [kO,zZ]
  clear ha
  refine Bd func45 ntmps45 fun σ N hp hpn hk hkn hfree=>?_
  have hcs:=And.intro cf True.intro
  clear cf
  refine Wk ?_
  exact WD
 | true=>
  rw [if_pos rfl]
  have c1:=zjO a m ha oo p oo b oo
  generalize zbq a p b=R at *
  obtain ⟨a1,p1,e1⟩:=R
  unfold zdZ at c1
  simp only at *
  by_cases he:e1=0
  ·subst he
   simp only [↓reduceIte]
   have c3:=zah w p1
   have hae:=zd8 (w:=w) (p:=p1)
   generalize wW w p1=Y at *
   obtain ⟨w2,e2⟩:=Y
   simp only at *
   clear ha
   rcases hae with rfl | rfl
   ·simp only [↓reduceIte]
    refine Bd func45 ntmps45 fun σ N hp hpn hk hkn hfree=>?_
    have hcs:=And.intro cf (And.intro c1 (And.intro c3 True.intro))
    clear cf c1 c3
    refine Wk ?_
    exact WD
   ·simp only [show ¬ (2=0) by omega,if_false]
    rw [kO,zZ]
    refine Bd func45 ntmps45 fun σ N hp hpn hk hkn hfree=>?_
    have hcs:=And.intro cf (And.intro c1 (And.intro c3 True.intro))
    clear cf c1 c3
    refine Wk ?_
    exact WD
  ·have he3:((e1:Int) != 0)=true:=by rw [bne_iff_ne];omega
   rw [if_neg he]
   simp only
   rw [kO,zZ]
   clear ha
   refine Bd func45 ntmps45 fun σ N hp hpn hk hkn hfree=>?_
   have hcs:=And.intro cf (And.intro c1 True.intro)
   clear cf c1
   refine Wk ?_
   exact WD
def DiP (d:Di):Prop:=d.ticket.length≤90000∧d.conds.length≤90000∧∀ q∈d.conds,PrOk q
theorem zjK {a:Alg} {m:Nat} (ha:AlgIn a m) (hm:m≤40000) {p:Pa} (hpl:p.cavs.length≤1000) (hpc:∀ c∈p.cavs,PrOk c.first∧wY c) {gs:List Di} (hgl:gs.length≤100) (hgv:∀ d∈gs,DiP d) (r:Rq) {g h:Nat} (hgh:g≠h):
  (∀ k,ACall prog 103 [zA a,zG p,.slice none (gs.map zw),yD r] k [(g,yE),(h,zS)] (zby (zfd a p gs r)) []) ∧
  (∀ k,ACall prog 78 [zA a,zG p,.slice none (gs.map zw),yD r] k [] (zby (zfd a p gs r)) []) ∧
  AlgIn (zfd a p gs r).1 (m+101)∧BuSm (zfd a p gs r).2.1:=by
 have hgm:∀ d∈gs,d.ticket.length≤100000∧d.conds.length≤100000:=fun d hd=>⟨Nat.le_trans (hgv d hd).1 (by decide),Nat.le_trans (hgv d hd).2.1 (by decide)⟩
 have hb:BuIn (zE p gs r):=by
  refine ⟨by simp only [zE];omega,by simp only [zE,List.length_map];omega,fun c hc=>(hpc c hc).1,fun d hd=>?_⟩
  simp only [zE] at hd
  obtain ⟨z,hz,rfl⟩:=List.mem_map.1 hd
  have hv:=hgv z hz
  exact ⟨Nat.le_trans hv.1 (by decide),Nat.le_trans hv.2.1 (by decide),fun q hq=>hv.2.2 q hq⟩
 have hcm:∀ c∈p.cavs,wY c:=fun c hc=>(hpc c hc).2
 unfold zfd
 by_cases h0:yZ (zE p gs r)=0
 ·rw [if_pos h0]
  have hV:=(vK hb h0).1
  have hr:rqB r=true:=hV.rq
  have hbx:=vo ha p gs hr oo
  have hin:AlgIn (qa a p r).1 (m+1):=yN ha _ _
  obtain ⟨b1,b2⟩:=zaw (leaf:=p.tag) hr gs gs 0 _ (gs.map zu) (m+1) hin oo rfl (by simp) (fun i hi hj=>by rw [List.getElem_map];exact ⟨rfl,rfl⟩)
  refine ⟨fun k=>zd5 a m ha p gs r hgl oo hb h0 hcm hgm hbx g h k hgh,fun k=>qt a m ha p gs r hgl oo hb h0 k,b1.more oo,⟨?_,?_,hcm,fun d hd=>?_⟩⟩
  ·simp only [zV];omega
  ·simp only [zV];rw [xO];simp;omega
  ·simp only [zV] at hd
   obtain ⟨i,hi,rfl⟩:=List.getElem_of_mem hd
   have hi2:i < gs.length:=by rw [xO] at hi;simpa using hi
   obtain ⟨t1,t2⟩:=b2 i hi2 hi
   obtain ⟨m1,m2⟩:=hgm _ (List.getElem_mem hi2)
   exact ⟨by rw [t1];omega,by rw [t2];omega⟩
 ·rw [if_neg h0]
  exact ⟨fun k=>zfq a m ha p gs r hgl oo hb _ rfl h0 hpl hcm hgm g h k hgh,fun k=>zf2 a p gs r hgl hb _ rfl h0 k,xE _,⟨by simp [zeU],by simp [zeU],fun c hc=>by simp [zeU] at hc,fun d hd=>by simp [zeU] at hd⟩⟩
def zpj (a:Alg) (w:Wa) (i:Int) (r:Rq):Alg × Bu × Nat:=if (yf w i).2=true then zfd a (yf w i).1 (zbr w i) r else (wZ,zeU,12)
omit W in
theorem zfy:ye zeU=.agg [.agg [.lit (.int .i64 0),.lit (.int .i64 0)],.lit (.int .i64 0),.lit (.int .i64 0),.slice none [],zd zeroTag,.slice none []]:=rfl
structure WaP (w:Wa):Prop where
 wc:WaC w
 pk:∀ p∈w.ps,p.cavs.length≤1000∧∀ c∈p.cavs,PrOk c.first∧wY c
 dl:w.ds.length≤100
 dk:∀ d∈w.ds,DiP d
set_option maxHeartbeats 4000000 in
theorem ziF {a:Alg} {m:Nat} (ha:AlgIn a m) (hm:m≤40000) {w:Wa} (hw:WaP w) (i:Int) (r:Rq) {g h:Nat} (hgh:g≠h):
  (∀ k,ACall prog 46 [zA a,yp w,.lit (.int .i64 i),yD r] k [(g,yE),(h,zS)] (zby (zpj a w i r)) []) ∧
  (∀ k,ACall prog 47 [zA a,yp w,.lit (.int .i64 i),yD r] k [] (zby (zpj a w i r)) []) ∧
  AlgIn (zpj a w i r).1 (m+101)∧BuSm (zpj a w i r).2.1:=by
 have hwc:=hw.wc
 have cf:=vF w (by have:=hwc.pl;omega) i
 have cp:=qb w (by have:=hwc.pl;omega) i
 have hpk:(yf w i).1.cavs.length≤1000∧∀ c∈(yf w i).1.cavs,PrOk c.first∧wY c:=by
  rcases vE (w:=w) (i:=i) with h1 | h1
  ·rw [h1];exact ⟨by simp [pa0],fun c hc=>by simp [pa0] at hc⟩
  ·exact hw.pk _ h1
 have c1:=we w hwc i
 have c2:=kD w hwc i
 obtain ⟨k1,k2,k3,k4⟩:=zjK ha hm hpk.1 hpk.2 (gs:=zbr w i) (by have:=kK (w:=w) i;have:=hw.dl;omega) (fun d hd=>hw.dk d (List.mem_filter.1 hd).1) r hgh
 unfold zpj
 generalize zbr w i=M at *
 generalize yf w i=Z at *
 obtain ⟨p,b⟩:=Z
 simp only at *
 cases b with
 | true=>
  rw [if_pos rfl]
  generalize zfd a p M r=R at *
  obtain ⟨R1,R2,R3⟩:=R
  unfold zby at *
  simp only at *
  refine ⟨fun k=>?_,fun k=>?_,k3,k4⟩
  ·clear k2 k3 k4 c2 cp ha hpk hw hwc
   refine Bd func46 ntmps46 fun σ N hp hpn hk hkn hfree=>?_
   simp only [List.mem_cons,List.not_mem_nil,or_false,forall_eq_or_imp,forall_eq] at hp hpn;obtain ⟨hd1,hd2⟩:=hp;obtain ⟨hdn1,hdn2⟩:=hpn
   have hcs:=And.intro cf (And.intro c1 (And.intro k1 True.intro))
   clear cf c1 k1
   refine Wk ?_
   exact WD
  ·clear k1 k3 k4 c1 cf ha hpk hw hwc
   refine Bd func47 ntmps47 fun σ N hp hpn hk hkn hfree=>?_
   have hcs:=And.intro cp (And.intro c2 (And.intro k2 True.intro))
   clear cp c2 k2
   refine Wk ?_
   exact WD
 | false=>
  rw [if_neg (by simp)]
  refine ⟨fun k=>?_,fun k=>?_,xE _,⟨by simp [zeU],by simp [zeU],fun c hc=>by simp [zeU] at hc,fun d hd=>by simp [zeU] at hd⟩⟩
  ·unfold zby
   simp only
   rw [zZ,zfy]
   clear k1 k2 k3 k4 c1 c2 cp ha hpk hw hwc
   refine Bd func46 ntmps46 fun σ N hp hpn hk hkn hfree=>?_
   simp only [List.mem_cons,List.not_mem_nil,or_false,forall_eq_or_imp,forall_eq] at hp hpn;obtain ⟨hd1,hd2⟩:=hp;obtain ⟨hdn1,hdn2⟩:=hpn
   have hcs:=And.intro cf True.intro
   clear cf
   refine Wk ?_
   exact WD
  ·unfold zby
   simp only
   rw [zZ,zfy]
   clear k1 k2 k3 k4 c1 c2 cf ha hpk hw hwc
   refine Bd func47 ntmps47 fun σ N hp hpn hk hkn hfree=>?_
   have hcs:=And.intro cp True.intro
   clear cp
   refine Wk ?_
   exact WD
end
structure Few (q:Kn):Prop where
 p:∀ x∈q.ps,x.cavs.length≤70
 b:∀ x∈q.bs,x.cavs.length≤70∧x.dis.length≤30
 pl:q.ps.length≤40
 dl:q.ds.length≤40
 bl:q.bs.length≤70
 il:q.its.length≤70
section
variable [W:W32]
def zaN (l:List Int) (s:Sc) (n:Nat) (X:Alg × Kn × Nat):Alg × Kn × Nat:=
 if (yl l X.2.2 3).1=0 then ((zV X.1 s.pass s.grants s.req).1,⟨X.2.1.ps,X.2.1.ds,xy X.2.1.bs (zV X.1 s.pass s.grants s.req).2,X.2.1.its⟩,(yl l X.2.2 3).2)
 else if (yl l X.2.2 3).1=1 then (X.1,⟨X.2.1.ps,X.2.1.ds,X.2.1.bs,xy X.2.1.its ⟨n,0,0,zeroTag,[],(zg5 l (yl l X.2.2 3).2).1⟩⟩,(zg5 l (yl l X.2.2 3).2).2)
 else (X.1,(if (v7 X.2.1 s.pass s.grants).2=0 then (v7 X.2.1 s.pass s.grants).1 else X.2.1),(yl l X.2.2 3).2)
structure KB (s:Sc) (A:Alg) (q:Kn) (i:Nat):Prop where
 ain:AlgIn A (1000+6 * i)
 ok:AlgOk A
 fr:A.free=s.alg.free
 bx:A.boxes=s.alg.boxes
 sub:∀ e∈s.alg.macs,e∈A.macs
 kc:KnC q
 p0:∃ r,q.ps=s.pass::r
 d0:∃ r,q.ds=s.grants++r∧∀ d∈r,d∈s.grants
 pl:q.ps.length≤1+i
 bl:q.bs.length≤i
 il:q.its.length≤i
 dl:q.ds.length≤100
theorem yW {s:Sc} (hs:ScV s):PaC s.pass∧(∀ d∈s.grants,WdT d.ticket d.conds)∧s.grants.length≤5:=by
 obtain ⟨⟨se,hG,_⟩,_⟩:=hs
 have hgl:=hG.gl
 have hcl:=hG.cl
 have hgv:=hG.gv
 have hcv:=hG.cv
 simp only at hgl hcl hgv hcv
 refine ⟨⟨by omega,fun c hc=>?_⟩,fun d hd=>?_,hgl⟩
 ·have:=hcv c hc
  exact ⟨by omega,by omega⟩
 ·have hv:=hgv d hd
  have v1:=hv.t2
  have v2:=hv.cl
  exact ⟨by omega,by omega⟩
theorem zbQ {s:Sc} (hs:ScV s) {A:Alg} {m:Nat} (hin0:AlgIn A m) (hm:m≤10000):BuC (zV A s.pass s.grants s.req).2:=by
 have hr:=hs.rq
 obtain ⟨hp,hd,hgl⟩:=yW hs
 have hin:AlgIn (qa A s.pass s.req).1 (m+1):=yN hin0 _ _
 obtain ⟨_,b2⟩:=zaw (leaf:=s.pass.tag) hr s.grants s.grants 0 _ (s.grants.map zu) (m+1) hin oo rfl (by simp) (fun i hi hj=>by rw [List.getElem_map];exact ⟨rfl,rfl⟩)
 have hl:(zV A s.pass s.grants s.req).2.dis.length=s.grants.length:=by unfold zV;simp only;rw [xO];simp
 refine ⟨?_,fun c hc=>hp.2 c hc,by omega,fun d hd2=>?_⟩
 ·show s.pass.cavs.length≤100000;exact hp.1
 ·obtain ⟨i,hi,rfl⟩:=List.getElem_of_mem hd2
  have hi2:i < s.grants.length:=by rw [← hl];exact hi
  obtain ⟨t1,t2⟩:=b2 i hi2 hi
  have hv:=hd _ (List.getElem_mem hi2)
  show WdT ((zV A s.pass s.grants s.req).2.dis[i]).ticket ((zV A s.pass s.grants s.req).2.dis[i]).conds
  rw [show ((zV A s.pass s.grants s.req).2.dis[i]).ticket=(s.grants[i]).ticket from t1,show ((zV A s.pass s.grants s.req).2.dis[i]).conds=(s.grants[i]).conds from t2]
  exact hv
theorem KB.step {s:Sc} (hs:ScV s) {l:List Int} {n:Nat} {X:Alg × Kn × Nat} {i:Nat} (h:KB s X.1 X.2.1 i) (hi:i≤10):KB s (zaN l s n X).1 (zaN l s n X).2.1 (i+1):=by
 obtain ⟨A,q,j⟩:=X
 obtain ⟨hp,hd,hgl⟩:=yW hs
 have hbl:=h.bl
 have hil:=h.il
 have hpl:=h.pl
 simp only at h hbl hil hpl ⊢
 unfold zaN
 simp only
 by_cases h0:(yl l j 3).1=0
 ·rw [if_pos h0]
  obtain ⟨k1,k2,k3,k4,_⟩:=zeZ h.ain h.ok s.pass s.grants hs.rq oo
  have k5:=vo h.ain s.pass s.grants hs.rq oo
  have hb:=zbQ hs h.ain oo
  refine ⟨k2.more oo,k1,k3.trans h.fr,k5.trans h.bx,fun e he=>k4 e (h.sub e he),h.kc.see hb oo,h.p0,h.d0,by first | omega | (simp only;omega),?_,by first | omega | (simp only;omega),h.dl⟩
  have:=xu q.bs (zV A s.pass s.grants s.req).2
  simp only;omega
 ·rw [if_neg h0]
  by_cases h1:(yl l j 3).1=1
  ·rw [if_pos h1]
   refine ⟨h.ain.more oo,h.ok,h.fr,h.bx,h.sub,h.kc.watch (by simp) oo,h.p0,h.d0,by first | omega | (simp only;omega),by first | omega | (simp only;omega),?_,h.dl⟩
   have:=xu q.its (⟨n,0,0,zeroTag,[],(zg5 l (yl l j 3).2).1⟩:It)
   simp only;omega
  ·rw [if_neg h1]
   unfold v7
   by_cases hc:q.ps.length < 32∧q.ds.length+s.grants.length≤32
   ·rw [if_pos hc]
    simp only [↓reduceIte]
    obtain ⟨r,hr⟩:=h.p0
    obtain ⟨r2,hr2,hr3⟩:=h.d0
    refine ⟨h.ain.more oo,h.ok,h.fr,h.bx,h.sub,h.kc.learn hp hd oo oo,⟨r++[s.pass],by rw [hr];rfl⟩,⟨r2++s.grants,by rw [hr2,List.append_assoc],fun d hd=>?_⟩,?_,(show q.bs.length≤i+1 by omega),(show q.its.length≤i+1 by omega),by simp only [List.length_append];omega⟩
    ·rcases List.mem_append.1 hd with hd | hd
     ·exact hr3 d hd
     ·exact hd
    ·rw [List.length_append,List.length_singleton];omega
   ·rw [if_neg hc]
    simp only [show ¬ (2=0) by omega,if_false]
    exact ⟨h.ain.more oo,h.ok,h.fr,h.bx,h.sub,h.kc,h.p0,h.d0,by omega,by omega,by omega,h.dl⟩
theorem KB.first {s:Sc} (hs:ScV s):KB s s.alg ⟨[s.pass],s.grants,[],[]⟩ 0:=by
 obtain ⟨hp,hd,hgl⟩:=yW hs
 obtain ⟨⟨se,hG,_⟩,_⟩:=hs
 exact ⟨hG.ain,hG.ok,rfl,rfl,fun e he=>he,⟨by simp,fun x hx=>by rw [List.mem_singleton.1 hx];exact hp,by simp only;omega,hd,by simp,fun x hx=>(by cases hx),by simp,fun x hx=>(by cases hx)⟩,⟨[],rfl⟩,⟨[],by simp,fun d hd=>(by cases hd)⟩,by simp,by simp,by simp,by simp only;omega⟩
end
end Go.Proofs.YtglmjglbobhbbaaGreatDoor
namespace Go.Proofs.YtglmjglbobhbbaaGreatDoor
open _root_.Go.Proofs.Tryz
open Go.Ab
attribute [local irreducible] Go.Ab.tyAV Go.Ab.aw Go.Ab.aops Go.Ab.kReg Go.Ab.aThen Go.Ab.aBlk Go.Ab.acond Go.Ab.aguard Go.Ab.astep Go.Ab.AStepX Go.Ab.aRet
def zlO (l:List Int) (r:Bool):Nat→Nat→List Pr→(List Pr × Nat)→Prop
 | 0,j,acc,R=>R=(acc,j)
 | f+1,j,acc,R=>∃ p j1,PRD l j r p j1∧zlO l r f j1 (acc++[p]) R
theorem zcs {l:List Int} {r:Bool}:∀ (f j:Nat) (acc:List Pr),Dk l j→(∀ p∈acc,PrOk p∧yc p=true)→∃ R,zlO l r f j acc R∧Dk l R.2∧(∀ p∈R.1,PrOk p∧yc p=true)∧R.1.length=acc.length+f
 | 0,j,acc,h,ha=>⟨_,rfl,h,ha,rfl⟩
 | f+1,j,acc,h,ha=>by
  obtain ⟨p,j1,hp⟩:=zkG h r
  obtain ⟨R,hR,h1,h2,h3⟩:=zcs (r:=r) f j1 (acc++[p]) hp.2.2.2.1 (fun q hq=>by
   rcases List.mem_append.1 hq with hq | hq
   ·exact ha q hq
   ·rw [List.mem_singleton.1 hq];exact ⟨hp.2.1,hp.1⟩)
  exact ⟨R,⟨p,j1,hp,hR⟩,h1,h2,by rw [h3];simp;omega⟩
set_option maxHeartbeats 2000000 in
theorem zaV (l:List Int) (i:Nat) (h:Dk l i) (n:Nat) (hn:n≤1000) (r:Bool) (R:List Pr) (j:Nat) (hR:zlO l r (yl l i (n+1)).1 (yl l i (n+1)).2 [] (R,j)) (d k:Nat):
  ACall prog 40 [.ptr d [] 0,.lit (.int .i64 n),.lit (.bool r)] k [(d,zy l i)] (.slice none (R.map zU)) [(d,zy l j)]:=by
 have c1:=yV l i (n+1) h oo oo
 have h1:=yu (n+1) h
 have h2:=y7 l i (n+1) oo
 clear h
 generalize yl l i (n+1)=X at *
 obtain ⟨f0,j0⟩:=X
 simp only at *
 rw [show ((n+1:Nat):Int)=(n:Int)+1 by omega] at c1
 refine Bd func40 ntmps40 fun σ N hp hpn hk hkn hfree=>?_
 obtain ⟨hd,hdn⟩:=HD0 hp hpn;clear hp hpn
 have hcs:=And.intro (c1 d) True.intro
 clear c1
 refine Wk ?_
 clear hcs
 refine ALoop.nilrow 7 138 6 (by simp (disch:=omega) [go_sem, *,-List.reduceReplicate]) ?_
 refine yn (N) zi (by kernel_rfl) [7,8,13,14,15,16,17,18,19,20,21,22] [d] (fun m_ s_ σ_ n_=>∃ (f:Nat) (q:Nat) (acc:List Pr) (j':Nat),m_=f∧s_ 8=.lit (.int .i64 f)∧s_ 7=.slice (some q) (acc.map zU)∧σ_ (d)=zy l j'∧σ_ (q)=.row 138 6 acc.length∧(N≤q)∧(q < n_)∧(acc.length+f≤1000)∧(Dk l j')∧(zlO l r f j' acc (R,j))) ⟨_,f0,_,[],j0,rfl,WF,WF,WF,WF,WC,WC,WC,WC,WC⟩ ?_
 intro m_1 s_1 σ_1 n_1 hs_1 hf_1 hn_1 hI_1
 obtain ⟨f,q,acc,j',hm_1,h1_8,h1_7,e1_0,e1_1,hq,hqn,hal,hj,hrun⟩:=hI_1
 have h1_0:=KS hs_1 0
 have h1_2:=KS hs_1 2
 have h1_6:=KS hs_1 6
 have hlow:=KD (N:=N) (d:=d) (σ:=σ) hf_1
 clear hR
 cases f with
 | zero=>
  have hrun:(R,j)=(acc,j'):=hrun
  simp only [Prod.mk.injEq] at hrun
  obtain ⟨rfl,rfl⟩:=hrun
  clear hj
  refine Wk ?_
  exact RV (d) (zy l j)
 | succ f=>
  obtain ⟨p,j1,⟨p1,p2,p3,p4,p5⟩,hrun⟩:=hrun
  have hcs:=And.intro (p5 d) True.intro
  clear p5 p1 p2 p3 hj
  refine Wk ?_
  exact ⟨WS,WG,WN,_,(show (f) < m_1 by omega),f,q,acc++[p],j1,rfl,WF,WF,WF,WF,WC,WC,WC,WC,WC⟩
theorem zbI (l:List Int) (i:Nat) (h:Dk l i) (n:Nat) (hn:n≤1000) (r:Bool):∃ (R:List Pr) (j:Nat),R.length≤n∧(∀ p∈R,PrOk p∧yc p=true)∧Dk l j∧∀ d k,ACall prog 40 [.ptr d [] 0,.lit (.int .i64 n),.lit (.bool r)] k [(d,zy l i)] (.slice none (R.map zU)) [(d,zy l j)]:=by
 obtain ⟨⟨R,j⟩,hR,h1,h2,h3⟩:=zcs (r:=r) (yl l i (n+1)).1 (yl l i (n+1)).2 [] (yu _ h) (fun p hp=>by cases hp)
 have:=y7 l i (n+1) oo
 exact ⟨R,j,by simp only [List.length_nil] at h3;omega,h2,h1,fun d k=>zaV l i h n hn r R j hR d k⟩
end Go.Proofs.YtglmjglbobhbbaaGreatDoor
