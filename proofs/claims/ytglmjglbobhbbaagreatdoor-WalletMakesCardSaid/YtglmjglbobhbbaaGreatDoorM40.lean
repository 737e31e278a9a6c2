/- Texts P7, joined. -/
import Derived.Test.YtglmjglbobhbbaaGreatDoorM39
namespace Go.Proofs.YtglmjglbobhbbaaGreatDoor
open _root_.Go.Proofs.Tryz
open Go.Ab
attribute [local irreducible] Go.Ab.tyAV Go.Ab.aw Go.Ab.aops Go.Ab.kReg Go.Ab.aThen Go.Ab.aBlk Go.Ab.acond Go.Ab.aguard Go.Ab.astep Go.Ab.AStepX Go.Ab.aRet
theorem zk5 (l:List Pa) (he:l.isEmpty=false) (hl:l.length≤100000) (k:Nat):
  ACall prog 187 [.slice none (l.map zG)] k [] (.ms k 1 35 0 l.length) [(k,.mrow 1 30 35 (l.map zG))]:=by
 have hb:l.length * 72≤140737488355328:=by omega
 have hb1:l.length≤140737488355327:=by omega
 refine Bd func187 ntmps187 fun σ N hp hpn hk hkn hfree=>?_
 have M:Mut (N+3):=⟨⟩
 refine Wk ?_
 refine zQ (r0:=N+3) (by simp (disch:=omega) [go_sem, *,-List.reduceReplicate];rfl) oo (by simp (disch:=omega) [go_sem];try rfl) (fun id hid=>by simp (disch:=omega) only [zg];try exact hlow id hid) (by simp (disch:=omega) only [zr];rfl) (by simp (disch:=omega) [go_sem])
theorem zkc (A:Addr) (c k:Nat):
  ACall prog 187 [.lit (.slice (some A) 0 c)] k [] (.ms k 1 35 0 0) [(k,.mrow 1 30 35 [])]:=by
 refine Bd func187 ntmps187 fun σ N hp hpn hk hkn hfree=>?_
 have M:Mut (N+3):=⟨⟩
 refine Wk ?_
 refine zQ (r0:=N+3) (by simp (disch:=omega) [go_sem, *,-List.reduceReplicate];rfl) oo (by simp (disch:=omega) [go_sem];try rfl) (fun id hid=>by simp (disch:=omega) only [zg];try exact hlow id hid) (by simp (disch:=omega) only [zr];rfl) (by simp (disch:=omega) [go_sem])
theorem znD (c k:Nat):ACall prog 187 [.lit (.slice none 0 c)] k [] .nils []:=by
 refine Bd func187 ntmps187 fun σ N hp hpn hk hkn hfree=>?_
 exact W0
theorem zk6 (l:List Pa) (hl:l.length≤100000) (k:Nat):
  ACall prog 187 [.slice none (l.map zG)] k [] (.ms k 1 35 0 l.length) [(k,.mrow 1 30 35 (l.map zG))]:=by
 cases l with
 | cons x r=>exact zk5 (x::r) rfl hl k
 | nil=>
  refine ACall.empty fun A c=>?_
  cases A with
  | none=>exact ACall.nilM (by decide) (znD c k)
  | some A=>exact zkc A c k
theorem zk4 (l:List Di) (he:l.isEmpty=false) (hl:l.length≤100000) (k:Nat):
  ACall prog 121 [.slice none (l.map zw)] k [] (.ms k 1 34 0 l.length) [(k,.mrow 1 34 34 (l.map zw))]:=by
 have hb:l.length * 80≤140737488355328:=by omega
 have hb1:l.length≤140737488355327:=by omega
 refine Bd func121 ntmps121 fun σ N hp hpn hk hkn hfree=>?_
 have M:Mut (N+3):=⟨⟩
 refine Wk ?_
 refine zQ (r0:=N+3) (by simp (disch:=omega) [go_sem, *,-List.reduceReplicate];rfl) oo (by simp (disch:=omega) [go_sem];try rfl) (fun id hid=>by simp (disch:=omega) only [zg];try exact hlow id hid) (by simp (disch:=omega) only [zr];rfl) (by simp (disch:=omega) [go_sem])
theorem zkb (A:Addr) (c k:Nat):
  ACall prog 121 [.lit (.slice (some A) 0 c)] k [] (.ms k 1 34 0 0) [(k,.mrow 1 34 34 [])]:=by
 refine Bd func121 ntmps121 fun σ N hp hpn hk hkn hfree=>?_
 have M:Mut (N+3):=⟨⟩
 refine Wk ?_
 refine zQ (r0:=N+3) (by simp (disch:=omega) [go_sem, *,-List.reduceReplicate];rfl) oo (by simp (disch:=omega) [go_sem];try rfl) (fun id hid=>by simp (disch:=omega) only [zg];try exact hlow id hid) (by simp (disch:=omega) only [zr];rfl) (by simp (disch:=omega) [go_sem])
theorem znC (c k:Nat):ACall prog 121 [.lit (.slice none 0 c)] k [] .nils []:=by
 refine Bd func121 ntmps121 fun σ N hp hpn hk hkn hfree=>?_
 exact W0
theorem zbG (l:List Di) (hl:l.length≤100000) (k:Nat):
  ACall prog 121 [.slice none (l.map zw)] k [] (.ms k 1 34 0 l.length) [(k,.mrow 1 34 34 (l.map zw))]:=by
 cases l with
 | cons x r=>exact zk4 (x::r) rfl hl k
 | nil=>
  refine ACall.empty fun A c=>?_
  cases A with
  | none=>exact ACall.nilM (by decide) (znC c k)
  | some A=>exact zkb A c k
set_option maxHeartbeats 1000000 in
theorem qR (l:List Pa) (hl:l.length≤100000) (hc:∀ x∈l,x.cavs.length≤100000∧∀ c∈x.cavs,wY c) (k:Nat):
  ACall prog 116 [.slice none (l.map zG)] k [] (.slice none (l.map zG)) []:=by
 have c0:=zk6 l hl
 refine Bd func116 ntmps116 fun σ N hp hpn hk hkn hfree=>?_
 have hcs:=And.intro c0 True.intro
 clear c0
 refine Wk ?_
 clear hcs
 refine ze zi (by kernel_rfl) [4,9,10,11,12,13,14,15,16,17,18,19,20,21,22] [N+2] (fun m_ s_ σ_ n_=>∃ (u:Nat),m_=l.length - u∧s_ 9=.lit (.int .i64 u)∧s_ 3=.ms (N+2) 1 35 0 l.length∧σ_ (N+2)=.mrow 1 30 35 (l.map zG)∧(u≤l.length)) ⟨_,0,rfl,WF,WF,WF,WC⟩ ?_
 intro m_1 s_1 σ_1 n_1 hs_1 hf_1 hn_1 hI_1
 obtain ⟨u,hm_1,h1_9,h1_3,e1_0,hu⟩:=hI_1
 have h1_2:=KS hs_1 2
 have h1_3:=KS hs_1 3
 have h1_8:=KS hs_1 8
 have hlow:=KL (N:=N) (σ:=σ) hf_1
 by_cases hul:u=l.length
 ·subst hul
  clear hc
  refine Wm ?_
  iterate 1 refine Wz ?_
  refine qJ 3 (id:=N+2) (ver:=1) (size:=35) (e:=30) (xs:=l.map zG) (k:=l.length) (by simp (disch:=omega) [go_sem, *,-List.reduceReplicate]) (by simp (disch:=omega) [go_sem, *,-List.reduceReplicate]) (by simp (disch:=omega) [go_sem, *,-List.reduceReplicate]) ?_
  exact WM
 ·have hu1:u < l.length:=by omega
  have hmz:=hc _ (List.getElem_mem hu1)
  obtain ⟨z,hz⟩:∃ z,l[u]=z:=⟨_,rfl⟩
  rw [hz] at hmz
  have hset:(l.map zG).set u (zG z)=l.map zG:=by
   rw [← hz,← List.getElem_map (f:=zG) (h:=by rw [List.length_map];exact hu1)]
   exact List.set_getElem_self _
  have hzm:(l.map zG)[u]?=some (zG z):=by rw [List.getElem?_map,List.getElem?_eq_getElem hu1,hz];rfl
  have hsz:AV.szl ((l.map zG).take u)=u * 35:=by
   rw [← List.map_take,AV.szl_uniform _ 35 (fun x hx=>by obtain ⟨c,_,rfl⟩:=List.mem_map.1 hx;exact xv c),List.length_map,List.length_take,Nat.min_eq_left oo]
  have ho2:(AV.agg (l.map zG)).offs [u,2]=u * 35+2:=by simp only [AV.offs,hzm,hsz];rfl
  have hp2:(zG z).put [2] (.slice none (z.cavs.map z8))=zG z:=rfl
  have k2:=vB z.cavs hmz.1 hmz.2
  have hcs:=And.intro k2 (True.intro)
  clear k2 hc hmz
  refine Wk ?_
  exact ⟨WS,WG,WN,_,(show l.length - (u+1) < m_1 by omega),u+1,rfl,WF,WF,WF,WC⟩
set_option maxHeartbeats 1000000 in
theorem yx (l:List Di) (hl:l.length≤100000) (hc:∀ x∈l,WdT x.ticket x.conds) (k:Nat):
  ACall prog 59 [.slice none (l.map zw)] k [] (.slice none (l.map zw)) []:=by
 have c0:=zbG l hl
 refine Bd func59 ntmps59 fun σ N hp hpn hk hkn hfree=>?_
 have hcs:=And.intro c0 True.intro
 clear c0
 refine Wk ?_
 clear hcs
 refine ze zi (by kernel_rfl) [4,9,10,11,12,13,14,15,16,17,18,19,20,21,22,23,24,25,26,27,28,29,30,31,32] [N+2] (fun m_ s_ σ_ n_=>∃ (u:Nat),m_=l.length - u∧s_ 9=.lit (.int .i64 u)∧s_ 3=.ms (N+2) 1 34 0 l.length∧σ_ (N+2)=.mrow 1 34 34 (l.map zw)∧(u≤l.length)) ⟨_,0,rfl,WF,WF,WF,WC⟩ ?_
 intro m_2 s_2 σ_2 n_2 hs_2 hf_2 hn_2 hI_2
 obtain ⟨u,hm_2,h2_9,h2_3,e2_0,hu⟩:=hI_2
 have h2_2:=KS hs_2 2
 have h2_3:=KS hs_2 3
 have h2_8:=KS hs_2 8
 have hlow:=KL (N:=N) (σ:=σ) hf_2
 by_cases hul:u=l.length
 ·subst hul
  clear hc
  refine Wm ?_
  iterate 1 refine Wz ?_
  refine qJ 3 (id:=N+2) (ver:=1) (size:=34) (e:=34) (xs:=l.map zw) (k:=l.length) (by simp (disch:=omega) [go_sem, *,-List.reduceReplicate]) (by simp (disch:=omega) [go_sem, *,-List.reduceReplicate]) (by simp (disch:=omega) [go_sem, *,-List.reduceReplicate]) ?_
  exact WM
 ·have hu1:u < l.length:=by omega
  have hmz:=hc _ (List.getElem_mem hu1)
  obtain ⟨z,hz⟩:∃ z,l[u]=z:=⟨_,rfl⟩
  rw [hz] at hmz
  have hset:(l.map zw).set u (zw z)=l.map zw:=by
   rw [← hz,← List.getElem_map (f:=zw) (h:=by rw [List.length_map];exact hu1)]
   exact List.set_getElem_self _
  have hzm:(l.map zw)[u]?=some (zw z):=by rw [List.getElem?_map,List.getElem?_eq_getElem hu1,hz];rfl
  have hsz:AV.szl ((l.map zw).take u)=u * 34:=by
   rw [← List.map_take,AV.szl_uniform _ 34 (fun x hx=>by obtain ⟨c,_,rfl⟩:=List.mem_map.1 hx;exact zbt c),List.length_map,List.length_take,Nat.min_eq_left oo]
  have ho0:(AV.agg (l.map zw)).offs [u,0]=u * 34+0:=by simp only [AV.offs,hzm,hsz];rfl
  have hp0:(zw z).put [0] (.slice none (z.ticket.map za))=zw z:=rfl
  have k0:=yC z.ticket hmz.1
  have ho1:(AV.agg (l.map zw)).offs [u,1]=u * 34+1:=by simp only [AV.offs,hzm,hsz];rfl
  have hp1:(zw z).put [1] (.slice none (z.conds.map zU))=zw z:=rfl
  have k1:=qO z.conds hmz.2
  have hcs:=And.intro k0 (And.intro k1 (True.intro))
  clear k0 k1 hc hmz
  refine Wk ?_
  exact ⟨WS,WG,WN,_,(show l.length - (u+1) < m_2 by omega),u+1,rfl,WF,WF,WF,WC⟩
end Go.Proofs.YtglmjglbobhbbaaGreatDoor
