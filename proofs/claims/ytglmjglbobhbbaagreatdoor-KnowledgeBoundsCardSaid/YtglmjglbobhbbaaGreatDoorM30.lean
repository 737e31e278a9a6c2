/- Texts O5, Q7, Y1, joined. -/
import Derived.Test.YtglmjglbobhbbaaGreatDoorM29
namespace Go.Proofs.YtglmjglbobhbbaaGreatDoor
open _root_.Go.Proofs.Tryz
open Go.Ab
attribute [local irreducible] Go.Ab.tyAV Go.Ab.aw Go.Ab.aops Go.Ab.kReg Go.Ab.aThen Go.Ab.aBlk Go.Ab.acond Go.Ab.aguard Go.Ab.astep Go.Ab.AStepX Go.Ab.aRet
theorem zmh (l:List Ca) (he:l.isEmpty=false) (hl:l.length≤100000) (k:Nat):
  ACall prog 213 [.slice none (l.map z8)] k [] (.ms k 1 10 0 l.length) [(k,.mrow 1 140 10 (l.map z8))]:=by
 have hb:l.length * 120≤140737488355328:=by omega
 have hb1:l.length≤140737488355327:=by omega
 refine Bd func213 ntmps213 fun σ N hp hpn hk hkn hfree=>?_
 have M:Mut (N+3):=⟨⟩
 refine Wk ?_
 refine zQ (r0:=N+3) (by simp (disch:=omega) [go_sem, *,-List.reduceReplicate];rfl) oo (by simp (disch:=omega) [go_sem];try rfl) (fun id hid=>by simp (disch:=omega) only [zg];try exact hlow id hid) (by simp (disch:=omega) only [zr];rfl) (by simp (disch:=omega) [go_sem])
theorem zk3 (A:Addr) (c k:Nat):
  ACall prog 213 [.lit (.slice (some A) 0 c)] k [] (.ms k 1 10 0 0) [(k,.mrow 1 140 10 [])]:=by
 refine Bd func213 ntmps213 fun σ N hp hpn hk hkn hfree=>?_
 have M:Mut (N+3):=⟨⟩
 refine Wk ?_
 refine zQ (r0:=N+3) (by simp (disch:=omega) [go_sem, *,-List.reduceReplicate];rfl) oo (by simp (disch:=omega) [go_sem];try rfl) (fun id hid=>by simp (disch:=omega) only [zg];try exact hlow id hid) (by simp (disch:=omega) only [zr];rfl) (by simp (disch:=omega) [go_sem])
theorem zpB (c k:Nat):ACall prog 213 [.lit (.slice none 0 c)] k [] .nils []:=by
 refine Bd func213 ntmps213 fun σ N hp hpn hk hkn hfree=>?_
 exact W0
theorem zmi (l:List Ca) (hl:l.length≤100000) (k:Nat):
  ACall prog 213 [.slice none (l.map z8)] k [] (.ms k 1 10 0 l.length) [(k,.mrow 1 140 10 (l.map z8))]:=by
 cases l with
 | cons x r=>exact zmh (x::r) rfl hl k
 | nil=>
  refine ACall.empty fun A c=>?_
  cases A with
  | none=>exact ACall.nilM (by decide) (zpB c k)
  | some A=>exact zk3 A c k
set_option maxHeartbeats 1000000 in
theorem vB (l:List Ca) (hl:l.length≤100000) (hc:∀ c∈l,wY c) (k:Nat):
  ACall prog 169 [.slice none (l.map z8)] k [] (.slice none (l.map z8)) []:=by
 have c0:=zmi l hl
 refine Bd func169 ntmps169 fun σ N hp hpn hk hkn hfree=>?_
 have hcs:=And.intro c0 True.intro
 clear c0
 refine Wk ?_
 clear hcs
 refine ze zi (by kernel_rfl) [4,9,10,11,12,13,14,15,16,17,18,19,20,21,22,23,24,25,26,27,28,29,30,31,32] [N+2] (fun m_ s_ σ_ n_=>∃ (u:Nat),m_=l.length - u∧s_ 9=.lit (.int .i64 u)∧s_ 3=.ms (N+2) 1 10 0 l.length∧σ_ (N+2)=.mrow 1 140 10 (l.map z8)∧(u≤l.length)) ⟨_,0,rfl,WF,WF,WF,WC⟩ ?_
 intro m_1 s_1 σ_1 n_1 hs_1 hf_1 hn_1 hI_1
 obtain ⟨u,hm_1,h1_9,h1_3,e1_0,hu⟩:=hI_1
 have h1_2:=KS hs_1 2
 have h1_3:=KS hs_1 3
 have h1_8:=KS hs_1 8
 have hlow:=KL (N:=N) (σ:=σ) hf_1
 by_cases hul:u=l.length
 ·subst hul
  clear hc
  refine Wm ?_
  iterate 1 refine Wz ?_
  refine qJ 3 (id:=N+2) (ver:=1) (size:=10) (e:=140) (xs:=l.map z8) (k:=l.length) (by simp (disch:=omega) [go_sem, *,-List.reduceReplicate]) (by simp (disch:=omega) [go_sem, *,-List.reduceReplicate]) (by simp (disch:=omega) [go_sem, *,-List.reduceReplicate]) ?_
  exact WM
 ·have hu1:u < l.length:=by omega
  have hmz:=hc _ (List.getElem_mem hu1)
  obtain ⟨z,hz⟩:∃ z,l[u]=z:=⟨_,rfl⟩
  rw [hz] at hmz
  have c1:=yC z.ticket (by have:=hmz.1;omega)
  have c2:=yC z.box (by have:=hmz.2;omega)
  have hset:(l.map z8).set u (z8 z)=l.map z8:=by
   rw [← hz,← List.getElem_map (f:=z8) (h:=by rw [List.length_map];exact hu1)]
   exact List.set_getElem_self _
  have hzm:(l.map z8)[u]?=some (z8 z):=by rw [List.getElem?_map,List.getElem?_eq_getElem hu1,hz];rfl
  have hsz:AV.szl ((l.map z8).take u)=u * 10:=by
   rw [← List.map_take,AV.szl_uniform _ 10 (fun x hx=>by obtain ⟨c,_,rfl⟩:=List.mem_map.1 hx;rfl),List.length_map,List.length_take,Nat.min_eq_left oo]
  have ho3:(AV.agg (l.map z8)).offs [u,3]=u * 10+8:=by simp only [AV.offs,hzm,hsz];rfl
  have ho4:(AV.agg (l.map z8)).offs [u,4]=u * 10+9:=by simp only [AV.offs,hzm,hsz];rfl
  have hp3:(z8 z).put [3] (.slice none (z.ticket.map za))=z8 z:=rfl
  have hp4:(z8 z).put [4] (.slice none (z.box.map za))=z8 z:=rfl
  have hcs:=And.intro c1 (And.intro c2 True.intro)
  clear c1 c2 hc hmz
  refine Wk ?_
  exact ⟨WS,WG,WN,_,(show l.length - (u+1) < m_1 by omega),u+1,rfl,WF,WF,WF,WC⟩
end Go.Proofs.YtglmjglbobhbbaaGreatDoor
