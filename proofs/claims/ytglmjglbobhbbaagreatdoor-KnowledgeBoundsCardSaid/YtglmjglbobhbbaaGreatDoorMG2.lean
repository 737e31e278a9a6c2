/- Texts I2p, Q5p, P11p, P19, P20, P21, P15, P22, P1, W4p, P23, C14, C15, X1, X2, X3, X4, X5, X6, C16, X7, X8, X9, X10, X11, W2p, Q6p, W8p, W9p, W17, X13, W12, W15, I3, U17p, U27p, U24, Y15, P26, P32, joined. -/
import Derived.Test.YtglmjglbobhbbaaGreatDoorMG1
import Derived.RecoverIn
import Derived.RangeFuncLeaves
namespace Go.Proofs.YtglmjglbobhbbaaGreatDoor
open _root_.Go.Proofs.Tryz
open Go.Ab
attribute [local irreducible] Go.Ab.tyAV Go.Ab.aw Go.Ab.aops Go.Ab.kReg Go.Ab.aThen Go.Ab.aBlk Go.Ab.acond Go.Ab.aguard Go.Ab.astep Go.Ab.AStepX Go.Ab.aRet
attribute [local irreducible] yE
theorem jM:zS=.glob 0 (.agg bitsL):=rfl
theorem w8:(AV.agg bitsL).shut=true:=rfl
section
variable [W:W32]
set_option maxHeartbeats 16000000 in
theorem kA (a:Alg) (m:Nat) (ha:AlgIn a m) (p:Pa) (gs:List Di) (r:Rq) (hg:gs.length≤100) (hm:m≤50000) (hb:BuIn (zE p gs r)) (h0:yZ (zE p gs r)=0) (hcm:∀ c∈p.cavs,wY c) (hgm:∀ d∈gs,d.ticket.length≤100000∧d.conds.length≤100000) (q r1 r2 g h k:Nat):
  ACall prog 105 [.ptr q [] 0,zG p,.slice none (gs.map zw),yD r] k (vA a 0 q r1 r2++[(g,yE),(h,zS)]) (ye (zV a p gs r).2) [(q,zcM (zV a p gs r).1 0 r1 r2),(r1,zfk (zV a p gs r).1.macs.length)]:=by
 have hV:=(vK hb h0).1
 have hr:rqB r=true:=hV.rq
 have hcl:p.cavs.length≤64:=hV.cl
 have c0:=vB p.cavs oo hcm
 have hc:=wo (zE p gs r) hb 1 0
 rw [h0] at hc
 have hP:=ka ha oo p hr
 obtain ⟨⟨x1,x2⟩,x3,x4⟩:=rqB_iff.1 hr
 have c1:=xN a 0 0 q r1 r2
 rw [if_pos rfl] at c1
 have c2:=vZ [114,101,113,117,101,115,116] [] r.gate.toNat r.nonce.toNat (by decide) (by decide) oo oo
 have hbm:[114,101,113,117,101,115,116]++([]++(leb r.gate.toNat++leb r.nonce.toNat))=kI r.gate.toNat r.nonce.toNat:=rfl
 rw [hbm] at c2
 have hml:=zcP (g:=r.gate.toNat) (n:=r.nonce.toNat) oo oo
 have hmp:0 < (kI r.gate.toNat r.nonce.toNat).length:=by simp [kI]
 have c3:=vD a 0 p.tag (kI r.gate.toNat r.nonce.toNat) (by have:=ha.ml;omega) ha.mm (fun _=>hmp) oo q r1 r2 g
 rw [qp hP] at c3
 have hin:AlgIn (qa a p r).1 (m+1):=yN ha _ _
 have hbx:(qa a p r).1.boxes=a.boxes:=(vP a p.tag _ hP).1
 have hPd:yJ a p.tag (kI r.gate.toNat r.nonce.toNat)=qa a p r:=rfl
 rw [hPd] at c3
 simp only at c3
 unfold zV
 clear hb h0 ha hP hPd hml hmp hbm hV
 generalize qa a p r=M at *
 obtain ⟨aM,tM,eM⟩:=M
 obtain ⟨ep,se,L,tg⟩:=p
 obtain ⟨rg,rn⟩:=r
 simp only at *
 obtain ⟨A',D',hrun⟩:∃ A' D',xj tg ⟨rg,rn⟩ gs 0 aM (gs.map zu)=(A',D'):=⟨_,_,rfl⟩
 have hDl:D'.length=gs.length:=by have:=xO (leaf:=tg) (r:=⟨rg,rn⟩) gs 0 aM (gs.map zu);rw [hrun] at this;simpa using this
 rw [hrun]
 simp only
 have hpA:zG ⟨ep,se,L,tg⟩=.agg [.lit (.int .i64 ep),.lit (.int .i64 se),.slice none (L.map z8),zd tg]:=rfl
 have hrA:yD ⟨rg,rn⟩=.agg [.lit (.int .i64 rg),.lit (.int .i64 rn)]:=rfl
 have hbA:ye ⟨⟨rg,rn⟩,ep,se,L,tM,D'⟩=.agg [.agg [.lit (.int .i64 rg),.lit (.int .i64 rn)],.lit (.int .i64 ep),.lit (.int .i64 se),.slice none (L.map z8),zd tM,.slice none (D'.map zC)]:=rfl
 have hsA:ye (zE ⟨ep,se,L,tg⟩ gs ⟨rg,rn⟩)=.agg [.agg [.lit (.int .i64 rg),.lit (.int .i64 rn)],.lit (.int .i64 ep),.lit (.int .i64 se),.slice none (L.map z8),zd zeroTag,.slice none ((gs.map zu).map zC)]:=rfl
 rw [hsA] at hc
 rw [hpA,hrA,hbA]
 rw [show ((rg.toNat:Nat):Int)=rg by omega,show ((rn.toNat:Nat):Int)=rn by omega] at c2
 generalize kI rg.toNat rn.toNat=rm at *
 clear hpA hbA hsA
 have hb24:gs.length * 80≤140737488355328:=by omega
 have hb25:gs.length≤140737488355327:=by omega
 unfold vA at *
 simp only [List.cons_append,List.nil_append] at *
 simp only [zW,zP,zO] at *
 simp only [hbx] at c3
 have e00:((0:Nat):Int)=0:=rfl
 simp only [e00] at *
 clear e00
 refine Bd func105 ntmps105 fun σ N hp hpn hk hkn hfree=>?_
 simp only [List.mem_cons,List.not_mem_nil,or_false,forall_eq_or_imp,forall_eq] at hp hpn
 obtain ⟨hd1,hd2,hd3,hd4,hd5⟩:=hp
 obtain ⟨hdn1,hdn2,hdn3,hdn4,hdn5⟩:=hpn
 have hne:q≠r1:=by rintro rfl;rw [hd1] at hd2;cases hd2
 have hne3:q≠r2:=by rintro rfl;rw [hd1] at hd3;cases hd3
 have hneg:g≠q:=by rintro rfl;rw [hd4] at hd1;exact ya hd1
 have hneg1:g≠r1:=by rintro rfl;rw [hd4] at hd2;exact yb hd2
 have hneh:h≠q:=by rintro rfl;rw [hd5] at hd1;exact v8 hd1
 have hneh1:h≠r1:=by rintro rfl;rw [hd5] at hd2;exact v9 hd2
 have hne23:r1≠r2:=by rintro rfl;rw [hd2] at hd3;simp at hd3
 rw [jM] at hd5 hc
 have hcs:=And.intro c0 True.intro
 clear c0
 refine Wk ?_
 clear hcs
 refine vM (N+12) [5] 168 34 (bt:=75) (c:=.agg [.agg [.lit (.int .i64 rg),.lit (.int .i64 rn)],.lit (.int .i64 ep),.lit (.int .i64 se),.slice none (L.map z8),zd zeroTag,.nils]) (by simp (disch:=omega) [go_sem, *,-List.reduceReplicate];try rfl) rfl ?_
 refine ze zi (by kernel_rfl) [11,25,26,27,28,29,30,31,32,33,34,35,36,37,38,39] [N+12,N+17] (fun m_ s_ σ_ n_=>∃ (u:Nat),m_=gs.length - u∧s_ 25=.lit (.int .i64 u)∧σ_ (N+12)=.box 75 (.agg [.agg [.lit (.int .i64 rg),.lit (.int .i64 rn)],.lit (.int .i64 ep),.lit (.int .i64 se),.slice none (L.map z8),zd zeroTag,.ms (N+17) u 34 0 u])∧σ_ (N+17)=.mrow u 168 34 (shX gs u)∧(u≤gs.length)) ⟨_,0,rfl,WF,WF,WF,WC⟩ ?_
 intro m_1 s_1 σ_1 n_1 hs_1 hf_1 hn_1 hI_1
 obtain ⟨u,hm_1,h1_25,e1_0,e1_1,hu⟩:=hI_1
 have h1_0:=KS hs_1 0
 have h1_2:=KS hs_1 2
 have h1_5:=KS hs_1 5
 have h1_7:=KS hs_1 7
 have h1_8:=KS hs_1 8
 have h1_9:=KS hs_1 9
 have h1_23:=KS hs_1 23
 have h1_24:=KS hs_1 24
 have k1_0:=KE hf_1 (N)
 have k1_1:=KE hf_1 (N+1)
 have k1_2:=KE hf_1 (N+2)
 have k1_3:=KE hf_1 (q)
 have k1_4:=KE hf_1 (r1)
 have k1_5:=KE hf_1 (r2)
 have k1_6:=KE hf_1 (g)
 have k1_7:=KE hf_1 (h)
 have hlow:=KL (N:=N) (σ:=σ) hf_1
 by_cases hul:u=gs.length
 ·subst hul
  rw [kj] at e1_1
  have hD0:(gs.map zu).length=gs.length:=List.length_map ..
  clear hu
  generalize gs.map zu=D0 at *
  iterate 2 refine Wz ?_
  (apply xI;· (simp only [List.length_cons,List.length_nil,Nat.reduceAdd,Nat.add_assoc];rfl))
  refine Wm ?_
  refine vT (d:=h) (pre:=[(N+17,.mrow gs.length 168 34 (D0.map zC)),(h,.glob 0 (.agg bitsL))]) hc w8 (by simp) (by simp (disch:=omega) [go_sem, *,-List.reduceReplicate]) rfl (by simp) (by
   simp (disch:=omega) [go_sem, *,-List.reduceReplicate]
   exact .cons (.agg (.cons (.shut (AV.le_refl _) rfl) (.cons (.shut (AV.le_refl _) rfl) (.cons (.shut (AV.le_refl _) rfl) (.cons (.shut (AV.le_refl _) (qW L)) (.cons (.shut (AV.le_refl _) (vQ _)) (.cons (.ms (List.mem_cons_self ..) (by simp [hD0]) (qT D0)) .nil))))))) .nil) (by simp (disch:=omega) [go_sem, *,-List.reduceReplicate]) ?_
  have hcs:=And.intro c1 True.intro
  refine Wm ?_
  have hcs:=And.intro c2 (And.intro c3 True.intro)
  clear c1 c2 c3 hc
  refine Wk ?_
  clear hcs
  refine ze zi (by kernel_rfl) [12,13,53,54,55,56,57,58,59,60,61,62,63,64,65,66,67,68] [q,r1,N+12,N+17] (fun m_ s_ σ_ n_=>∃ (v:Nat) (A:Alg) (D:List Bo),m_=gs.length - v∧s_ 53=.lit (.int .i64 v)∧σ_ (q)=.box 249 (.agg [.agg [.lit (.bool A.free),zd A.seed,.lit (.int .i64 A.fresh),.slice (some r1) (A.macs.map zJ),.slice (some r2) (a.boxes.map zo)],.lit (.int .i64 0)])∧σ_ (r1)=.row 190 65 A.macs.length∧σ_ (N+12)=.box 75 (.agg [.agg [.lit (.int .i64 rg),.lit (.int .i64 rn)],.lit (.int .i64 ep),.lit (.int .i64 se),.slice none (L.map z8),zd tM,.ms (N+17) gs.length 34 0 gs.length])∧σ_ (N+17)=.mrow gs.length 168 34 (D.map zC)∧(v≤gs.length)∧(AlgIn A (m+1+v))∧(A.boxes=a.boxes)∧(D.length=gs.length)∧(xj tg ⟨rg,rn⟩ (gs.drop v) v A D=(A',D'))) ⟨_,0,aM,D0,rfl,WF,WF,WF,WF,WF,WC,WC,WC,WC,WC⟩ ?_
  intro m_2 s_2 σ_2 n_2 hs_2 hf_2 hn_2 hI_2
  obtain ⟨v,A,D,hm_2,h2_53,e2_0,e2_1,e2_2,e2_3,hv,hA,hbA,hD,hrun⟩:=hI_2
  have h2_0:=KS hs_2 0
  have h2_5:=KS hs_2 5
  have h2_7:=KS hs_2 7
  have h2_8:=KS hs_2 8
  have h2_9:=KS hs_2 9
  have h2_51:=KS hs_2 51
  have h2_52:=KS hs_2 52
  have k2_0:=KE hf_2 (N)
  have k2_1:=KE hf_2 (N+1)
  have k2_2:=KE hf_2 (N+2)
  have k2_3:=KE hf_2 (r2)
  have k2_4:=KE hf_2 (g)
  have hlow:∀ id,id < N→id≠q→id≠r1→σ_2 id=σ id:=fun id hid hdd0 hdd1=>(hf_2.at id oo (by simp [hdd0,hdd1];try omega)).trans (by simp (disch:=omega) only [zg,zF,yi];try first | exact hlow id hid hdd0 hdd1 | exact hlow id hid)
  clear hin hD0
  by_cases hvl:v=gs.length
  ·subst hvl
   rw [List.drop_length,xj,Prod.mk.injEq] at hrun
   obtain ⟨rfl,rfl⟩:=hrun
   clear hv hA
   iterate 2 refine Wz ?_
   refine yM (N+12) [5] (r:=N+17) (ver:=gs.length) (size:=34) (e:=168) (xs:=D.map zC) (k:=gs.length) (by simp (disch:=omega) [go_sem, *,-List.reduceReplicate];try exact ⟨rfl,rfl⟩) (by simp (disch:=omega) [go_sem, *,-List.reduceReplicate]) (by simp (disch:=omega) [go_sem, *,-List.reduceReplicate]) (by simp [hD]) ?_
   refine Wk ?_
   refine yd [(q,(.box 249 (.agg [.agg [.lit (.bool A.free),zd A.seed,.lit (.int .i64 A.fresh),.slice (some r1) (A.macs.map zJ),.slice (some r2) (a.boxes.map zo)],.lit (.int .i64 0)]))),(r1,(.row 190 65 A.macs.length))] (by simp (disch:=omega) [go_sem, *,-List.reduceReplicate];rfl) (by first | rfl | (simp (disch:=omega) [go_sem];done) | (simp (disch:=omega) [go_sem, *];done) | simp (disch:=omega) [go_sem]) (fun id hid=>by simp only [zF,yi];(by_cases hdd:id=q;(· (subst hdd;simp (disch:=omega) [go_sem, *]));(· (by_cases hdd2:id=r1;(· (subst hdd2;simp (disch:=omega) [go_sem, *]));(· (simp (disch:=omega) only [zg];try (first | exact hlow id hid hdd hdd2 | exact hlow id hid))))))) (by simp) (by simp (disch:=omega) [go_sem, *])
  ·have hv1:v < gs.length:=by omega
   have hv1i:(v:Int) < (gs.length:Int):=by omega
   obtain ⟨z,hz⟩:∃ z,gs[v]=z:=⟨_,rfl⟩
   have hzm:(gs.map zw)[v]?=some (zw z):=by rw [List.getElem?_map,List.getElem?_eq_getElem hv1,hz];rfl
   have hzb:=hgm z (by rw [← hz];exact List.getElem_mem _)
   rw [List.drop_eq_getElem_cons hv1,hz,xj] at hrun
   have c3:=jm A (m+1+v) hA oo z tg ⟨rg,rn⟩ hr hzb.1 hzb.2 q r1 r2 g
   obtain ⟨hB1,hB2⟩:=vw hA oo z tg hr
   have hin2:=jk hA z tg ⟨rg,rn⟩
   have hbx2:(vJ A z tg ⟨rg,rn⟩).1.boxes=a.boxes:=by rw [hB2];simp only;rw [(vP A z.tag _ hB1).1];exact hbA
   clear hB1 hB2
   generalize vJ A z tg ⟨rg,rn⟩=B at *
   obtain ⟨aB,bB,eB⟩:=B
   rw [hrA] at c3
   unfold vA at c3
   simp only [List.cons_append,List.nil_append] at c3
   simp only [zW,zP,zO,hbA] at c3
   simp only at c3 hrun hin2 hbx2
   simp only [hbx2] at c3
   have hv2:v < D.length:=by omega
   obtain ⟨y,hy⟩:∃ y,D[v]=y:=⟨_,rfl⟩
   have hy0:D[v]?=some y:=by rw [List.getElem?_eq_getElem hv2,hy]
   have hym:(D.map zC)[v]?=some (zC y):=by rw [List.getElem?_map,hy0];rfl
   have hysz:AV.szl ((D.map zC).take v)=v * 34:=by
    rw [← List.map_take,AV.szl_uniform _ 34 (fun x hx=>by obtain ⟨c,_,rfl⟩:=List.mem_map.1 hx;exact kG c),List.length_map,List.length_take,Nat.min_eq_left oo]
   have hyo:(AV.agg (D.map zC)).offs [v]=v * 34:=by simp only [AV.offs,hym,hysz];rfl
   clear hy
   have hset:(D.map zC).set v (zC bB)=(D.set v bB).map zC:=by rw [List.map_set]
   have hsl:(D.set v bB).length=gs.length:=by rw [List.length_set];exact hD
   generalize D.set v bB=D2 at *
   have e00:((0:Nat):Int)=0:=rfl
   simp only [e00] at c3
   have hcs:=And.intro c3 True.intro
   clear c3 e00
   refine Wk ?_
   clear hcs
   exact ⟨WS,WG,WN,_,(show gs.length - (v+1) < m_2 by omega),v+1,aB,D2,rfl,WF,WF,WF,WF,WF,WC,WC,WC,WC,WC⟩
 ·have hu1:u < gs.length:=by omega
  have hu1i:(u:Int) < (gs.length:Int):=by omega
  obtain ⟨z,hz⟩:∃ z,gs[u]=z:=⟨_,rfl⟩
  have hzm:(gs.map zw)[u]?=some (.agg [.slice none (z.ticket.map za),.slice none (z.conds.map zU),zd z.tag]):=by rw [List.getElem?_map,List.getElem?_eq_getElem hu1,hz];rfl
  have htk:=wH hu1 hz
  have htk2:(shX gs u).take u++[.agg [.slice none (z.ticket.map za),.slice none (z.conds.map zU),zd zeroTag]]=shX gs (u+1):=by rw [List.take_of_length_le (by rw [ve hu];exact Nat.le_refl _)];exact htk
  have hXl:=ve hu
  have hb26:(u+1) * 80≤140737488355328:=by omega
  have hb27:u≤140737488355327:=by omega
  clear c1 c2 c3 hc
  refine Wk ?_
  exact ⟨WS,WG,WN,_,(show gs.length - (u+1) < m_1 by omega),u+1,rfl,WF,WF,WF,WC⟩
end
section
variable [W:W32]
omit W in
theorem zeG (x y:Int) (h1:¬ x < 1) (h2:¬ 1000 < x) (h3:¬ y < 1) (h4:¬ 1073741824 < y) (k:Nat):
  ACall prog 176 [.lit (.int .i64 x),.lit (.int .i64 y)] k [] (.lit (.bool true)) []:=by
 have g1:1≤x:=by omega
 have g2:x≤1000:=by omega
 have g3:1≤y:=by omega
 have g4:y≤1073741824:=by omega
 refine Bd func176 ntmps176 fun σ N hp hpn hk hkn hfree=>?_
 exact W0
omit W in
theorem zeF (x y:Int) (h:x < 1∨1000 < x∨y < 1∨1073741824 < y) (k:Nat):
  ACall prog 176 [.lit (.int .i64 x),.lit (.int .i64 y)] k [] (.lit (.bool false)) []:=by
 by_cases h1:x < 1
 ·have g1:¬ 1≤x:=by omega
  refine Bd func176 ntmps176 fun σ N hp hpn hk hkn hfree=>?_
  exact W0
 ·have g1:1≤x:=by omega
  by_cases h2:1000 < x
  ·have g2:¬ x≤1000:=by omega
   refine Bd func176 ntmps176 fun σ N hp hpn hk hkn hfree=>?_
   exact W0
  ·have g2:x≤1000:=by omega
   by_cases h3:y < 1
   ·have g3:¬ 1≤y:=by omega
    refine Bd func176 ntmps176 fun σ N hp hpn hk hkn hfree=>?_
    exact W0
   ·have g3:1≤y:=by omega
    have g4:¬ y≤1073741824:=by omega
    refine Bd func176 ntmps176 fun σ N hp hpn hk hkn hfree=>?_
    exact W0
end
theorem za9 (k:Nat):ACall prog 157 [.nils,.lit (.int .i64 0)] k [] .nils []:=by
 refine Bd func157 ntmps157 fun σ N hp hpn hk hkn hfree=>?_
 refine Wk ?_
 apply kQ
 ·simp (disch:=omega) [go_sem, *,-List.reduceReplicate]
  exact ⟨rfl,rfl,rfl,rfl⟩
 ·simp (disch:=omega) [go_sem, *,-List.reduceReplicate]
 exact W0
theorem zb6 (n:Nat) (h0:0 < n) (hn:n≤100000) (k:Nat):
  ACall prog 157 [.nils,.lit (.int .i64 n)] k [] (.ms k 0 34 0 0) [(k,.mrow 0 34 34 (List.replicate n zDiAV))]:=by
 have h1:¬ ((n:Int) < 0):=by omega
 have h2:(0:Int) < n:=by omega
 have hb:n * 80≤140737488355328:=by omega
 have hz:AV.agg [.nils,.nils,zd zeroTag]=zDiAV:=rfl
 refine Bd func157 ntmps157 fun σ N hp hpn hk hkn hfree=>?_
 refine Wk ?_
 apply kQ
 ·simp (disch:=omega) [go_sem, *,-List.reduceReplicate]
  exact ⟨rfl,rfl,rfl,rfl⟩
 ·simp (disch:=omega) [go_sem, *,-List.reduceReplicate]
 refine Wk ?_
 apply kQ
 ·simp (disch:=omega) [go_sem, *,-List.reduceReplicate]
  exact ⟨rfl,rfl,rfl,rfl⟩
 ·simp (disch:=omega) [go_sem, *,-List.reduceReplicate]
 refine Wk ?_
 apply zlA
 ·(simp (disch:=omega) [go_sem, *,-List.reduceReplicate];try first | rfl | exact ⟨rfl,rfl⟩ | exact ⟨rfl,rfl,rfl⟩)
 refine Wk ?_
 refine zQ (r0:=N+18) (by simp (disch:=omega) [go_sem, *,-List.reduceReplicate];rfl) oo (by simp (disch:=omega) [go_sem];try rfl) (fun id hid=>by simp (disch:=omega) only [zg];try exact hlow id hid) (by simp (disch:=omega) only [zr];rfl) (by simp (disch:=omega) [go_sem])
theorem jF (k:Nat):ACall prog 93 [.slice none [.slice none [],.slice none []]] k [] (.slice none []) []:=by
 have c1:=za9
 refine Bd func93 ntmps93 fun σ N hp hpn hk hkn hfree=>?_
 refine Wk ?_
 refine ze zi (by kernel_rfl) [3,5,11,12,13,14,15,16,17,18,19,20,21,22] [] (fun m_ s_ σ_ n_=>∃ (i:Nat),m_=2 - i∧s_ 11=.lit (.int .i64 i)∧s_ 3=.lit (.int .i64 0)∧(i=0∨i=1∨i=2)) ⟨_,0,rfl,WF,WF,WC⟩ ?_
 intro m_1 s_1 σ_1 n_1 hs_1 hf_1 hn_1 hI_1
 obtain ⟨i,hm_1,h1_11,h1_3,hi⟩:=hI_1
 have h1_0:=KS hs_1 0
 have h1_2:=KS hs_1 2
 have h1_9:=KS hs_1 9
 have h1_10:=KS hs_1 10
 have hlow:=KL (N:=N) (σ:=σ) hf_1
 rcases hi with rfl | rfl | rfl
 ·refine Wk ?_
  exact ⟨WS,WG,WN,_,(show 2 - (1) < m_1 by omega),1,rfl,WF,WF,WC⟩
 ·refine Wk ?_
  exact ⟨WS,WG,WN,_,(show 2 - (2) < m_1 by omega),2,rfl,WF,WF,WC⟩
 ·have hcs:=And.intro c1 True.intro
  refine Wk ?_
  clear hcs
  refine ALoop.nilrow 6 34 34 (by simp (disch:=omega) [go_sem, *,-List.reduceReplicate]) ?_
  refine yn (N) zi (by kernel_rfl) [6,8,27,28,29,30,31,32,33,34] [] (fun m_ s_ σ_ n_=>∃ (i:Nat) (r:Nat),m_=2 - i∧s_ 27=.lit (.int .i64 i)∧s_ 6=.slice (some r) []∧σ_ (r)=.row 34 34 0∧(N+1≤r)∧(r < n_)∧(i=0∨i=1∨i=2)) ⟨_,0,_,rfl,WF,WF,WF,WC,WC,WC⟩ ?_
  intro m_2 s_2 σ_2 n_2 hs_2 hf_2 hn_2 hI_2
  obtain ⟨i,r,hm_2,h2_27,h2_6,e2_0,hNr,hrn,hi⟩:=hI_2
  have h2_2:=KS hs_2 2
  have h2_25:=KS hs_2 25
  have h2_26:=KS hs_2 26
  have hlow:=KL (N:=N) (σ:=σ) hf_2
  rcases hi with rfl | rfl | rfl
  ·refine Wk ?_
   exact ⟨WS,WG,WN,_,(show 2 - (1) < m_2 by omega),1,r,rfl,WF,WF,WF,WC,WC,WC⟩
  ·refine Wk ?_
   exact ⟨WS,WG,WN,_,(show 2 - (2) < m_2 by omega),2,r,rfl,WF,WF,WF,WC,WC,WC⟩
  ·exact WM
theorem jG (a b:List Di) (h0:0 < a.length+b.length) (hl:a.length+b.length≤100000) (k:Nat):
  ACall prog 93 [.slice none [.slice none (a.map zw),.slice none (b.map zw)]] k [] (.slice none ((a++b).map zw)) []:=by
 obtain ⟨la,hla⟩:∃ x,a.length=x:=⟨_,rfl⟩
 obtain ⟨lb,hlb⟩:∃ x,b.length=x:=⟨_,rfl⟩
 rw [hla,hlb] at h0 hl
 have c1:=zb6 (la+lb) h0 hl
 have hab:a.map zw++b.map zw=(a++b).map zw:=by rw [List.map_append]
 have hcl:(a++b).length=la+lb:=by rw [List.length_append,hla,hlb]
 generalize a++b=c at *
 refine Bd func93 ntmps93 fun σ N hp hpn hk hkn hfree=>?_
 refine Wk ?_
 refine ze zi (by kernel_rfl) [3,5,11,12,13,14,15,16,17,18,19,20,21,22] [] (fun m_ s_ σ_ n_=>∃ (i:Nat) (z:Int),m_=2 - i∧s_ 11=.lit (.int .i64 i)∧s_ 3=.lit (.int .i64 z)∧((i=0∧z=0)∨(i=1∧z=la)∨(i=2∧z=la+lb))) ⟨_,0,0,rfl,WF,WF,WC⟩ ?_
 intro m_3 s_3 σ_3 n_3 hs_3 hf_3 hn_3 hI_3
 obtain ⟨i,z,hm_3,h3_11,h3_3,hi⟩:=hI_3
 have h3_0:=KS hs_3 0
 have h3_2:=KS hs_3 2
 have h3_9:=KS hs_3 9
 have h3_10:=KS hs_3 10
 have hlow:=KL (N:=N) (σ:=σ) hf_3
 rcases hi with ⟨rfl,rfl⟩ | ⟨rfl,rfl⟩ | ⟨rfl,rfl⟩
 ·have hz:¬ ((la:Int) < 0):=by omega
  refine Wk ?_
  exact ⟨WS,WG,WN,_,(show 2 - (1) < m_3 by omega),1,la,rfl,WF,WF,WC⟩
 ·have hz:¬ ((la:Int)+lb < 0):=by omega
  refine Wk ?_
  exact ⟨WS,WG,WN,_,(show 2 - (2) < m_3 by omega),2,la+lb,rfl,WF,WF,WC⟩
 ·have hcs:=And.intro c1 True.intro
  refine Wk ?_
  refine ze zi (by kernel_rfl) [6,8,27,28,29,30,31,32,33,34] [n_3+2] (fun m_ s_ σ_ n_=>∃ (i:Nat) (v:Nat) (m:Nat) (xs:List AV),m_=2 - i∧s_ 27=.lit (.int .i64 i)∧s_ 6=.ms (n_3+2) v 34 0 m∧σ_ (n_3+2)=.mrow v 34 34 xs∧((i=0∧v=0∧m=0∧xs=List.replicate (la+lb) zDiAV)∨(i=1∧v=1∧la=m∧xs=a.map zw)∨(i=2∧v=2∧la+lb=m∧xs=c.map zw))) ⟨_,0,0,0,List.replicate (la+lb) zDiAV,rfl,WF,WF,WF,WC⟩ ?_
  intro m_4 s_4 σ_4 n_4 hs_4 hf_4 hn_4 hI_4
  obtain ⟨i,v,m,xs,hm_4,h4_27,h4_6,e4_0,hi⟩:=hI_4
  have h4_2:=KS hs_4 2
  have h4_25:=KS hs_4 25
  have h4_26:=KS hs_4 26
  have hlow:=KL (N:=N) (σ:=σ) hf_4
  rcases hi with ⟨rfl,rfl,rfl,rfl⟩ | ⟨rfl,rfl,rfl,rfl⟩ | ⟨rfl,rfl,rfl,rfl⟩
  ·have hbb:la * 80≤140737488355328:=by omega
   refine Wk ?_
   exact ⟨WS,WG,WN,_,(show 2 - (1) < m_4 by omega),1,1,la,a.map zw,rfl,WF,WF,WF,WC⟩
  ·have ht:(a.map zw).take la=a.map zw:=List.take_of_length_le (by simp [hla])
   have hbb:(la+lb) * 80≤140737488355328:=by omega
   refine Wk ?_
   exact ⟨WS,WG,WN,_,(show 2 - (2) < m_4 by omega),2,2,la+lb,c.map zw,rfl,WF,WF,WF,WC⟩
  ·clear hab
   refine qJ 6 (id:=n_3+2) (xs:=c.map zw) (k:=la+lb) e4_0 h4_6 (by rw [List.length_map,hcl]) ?_
   exact WM
theorem zan (a b:List Di) (hl:a.length+b.length≤100000) (k:Nat):
  ACall prog 93 [.slice none [.slice none (a.map zw),.slice none (b.map zw)]] k [] (.slice none ((a++b).map zw)) []:=by
 by_cases h:0 < a.length+b.length
 ·exact jG a b h hl k
 ·obtain rfl:a=[]:=List.length_eq_zero_iff.1 oo
  obtain rfl:b=[]:=List.length_eq_zero_iff.1 oo
  exact jF k
theorem KnC.learn {q:Kn} (h:KnC q) {p:Pa} (hp:PaC p) {L:List Di} (hL:∀ d∈L,WdT d.ticket d.conds) (h1:q.ps.length < 100000) (h2:q.ds.length+L.length≤100000):KnC ⟨q.ps++[p],q.ds++L,q.bs,q.its⟩:=
 ⟨by simp only [List.length_append,List.length_singleton];omega,fun x hx=>by
  rcases List.mem_append.1 hx with hx | hx
  ·exact h.pc x hx
  ·rw [List.mem_singleton.1 hx];exact hp,by simp only [List.length_append];omega,fun x hx=>by
  rcases List.mem_append.1 hx with hx | hx
  ·exact h.dc x hx
  ·exact hL x hx,h.bl,h.bc,h.il,h.ic⟩
set_option maxHeartbeats 1000000 in
theorem zeQ (q:Kn) (h:KnC q) (p:Pa) (hp:PaC p) (L:List Di) (hL:∀ d∈L,WdT d.ticket d.conds) (h1:q.ps.length < 32) (h2:q.ds.length+L.length≤32) (k:Nat):
  ACall prog 35 [xT q,zG p,.slice none (L.map zw)] k [] (.tup [xT ⟨q.ps++[p],q.ds++L,q.bs,q.its⟩,.lit (.int .i64 0)]) []:=by
 have c1:=zaR q.ps oo
 have c2:=zan q.ds L oo
 have c3:=qN ⟨q.ps++[p],q.ds++L,q.bs,q.its⟩ (h.learn hp hL oo oo)
 clear h hp hL
 obtain ⟨P,D,B,I⟩:=q
 unfold xT at *
 simp only at *
 have hp1:¬ (32:Int)≤(P.length:Int):=by omega
 have hp2:¬ (32:Int) < (D.length:Int)+(L.length:Int):=by omega
 have hb26:(P.length+1) * 72≤140737488355328:=by omega
 have hmm:P.map zG++[zG p]=(P++[p]).map zG:=by simp
 generalize P++[p]=P2 at *
 generalize D++L=D2 at *
 refine Bd func35 ntmps35 fun σ N hp hpn hk hkn hfree=>?_
 have hcs:=And.intro c1 (And.intro c2 (And.intro c3 True.intro))
 clear c1 c2 c3
 refine Wk ?_
 exact WD
def v7 (q:Kn) (p:Pa) (L:List Di):Kn × Nat:=if q.ps.length < 32∧q.ds.length+L.length≤32 then (⟨q.ps++[p],q.ds++L,q.bs,q.its⟩,0) else (⟨[],[],[],[]⟩,2)
theorem zco (p:Pa) (hp:p.cavs.length≤100000∧∀ c∈p.cavs,wY c) (k:Nat):
  ACall prog 35 [xT ⟨[],[],[],[]⟩,zG p,.slice none []] k [] (.tup [xT ⟨[p],[],[],[]⟩,.lit (.int .i64 0)]) []:=
 zeQ ⟨[],[],[],[]⟩ ⟨by simp,fun x hx=>(by cases hx),by simp,fun x hx=>(by cases hx),by simp,fun x hx=>(by cases hx),by simp,fun x hx=>(by cases hx)⟩ p hp [] (fun d hd=>by cases hd) (by simp) (by simp) k
section
variable [W:W32]
set_option maxHeartbeats 8000000 in
theorem zcv (a:Alg) (m:Nat) (ha:AlgIn a m) (hm:m≤900000) (p:Pa) (hpl:p.cavs.length≤10000) (hpc:∀ x∈p.cavs,wY x) (x:Pr) (hx:PrOk x) (h0:(zY a 0 p (zR x)).2.1=0) (q r1 r2 g h k:Nat):
  ACall prog 100 [.ptr q [] 0,zG p,.slice none [zU x]] k (vA a 0 q r1 r2++[(g,yE),(h,zS)]) (zG (zY a 0 p (zR x)).2.2) [(q,zcM (zY a 0 p (zR x)).1 0 r1 r2),(r1,zfk (zY a 0 p (zR x)).1.macs.length)]:=by
 have c1:=jl a m ha hm 0 p hpl hpc (zR x) ⟨by simp [zR],by simp [zR]⟩ hx q r1 r2 g h
 rw [h0] at c1
 have hbx:(zY a 0 p (zR x)).1.boxes=a.boxes:=by unfold zY;simp only [wa]
 generalize zY a 0 p (zR x)=X at *
 obtain ⟨a1,e1,p1⟩:=X
 simp only at c1 hbx h0 ⊢
 have c2:=kF a1 q r1 r2
 have hfA:z8 (zR x)=.agg [.lit (.bool false),zU x,.lit (.int .i64 0),.slice none [],.slice none []]:=rfl
 rw [hfA] at c1
 have hs1:=xv p
 have hs2:=yw p
 have hs3:=xv p1
 have hs4:=yw p1
 clear ha hpl hpc hx h0 hfA
 unfold vA at *
 simp only [List.cons_append,List.nil_append] at *
 simp only [zW,zP,zO,hbx] at *
 have e00:((0:Nat):Int)=0:=rfl
 simp only [e00] at *
 clear e00 hbx
 refine Bd func100 ntmps100 fun σ N hp hpn hk hkn hfree=>?_
 simp only [List.mem_cons,List.not_mem_nil,or_false,forall_eq_or_imp,forall_eq] at hp hpn
 obtain ⟨hd1,hd2,hd3,hd4,hd5⟩:=hp
 obtain ⟨hdn1,hdn2,hdn3,hdn4,hdn5⟩:=hpn
 have hne:q≠r1:=by rintro rfl;rw [hd1] at hd2;cases hd2
 have hne3:q≠r2:=by rintro rfl;rw [hd1] at hd3;cases hd3
 have hneg:g≠q:=by rintro rfl;rw [hd4] at hd1;exact ya hd1
 have hneg1:g≠r1:=by rintro rfl;rw [hd4] at hd2;exact yb hd2
 have hneh:h≠q:=by rintro rfl;rw [hd5] at hd1;exact v8 hd1
 have hneh1:h≠r1:=by rintro rfl;rw [hd5] at hd2;exact v9 hd2
 have hne23:r1≠r2:=by rintro rfl;rw [hd2] at hd3;simp at hd3
 refine Wk ?_
 refine ze zi (by kernel_rfl) [8,9,10,13,14,15,16,17,18,19,20,21,22,23,24,25,26,27,28,29] [N,q,r1] (fun m_ s_ σ_ n_=>∃ (u:Nat) (A:Alg) (P:Pa),m_=1 - u∧s_ 13=.lit (.int .i64 u)∧σ_ (N)=.box 30 (zG P)∧σ_ (q)=.box 249 (.agg [.agg [.lit (.bool A.free),zd A.seed,.lit (.int .i64 A.fresh),.slice (some r1) (A.macs.map zJ),.slice (some r2) (a.boxes.map zo)],.lit (.int .i64 0)])∧σ_ (r1)=.row 190 65 A.macs.length∧((u=0∧A=a∧P=p)∨(u=1∧A=a1∧P=p1))) ⟨_,0,a,p,rfl,WF,WF,WF,WF,WC⟩ ?_
 intro m_5 s_5 σ_5 n_5 hs_5 hf_5 hn_5 hI_5
 obtain ⟨u,A,P,hm_5,h5_13,e5_0,e5_1,e5_2,hu⟩:=hI_5
 have h5_0:=KS hs_5 0
 have h5_4:=KS hs_5 4
 have h5_6:=KS hs_5 6
 have h5_11:=KS hs_5 11
 have h5_12:=KS hs_5 12
 have k5_0:=KE hf_5 (N+1)
 have k5_1:=KE hf_5 (r2)
 have k5_2:=KE hf_5 (g)
 have k5_3:=KE hf_5 (h)
 have hlow:∀ id,id < N→id≠q→id≠r1→σ_5 id=σ id:=fun id hid hdd0 hdd1=>(hf_5.at id oo (by simp [hdd0,hdd1];try omega)).trans (by simp (disch:=omega) only [zg];try first | exact hlow id hid hdd0 hdd1 | exact hlow id hid)
 rcases hu with ⟨rfl,rfl,rfl⟩ | ⟨rfl,rfl,rfl⟩
 ·have hcs:=And.intro c1 (And.intro c2 True.intro)
  clear c1 c2
  refine Wk ?_
  clear hcs
  exact ⟨WS,WG,WN,_,(show 1 - (1) < m_5 by omega),1,a1,p1,rfl,WF,WF,WF,WF,WC⟩
 ·clear c1 c2
  refine Wk ?_
  refine yd [(q,(.box 249 (.agg [.agg [.lit (.bool A.free),zd A.seed,.lit (.int .i64 A.fresh),.slice (some r1) (A.macs.map zJ),.slice (some r2) (a.boxes.map zo)],.lit (.int .i64 0)]))),(r1,(.row 190 65 A.macs.length))] (by simp (disch:=omega) [go_sem, *,-List.reduceReplicate];rfl) (by first | rfl | (simp (disch:=omega) [go_sem];done) | (simp (disch:=omega) [go_sem, *];done) | simp (disch:=omega) [go_sem]) (fun id hid=>by simp only [zF,yi];(by_cases hdd:id=q;(· (subst hdd;simp (disch:=omega) [go_sem, *]));(· (by_cases hdd2:id=r1;(· (subst hdd2;simp (disch:=omega) [go_sem, *]));(· (simp (disch:=omega) only [zg];try (first | exact hlow id hid hdd hdd2 | exact hlow id hid))))))) (by simp) (by simp (disch:=omega) [go_sem, *])
omit W in
theorem zc9 (p:Pa) (k:Nat):ACall prog 61 [.agg [.slice none [zG p],.slice none []],.lit (.int .i64 0)] k [] (.tup [zG p,.lit (.bool true)]) []:=by
 have hs1:=xv p
 have hs2:=yw p
 refine Bd func61 ntmps61 fun σ N hp hpn hk hkn hfree=>?_
 refine Wk ?_
 exact WD
omit W in
theorem zca (p:Pa) (k:Nat):ACall prog 19 [.agg [.slice none [zG p],.slice none []],.lit (.int .i64 0)] k [] (.slice none []) []:=by
 have c1:=zc9 p
 have c2:=yx [] (by simp) (fun d hd=>by cases hd)
 rw [List.map_nil] at c2
 have hs1:=xv p
 have hs2:=yw p
 refine Bd func19 ntmps19 fun σ N hp hpn hk hkn hfree=>?_
 have hcs:=And.intro c1 True.intro
 clear c1
 refine Wk ?_
 clear hcs
 refine ze zi (by kernel_rfl) [7,9,10,11,21,22,23,24,25,26,27,28,29,30,31,32,33,34,35,36,37,38] [] (fun m_ s_ σ_ n_=>∃ (u:Nat),m_=0 - u∧s_ 21=.lit (.int .i64 u)∧s_ 7=.nils∧(u≤0)) ⟨_,0,rfl,WF,WF,WC⟩ ?_
 intro m_6 s_6 σ_6 n_6 hs_6 hf_6 hn_6 hI_6
 obtain ⟨u,hm_6,h6_21,h6_7,hu⟩:=hI_6
 have h6_4:=KS hs_6 4
 have h6_5:=KS hs_6 5
 have h6_19:=KS hs_6 19
 have h6_20:=KS hs_6 20
 have hlow:=KL (N:=N) (σ:=σ) hf_6
 obtain rfl:u=0:=by omega
 have hcs:=And.intro c2 True.intro
 clear c2
 exact WM
omit W in
theorem zbj (p x:Pa) (k:Nat):ACall prog 106 [xT ⟨[p],[],[],[]⟩,zG x] k [] (.slice none []) []:=by
 have c1:=zca x
 have hs1:=xv x
 have hs2:=yw x
 unfold xT
 simp only [List.map_nil,List.map_cons]
 refine Bd func106 ntmps106 fun σ N hp hpn hk hkn hfree=>?_
 have hcs:=And.intro c1 True.intro
 clear c1
 refine Wk ?_
 clear hcs
 refine ze zi (by kernel_rfl) [5,7,15,16,17,18,19,20,21,22,23,24,25,26,27] [] (fun m_ s_ σ_ n_=>∃ (u:Nat),m_=0 - u∧s_ 15=.lit (.int .i64 u)∧s_ 5=.nils∧(u≤0)) ⟨_,0,rfl,WF,WF,WC⟩ ?_
 intro m_7 s_7 σ_7 n_7 hs_7 hf_7 hn_7 hI_7
 obtain ⟨u,hm_7,h7_15,h7_5,hu⟩:=hI_7
 have h7_4:=KS hs_7 4
 have h7_13:=KS hs_7 13
 have h7_14:=KS hs_7 14
 have hlow:=KL (N:=N) (σ:=σ) hf_7
 obtain rfl:u=0:=by omega
 exact WM
set_option maxHeartbeats 4000000 in
theorem zck (a:Alg) (m:Nat) (ha:AlgIn a m) (hm:m≤40000) (p:Pa) (hpl:p.cavs.length≤50) (hpc:∀ x∈p.cavs,wY x) (x:Pr) (hx:PrOk x) (r:Rq) (h0:(zY a 0 p (zR x)).2.1=0)
  (hin:AlgIn (zY a 0 p (zR x)).1 (m+2)) (hb:BuIn (zE (zY a 0 p (zR x)).2.2 [] r)) (hk:yZ (zE (zY a 0 p (zR x)).2.2 [] r)=0) (hcm:∀ c∈(zY a 0 p (zR x)).2.2.cavs,wY c)
  (hbx:(zV (zY a 0 p (zR x)).1 (zY a 0 p (zR x)).2.2 [] r).1.boxes=a.boxes) (g h k:Nat) (_hgh:g≠h):
  ACall prog 49 [zA a,xT ⟨[p],[],[],[]⟩,.lit (.int .i64 0),.slice none [zU x],yD r] k [(g,yE),(h,zS)] (.tup [zA (zV (zY a 0 p (zR x)).1 (zY a 0 p (zR x)).2.2 [] r).1,ye (zV (zY a 0 p (zR x)).1 (zY a 0 p (zR x)).2.2 [] r).2,.lit (.int .i64 0)]) []:=by
 have cb:=wK a (by have:=ha.ml;omega) (by have:=ha.bl;omega)
 have c1:=fun q r1 r2=>zcv a m ha oo p oo hpc x hx h0 q r1 r2 g h
 have c2:=zbj p (zY a 0 p (zR x)).2.2
 have c3:=fun q r1 r2=>kA (zY a 0 p (zR x)).1 (m+2) hin (zY a 0 p (zR x)).2.2 [] r (by simp) oo hb hk hcm (fun d hd=>by cases hd) q r1 r2 g h
 have hbx1:(zY a 0 p (zR x)).1.boxes=a.boxes:=by unfold zY;simp only [wa]
 rw [List.map_nil] at c3
 generalize zV (zY a 0 p (zR x)).1 (zY a 0 p (zR x)).2.2 [] r=Z at *
 generalize zY a 0 p (zR x)=X at *
 obtain ⟨a1,e1,p1⟩:=X
 obtain ⟨a2,b2⟩:=Z
 simp only at *
 have cd:=kF a2
 have hkA:xT ⟨[p],[],[],[]⟩=.agg [.slice none [zG p],.slice none [],.slice none [],.slice none []]:=rfl
 have hs1:=xv p
 have hs2:=yw p
 have hs3:=xv p1
 have hs4:=yw p1
 rw [hkA] at c2 ⊢
 clear ha hpl hpc hx h0 hin hb hk hcm hkA
 unfold zbN at cb
 unfold vA at c1 c3 cd
 simp only [List.cons_append,List.nil_append] at *
 simp only [zW,zP,zO,hbx,hbx1] at *
 refine Bd func49 ntmps49 fun σ N hp hpn hk hkn hfree=>?_
 simp only [List.mem_cons,List.not_mem_nil,or_false,forall_eq_or_imp,forall_eq] at hp hpn;obtain ⟨hd1,hd2⟩:=hp;obtain ⟨hdn1,hdn2⟩:=hpn
 have hcs:=And.intro cb True.intro
 refine Wm ?_
 iterate 3 refine Wz ?_
 clear hcs
 refine zL (N+15+1) [0,3] 190 65 (bt:=249) (c:=.agg [.agg [.lit (.bool a.free),zd a.seed,.lit (.int .i64 a.fresh),.clip (a.macs.map zJ),.clip (a.boxes.map zo)],.lit (.int .i64 ((0:Nat):Int))]) (xs:=a.macs.map zJ) (by simp (disch:=omega) [go_sem, *,-List.reduceReplicate]) rfl (vg _) ?_;refine zL (N+15+1) [0,4] 192 35 (bt:=249) (c:=.agg [.agg [.lit (.bool a.free),zd a.seed,.lit (.int .i64 a.fresh),.slice (some (N+15+3)) (a.macs.map zJ),.clip (a.boxes.map zo)],.lit (.int .i64 ((0:Nat):Int))]) (xs:=a.boxes.map zo) (by simp (disch:=omega) [go_sem, *,-List.reduceReplicate]) rfl (xC _) ?_
 have hcs:=And.intro (c1 (N+15+1) (N+15+3) (N+15+3+1)) (And.intro c2 (And.intro (c3 (N+15+1) (N+15+3) (N+15+3+1)) (And.intro (cd (N+15+1) (N+15+3) (N+15+3+1)) True.intro)))
 clear cb c1 c2 c3 cd
 refine Wk ?_
 exact WD
end
end Go.Proofs.YtglmjglbobhbbaaGreatDoor
namespace Go.Proofs.YtglmjglbobhbbaaGreatDoor
open _root_.Go.Proofs.Tryz
open Go.Ab
attribute [local irreducible] Go.Ab.tyAV Go.Ab.aw Go.Ab.aops Go.Ab.kReg Go.Ab.aThen Go.Ab.aBlk Go.Ab.acond Go.Ab.aguard Go.Ab.astep Go.Ab.AStepX Go.Ab.aRet
structure Wa where
 ps:List Pa
 ds:List Di
def yp (w:Wa):AV:=.agg [.slice none (w.ps.map zG),.slice none (w.ds.map zw)]
@[go_sem] theorem zoQ (k:Wa):(yp k).sz=2:=by simp only [yp,AV.sz,AV.szl]
@[go_sem] theorem zhT (k:Wa):(yp k).isAgg=true:=rfl
@[go_sem] theorem zj9 (k:Wa):(yp k).cell=true:=by simp only [yp,AV.cell,AV.celll,Bool.and_self]
@[go_sem] theorem zmb (f:Nat→Option Nat) (k:Wa):(yp k).ren f=yp k:=by simp only [yp,AV.ren,AV.renl,Option.bind_none,zgY,ze0]
def fdI {α:Type} (q:α→Bool):List α→Nat→Option Nat
 | [],_=>none
 | x::r,u=>if q x=true then some u else fdI q r (u+1)
theorem zci {α:Type} {q:α→Bool}:∀ {l:List α} {u:Nat},(fdI q l u).isSome=l.any q
 | [],u=>rfl
 | x::r,u=>by
  rw [fdI,List.any_cons]
  by_cases hq:q x=true
  ·rw [if_pos hq,hq];rfl
  ·rw [if_neg hq,zci (l:=r)]
   simp only [Bool.not_eq_true] at hq
   rw [hq];rfl
def kx:Option Nat→AV
 | none=>.tup [.lit (.int .i64 0),.lit (.bool false)]
 | some i=>.tup [.lit (.int .i64 i),.lit (.bool true)]
theorem kq (d:Ca) (k:Nat):ACall prog 119 [.iface 140 (z8 d)] k [] (.tup [.slice none (d.ticket.map za),.lit (.bool d.third)]) []:=by
 obtain ⟨th,fi,pa,ti,bx⟩:=d
 have hdA:z8 ⟨th,fi,pa,ti,bx⟩=.agg [.lit (.bool th),zU fi,.lit (.int .i64 pa),.slice none (ti.map za),.slice none (bx.map za)]:=rfl
 have hs:=zlj ⟨th,fi,pa,ti,bx⟩
 have hc:=zgi ⟨th,fi,pa,ti,bx⟩
 rw [hdA] at hs hc ⊢
 refine Bd func119 ntmps119 fun σ N hp hpn hk hkn hfree=>?_
 exact W0
def isT (t:List UInt8) (d:Di):Bool:=decide (d.ticket=t)
def isC (t:List UInt8) (c:Ca):Bool:=c.third && decide (c.ticket=t)
theorem za1 (l:List Ca) (hl:l.length≤1000000) (hc:∀ x∈l,wY x) (t:List UInt8) (ht:t.length≤140737488351232) (k:Nat):
  ACall prog 62 [.slice none (l.map z8),.slice none (t.map za)] k [] (kx (fdI (isC t) l 0)) []:=by
 obtain ⟨R,hR⟩:∃ R,fdI (isC t) l 0=R:=⟨_,rfl⟩
 rw [hR]
 have hdr:l.drop 0=l:=rfl
 refine Bd func62 ntmps62 fun σ N hp hpn hk hkn hfree=>?_
 refine Wk ?_
 refine ze zi (by kernel_rfl) [4,5,6,7,8,9,12,13,14,15,16,17,18,19,20,21,22,23,24,25,26,27,28,29,30] [] (fun m_ s_ σ_ n_=>∃ (u:Nat),m_=l.length - u∧s_ 12=.lit (.int .i64 u)∧(u≤l.length)∧(fdI (isC t) (l.drop u) u=R)) ⟨_,0,rfl,WF,WC,WC⟩ ?_
 intro m_2 s_2 σ_2 n_2 hs_2 hf_2 hn_2 hI_2
 obtain ⟨u,hm_2,h2_12,hu,hno⟩:=hI_2
 have h2_1:=KS hs_2 1
 have h2_10:=KS hs_2 10
 have h2_11:=KS hs_2 11
 have hlow:=KL (N:=N) (σ:=σ) hf_2
 clear hR hdr
 by_cases hul:u=l.length
 ·subst hul
  rw [List.drop_length,fdI] at hno
  subst hno
  unfold kx
  clear hc
  exact W0
 ·have hu1:u < l.length:=by omega
  rw [List.drop_eq_getElem_cons hu1,fdI] at hno
  have hzt:=(hc _ (List.getElem_mem hu1)).1
  obtain ⟨z,hz⟩:∃ z,l[u]=z:=⟨_,rfl⟩
  rw [hz] at hno hzt
  have hzm:(l.map z8)[u]?=some (z8 z):=by rw [List.getElem?_map,List.getElem?_eq_getElem hu1,hz];rfl
  have c1:=kq z
  have c2:=xB z.ticket t hzt ht
  unfold isC at hno
  cases h3:z.third with
  | false=>
   rw [h3,Bool.false_and,if_neg (by simp)] at hno
   rw [h3] at c1
   clear hc c2
   have hcs:=And.intro c1 True.intro
   clear c1
   refine Wk ?_
   clear hcs
   exact ⟨WS,WG,WN,_,(show l.length - (u+1) < m_2 by omega),u+1,rfl,WF,WC,WC⟩
  | true=>
   rw [h3,Bool.true_and] at hno
   rw [h3] at c1
   by_cases hq:z.ticket=t
   ·rw [decide_eq_true hq] at hno c2
    rw [if_pos rfl] at hno
    subst hno
    unfold kx
    clear hc hq
    have hcs:=And.intro c1 (And.intro c2 True.intro)
    clear c1 c2
    exact W0
   ·rw [decide_eq_false hq] at hno c2
    rw [if_neg (by simp)] at hno
    clear hc hq
    have hcs:=And.intro c1 (And.intro c2 True.intro)
    clear c1 c2
    refine Wk ?_
    clear hcs
    exact ⟨WS,WG,WN,_,(show l.length - (u+1) < m_2 by omega),u+1,rfl,WF,WC,WC⟩
@[go_sem] theorem zft (l:List Di):(l.map zw).all (fun x=>x.cell)=true:=by
 rw [List.all_eq_true];intro x hx;obtain ⟨b,_,rfl⟩:=List.mem_map.1 hx;exact zbd b
@[go_sem] theorem zse:zDiAV.sz=34:=by unfold zDiAV;simp [AV.sz,AV.szl,zB]
@[go_sem] theorem zmc:zDiAV.cell=true:=by unfold zDiAV;simp [AV.cell,AV.celll,zj]
structure WaC (w:Wa):Prop where
 pl:w.ps.length≤100000
 pc:∀ p∈w.ps,PaC p
 dl:w.ds.length≤100000
 dc:∀ d∈w.ds,WdT d.ticket d.conds
def w0:Wa:=⟨[],[]⟩
def wW (w:Wa) (p:Pa):Wa × Nat:=if w.ps.length < 32 then (⟨w.ps++[p],w.ds⟩,0) else (w0,2)
def yf (w:Wa) (i:Int):Pa × Bool:=if 0≤i∧i < (w.ps.length:Int) then ((w.ps[i.toNat]?).getD pa0,true) else (pa0,false)
theorem vE {w:Wa} {i:Int}:(yf w i).1=pa0∨(yf w i).1∈w.ps:=by
 unfold yf
 split
 ·rename_i h
  have hi:i.toNat < w.ps.length:=by omega
  rw [List.getElem?_eq_getElem hi,Option.getD_some]
  exact Or.inr (List.getElem_mem _)
 ·exact Or.inl rfl
theorem zfX:PaC pa0:=⟨by simp [pa0],fun c hc=>by simp [pa0] at hc⟩
theorem wA {w:Wa} (h:∀ p∈w.ps,PaC p) (i:Int):PaC (yf w i).1:=by
 rcases vE (w:=w) (i:=i) with h1 | h1
 ·rw [h1];exact zfX
 ·exact h _ h1
theorem vF (w:Wa) (hw:w.ps.length≤1000000) (i:Int) (k:Nat):ACall prog 61 [yp w,.lit (.int .i64 i)] k [] (.tup [zG (yf w i).1,.lit (.bool (yf w i).2)]) []:=by
 obtain ⟨P,D⟩:=w
 unfold yf
 simp only at *
 have h0A:zG pa0=.agg [.lit (.int .i64 0),.lit (.int .i64 0),.slice none [],zd zeroTag]:=rfl
 have hle:AV.le (.tup [.agg [.lit (.int .i64 0),.lit (.int .i64 0),.nils,zd zeroTag],.lit (.bool false)]) (.tup [zG pa0,.lit (.bool false)]):=by
  rw [h0A]
  exact AV.sub_tup (.cons (AV.sub_agg (.cons (AV.le_refl _) (.cons (AV.le_refl _) (.cons AV.le_nils0 (.cons (AV.le_refl _) .nil))))) (.cons (AV.le_refl _) .nil))
 by_cases h1:i < 0
 ·rw [if_neg oo]
  refine ACall.result ?_ hle
  clear hle h0A
  unfold yp
  simp only
  refine Bd func61 ntmps61 fun σ N hp hpn hk hkn hfree=>?_
  exact W0
 ·by_cases h2:(P.length:Int)≤i
  ·rw [if_neg oo]
   refine ACall.result ?_ hle
   clear hle h0A
   unfold yp
   simp only
   refine Bd func61 ntmps61 fun σ N hp hpn hk hkn hfree=>?_
   exact W0
  ·rw [if_pos oo]
   clear hle h0A
   obtain ⟨n,rfl⟩:=Int.eq_ofNat_of_zero_le (show 0≤i by omega)
   have hn:n < P.length:=by omega
   rw [Int.toNat_natCast,List.getElem?_eq_getElem hn,Option.getD_some]
   obtain ⟨z,hz⟩:∃ z,P[n]=z:=⟨_,rfl⟩
   have hzm:(P.map zG)[n]?=some (zG z):=by rw [List.getElem?_map,List.getElem?_eq_getElem hn,hz];rfl
   rw [hz]
   unfold yp
   simp only
   refine Bd func61 ntmps61 fun σ N hp hpn hk hkn hfree=>?_
   exact W0
def jc (p:Pa) (D:List Di):List Di:=D.filter fun d=>p.cavs.any (isC d.ticket)
def zbr (w:Wa) (i:Int):List Di:=jc (yf w i).1 w.ds
theorem zdj {w:Wa} (h:∀ d∈w.ds,WdT d.ticket d.conds) (i:Int):∀ d∈zbr w i,WdT d.ticket d.conds:=fun d hd=>h d (List.mem_filter.1 hd).1
theorem kK {w:Wa} (i:Int):(zbr w i).length≤w.ds.length:=List.length_filter_le ..
set_option maxHeartbeats 4000000 in
theorem we (w:Wa) (h:WaC w) (i:Int) (k:Nat):ACall prog 19 [yp w,.lit (.int .i64 i)] k [] (.slice none ((zbr w i).map zw)) []:=by
 have c1:=vF w (by have:=h.pl;omega) i
 have hpz:=wA h.pc i
 have c3:=yx (zbr w i) (by have:=kK (w:=w) i;have:=h.dl;omega) (zdj h.dc i)
 unfold zbr at *
 generalize yf w i=X at *
 obtain ⟨p,b⟩:=X
 have hdl:=h.dl
 have hdc:=h.dc
 clear h
 simp only at *
 have c2:=fun (d:Di) (hd:WdT d.ticket d.conds)=>za1 p.cavs (by have:=hpz.1;omega) hpz.2 d.ticket hd.1
 clear hpz
 have hpA:zG p=.agg [.lit (.int .i64 p.epoch),.lit (.int .i64 p.serial),.slice none (p.cavs.map z8),zd p.tag]:=rfl
 obtain ⟨P,D⟩:=w
 unfold yp at *
 simp only at *
 rw [hpA] at c1
 clear hpA
 obtain ⟨M,hM⟩:∃ M,jc p (D.drop 0)=M:=⟨_,rfl⟩
 rw [show jc p D=M from hM] at c3 ⊢
 refine Bd func19 ntmps19 fun σ N hp hpn hk hkn hfree=>?_
 have hcs:=And.intro c1 True.intro
 clear c1
 refine Wk ?_
 clear hcs
 refine ALoop.nilrow 7 34 34 (by simp (disch:=omega) [go_sem, *,-List.reduceReplicate]) ?_
 refine yn (N) zi (by kernel_rfl) [7,9,10,11,21,22,23,24,25,26,27,28,29,30,31,32,33,34,35,36,37,38] [] (fun m_ s_ σ_ n_=>∃ (u:Nat) (r:Nat) (acc:List Di),m_=D.length - u∧s_ 21=.lit (.int .i64 u)∧s_ 7=.slice (some r) (acc.map zw)∧σ_ (N)=.box 25 (.agg [.slice none (P.map zG),.slice none (D.map zw)])∧σ_ (N+2+6)=.box 30 (.agg [.lit (.int .i64 p.epoch),.lit (.int .i64 p.serial),.slice none (p.cavs.map z8),zd p.tag])∧σ_ (r)=.row 34 34 acc.length∧(N+16≤r)∧(r < n_)∧(u≤D.length)∧(acc.length≤u)∧(acc++jc p (D.drop u)=M)) ⟨_,0,_,[],rfl,WF,WF,WF,WF,WF,WC,WC,WC,WC,WC⟩ ?_
 intro m_2 s_2 σ_2 n_2 hs_2 hf_2 hn_2 hI_2
 obtain ⟨u,r,acc,hm_2,h2_21,h2_7,e2_0,e2_1,e2_2,hNr,hrn,hu,hal,hacc⟩:=hI_2
 have h2_4:=KS hs_2 4
 have h2_5:=KS hs_2 5
 have h2_19:=KS hs_2 19
 have h2_20:=KS hs_2 20
 have hlow:=KL (N:=N) (σ:=σ) hf_2
 clear hM
 by_cases hul:u=D.length
 ·subst hul
  rw [List.drop_length] at hacc
  simp only [jc,List.filter_nil,List.append_nil] at hacc
  subst hacc
  clear hdc c2
  have hcs:=And.intro c3 True.intro
  clear c3
  exact WM
 ·have hu1:u < D.length:=by omega
  have hzd:=hdc _ (List.getElem_mem hu1)
  rw [List.drop_eq_getElem_cons hu1] at hacc
  obtain ⟨z,hz⟩:∃ z,D[u]=z:=⟨_,rfl⟩
  rw [hz] at hacc hzd
  have c4:=c2 z hzd
  have hzA:zw z=.agg [.slice none (z.ticket.map za),.slice none (z.conds.map zU),zd z.tag]:=rfl
  have hzm:(D.map zw)[u]?=some (.agg [.slice none (z.ticket.map za),.slice none (z.conds.map zU),zd z.tag]):=by rw [List.getElem?_map,List.getElem?_eq_getElem hu1,hz];rfl
  have ha:=zci (q:=isC z.ticket) (l:=p.cavs) (u:=0)
  have hb80:(acc.length+1) * 80≤140737488355328:=by omega
  unfold jc at hacc
  rw [List.filter_cons] at hacc
  rcases hf:fdI (isC z.ticket) p.cavs 0 with _ | ix
  ·rw [hf] at ha c4
   simp only [Option.isSome_none] at ha
   rw [← ha] at hacc
   simp only [Bool.false_eq_true,if_false] at hacc
   unfold kx at c4
   clear hdc c2 c3 hzd hf ha
   have hcs:=And.intro c4 True.intro
   clear c4
   refine Wk ?_
   clear hcs
   exact ⟨WS,WG,WN,_,(show D.length - (u+1) < m_2 by omega),u+1,r,acc,rfl,WF,WF,WF,WF,WF,WC,WC,WC,WC,WC⟩
  ·rw [hf] at ha c4
   simp only [Option.isSome_some] at ha
   rw [← ha] at hacc
   simp only [if_true] at hacc
   have hacc2:acc++[z]++List.filter (fun d=>p.cavs.any (isC d.ticket)) (D.drop (u+1))=M:=by rw [← hacc];simp
   have hmm:acc.map zw++[zw z]=(acc++[z]).map zw:=by simp
   have hll:(acc++[z]).length=acc.length+1:=by simp
   generalize hac:acc++[z]=acc2 at *
   rw [hzA] at hmm
   unfold kx at c4
   clear hdc c2 c3 hzd hf ha hacc
   have hcs:=And.intro c4 True.intro
   clear c4
   refine Wk ?_
   clear hcs
   exact ⟨WS,WG,WN,_,(show D.length - (u+1) < m_2 by omega),u+1,r,acc2,rfl,WF,WF,WF,WF,WF,WC,WC,WC,WC,WC⟩
theorem zow (q:Kn) (b:Bu) (hl:q.bs.length < 64) (k:Nat):ACall prog 33 [xT q,ye b] k [] (xT ⟨q.ps,q.ds,q.bs++[b],q.its⟩) []:=by
 obtain ⟨P,D,B,I⟩:=q
 unfold xT
 simp only at *
 have hb26:(B.length+1) * 112≤140737488355328:=by omega
 have hb27:B.length * 112≤140737488355328:=by omega
 have hli:¬ (64:Int) < (B.length:Int)+1:=by omega
 have hmm:B.map ye++[ye b]=(B++[b]).map ye:=by simp
 have hll:(B++[b]).length=B.length+1:=by simp
 generalize B++[b]=L2 at *
 refine Bd func33 ntmps33 fun σ N hp hpn hk hkn hfree=>?_
 exact WA
theorem zov (q:Kn) (b:Bu) (hl:64≤q.bs.length) (hl2:q.bs.length≤100000) (k:Nat):ACall prog 33 [xT q,ye b] k [] (xT ⟨q.ps,q.ds,(q.bs++[b]).drop 1,q.its⟩) []:=by
 obtain ⟨P,D,B,I⟩:=q
 unfold xT
 simp only at *
 have hb26:(B.length+1) * 112≤140737488355328:=by omega
 have hb27:B.length * 112≤140737488355328:=by omega
 have hli:(64:Int) < (B.length:Int)+1:=by omega
 have hmm:B.map ye++[ye b]=(B++[b]).map ye:=by simp
 have hll:(B++[b]).length=B.length+1:=by simp
 have hdd:((B++[b]).map ye).drop 1=((B++[b]).drop 1).map ye:=by rw [List.map_drop]
 have hdk:((B++[b]).map ye).take (B.length+1)=(B++[b]).map ye:=List.take_of_length_le (by simp)
 have hd2:((B++[b]).map ye).tail=((B++[b]).drop 1).map ye:=by rw [← hdd,List.drop_one]
 have hd3:(B++[b]).tail=(B++[b]).drop 1:=by rw [List.drop_one]
 have hdl:((B++[b]).drop 1).length=B.length:=by simp
 generalize (B++[b]).drop 1=L3 at *
 generalize B++[b]=L2 at *
 refine Bd func33 ntmps33 fun σ N hp hpn hk hkn hfree=>?_
 exact WA
theorem zeD (q:Kn) (b:Bu) (hl2:q.bs.length≤100000) (k:Nat):ACall prog 33 [xT q,ye b] k [] (xT ⟨q.ps,q.ds,xy q.bs b,q.its⟩) []:=by
 unfold xy
 by_cases h:q.bs.length < 64
 ·rw [if_pos h];exact zow q b h k
 ·rw [if_neg h];exact zov q b oo hl2 k
theorem zjN (q:Kn) (b:It) (hl:q.its.length < 64) (k:Nat):ACall prog 32 [xT q,xm b] k [] (xT ⟨q.ps,q.ds,q.bs,q.its++[b]⟩) []:=by
 obtain ⟨P,D,C,B⟩:=q
 unfold xT
 simp only at *
 have hb26:(B.length+1) * 112≤140737488355328:=by omega
 have hb27:B.length * 112≤140737488355328:=by omega
 have hli:¬ (64:Int) < (B.length:Int)+1:=by omega
 have hmm:B.map xm++[xm b]=(B++[b]).map xm:=by simp
 have hll:(B++[b]).length=B.length+1:=by simp
 generalize B++[b]=L2 at *
 refine Bd func32 ntmps32 fun σ N hp hpn hk hkn hfree=>?_
 exact WA
theorem zjM (q:Kn) (b:It) (hl:64≤q.its.length) (hl2:q.its.length≤100000) (k:Nat):ACall prog 32 [xT q,xm b] k [] (xT ⟨q.ps,q.ds,q.bs,(q.its++[b]).drop 1⟩) []:=by
 obtain ⟨P,D,C,B⟩:=q
 unfold xT
 simp only at *
 have hb26:(B.length+1) * 112≤140737488355328:=by omega
 have hb27:B.length * 112≤140737488355328:=by omega
 have hli:(64:Int) < (B.length:Int)+1:=by omega
 have hmm:B.map xm++[xm b]=(B++[b]).map xm:=by simp
 have hll:(B++[b]).length=B.length+1:=by simp
 have hdd:((B++[b]).map xm).drop 1=((B++[b]).drop 1).map xm:=by rw [List.map_drop]
 have hdk:((B++[b]).map xm).take (B.length+1)=(B++[b]).map xm:=List.take_of_length_le (by simp)
 have hd2:((B++[b]).map xm).tail=((B++[b]).drop 1).map xm:=by rw [← hdd,List.drop_one]
 have hd3:(B++[b]).tail=(B++[b]).drop 1:=by rw [List.drop_one]
 have hdl:((B++[b]).drop 1).length=B.length:=by simp
 generalize (B++[b]).drop 1=L3 at *
 generalize B++[b]=L2 at *
 refine Bd func32 ntmps32 fun σ N hp hpn hk hkn hfree=>?_
 exact WA
theorem zcu (q:Kn) (b:It) (hl2:q.its.length≤100000) (k:Nat):ACall prog 32 [xT q,xm b] k [] (xT ⟨q.ps,q.ds,q.bs,xy q.its b⟩) []:=by
 unfold xy
 by_cases h:q.its.length < 64
 ·rw [if_pos h];exact zjN q b h k
 ·rw [if_neg h];exact zjM q b oo hl2 k
theorem zeC (q:Kn) (p:Pa) (L:List Di) (h1:q.ps.length < 32) (h2:q.ds.length+L.length≤32) (k:Nat):
  ACall prog 34 [xT q,zG p,.slice none (L.map zw)] k [] (.tup [xT ⟨q.ps++[p],q.ds++L,q.bs,q.its⟩,.lit (.int .i64 0)]) []:=by
 obtain ⟨P,D,B,I⟩:=q
 unfold xT
 simp only at *
 have hp1:¬ (32:Int) < (P.length:Int)+1:=by omega
 have hp2:¬ (32:Int) < (D.length:Int)+(L.length:Int):=by omega
 have hb1:(P.length+1) * 72≤140737488355328:=by omega
 have hb2:P.length * 72≤140737488355328:=by omega
 have hb3:D.length * 80≤140737488355328:=by omega
 have hb4:(D.length+L.length) * 80≤140737488355328:=by omega
 have hmm:P.map zG++[zG p]=(P++[p]).map zG:=by simp
 have hmd:D.map zw++L.map zw=(D++L).map zw:=by simp
 generalize P++[p]=P2 at *
 generalize D++L=D2 at *
 refine Bd func34 ntmps34 fun σ N hp hpn hk hkn hfree=>?_
 refine Wk ?_
 exact WD
theorem zhO (q:Kn) (p:Pa) (L:List Di) (hL:L.length≤1000000) (h:32≤q.ps.length∨32 < q.ds.length+L.length) (hp:q.ps.length≤1000000) (hd:q.ds.length≤1000000) (k:Nat):
  ACall prog 34 [xT q,zG p,.slice none (L.map zw)] k [] (.tup [.agg [.nils,.nils,.nils,.nils],.lit (.int .i64 2)]) []:=by
 obtain ⟨P,D,B,I⟩:=q
 unfold xT at *
 simp only at *
 by_cases h1:32≤P.length
 ·have hp1:(32:Int) < (P.length:Int)+1:=by omega
  refine Bd func34 ntmps34 fun σ N hp hpn hk hkn hfree=>?_
  exact W0
 ·have hp1:¬ (32:Int) < (P.length:Int)+1:=by omega
  have hp2:(32:Int) < (D.length:Int)+(L.length:Int):=by omega
  refine Bd func34 ntmps34 fun σ N hp hpn hk hkn hfree=>?_
  exact W0
theorem zct (q:Kn) (hp:q.ps.length≤1000000) (hd:q.ds.length≤1000000) (p:Pa) (L:List Di) (hl:L.length≤1000000) (k:Nat):
  ACall prog 34 [xT q,zG p,.slice none (L.map zw)] k [] (.tup [xT (v7 q p L).1,.lit (.int .i64 (v7 q p L).2)]) []:=by
 unfold v7
 by_cases hc:q.ps.length < 32∧q.ds.length+L.length≤32
 ·rw [if_pos hc];exact zeC q p L hc.1 hc.2 k
 ·rw [if_neg hc]
  exact (zhO q p L hl oo hp hd k).result (AV.sub_tup (.cons (AV.sub_agg (.cons AV.le_nils0 (.cons AV.le_nils0 (.cons AV.le_nils0 (.cons AV.le_nils0 .nil))))) (.cons (AV.le_refl _) .nil)))
attribute [local irreducible] yE
section
variable [W:W32]
def wj (a:Alg) (p:Pa):List Pr→Alg × Nat × Pa
 | []=>(a,0,p)
 | x::r=>if (zY a 0 p (zR x)).2.1=0 then wj (zY a 0 p (zR x)).1 (zY a 0 p (zR x)).2.2 r else zY a 0 p (zR x)
theorem vz (a:Alg) (e:Nat) (p:Pa) (c:Ca):(zY a e p c).1.boxes=a.boxes:=by unfold zY;simp only [wa]
theorem vN (a:Alg) (e:Nat) (p:Pa) (c:Ca):(zY a e p c).2.2.cavs=p.cavs++[c]:=rfl
theorem zbM {a:Alg} {m:Nat} (h:AlgIn a m) (e:Nat) (p:Pa) (c:Ca):AlgIn (zY a e p c).1 (m+2):=zdE h _ _ _
theorem wb:∀ (l:List Pr) (a:Alg) (p:Pa),(wj a p l).1.boxes=a.boxes
 | [],a,p=>rfl
 | x::r,a,p=>by
  rw [wj]
  split
  ·rw [wb r,vz]
  ·exact vz a 0 p _
theorem jR:∀ (l:List Pr) (a:Alg) (p:Pa),yT a p l=if (wj a p l).2.1=0 then ((wj a p l).1,(wj a p l).2.2,0) else (wZ,pa0,(wj a p l).2.1)
 | [],a,p=>rfl
 | x::r,a,p=>by
  rw [yT,wj,zau]
  by_cases h:(zY a 0 p (zR x)).2.1=0
  ·rw [if_pos h,if_pos h,if_pos rfl]
   exact jR r _ _
  ·rw [if_neg h,if_neg h,if_neg h,if_neg h]
theorem zrV:∀ (l:List Pr) (a:Alg) (p:Pa) (m:Nat),AlgIn a m→AlgIn (wj a p l).1 (m+2 * l.length)
 | [],a,p,m,h=>h
 | x::r,a,p,m,h=>by
  rw [wj]
  split
  ·have:=zrV r _ (zY a 0 p (zR x)).2.2 _ (zbM h 0 p (zR x))
   rw [show m+2 * (x::r).length=m+2+2 * r.length by simp only [List.length_cons];omega]
   exact this
  ·exact (zbM h 0 p (zR x)).more (by simp only [List.length_cons];omega)
theorem kW:∀ (l:List Pr) (a:Alg) (p:Pa),(wj a p l).2.2.cavs.length≤p.cavs.length+l.length∧∀ c∈(wj a p l).2.2.cavs,c∈p.cavs∨∃ x∈l,c=zR x
 | [],a,p=>⟨by simp [wj],fun c hc=>Or.inl hc⟩
 | x::r,a,p=>by
  rw [wj]
  split
  ·obtain ⟨h1,h2⟩:=kW r (zY a 0 p (zR x)).1 (zY a 0 p (zR x)).2.2
   rw [vN,List.length_append,List.length_singleton] at h1
   refine ⟨by simp only [List.length_cons];omega,fun c hc=>?_⟩
   rcases h2 c hc with h | ⟨y,hy,h⟩
   ·rw [vN] at h
    rcases List.mem_append.1 h with h | h
    ·exact Or.inl h
    ·exact Or.inr ⟨x,List.mem_cons_self ..,List.mem_singleton.1 h⟩
   ·exact Or.inr ⟨y,List.mem_cons_of_mem _ hy,h⟩
  ·rw [vN,List.length_append,List.length_singleton]
   refine ⟨by simp only [List.length_cons];omega,fun c hc=>?_⟩
   rcases List.mem_append.1 hc with h | h
   ·exact Or.inl h
   ·exact Or.inr ⟨x,List.mem_cons_self ..,List.mem_singleton.1 h⟩
set_option maxHeartbeats 16000000 in
theorem zdI (a:Alg) (m:Nat) (ha:AlgIn a m) (l:List Pr) (hl:l.length≤1000) (hm:m≤100000) (p:Pa) (hpl:p.cavs.length≤1000) (hpc:∀ x∈p.cavs,wY x) (hlk:∀ x∈l,PrOk x) (q r1 r2 g h k:Nat):
  ACall prog 100 [.ptr q [] 0,zG p,.slice none (l.map zU)] k (vA a 0 q r1 r2++[(g,yE),(h,zS)]) (zG (wj a p l).2.2) [(q,zcM (wj a p l).1 (wj a p l).2.1 r1 r2),(r1,zfk (wj a p l).1.macs.length)]:=by
 have hRb:=wb l a p
 obtain ⟨R,hR⟩:∃ R,wj a p (l.drop 0)=R:=⟨_,rfl⟩
 rw [show wj a p l=R from hR] at hRb ⊢
 obtain ⟨Ra,Re,Rp⟩:=R
 simp only at hRb ⊢
 obtain ⟨BX,hBX⟩:∃ x,a.boxes=x:=⟨_,rfl⟩
 rw [hBX] at hRb
 unfold vA
 simp only [List.cons_append,List.nil_append]
 simp only [zW,zP,zO,hRb,hBX]
 have e00:((0:Nat):Int)=0:=rfl
 simp only [e00]
 refine Bd func100 ntmps100 fun σ N hp hpn hk hkn hfree=>?_
 simp only [List.mem_cons,List.not_mem_nil,or_false,forall_eq_or_imp,forall_eq] at hp hpn
 obtain ⟨hd1,hd2,hd3,hd4,hd5⟩:=hp
 obtain ⟨hdn1,hdn2,hdn3,hdn4,hdn5⟩:=hpn
 have hne:q≠r1:=by rintro rfl;rw [hd1] at hd2;cases hd2
 have hne3:q≠r2:=by rintro rfl;rw [hd1] at hd3;cases hd3
 have hneg:g≠q:=by rintro rfl;rw [hd4] at hd1;exact ya hd1
 have hneg1:g≠r1:=by rintro rfl;rw [hd4] at hd2;exact yb hd2
 have hneh:h≠q:=by rintro rfl;rw [hd5] at hd1;exact v8 hd1
 have hneh1:h≠r1:=by rintro rfl;rw [hd5] at hd2;exact v9 hd2
 have hne23:r1≠r2:=by
  rintro rfl
  rw [hd2] at hd3
  simp at hd3
 refine Wk ?_
 refine ze zi (by kernel_rfl) [8,9,10,13,14,15,16,17,18,19,20,21,22,23,24,25,26,27,28,29] [N,q,r1] (fun m_ s_ σ_ n_=>∃ (u:Nat) (A:Alg) (P:Pa),m_=l.length - u∧s_ 13=.lit (.int .i64 u)∧σ_ (N)=.box 30 (zG P)∧σ_ (q)=.box 249 (.agg [.agg [.lit (.bool A.free),zd A.seed,.lit (.int .i64 A.fresh),.slice (some r1) (A.macs.map zJ),.slice (some r2) (BX.map zo)],.lit (.int .i64 0)])∧σ_ (r1)=.row 190 65 A.macs.length∧(u≤l.length)∧(AlgIn A (m+2 * u))∧(A.boxes=BX)∧(P.cavs.length≤p.cavs.length+u)∧(∀ x∈P.cavs,wY x)∧(wj A P (l.drop u)=(Ra,Re,Rp))) ⟨_,0,a,p,rfl,WF,WF,WF,WF,WC,WC,WC,WC,WC,WC⟩ ?_
 intro m_3 s_3 σ_3 n_3 hs_3 hf_3 hn_3 hI_3
 obtain ⟨u,A,P,hm_3,h3_13,e3_0,e3_1,e3_2,hu,hA,hAb,hPl,hPc,hres⟩:=hI_3
 have h3_0:=KS hs_3 0
 have h3_4:=KS hs_3 4
 have h3_6:=KS hs_3 6
 have h3_11:=KS hs_3 11
 have h3_12:=KS hs_3 12
 have k3_0:=KE hf_3 (N+1)
 have k3_1:=KE hf_3 (r2)
 have k3_2:=KE hf_3 (g)
 have k3_3:=KE hf_3 (h)
 have hlow:∀ id,id < N→id≠q→id≠r1→σ_3 id=σ id:=fun id hid hdd0 hdd1=>(hf_3.at id oo (by simp [hdd0,hdd1];try omega)).trans (by simp (disch:=omega) only [zg];try first | exact hlow id hid hdd0 hdd1 | exact hlow id hid)
 clear hR ha hpc
 by_cases hul:u=l.length
 ·subst hul
  rw [List.drop_length,wj] at hres
  simp only [Prod.mk.injEq] at hres
  obtain ⟨rfl,rfl,rfl⟩:=hres
  clear hlk hA hPc
  refine Wk ?_
  refine yd [(q,(.box 249 (.agg [.agg [.lit (.bool A.free),zd A.seed,.lit (.int .i64 A.fresh),.slice (some r1) (A.macs.map zJ),.slice (some r2) (BX.map zo)],.lit (.int .i64 0)]))),(r1,(.row 190 65 A.macs.length))] (by simp (disch:=omega) [go_sem, *,-List.reduceReplicate];rfl) (by first | rfl | (simp (disch:=omega) [go_sem];done) | (simp (disch:=omega) [go_sem, *];done) | simp (disch:=omega) [go_sem]) (fun id hid=>by simp only [zF,yi];(by_cases hdd:id=q;(· (subst hdd;simp (disch:=omega) [go_sem, *]));(· (by_cases hdd2:id=r1;(· (subst hdd2;simp (disch:=omega) [go_sem, *]));(· (simp (disch:=omega) only [zg];try (first | exact hlow id hid hdd hdd2 | exact hlow id hid))))))) (by simp) (by simp (disch:=omega) [go_sem, *])
 ·have hu1:u < l.length:=by omega
  rw [List.drop_eq_getElem_cons hu1,wj] at hres
  have hx:=hlk _ (List.getElem_mem hu1)
  obtain ⟨x,hxe⟩:∃ x,l[u]=x:=⟨_,rfl⟩
  rw [hxe] at hres hx
  have hxm:(l.map zU)[u]?=some (zU x):=by rw [List.getElem?_map,List.getElem?_eq_getElem hu1,hxe];rfl
  have c1:=jl A (m+2 * u) hA oo 0 P oo hPc (zR x) ⟨by simp [zR],by simp [zR]⟩ hx q r1 r2 g h
  have hin:=zbM hA 0 P (zR x)
  have hbx:=vz A 0 P (zR x)
  have hcv:=vN A 0 P (zR x)
  generalize zY A 0 P (zR x)=X at *
  obtain ⟨a1,e1,p1⟩:=X
  simp only at c1 hbx hin hcv hres
  have hp1l:p1.cavs.length≤p.cavs.length+(u+1):=by rw [hcv,List.length_append,List.length_singleton];omega
  have hp1c:∀ y∈p1.cavs,wY y:=fun y hy=>by
   rw [hcv] at hy
   rcases List.mem_append.1 hy with hy | hy
   ·exact hPc y hy
   ·rw [List.mem_singleton.1 hy];exact ⟨by simp [zR],by simp [zR]⟩
  have hfA:z8 (zR x)=.agg [.lit (.bool false),zU x,.lit (.int .i64 0),.slice none [],.slice none []]:=rfl
  rw [hfA] at c1
  have hs1:=xv P
  have hs2:=yw P
  have hs3:=xv p1
  have hs4:=yw p1
  have hin2:AlgIn a1 (m+2 * (u+1)):=hin.more oo
  have hb2:a1.boxes=BX:=hbx.trans hAb
  clear hA hPl hPc hx hfA hlk hin hcv
  by_cases he:e1=0
  ·subst he
   have c2:=kF a1 q r1 r2
   unfold vA at c1 c2
   simp only [List.cons_append,List.nil_append] at c1 c2
   simp only [zW,zP,zO,hb2,hAb,e00] at c1 c2
   simp only [↓reduceIte] at hres
   have hcs:=And.intro c1 (And.intro c2 True.intro)
   clear c1 c2
   refine Wk ?_
   clear hcs
   exact ⟨WS,WG,WN,_,(show l.length - (u+1) < m_3 by omega),u+1,a1,p1,rfl,WF,WF,WF,WF,WC,WC,WC,WC,WC,WC⟩
  ·have c2:=qP a1 e1 he q r1 r2
   unfold vA at c1 c2
   simp only [List.cons_append,List.nil_append] at c1 c2
   simp only [zW,zP,zO,hb2,hAb,e00] at c1 c2
   simp only [if_neg he,Prod.mk.injEq] at hres
   obtain ⟨rfl,rfl,rfl⟩:=hres
   have he3:((e1:Int) != 0)=true:=by rw [bne_iff_ne];omega
   clear hp1l hp1c hin2
   have hcs:=And.intro c1 (And.intro c2 True.intro)
   clear c1 c2
   refine Wk ?_
   refine yd [(q,(.box 249 (.agg [.agg [.lit (.bool a1.free),zd a1.seed,.lit (.int .i64 a1.fresh),.slice (some r1) (a1.macs.map zJ),.slice (some r2) (BX.map zo)],.lit (.int .i64 e1)]))),(r1,(.row 190 65 a1.macs.length))] (by simp (disch:=omega) [go_sem, *,-List.reduceReplicate];rfl) (by first | rfl | (simp (disch:=omega) [go_sem];done) | (simp (disch:=omega) [go_sem, *];done) | simp (disch:=omega) [go_sem]) (fun id hid=>by simp only [zF,yi];(by_cases hdd:id=q;(· (subst hdd;simp (disch:=omega) [go_sem, *]));(· (by_cases hdd2:id=r1;(· (subst hdd2;simp (disch:=omega) [go_sem, *]));(· (simp (disch:=omega) only [zg];try (first | exact hlow id hid hdd hdd2 | exact hlow id hid))))))) (by simp) (by simp (disch:=omega) [go_sem, *])
end
def w3P:Pr:=⟨4,0,0,3000,[],0⟩
section
variable [W:W32]
theorem AlgOk.node0 {a:Alg} (h:AlgOk a) (key:Tg) (msg:List UInt8):AlgOk (xS a key msg).1:=by
 unfold xS
 split
 ·split
  ·exact (h.mac _ _).mac _ _
  ·exact AlgOk.zero
 ·exact AlgOk.zero
theorem AlgOk.att {a:Alg} (h:AlgOk a) (p:Pa) (c:Ca):AlgOk (zba a p c).1:=by
 unfold zba
 split
 ·exact AlgOk.zero
 ·split
  ·exact AlgOk.zero
  ·split
   ·exact h.node0 _ _
   ·exact AlgOk.zero
theorem AlgOk.nar:∀ {l:List Pr} {a:Alg} (_:AlgOk a) (p:Pa),AlgOk (yT a p l).1
 | [],_,h,_=>h
 | x::r,a,h,p=>by
  unfold yT
  split
  ·exact AlgOk.nar (l:=r) (h.att _ _) _
  ·exact AlgOk.zero
theorem AlgOk.restr {a:Alg} (h:AlgOk a) (d:Di) (p:Pr):AlgOk (wD a d p).1:=by
 unfold wD
 split
 ·exact AlgOk.zero
 ·split
  ·exact AlgOk.zero
  ·split
   ·exact AlgOk.zero
   ·split
    ·exact h.mac _ _
    ·exact AlgOk.zero
theorem AlgOk.blank {a:Alg} (h:AlgOk a) (c:Co) (t:Te):AlgOk (zax a c t).1:=by
 unfold zax
 split
 ·exact AlgOk.zero
 ·split
  ·split
   ·exact h.key.sealed _ _ _
   ·exact AlgOk.zero
  ·exact AlgOk.zero
theorem AlgOk.addT {a:Alg} (h:AlgOk a) (p:Pa) (b:Bl):AlgOk (zbq a p b).1:=by
 unfold zbq
 split
 ·split
  ·exact ((h.mac _ _).sealed _ _ _).att _ _
  ·exact AlgOk.zero
 ·exact AlgOk.zero
theorem AlgOk.grant {a:Alg} (h:AlgOk a) (c:Co) (t holder:List UInt8) (mi:Int):AlgOk (zaD a c t holder mi).1:=by
 unfold zaD
 split
 ·exact AlgOk.zero
 ·split
  ·exact AlgOk.zero
  ·split
   ·exact AlgOk.zero
   ·split
    ·exact AlgOk.zero
    ·split
     ·exact AlgOk.zero
     ·split
      ·exact (h.mac _ _).restr _ _
      ·exact AlgOk.zero
theorem zbz:∀ {l:List Pr} {a:Alg} {m:Nat} (_:AlgIn a m) (p:Pa),AlgIn (yT a p l).1 (m+2 * l.length)
 | [],_,_,h,_=>h
 | x::r,a,m,h,p=>by
  unfold yT
  split
  ·have:=zbz (l:=r) (zhi h p (zR x)) (zba a p (zR x)).2.1
   rw [show m+2 * (x::r).length=m+2+2 * r.length by simp;omega]
   exact this
  ·exact xE _
theorem zaJ:∀ {l:List Pr} {a:Alg} (p:Pa),(yT a p l).2.1.cavs.length≤p.cavs.length+l.length
 | [],_,_=>Nat.le_refl _
 | x::r,a,p=>by
  unfold yT
  split
  ·have:=zaJ (l:=r) (a:=(zba a p (zR x)).1) (zba a p (zR x)).2.1
   have h2:=zbJ (a:=a) (p:=p) (c:=zR x)
   rw [List.length_cons]
   omega
  ·simp [pa0]
theorem zaW {a:Alg} {p:Pa} {b:Bl}:(zbq a p b).2.1.cavs.length≤p.cavs.length+1:=by
 unfold zbq
 split
 ·split
  ·exact zbJ
  ·simp [pa0]
 ·simp [pa0]
structure SoW (S:Ss) (n m:Nat):Prop where
 ain:AlgIn S.A m
 ok:AlgOk S.A
 cl:S.p.cavs.length≤n
 gl:S.gs.length≤n
def zf1 (l:List Int):Nat→Nat→Alg→Di→(Alg × Di × Nat)→Prop
 | 0,j,A,g,R=>R=(A,g,j)
 | f+1,j,A,g,R=>∃ p j1,PRD l j false p j1∧zf1 l f j1 (wD A g w3P).1 (wD A g w3P).2.1 R
theorem zaL {l:List Int}:∀ (f j:Nat) (A:Alg) (g:Di) (R:Alg × Di × Nat) (m:Nat),zf1 l f j A g R→Dk l j→AlgIn A m→AlgOk A→Dk l R.2.2∧AlgIn R.1 (m+f)∧AlgOk R.1
 | 0,j,A,g,R,m,hR,h,ha,ok=>by
  have hR:R=(A,g,j):=hR
  subst hR
  exact ⟨h,ha,ok⟩
 | f+1,j,A,g,R,m,hR,h,ha,ok=>by
  obtain ⟨p,j1,hp,hR⟩:=hR
  have:=zaL f j1 _ _ R (m+1) hR hp.2.2.2.1 (zdm ha g w3P) (ok.restr g w3P)
  rw [show m+(f+1)=m+1+f by omega]
  exact this
theorem SoW.thd {con:Co} {mi:Int} {S:Ss} {n m:Nat} (h:SoW S n m) {l:List Int} {f j:Nat} (hj:Dk l j) (hf2:f≤2) {R2:Alg × Di × Nat} (hR:zf1 l f j (GR S con mi).1 (GR S con mi).2.1 R2):Dk l R2.2.2∧SoW ⟨R2.1,(AD S con).2.1,S.gs++[R2.2.1]⟩ (n+1) (m+12):=by
 have iB:AlgIn (BL S con).1 (m+2):=zc4 h.ain con ⟨0,150⟩
 have iA:AlgIn (AD S con).1 (m+6):=zhf iB S.p (BL S con).2.1
 have iG:AlgIn (GR S con mi).1 (m+8):=zel iA con (BL S con).2.1.ticket ann mi
 have oB:AlgOk (BL S con).1:=h.ok.blank con ⟨0,150⟩
 have oA:AlgOk (AD S con).1:=oB.addT S.p (BL S con).2.1
 have oG:AlgOk (GR S con mi).1:=oA.grant con (BL S con).2.1.ticket ann mi
 obtain ⟨h1,h2,h3⟩:=zaL f j _ _ R2 _ hR hj iG oG
 have hc:(AD S con).2.1.cavs.length≤S.p.cavs.length+1:=zaW
 have:=h.cl
 have:=h.gl
 exact ⟨h1,h2.more oo,h3,by simp only;omega,by simp;omega⟩
theorem SoW.nar {S:Ss} {n m:Nat} (h:SoW S n m) {L:List Pr} (hL:L.length≤1):SoW ⟨(yT S.A S.p L).1,(yT S.A S.p L).2.1,S.gs⟩ (n+1) (m+12):=by
 have h1:=zaJ (l:=L) (a:=S.A) S.p
 have:=h.cl
 have:=h.gl
 exact ⟨(zbz (l:=L) h.ain S.p).more oo,h.ok.nar S.p,by simp only;omega,by simp only;omega⟩
end
def yP (n:Int):Ca:=zR ⟨7,0,0,0,[],n⟩
section
variable [W:W32]
omit W in
theorem ziJ:zA aF=.agg [.lit (.bool true),zd zeroTag,.lit (.int .i64 0),.slice none [],.slice none []]:=rfl
omit W in
theorem qm {k:Tg} {m:List UInt8}:∀ {L:List MacE},(∀ e∈L,¬ (e.key=k∧e.msg=m))→zcG k m L=none
 | [],_=>rfl
 | e::r,h=>by
  rw [zcG,if_neg (h e (List.mem_cons_self ..))]
  exact qm fun x hx=>h x (List.mem_cons_of_mem _ hx)
def L4 (c:Ca):List MacE:=L2++[⟨vW 109 1,y9 c,vW 109 3⟩,⟨vW 109 3,nodeB,vW 109 4⟩]
omit W in
theorem zaf:yX 1≠nodeB:=by intro h;have:=congrArg List.head? h;simp [yX,nodeB] at this
omit W in
theorem zew (c:Ca):yX 1≠y9 c:=by intro h;have:=congrArg List.head? h;simp [yX,y9] at this
omit W in
theorem zbl (c:Ca):nodeB≠y9 c:=by intro h;have:=congrArg List.head? h;simp [nodeB,y9] at this
theorem ziM:zdF aF 1 zeroTag 1=(⟨true,zeroTag,0,L2,[]⟩,⟨1,1,[],vW 109 1⟩,0):=by
 have hl:=zcq 1 oo
 have h1:yJ aF zeroTag (yX 1)=(⟨true,zeroTag,0,[⟨zeroTag,yX 1,vW 109 1⟩],[]⟩,vW 109 1,0):=by
  rw [vV oo rfl (by decide)];rfl
 have h2:yJ ⟨true,zeroTag,0,[⟨zeroTag,yX 1,vW 109 1⟩],[]⟩ (vW 109 1) nodeB=(⟨true,zeroTag,0,L2,[]⟩,vW 109 2,0):=by
  rw [vV (by decide) (qm fun e he=>?_) (by decide)];rfl
  rw [List.mem_singleton.1 he]
  exact fun h=>zaf h.2
 unfold zdF
 rw [if_neg oo]
 have h3:=zdG (a:=aF) (key:=zeroTag) (msg:=yX 1) (by rw [h1]) (by rw [h1];simp only;rw [h2])
 rw [h1] at h3
 simp only at h3
 rw [h2] at h3
 rw [show (1:Int).toNat=1 from rfl,h3,if_pos rfl]
theorem zmt:zba ⟨true,zeroTag,0,L2,[]⟩ ⟨1,1,[],vW 109 1⟩ (yP 3)=(⟨true,zeroTag,0,L4 (yP 3),[]⟩,⟨1,1,[yP 3],vW 109 3⟩,0):=by
 have hl:=xP (yP 3)
 have h1:yJ ⟨true,zeroTag,0,L2,[]⟩ (vW 109 1) (y9 (yP 3))=(⟨true,zeroTag,0,L2++[⟨vW 109 1,y9 (yP 3),vW 109 3⟩],[]⟩,vW 109 3,0):=by
  rw [vV oo (qm fun e he=>?_) (by decide)];rfl
  simp only [L2,List.mem_cons,List.not_mem_nil,or_false] at he
  rcases he with rfl | rfl
  ·exact fun h=>zew _ h.2
  ·exact fun h=>zbl _ h.2
 have h2:yJ ⟨true,zeroTag,0,L2++[⟨vW 109 1,y9 (yP 3),vW 109 3⟩],[]⟩ (vW 109 3) nodeB=(⟨true,zeroTag,0,L4 (yP 3),[]⟩,vW 109 4,0):=by
  rw [vV (by decide) (qm fun e he=>?_) (by decide)];rfl
  simp only [L2,List.cons_append,List.nil_append,List.mem_cons,List.not_mem_nil,or_false] at he
  rcases he with rfl | rfl | rfl
  ·exact fun h=>zaf h.2
  ·exact fun h=>by have:=zg4 oo oo oo oo h.1;omega
  ·exact fun h=>zbl _ h.2.symm
 have h3:=zdG (a:=⟨true,zeroTag,0,L2,[]⟩) (key:=vW 109 1) (msg:=y9 (yP 3)) (by rw [h1]) (by rw [h1];simp only;rw [h2])
 rw [h1] at h3
 simp only at h3
 rw [h2] at h3
 unfold zba
 rw [if_neg (by decide),if_neg (by decide),h3,if_pos rfl]
 rfl
end
structure FewW (w:Wa):Prop where
 p:∀ x∈w.ps,x.cavs.length≤70
 pl:w.ps.length≤40
 dl:w.ds.length≤40
section
variable [W:W32]
def zbK (a:Alg) (w:Wa) (i:Int) (l:List Pr):Alg × Wa × Nat:=
 if (yf w i).2=true then
  if (yT a (yf w i).1 l).2.2=0 then
   if (wW w (yT a (yf w i).1 l).2.1).2=0 then ((yT a (yf w i).1 l).1,(wW w (yT a (yf w i).1 l).2.1).1,0)
   else (wZ,w0,(wW w (yT a (yf w i).1 l).2.1).2)
  else (wZ,w0,(yT a (yf w i).1 l).2.2)
 else (wZ,w0,12)
end
end Go.Proofs.YtglmjglbobhbbaaGreatDoor
namespace Go.Ab
open Go.RowKit
section
variable {W0:World} {N:Nat} {P:Program} {ops:Array Oper} {m:Nat} {out:Nat→Step}
end
end Go.Ab
namespace Go.Proofs.YtglmjglbobhbbaaGreatDoor
open _root_.Go.Proofs.Tryz
open Go.Ab
attribute [local irreducible] Go.Ab.tyAV Go.Ab.aw Go.Ab.aops Go.Ab.kReg Go.Ab.aThen Go.Ab.aBlk Go.Ab.acond Go.Ab.aguard Go.Ab.astep Go.Ab.AStepX Go.Ab.aRet
attribute [local irreducible] yE
theorem jV (m:Int) (k:Nat):
  ACall prog 210 [.lit (.int .i64 m)] k [] (.slice (some k) ((yh m).map za)) [(k,.row 5 1 8)]:=by
 have e7:=z9 m 56
 have e6:=z9 m 48
 have e5:=z9 m 40
 have e4:=z9 m 32
 have e3:=z9 m 24
 have e2:=z9 m 16
 have e1:=z9 m 8
 have e0:=z9 m 0
 simp only [Int.reducePow,Int.pow_zero,Int.fdiv_one] at e7 e6 e5 e4 e3 e2 e1 e0
 unfold yh
 generalize sh8 m 56=b7 at *
 generalize sh8 m 48=b6 at *
 generalize sh8 m 40=b5 at *
 generalize sh8 m 32=b4 at *
 generalize sh8 m 24=b3 at *
 generalize sh8 m 16=b2 at *
 generalize sh8 m 8=b1 at *
 generalize sh8 m 0=b0 at *
 refine Bd func210 ntmps210 fun σ N hp hpn hk hkn hfree=>?_
 refine Wk ?_
 refine ALoop.nilrow 3 5 1 (by simp (disch:=omega) [go_sem, *,-List.reduceReplicate]) ?_
 refine yn (N) zi (by kernel_rfl) [3,4,5,6,7,8,9,10,11,12,13,14,15] [] (fun m_ s_ σ_ n_=>∃ (u:Nat) (q:Nat) (acc:List UInt8),m_=8 - u∧s_ 4=.lit (.int .i64 (56 - 8 * (u:Int)))∧s_ 3=.slice (some q) (acc.map za)∧σ_ (q)=.row 5 1 acc.length∧(u≤8)∧(N≤q)∧(q < n_)∧(acc=[b7,b6,b5,b4,b3,b2,b1,b0].take u)) ⟨_,0,_,[],rfl,WF,WF,WF,WC,WC,WC,WC⟩ ?_
 intro m_1 s_1 σ_1 n_1 hs_1 hf_1 hn_1 hI_1
 obtain ⟨u,q,acc,hm_1,h1_4,h1_3,e1_0,hu,hq,hqn,hacc⟩:=hI_1
 have h1_0:=KS hs_1 0
 have h1_2:=KS hs_1 2
 have hlow:=KL (N:=N) (σ:=σ) hf_1
 have hb7:za b7=.lit (.int .u8 b7.toNat):=rfl
 have hb6:za b6=.lit (.int .u8 b6.toNat):=rfl
 have hb5:za b5=.lit (.int .u8 b5.toNat):=rfl
 have hb4:za b4=.lit (.int .u8 b4.toNat):=rfl
 have hb3:za b3=.lit (.int .u8 b3.toNat):=rfl
 have hb2:za b2=.lit (.int .u8 b2.toNat):=rfl
 have hb1:za b1=.lit (.int .u8 b1.toNat):=rfl
 have hb0:za b0=.lit (.int .u8 b0.toNat):=rfl
 have hcase:u=0∨u=1∨u=2∨u=3∨u=4∨u=5∨u=6∨u=7∨u=8:=by omega
 rcases hcase with rfl | hcase
 ·simp only [List.take_zero] at hacc
  subst hacc
  refine Wk ?_
  exact ⟨WS,WG,WN,_,(show 8 - (1) < m_1 by omega),1,q,[b7],rfl,WF,WF,WF,WC,WC,WC,WC⟩
 rcases hcase with rfl | hcase
 ·simp only [List.take_succ_cons,List.take_zero] at hacc
  subst hacc
  refine Wk ?_
  exact ⟨WS,WG,WN,_,(show 8 - (2) < m_1 by omega),2,q,[b7,b6],rfl,WF,WF,WF,WC,WC,WC,WC⟩
 rcases hcase with rfl | hcase
 ·simp only [List.take_succ_cons,List.take_zero] at hacc
  subst hacc
  refine Wk ?_
  exact ⟨WS,WG,WN,_,(show 8 - (3) < m_1 by omega),3,q,[b7,b6,b5],rfl,WF,WF,WF,WC,WC,WC,WC⟩
 rcases hcase with rfl | hcase
 ·simp only [List.take_succ_cons,List.take_zero] at hacc
  subst hacc
  refine Wk ?_
  exact ⟨WS,WG,WN,_,(show 8 - (4) < m_1 by omega),4,q,[b7,b6,b5,b4],rfl,WF,WF,WF,WC,WC,WC,WC⟩
 rcases hcase with rfl | hcase
 ·simp only [List.take_succ_cons,List.take_zero] at hacc
  subst hacc
  refine Wk ?_
  exact ⟨WS,WG,WN,_,(show 8 - (5) < m_1 by omega),5,q,[b7,b6,b5,b4,b3],rfl,WF,WF,WF,WC,WC,WC,WC⟩
 rcases hcase with rfl | hcase
 ·simp only [List.take_succ_cons,List.take_zero] at hacc
  subst hacc
  refine Wk ?_
  exact ⟨WS,WG,WN,_,(show 8 - (6) < m_1 by omega),6,q,[b7,b6,b5,b4,b3,b2],rfl,WF,WF,WF,WC,WC,WC,WC⟩
 rcases hcase with rfl | hcase
 ·simp only [List.take_succ_cons,List.take_zero] at hacc
  subst hacc
  refine Wk ?_
  exact ⟨WS,WG,WN,_,(show 8 - (7) < m_1 by omega),7,q,[b7,b6,b5,b4,b3,b2,b1],rfl,WF,WF,WF,WC,WC,WC,WC⟩
 rcases hcase with rfl | hcase
 ·simp only [List.take_succ_cons,List.take_zero] at hacc
  subst hacc
  refine Wk ?_
  exact ⟨WS,WG,WN,_,(show 8 - (8) < m_1 by omega),8,q,[b7,b6,b5,b4,b3,b2,b1,b0],rfl,WF,WF,WF,WC,WC,WC,WC⟩
 subst hcase
 simp only [List.take_succ_cons,List.take_zero] at hacc
 subst hacc
 clear hb7 hb6 hb5 hb4 hb3 hb2 hb1 hb0
 refine Wk ?_
 refine zQ (r0:=q) (by simp (disch:=omega) [go_sem, *,-List.reduceReplicate];rfl) oo (by simp (disch:=omega) [go_sem];try rfl) (fun id hid=>by simp (disch:=omega) only;try exact hlow id hid) (by simp (disch:=omega) [go_sem, *,-List.reduceReplicate];rfl) (by simp (disch:=omega) [go_sem])
section
variable [W:W32]
theorem zaX (key:Tg) (b:List UInt8) (hb:b.length≤90000) (g k:Nat):
  ACall prog 212 [zd key,.slice none (b.map za)] k [(g,yE)] (zd (qC key.1 ([98,111,120]++b))) []:=by
 have c1:=qA key.1 ([98,111,120]++b) (by rw [key.2];decide) (by simp) (by simp;omega) g
 generalize qC key.1 ([98,111,120]++b)=T at *
 have h98:za 98=.lit (.int .u8 98):=rfl
 have h111:za 111=.lit (.int .u8 111):=rfl
 have h120:za 120=.lit (.int .u8 120):=rfl
 have hs1:=zB key
 have hs2:=zj key
 obtain ⟨K,hK⟩:=key
 have hkA:zd ⟨K,hK⟩=.agg (K.map za):=rfl
 simp only [hkA] at hs1 hs2 c1 ⊢
 clear hkA
 have htk:(K.map za).take 32=K.map za:=List.take_of_length_le (by rw [List.length_map];omega)
 refine Bd func212 ntmps212 fun σ N hp hpn hk hkn hfree=>?_
 have M:Mut (N+2+1):=⟨⟩
 obtain ⟨hd,hdn⟩:=HD0 hp hpn;clear hp hpn
 have hcs:=And.intro c1 True.intro
 clear c1
 exact W0
omit W in
theorem zbb (key:Tg) (nonce:List UInt8) (k:Nat):
  ACall prog 244 [zd key,.slice none (nonce.map za)] k [] (.fn 259 [.view (.slice none (nonce.map za)),.view (zd key)]) []:=by
 refine Bd func244 ntmps244 fun σ N hp hpn hk hkn hfree=>?_
 refine Wm ?_
 refine Wz ?_
 refine yz 2 (id:=N) (bt:=28) (x:=zd key) (by simp (disch:=omega) [go_sem, *,-List.reduceReplicate]) (by simp (disch:=omega) [go_sem, *,-List.reduceReplicate]) ?_
 refine yz 3 (id:=N+1) (bt:=31) (x:=.slice none (nonce.map za)) (by simp (disch:=omega) [go_sem, *,-List.reduceReplicate]) (by simp (disch:=omega) [go_sem, *,-List.reduceReplicate]) ?_
 exact W0
set_option maxHeartbeats 1000000 in
theorem zav (key:Tg) (nn:Int) (R:Nat) (hR:R≤1000000) (l Nt:Nat) (r r':Loop) (s:Slots) (E:Ent) (Rw:Nat→Ent) (g x q j k:Nat) (h1:g < q) (h2:q < x) (h3:x < j)
  (hE0:E≠.none) (hR0:Rw 0≠.none) (hRr:∀ u n0 kk,j < n0→(Rw u).ren (rn n0 kk none)=Rw u) (hsr:∀ n0 kk,j < n0→(fun t=>(s t).ren (rn n0 kk none))=s)
  (hY:∀ u,u < R→∀ kk,AYield prog l [.lit (.int .i64 ((u:Int) * 32)),zd (kst key.1 nn u)] kk [(j,.loop l Nt r s),(x,E),(q,Rw u)] (.lit (.bool true)) [(j,.loop l Nt r s),(q,Rw (u+1))])
  (hZ:∀ kk,AYield prog l [.lit (.int .i64 ((R:Int) * 32)),zd (kst key.1 nn R)] kk [(j,.loop l Nt r s),(x,E),(q,Rw R)] (.lit (.bool false)) [(j,.loop l Nt r' s),(q,Rw R)]):
  ACall prog 259 [.lit (.func (.yield l) #[] #[]),.view (.slice none ((yh nn).map za)),.view (zd key)] k [(j,.loop l Nt r s),(x,E),(q,Rw 0),(g,yE)] (.tup []) [(j,.loop l Nt r' s),(q,Rw R)]:=by
 have h115:za 115=.lit (.int .u8 115):=rfl
 have h116:za 116=.lit (.int .u8 116):=rfl
 have h114:za 114=.lit (.int .u8 114):=rfl
 have h101:za 101=.lit (.int .u8 101):=rfl
 have h97:za 97=.lit (.int .u8 97):=rfl
 have h109:za 109=.lit (.int .u8 109):=rfl
 obtain ⟨E1,hE1⟩:∃ e,yh nn=e:=⟨_,rfl⟩
 have hE1l:E1.length=8:=by rw [← hE1];rfl
 have hst:∀ u:Nat,kst key.1 nn u=qC key.1 ([115,116,114,101,97,109]++(E1++yh (u:Int))):=fun u=>by rw [← hE1];rfl
 rw [hE1]
 have hs1:=zB key
 have hs2:=zj key
 obtain ⟨K,hK⟩:=key
 have hkA:zd ⟨K,hK⟩=.agg (K.map za):=rfl
 simp only [hkA] at hs1 hs2 ⊢
 simp only at hY hZ hst
 clear hkA hE1
 have htk:(K.map za).take 32=K.map za:=List.take_of_length_le (by rw [List.length_map];omega)
 refine Bd (hpre:=by simp [hE0,hR0]) func259 ntmps259 fun σ N hp hpn hk hkn hfree=>?_
 simp only [List.mem_cons,List.not_mem_nil,or_false,forall_eq_or_imp,forall_eq] at hp hpn
 obtain ⟨hd1,hd2,hd3,hd4⟩:=hp
 obtain ⟨hn1,hn2,hn3,hn4⟩:=hpn
 refine Wk ?_
 refine yn (N) zi (by kernel_rfl) [4,5,6,7,8,9,10,11,12,13,14,15,16,17,18,19,20,21,22] [j,q] (fun m_ s_ σ_ n_=>∃ (u:Nat),m_=R+1 - u∧s_ 4=.lit (.int .i64 u)∧σ_ (j)=.loop l Nt r s∧σ_ (q)=Rw u∧(u≤R)) ⟨_,0,rfl,WF,WF,WF,WC⟩ ?_
 intro m_2 s_2 σ_2 n_2 hs_2 hf_2 hn_2 hI_2
 obtain ⟨u,hm_2,h2_4,e2_0,e2_1,hu⟩:=hI_2
 have h2_0:=KS hs_2 0
 have h2_1:=KS hs_2 1
 have h2_2:=KS hs_2 2
 have k2_0:=KE hf_2 (x)
 have k2_1:=KE hf_2 (g)
 have hlow:∀ id,id < N→id≠j→id≠q→σ_2 id=σ id:=fun id hid hdd0 hdd1=>(hf_2.at id oo (by simp [hdd0,hdd1];try omega)).trans (by simp (disch:=omega) only;try first | exact hlow id hid hdd0 hdd1 | exact hlow id hid)
 have c1:=jV (u:Int)
 have c2:=qA K ([115,116,114,101,97,109]++(E1++yh (u:Int))) oo (by simp) (by rw [List.length_append,List.length_append,hE1l,xD];decide) g
 rw [← hst u] at c2
 have hE2l:=xD (u:Int)
 generalize yh (u:Int)=E2 at *
 clear hst
 have M:Mut n_2:=⟨⟩
 by_cases huR:u=R
 ·subst huR
  have c3:=hZ
  generalize kst K nn u=T at *
  have hcs:=And.intro c1 (And.intro c2 (And.intro c3 True.intro))
  clear c1 c2 c3 hY hZ
  refine Wk ?_
  refine yd [(j,.loop l Nt r' s),(q,Rw u)] (by simp (disch:=omega) [go_sem, *,-List.reduceReplicate];rfl) rfl (fun id hid=>?_) (by simp) (by simp only [zfj,List.map_cons,List.map_nil,hRr _ _ _ hn1];rw [show Ent.ren (rn N k none) (.loop l Nt r' s)=.loop l Nt r' (fun t=>(s t).ren (rn N k none)) from rfl,hsr _ _ hn1])
  simp only [zF,yi]
  by_cases i1:id=j
  ·subst i1;simp (disch:=omega) [go_sem, *]
  by_cases i2:id=q
  ·subst i2;simp (disch:=omega) [go_sem, *]
  simp (disch:=omega) only [zg]
  exact hlow id hid i1 i2
 ·have c3:=hY u oo
  generalize kst K nn u=T at *
  have hcs:=And.intro c1 (And.intro c2 (And.intro c3 True.intro))
  clear c1 c2 c3 hY hZ
  refine Wk ?_
  exact ⟨WS,WG,WN,_,(show R+1 - (u+1) < m_2 by omega),u+1,rfl,WF,WF,WF,WC⟩
end
section
variable [W:W32]
theorem zmA {key:Tg} {nn:Int} {b P:List UInt8} (hP:P.length=b.length) (hAt:∀ i (hi:i < b.length),P[i]'oo=x8 b[i] ((kst key.1 nn (i / 32)).1[i % 32]'(by rw [(kst key.1 nn (i / 32)).2];omega))) {u:Nat}:
  ∀ i (hi:i < b.length),u * 32≤i→i < u * 32+32→∃ y,(kst key.1 nn u).1[i - u * 32]?=some y∧P[i]?=some (x8 b[i] y):=fun i hi h1 h2=>by
 have hq:i / 32=u:=by omega
 have hr:i % 32=i - u * 32:=by omega
 have h:=hAt i hi
 simp only [hq,hr] at h
 exact ⟨_,List.getElem?_eq_getElem (by rw [(kst key.1 nn u).2];omega),by rw [List.getElem?_eq_getElem oo,h]⟩
end
section
variable [W:W32]
def zgm (N L:Nat):Ent:=.box 31 (.ms (N+2+1) 1 1 0 L)
def zab (P b:List UInt8) (u:Nat):Ent:=.mrow 1 5 1 ((zio P b (min b.length (u * 32))).map za)
omit W in
theorem zaz (P b:List UInt8) (u:Nat) (f:Nat→Option Nat):(zab P b u).ren f=zab P b u:=by
 simp only [zab,zeg,xr]
omit W in
theorem zce (N L:Nat):zgm N L≠.none:=by simp [zgm]
omit W in
theorem zcf (P b:List UInt8) (u:Nat):zab P b u≠.none:=by simp [zab]
def zee (N f:Nat) (key:Tg) (E1 b:List UInt8):Slots:=upd (upd (upd (upd (upd (upd (upd (upd (zcB [zd key,.slice none (E1.map za),.slice none (b.map za)]) 3 (.ptr N [] 0)) 6 .nils) 11 (.slice none (b.map za))) 12 (.ms (N+2+(0+1)) 1 1 0 b.length)) 7 (.ptr (N+2+2) [] 0)) 13 (zd key)) 14 (.slice none (E1.map za))) 15 (.fn f [.view (.slice none (E1.map za)),.view (zd key)])
omit W in
theorem zgn (N f:Nat) (key:Tg) (E1 b:List UInt8) (n0 kk:Nat) (h:N+9 < n0):(fun t=>(zee N f key E1 b t).ren (rn n0 kk none))=zee N f key E1 b:=by
 unfold zee
 have r0:rn n0 kk none N=some N:=zkB oo
 have r1:rn n0 kk none (N+2+(0+1))=some (N+2+(0+1)):=zkB oo
 have r2:rn n0 kk none (N+2+2)=some (N+2+2):=zkB oo
 refine wm _ _ (wm _ _ (wm _ _ (wm _ _ (wm _ _ (wm _ _ (wm _ _ (wm _ _ (zgX ?_) ?_) ?_) ?_) ?_) ?_) ?_) ?_) ?_
 ·simp only [AV.renl,AV.ren,xr,Option.bind_none,xR]
 ·simp only [AV.ren,r0]
 ·rfl
 ·simp only [AV.ren,xr,Option.bind_none]
 ·simp only [AV.ren,r1]
 ·simp only [AV.ren,r2]
 ·simp only [xR]
 ·simp only [AV.ren,xr,Option.bind_none]
 ·simp only [AV.ren,AV.renl,xr,Option.bind_none,xR]
set_option maxHeartbeats 4000000 in
theorem zaY (key:Tg) (nn:Int) (b:List UInt8) (hb:b.length≤100000) (g k:Nat):
  ACall prog 211 [zd key,.slice none ((yh nn).map za),.slice none (b.map za)] k [(g,yE)] (.slice none ((jz key.1 nn b).map za)) []:=by
 have c1:=zb5 b oo
 have c2:=zbb key (yh nn)
 have hP:=qL key.1 nn b
 have hat:=ze5 key.1 nn b
 generalize hPP:jz key.1 nn b=P at *
 have hAt:∀ i (hi:i < b.length),P[i]'oo=x8 b[i] ((kst key.1 nn (i / 32)).1[i % 32]'(by rw [(kst key.1 nn (i / 32)).2];omega)):=fun i hi=>hat i hi _ _
 clear hat hPP
 have hm0:zab P b 0=.mrow 1 5 1 (b.map za):=by simp [zab,zpa]
 have hmR:zab P b ((b.length+31) / 32)=.mrow 1 5 1 (P.map za):=by
  unfold zab
  rw [Nat.min_eq_left oo,ziy hP]
 obtain ⟨R,hRd⟩:∃ R,(b.length+31) / 32=R:=⟨_,rfl⟩
 rw [hRd] at hmR
 refine Bd func211 ntmps211 fun σ N hp hpn hk hkn hfree=>?_
 obtain ⟨hd,hdn⟩:=HD0 hp hpn;clear hp hpn
 have hcs:=And.intro c1 (And.intro c2 True.intro)
 clear c1 c2
 refine Wk ?_
 clear hcs
 change aw _ _ _ _ ⟨zee N 259 key (yh nn) b,_,_⟩
 refine zbf (.exit 0) (f:=259) (caps:=[.view (.slice none ((yh nn).map za)),.view (zd key)]) (pre:=[(N+2+2,zgm N b.length),(N+2+1,zab P b 0),(g,yE)])
  (post:=[(N+2+1,zab P b R)]) (res:=.tup []) (by unfold zee;simp (disch:=omega) [go_sem, *,-List.reduceReplicate]) (by rw [hm0];unfold zgm;intro p hp;simp at hp;rcases hp with rfl | rfl | rfl <;> (simp (disch:=omega) [go_sem, *,-List.reduceReplicate])) (by simp;omega) (by simp) ?_ ?_
 ·intro l r hst hpe hps hA hB
  refine ⟨.done,by simp,?_⟩
  refine zav key nn R oo l 47 r { r with state:=.done,pending:=ww (.exit 0) } (zee N 259 key (yh nn) b) (zgm N b.length) (fun u=>zab P b u) g (N+2+2) (N+2+1) (N+9+1) (N+9+2) oo oo oo (zce _ _) (zcf _ _ _) (fun u n0 kk h=>zaz _ _ _ _) (fun n0 kk h=>zgn _ _ _ _ _ _ _ oo) ?_ ?_
  ·intro u hu kk
   have hu32:u * 32 < b.length:=by omega
   have hyl:=AYield.of_body (P:=prog) (l:=l) (N:=47) (r:=r) (s:=zee N 259 key (yh nn) b) (j:=N+9+1) (k:=kk) (args:=[.lit (.int .i64 ((u:Int) * 32)),zd (kst key.1 nn u)]) (pre:=[(N+2+2,zgm N b.length),(N+2+1,zab P b u)]) (ws:=[(N+2+1,zab P b (u+1))]) (post:=[(N+2+1,zab P b (u+1))])
    .normal zi hst (ps:=[16,17]) (by rw [hps]) hA hB rfl (by simp) (by kernel_rfl) (by kernel_rfl) (by kernel_rfl) (by kernel_rfl) (by simp [zce,zcf]) (by simp) (by simp) (by simp) ?_
   ·rw [zaA hst hpe] at hyl
    exact hyl
   ·clear hA hB hm0 hmR hd hdn hk hkn hfree
    obtain ⟨N0,hN0⟩:∃ N0,N0=N:=⟨N,rfl⟩
    subst hN0
    intro σ N hp hpn hj hjn hk hkn hfree
    simp only [List.mem_cons,List.not_mem_nil,or_false,forall_eq_or_imp,forall_eq] at hp hpn
    obtain ⟨e1,e2⟩:=hp
    obtain ⟨n1,n2⟩:=hpn
    refine ⟨by simp only [zfj,List.map_cons,List.map_nil,zaz],?_⟩
    have hT:=zmA hP hAt (u:=u)
    have hTl:=(kst key.1 nn u).2
    generalize kst key.1 nn u=T at *
    obtain ⟨T,hT32⟩:=T
    simp only at hT hTl
    have hTA:zd ⟨T,hT32⟩=.agg (T.map za):=rfl
    have hs1:=zB ⟨T,hT32⟩
    have hs2:=zj ⟨T,hT32⟩
    rw [hTA] at hs1 hs2 ⊢
    clear hTA hAt
    have ha:(u:Int) * 32=((u * 32:Nat):Int):=by omega
    rw [ha]
    clear ha
    unfold zgm zab at *
    rw [Nat.min_eq_right (Nat.le_of_lt hu32)] at e2
    obtain ⟨e,he⟩:∃ e,min b.length ((u+1) * 32)=e:=⟨_,rfl⟩
    rw [he]
    have he1:u * 32≤e:=by omega
    have he2:e≤b.length:=by omega
    have he3:e≤u * 32+32:=by omega
    have he4:e < b.length→e=u * 32+32:=by omega
    clear he
    generalize u * 32=a at *
    have hage:¬ ((b.length:Int)≤(a:Int)):=by omega
    unfold zee zcC zcC zcC at *
    refine Wk ?_
    refine ⟨rfl,by simp (disch:=omega) [go_sem, *,-List.reduceReplicate],?_⟩
    refine Wk ?_
    obtain ⟨C0,hC0⟩:∃ c,zio P b a=c:=⟨_,rfl⟩
    rw [hC0] at e2
    refine yn (N+3) zi (by kernel_rfl) [10,23,24,25,26,27,28,29,30,31,32,33,34,35,36,37,38,39,40,41,42,43,44,45] [N0+2+1] (fun m_ s_ σ_ n_=>∃ (i:Nat) (cur:List UInt8),m_=e - i∧s_ 10=.lit (.int .i64 i)∧σ_ (N0+2+1)=.mrow 1 5 1 (cur.map za)∧(a≤i)∧(i≤e)∧(zio P b i=cur)) ⟨_,a,C0,rfl,WF,WF,WC,WC,WC⟩ ?_
    intro m_1 s_1 σ_1 n_1 hs_1 hf_1 hn_1 hI_1
    obtain ⟨i,cur,hm_1,h1_10,e1_0,hi1,hi2,hc⟩:=hI_1
    have h1_6:=KS hs_1 6
    have h1_7:=KS hs_1 7
    have h1_8:=KS hs_1 8
    have h1_9:=KS hs_1 9
    have k1_0:=KE hf_1 (N0+2+2)
    have k1_1:=KE hf_1 (N0+9+1)
    have k1_2:=KE hf_1 (N+1+0)
    have hlow:∀ id,id < N→id≠N0+2+1→id≠N0+9+1→σ_1 id=σ id:=fun id hid hdd0 hdd1=>(hf_1.at id oo (by simp [hdd0];try omega)).trans (by simp (disch:=omega) only [zg];try first | exact hlow id hid hdd0 hdd1 | exact hlow id hid)
    by_cases hie:i=e
    ·subst hie
     rw [hc]
     have hend:(i:Int) < (b.length:Int)→¬ ((i:Int) < (a:Int)+32):=fun h=>by have:=he4 oo;omega
     by_cases hib:i=b.length
     ·have hib1:¬ ((i:Int) < (b.length:Int)):=by omega
      clear hT hend
      refine Wk ?_
      refine ⟨rfl,fun id hid=>?_⟩
      simp only [zF,yi]
      by_cases i1:id=N0+2+1
      ·subst i1;simp (disch:=omega) [go_sem, *]
      by_cases i2:id=N0+9+1
      ·subst i2;simp (disch:=omega) [go_sem, *]
      simp (disch:=omega) only [zg]
      exact hlow id hid i1 i2
     ·have hib1:((i:Int) < (b.length:Int)):=by omega
      have hib2:=hend hib1
      clear hT hend
      refine Wk ?_
      refine ⟨rfl,fun id hid=>?_⟩
      simp only [zF,yi]
      by_cases i1:id=N0+2+1
      ·subst i1;simp (disch:=omega) [go_sem, *]
      by_cases i2:id=N0+9+1
      ·subst i2;simp (disch:=omega) [go_sem, *]
      simp (disch:=omega) only [zg]
      exact hlow id hid i1 i2
    ·have hil:i < b.length:=by omega
     have hib1:((i:Int) < (b.length:Int)):=by omega
     have hib2:((i:Int) < (a:Int)+32):=by omega
     obtain ⟨y,hy,hPy⟩:=hT i hil hi1 oo
     have hcl:=ziz hP i oo
     have ha0:=zlM hP i hil
     have hset0:=ziA hP i oo
     rw [hc] at hcl ha0 hset0
     have hPi:P[i]'oo=x8 b[i] y:=by
      rw [List.getElem?_eq_getElem oo] at hPy
      exact Option.some.inj hPy
     rw [hPi] at hset0
     obtain ⟨z,hz⟩:∃ z,b[i]=z:=⟨_,rfl⟩
     rw [List.getElem?_eq_getElem hil,hz] at ha0
     rw [hz] at hset0
     have hset:=zbn cur i (x8 z y)
     rw [hset0] at hset
     have hx:=znA z y
     generalize x8 z y=v at *
     have hyb:za y=.lit (.int .u8 y.toNat):=rfl
     have hzb:za z=.lit (.int .u8 z.toNat):=rfl
     have hvb:za v=.lit (.int .u8 v.toNat):=rfl
     rw [hvb] at hset
     generalize hc':zio P b (i+1)=cn at *
     have hic:i < cur.length:=by omega
     have hci:cur[i]=z:=by rw [List.getElem?_eq_getElem hic] at ha0;exact Option.some.inj ha0
     obtain ⟨dd,hdd⟩:∃ dd:Nat,i - a=dd:=⟨_,rfl⟩
     rw [hdd] at hy
     have hsub:(i:Int) - (a:Int)=(dd:Int):=by omega
     have hdd32:dd < 32:=by omega
     have hyT:T[dd]'oo=y:=by rw [List.getElem?_eq_getElem oo] at hy;exact Option.some.inj hy
     clear hy ha0
     clear hT hPi hPy hdd hset0 hz hc
     refine Wk ?_
     exact ⟨WS,WG,WN,_,(show e - (i+1) < m_1 by omega),i+1,cn,rfl,WF,WF,WC,WC,WC⟩
  ·intro kk
   have hR32:b.length≤R * 32:=by omega
   have hyl:=AYield.of_body (P:=prog) (l:=l) (N:=47) (r:=r) (s:=zee N 259 key (yh nn) b) (j:=N+9+1) (k:=kk) (args:=[.lit (.int .i64 ((R:Int) * 32)),zd (kst key.1 nn R)]) (pre:=[(N+2+2,zgm N b.length),(N+2+1,zab P b R)]) (ws:=[(N+2+1,zab P b R)]) (post:=[(N+2+1,zab P b R)])
    (.exit 0) zi hst (ps:=[16,17]) (by rw [hps]) hA hB rfl (by simp) (by kernel_rfl) (by kernel_rfl) (by kernel_rfl) (by kernel_rfl) (by simp [zce,zcf]) (by simp) (by simp) (by simp) ?_
   ·exact hyl
   ·clear hA hB hm0 hmR hd hdn hk hkn hfree
    obtain ⟨N0,hN0⟩:∃ N0,N0=N:=⟨N,rfl⟩
    subst hN0
    intro σ N hp hpn hj hjn hk hkn hfree
    simp only [List.mem_cons,List.not_mem_nil,or_false,forall_eq_or_imp,forall_eq] at hp hpn
    obtain ⟨e1,e2⟩:=hp
    obtain ⟨n1,n2⟩:=hpn
    refine ⟨by simp only [zfj,List.map_cons,List.map_nil,zaz],?_⟩
    generalize kst key.1 nn R=T at *
    have ha:(R:Int) * 32=((R * 32:Nat):Int):=by omega
    rw [ha]
    clear ha
    unfold zgm zab at *
    rw [Nat.min_eq_left hR32] at e2 ⊢
    generalize R * 32=a at *
    have hage:(b.length:Int)≤(a:Int):=by omega
    unfold zee zcC zcC zcC at *
    refine Wk ?_
    refine ⟨rfl,by simp (disch:=omega) [go_sem, *,-List.reduceReplicate],?_⟩
    refine Wk ?_
    refine ⟨rfl,fun id hid=>?_⟩
    simp only [zF,yi]
    by_cases i1:id=N0+2+1
    ·subst i1;simp (disch:=omega) [go_sem, *]
    by_cases i2:id=N0+9+1
    ·subst i2;simp (disch:=omega) [go_sem, *]
    simp (disch:=omega) only [zg]
 ·intro l r
  rw [hmR]
  unfold zee
  apply kP
  apply zek
  refine yM (N+2+2) [] (r:=N+2+1) (ver:=1) (size:=1) (e:=5) (bt:=31) (c:=.ms (N+2+1) 1 1 0 b.length) (xs:=P.map za) (k:=b.length) (by simp (disch:=omega) [go_sem, *,-List.reduceReplicate]) (by simp (disch:=omega) [go_sem, *,-List.reduceReplicate]) rfl (by rw [List.length_map,hP]) ?_
  exact WM
end
section
variable [W:W32]
end
section
variable [W:W32]
end
section
variable [W:W32]
end
section
variable [W:W32]
end
def o8 (a b:UInt8):UInt8:=a ||| b
theorem zuL (a b:UInt8):bits .or .u8 (a.toNat:Int) (b.toNat:Int)=((o8 a b).toNat:Int):=by
 have ha:=a.toNat_lt
 have hb:=b.toNat_lt
 have h2:=(a ||| b).toNat_lt
 have h3:(BitVec.ofInt 8 (a.toNat:Int) ||| BitVec.ofInt 8 (b.toNat:Int)).toNat=(a ||| b).toNat:=by
  rw [UInt8.toNat_or,BitVec.toNat_or]
  congr 1
  ·rw [BitVec.ofInt_natCast,BitVec.toNat_ofNat];exact Nat.mod_eq_of_lt ha
  ·rw [BitVec.ofInt_natCast,BitVec.toNat_ofNat];exact Nat.mod_eq_of_lt hb
 show IntKind.u8.wrap (((BitVec.ofInt 8 (a.toNat:Int) ||| BitVec.ofInt 8 (b.toNat:Int)).toNat:Nat):Int)=_
 rw [h3,IntKind.wrap_u8]
 unfold o8
 omega
theorem zoT {a b:UInt8}:x8 a b=0↔a=b:=by
 rw [zpx];exact UInt8.xor_eq_zero_iff
theorem zop {a b:UInt8}:o8 a b=0↔a=0∧b=0:=by
 unfold o8;exact UInt8.or_eq_zero_iff
theorem zfL (a b:List UInt8) (ha:a.length≤100000) (_hb:b.length≤100000) (k:Nat):
  ACall prog 227 [.slice none (a.map za),.slice none (b.map za)] k [] (.lit (.bool (decide (a=b)))) []:=by
 by_cases hl:a.length=b.length
 ·refine Bd func227 ntmps227 fun σ N hp hpn hk hkn hfree=>?_
  refine Wk ?_
  refine ze zi (by kernel_rfl) [5,6,14,15,16,17,18,19,20,21,22,23,24,25,26,27,28] [] (fun m_ s_ σ_ n_=>∃ (u:Nat) (d:UInt8),m_=a.length - u∧s_ 14=.lit (.int .i64 u)∧s_ 5=.lit (.int .u8 d.toNat)∧(u≤a.length)∧(d=0↔a.take u=b.take u)) ⟨_,0,0,rfl,WF,WF,WC,WC⟩ ?_
  intro m_1 s_1 σ_1 n_1 hs_1 hf_1 hn_1 hI_1
  obtain ⟨u,d,hm_1,h1_14,h1_5,hu,hd⟩:=hI_1
  have h1_0:=KS hs_1 0
  have h1_1:=KS hs_1 1
  have h1_4:=KS hs_1 4
  have h1_13:=KS hs_1 13
  have hlow:=KL (N:=N) (σ:=σ) hf_1
  by_cases hul:u=a.length
  ·have hr:decide (d=0)=decide (a=b):=by
    have:(d=0)↔a=b:=by
     rw [hd,hul,List.take_length,hl,List.take_length]
    simp only [this]
   have hr2:((d.toNat:Int) == 0)=decide (a=b):=by
    rw [← hr]
    by_cases h0:d=0
    ·subst h0;rfl
    ·rw [decide_eq_false h0,beq_eq_false_iff_ne]
     intro h1
     exact h0 (UInt8.toNat_inj.1 (by simpa using h1))
   have hr3:decide ((d.toNat:Int)=0)=decide (a=b):=hr2
   generalize decide (a=b)=R at *
   subst hul
   clear hd hr
   exact W0
  ·have hua:u < a.length:=by omega
   have hub:u < b.length:=by omega
   obtain ⟨x,hx⟩:∃ x,a[u]=x:=⟨_,rfl⟩
   obtain ⟨y,hy⟩:∃ y,b[u]=y:=⟨_,rfl⟩
   have hxx:za x=.lit (.int .u8 x.toNat):=rfl
   have hyy:za y=.lit (.int .u8 y.toNat):=rfl
   have h1:=znA x y
   have h2:=zuL d (x8 x y)
   have h3:o8 d (x8 x y)=0↔a.take (u+1)=b.take (u+1):=by
    rw [zop,zoT,hd,List.take_succ_eq_append_getElem hua,List.take_succ_eq_append_getElem hub,hx,hy]
    constructor
    ·rintro ⟨e1,e2⟩;rw [e1,e2]
    ·intro e
     have:=List.append_inj e (by rw [List.length_take,List.length_take];omega)
     exact ⟨this.1,by simpa using this.2⟩
   clear hd
   generalize x8 x y=v at *
   generalize o8 d v=w at *
   refine Wk ?_
   exact ⟨WS,WG,WN,_,(show a.length - (u+1) < m_1 by omega),u+1,w,rfl,WF,WF,WC,WC⟩
 ·rw [decide_eq_false (fun h=>hl (by rw [h]))]
  have hl2:((a.length:Int) != (b.length:Int))=true:=by simp;omega
  refine Bd func227 ntmps227 fun σ N hp hpn hk hkn hfree=>?_
  exact W0
section
variable [W:W32]
set_option maxHeartbeats 1000000 in
theorem zhK (sd:Tg) (fs:Int) (L:List MacE) (B:List BoxE) (key:Tg) (b:List UInt8) (hl:B.length≤1000000) (hm:∀ e∈B,e.plain.length≤100000∧e.box.length≤100000) (hb:b.length≤100000) (g k:Nat):
  ACall prog 183 [zA ⟨true,sd,fs,L,B⟩,zd key,.slice none (b.map za)] k [(g,yE)] (zkC (x6 ⟨true,sd,fs,L,B⟩ key b)) []:=by
 unfold x6
 rw [if_pos rfl]
 simp only
 generalize hR:zbP key b B=R
 refine Bd func183 ntmps183 fun σ N hp hpn hk hkn hfree=>?_
 obtain ⟨hd,hdn⟩:=HD0 hp hpn;clear hp hpn
 have haA:zA ⟨true,sd,fs,L,B⟩=.agg [.lit (.bool true),zd sd,.lit (.int .i64 fs),.slice none (L.map zJ),.slice none (B.map zo)]:=rfl
 refine Wk ?_
 refine ze zi (by kernel_rfl) [6,7,9,17,18,19,20,21,22,23,24,25,26,27,28,29,30,31,32,33,34] [N,N+1] (fun m_ s_ σ_ n_=>∃ (u:Nat),m_=B.length - u∧s_ 17=.lit (.int .i64 u)∧σ_ (N)=.box 41 (.agg [.lit (.bool true),zd sd,.lit (.int .i64 fs),.slice none (L.map zJ),.slice none (B.map zo)])∧σ_ (N+1)=.box 28 (zd key)∧(u≤B.length)∧(zbP key b (B.drop u)=R)) ⟨_,0,rfl,WF,WF,WF,WC,WC⟩ ?_
 intro m_2 s_2 σ_2 n_2 hs_2 hf_2 hn_2 hI_2
 obtain ⟨u,hm_2,h2_17,e2_0,e2_1,hu,hd⟩:=hI_2
 have h2_2:=KS hs_2 2
 have h2_4:=KS hs_2 4
 have h2_15:=KS hs_2 15
 have h2_16:=KS hs_2 16
 have k2_0:=KE hf_2 (g)
 have hlow:=KL (N:=N) (σ:=σ) hf_2
 clear haA
 by_cases hul:u=B.length
 ·subst hul
  rw [List.drop_length] at hd
  simp only [zbP] at hd
  subst hd
  clear hR hm
  unfold zkC
  simp only [List.map_nil]
  exact WL
 ·have hu1:u < B.length:=by omega
  rw [List.drop_eq_getElem_cons hu1,zbP] at hd
  have hmz:=hm _ (List.getElem_mem hu1)
  obtain ⟨z,hz⟩:∃ z,B[u]=z:=⟨_,rfl⟩
  rw [hz] at hd hmz
  obtain ⟨zk,zn,zp,zb⟩:=z
  simp only at hd hmz
  have hzd:zo ⟨zk,zn,zp,zb⟩=.agg [zd zk,.lit (.int .i64 zn),bAV zp,bAV zb]:=rfl
  have hzb:=qS zp
  have hzb2:=qS zb
  obtain ⟨hmz1,hmz2⟩:=hmz
  have c1:=xB zb b oo oo
  have c2:=yC zp oo
  clear hR hm
  by_cases h1:zk=key
  ·by_cases h3:zb=b
   ·rw [if_pos ⟨h1,h3⟩] at hd
    subst hd
    rw [decide_eq_true h3] at c1
    have hcs:=And.intro c1 (And.intro c2 True.intro)
    clear c1 c2
    subst h1
    subst h3
    unfold zkC
    simp only
    exact WL
   ·rw [if_neg (fun h=>h3 h.2)] at hd
    rw [decide_eq_false h3] at c1
    have hcs:=And.intro c1 True.intro
    clear c1 c2
    subst h1
    refine Wk ?_
    exact ⟨WS,WG,WN,_,(show B.length - (u+1) < m_2 by omega),u+1,rfl,WF,WF,WF,WC,WC⟩
  ·rw [if_neg (fun h=>h1 h.1)] at hd
   have d1:decide (zk=key)=false:=decide_eq_false h1
   clear c1 c2
   refine Wk ?_
   exact ⟨WS,WG,WN,_,(show B.length - (u+1) < m_2 by omega),u+1,rfl,WF,WF,WF,WC,WC⟩
set_option maxHeartbeats 1000000 in
theorem zhL (sd:Tg) (fs:Int) (L:List MacE) (B:List BoxE) (key:Tg) (b:List UInt8) (hb:b.length≤100000) (g k:Nat):
  ACall prog 183 [zA ⟨false,sd,fs,L,B⟩,zd key,.slice none (b.map za)] k [(g,yE)] (zkC (x6 ⟨false,sd,fs,L,B⟩ key b)) []:=by
 unfold x6
 rw [if_neg (by simp)]
 have haA:zA ⟨false,sd,fs,L,B⟩=.agg [.lit (.bool false),zd sd,.lit (.int .i64 fs),.slice none (L.map zJ),.slice none (B.map zo)]:=rfl
 unfold zkC
 by_cases h1:b.length < 40
 ·rw [if_pos (.inl h1)]
  have h1i:(b.length:Int) < 40:=by omega
  simp only [List.map_nil]
  refine Bd func183 ntmps183 fun σ N hp hpn hk hkn hfree=>?_
  obtain ⟨hd,hdn⟩:=HD0 hp hpn;clear hp hpn
  exact WL
 have h1i:¬ (b.length:Int) < 40:=by omega
 by_cases h2:296 < b.length
 ·rw [if_pos (.inr h2)]
  have h2i:(296:Int) < (b.length:Int):=by omega
  simp only [List.map_nil]
  refine Bd func183 ntmps183 fun σ N hp hpn hk hkn hfree=>?_
  obtain ⟨hd,hdn⟩:=HD0 hp hpn;clear hp hpn
  exact WL
 have h2i:¬ (296:Int) < (b.length:Int):=by omega
 rw [if_neg oo]
 have hn32:((b.length:Int) - 32).toNat=b.length - 32:=by omega
 have hn32i:(0:Int)≤(b.length:Int) - 32:=by omega
 have hA1:(b.map za).take (b.length - 32)=(b.take (b.length - 32)).map za:=by rw [List.map_take]
 have hD1:(b.map za).drop (b.length - 32)=(b.drop (b.length - 32)).map za:=by rw [List.map_drop]
 have hD2:((b.take (b.length - 32)).map za).drop 8=((b.take (b.length - 32)).drop 8).map za:=by rw [List.map_drop]
 have hl1:(b.take (b.length - 32)).length=b.length - 32:=by rw [List.length_take];omega
 have hl2:(b.drop (b.length - 32)).length=32:=by rw [List.length_drop];omega
 have hL8:(b.take 8).length=8:=by rw [List.length_take];omega
 have hT8:(b.take (b.length - 32)).take 8=b.take 8:=by rw [List.take_take,Nat.min_eq_left oo]
 have hE8:=ziW (b.take 8) hL8
 have c1:=zaX key (b.take (b.length - 32)) oo g
 have c3:=zaY key (be8 (b.take 8):Int) ((b.take (b.length - 32)).drop 8) (by rw [List.length_drop];omega) g
 rw [hE8] at c3
 have hD3:((b.take (b.length - 32)).map za).take 8=(b.take 8).map za:=by rw [← List.map_take,hT8]
 generalize qC key.1 ([98,111,120]++b.take (b.length - 32))=T at *
 have c2:=zfL T.1 (b.drop (b.length - 32)) (by rw [T.2];decide) oo
 have ht1:=zB T
 have ht2:=zj T
 obtain ⟨T,hT⟩:=T
 have htA:zd ⟨T,hT⟩=.agg (T.map za):=rfl
 simp only [htA] at ht1 ht2 c1 c2 ⊢
 clear htA hE8 hT8
 have htk2:(T.map za).take 32=T.map za:=List.take_of_length_le (by rw [List.length_map];omega)
 generalize b.take 8=N8 at *
 by_cases h3:T=b.drop (b.length - 32)
 ·rw [if_pos h3]
  rw [decide_eq_true h3] at c2
  simp only
  generalize jz key.1 (be8 N8:Int) ((b.take (b.length - 32)).drop 8)=St at *
  clear h3
  generalize (b.take (b.length - 32)).drop 8=Bq at *
  generalize b.drop (b.length - 32)=Dr at *
  generalize b.take (b.length - 32)=Tk at *
  have hTk:(Tk.map za).take (b.length - 32)=Tk.map za:=List.take_of_length_le (by rw [List.length_map];omega)
  refine Bd func183 ntmps183 fun σ N hp hpn hk hkn hfree=>?_
  obtain ⟨hd,hdn⟩:=HD0 hp hpn;clear hp hpn
  have hcs:=And.intro c1 (And.intro c2 (And.intro c3 True.intro))
  clear c1 c2 c3
  exact WL
 ·rw [if_neg h3]
  rw [decide_eq_false h3] at c2
  simp only [List.map_nil]
  clear h3 c3
  generalize b.drop (b.length - 32)=Dr at *
  generalize b.take (b.length - 32)=Tk at *
  refine Bd func183 ntmps183 fun σ N hp hpn hk hkn hfree=>?_
  obtain ⟨hd,hdn⟩:=HD0 hp hpn;clear hp hpn
  have hcs:=And.intro c1 (And.intro c2 True.intro)
  clear c1 c2
  exact WL
theorem zhM (a:Alg) (m:Nat) (ha:AlgIn a m) (hm:m≤900000) (key:Tg) (b:List UInt8) (hb:b.length≤100000) (g k:Nat):
  ACall prog 183 [zA a,zd key,.slice none (b.map za)] k [(g,yE)] (zkC (x6 a key b)) []:=by
 obtain ⟨fr,sd,fs,L,B⟩:=a
 cases fr with
 | true=>exact zhK sd fs L B key b (by have:=ha.bl;simp only at this;omega) ha.bm hb g k
 | false=>exact zhL sd fs L B key b hb g k
end
end Go.Proofs.YtglmjglbobhbbaaGreatDoor
namespace Go.Ab
open Go.RowKit
def LQP (W0:World) (g:Ghost) (N:Nat) (D:List Deferred) (Q:AExit→Cfg→Prop) (QP:List PanicEntry→Cfg→Prop):Exit→Act→World→Prop:=fun e a w=>
 ∃ c g',g.le g'∧SimA W0 g' N c a w∧a.defers=D∧match e with
  | .normal=>Q .normal c
  | .exit id=>Q (.exit id) c
  | .ret=>Q .ret c
  | .panic ch=>QP ch c
  | _=>False
theorem LQP.mono {W0:World} {g g':Ghost} {N:Nat} {D D':List Deferred} {Q:AExit→Cfg→Prop} {QP:List PanicEntry→Cfg→Prop} (hg:g.le g') (hD:D'=D) {e:Exit} {a:Act} {w:World} (h:LQP W0 g' N D' Q QP e a w):LQP W0 g N D Q QP e a w:=
 let ⟨c,g'',hle,hs,hm,hq⟩:=h
 ⟨c,g'',hg.trans hle,hs,hm.trans hD,hq⟩
def awP (P:Program) (N:Nat) (b:Code) (Q:AExit→Cfg→Prop) (QP:List PanicEntry→Cfg→Prop) (c:Cfg):Prop:=
 wJ N b=true→P.follows .mixedOrders=true→∀ W0 g a w,SimA W0 g N c a w→b.wpIn (wideAt none) 0 P (LQP W0 g N a.defers Q QP) a w
section
variable {P:Program} {N:Nat} {Q:AExit→Cfg→Prop} {QP:List PanicEntry→Cfg→Prop} {c:Cfg}
def APanic (P:Program) (f:FuncId) (args:List AV) (k:Nat) (ch:List PanicEntry):Prop:=
 qV P f=true∧∀ (W0:World) (g:Ghost) (σ:Nat→Ent) (n:Nat) (w:World) (vals:List Value),Sim W0 g σ n w→vals.length=args.length→(∀ (i:Nat) (x:AV) (v:Value),args[i]?=some x→vals[i]?=some v→Rep g x v) →
  σ k=.none→k < n→Calls P f vals.toArray w fun e w'=>e=.panicked ch∧∃ g',g.le g'∧Sim W0 g' σ n w'
end
theorem SimA.init {W0:World} {g:Ghost} {σ:Nat→Ent} {n:Nat} {w:World} {args:List AV} {vals:List Value} {N:Nat} (hS:Sim W0 g σ n w) (hl:vals.length=args.length) (hv:∀ (i:Nat) (x:AV) (v:Value),args[i]?=some x→vals[i]?=some v→Rep g x v) (hargs:args.length≤N):
  SimA W0 g N ⟨zcB args,σ,n⟩ { tmps:=vals.toArray++Array.replicate (N - vals.toArray.size) undef,defers:=[] } w:=by
 refine ⟨hS,by simp;omega,fun t=>?_⟩
 show Rep g (args.getD t (.tup [])) ((vals.toArray++Array.replicate (N - vals.toArray.size) undef).getD t undef)
 by_cases ht:t < args.length
 ·have ht':t < vals.length:=by omega
  have:=hv t args[t] vals[t] (List.getElem?_eq_getElem ht) (List.getElem?_eq_getElem ht')
  have e1:args.getD t (.tup [])=args[t]:=by simp [List.getD,List.getElem?_eq_getElem ht]
  have e2:(vals.toArray++Array.replicate (N - vals.toArray.size) undef).getD t undef=vals[t]:=by simp [Array.getElem?_append,ht']
  rw [e1,e2];exact this
 ·have e1:args.getD t (.tup [])=.tup []:=by simp [List.getD,List.getElem?_eq_none (Nat.not_lt.1 ht)]
  have e2:(vals.toArray++Array.replicate (N - vals.toArray.size) undef).getD t undef=undef:=by
   rw [Array.getD_eq_getD_getElem?,Array.getElem?_append]
   rw [if_neg (by simp;omega),Array.getElem?_replicate]
   split <;> rfl
  rw [e1,e2]
  exact .tup [] [] rfl fun i x v h _=>by simp at h
theorem APanic.of_body {P:Program} {f:FuncId} {fn:Func} {body:Code} {args:List AV} {k:Nat} {ch:List PanicEntry} (hmix:P.follows .mixedOrders=true) (hf:P.funcs[f]?=some fn) (hb:fn.body=some body)
  (hname : (fn.name == "runtime.NumGoroutine") = false) {N : Nat} (hN : fn.ntmps = N) (hok : wJ N body = true) (hargs : args.length ≤ N)
  (h:∀ (σ:Nat→Ent) (n:Nat),σ k=.none→k < n→(∀ id,n≤id→σ id=.none)→awP P N body (fun _ _=>False) (fun ch' c'=>ch'=ch∧∀ id,id < n→c'.σ id=σ id) ⟨zcB args,σ,n⟩):APanic P f args k ch:=by
 refine ⟨by simp [qV,hf,hb,hname],fun W0 g σ n w vals hS hl hv hk hkn=>?_⟩
 subst hN
 refine callsIn_wide.1 (callsIn_of_wp_marks (n:=0) hf hb trivial (wpIn_mono (h σ n hk hkn hS.bound hok hmix W0 g _ w (SimA.init hS hl hv hargs)) fun e a' w' hq=>?_))
 obtain ⟨c',g',hle,hS',hD,hq⟩:=hq
 cases e with
 | panic ch'=>
  obtain ⟨rfl,h3⟩:=hq
  obtain ⟨g2,hle2,hS2,_⟩:=hS.leave hS'.sim hle hk hkn (ws:=[]) (post:=[]) (fresh:=none) h3 (fun q hq=>by cases hq) rfl
  show LeavesInM Fence.wide 0 P fn a'.tmps _ a'.defers (.panicking ch') w'
  rw [hD]
  exact ⟨rfl,g2,hle2,hS2⟩
 | normal=>exact hq.elim
 | ret=>exact hq.elim
 | exit id=>exact hq.elim
 | goto=>exact hq.elim
 | outgrown=>exact hq.elim
theorem ARet.of {P:Program} {rs:List ResultVar} {k:Nat} {σ0:Nat→Ent} {n0:Nat} {pre:Foot} {r:AV} {post:Foot} {c:Cfg} (h:aRet P rs k σ0 n0 pre r post .ret c):ARet P rs k σ0 n0 pre r post c:=h
end Go.Ab
namespace Go.Proofs.YtglmjglbobhbbaaGreatDoor
open _root_.Go.Proofs.Tryz
open Go.Ab
attribute [local irreducible] Go.Ab.tyAV Go.Ab.aw Go.Ab.aops Go.Ab.kReg Go.Ab.aThen Go.Ab.aBlk Go.Ab.acond Go.Ab.aguard Go.Ab.astep Go.Ab.AStepX Go.Ab.aRet
attribute [local irreducible] yE
section
variable [W:W32]
end
section
variable [W:W32]
end
section
variable [W:W32]
end
section
variable [W:W32]
end
section
variable [W:W32]
def zbm (a:Alg):List Tg→List Tg→Option (List Tg)
 | acc,[]=>some acc
 | acc,k::r=>match vq a k nodeB with
  | none=>none
  | some t=>zbm a (acc++[t]) r
def zgP (a:Alg) (l:List Tg):List Tg × Nat:=zdW (zbm a [] l)
omit W in
def zf5 (r:List Tg × Nat):AV:=.tup [.slice none (r.1.map zd),.lit (.int .i64 (r.2:Nat))]
theorem zdk {a:Alg} (ok:AlgOk a):∀ {L acc:List Tg},(∀ x∈L,∃ id,(⟨x,nodeB,id⟩:MacE)∈a.macs)→∃ ids,zbm a acc L=some ids
 | [],acc,_=>⟨acc,rfl⟩
 | t::r,acc,h=>by
  obtain ⟨id,hid⟩:=h t (List.mem_cons_self ..)
  have hl:=q7 ok hid
  simp only at hl
  obtain ⟨ids,hi⟩:=zdk ok (L:=r) (acc:=acc++[id]) (fun x hx=>h x (List.mem_cons_of_mem _ hx))
  exact ⟨ids,by rw [zbm,hl];exact hi⟩
end
section
variable [W:W32]
theorem wk (a:Alg) (key:Tg) (msg:List UInt8) (hl:a.macs.length≤1000000) (hm:∀ e∈a.macs,e.msg.length≤100000) (h0:0 < msg.length) (hmsg:msg.length≤1000000) (g k:Nat):
  ACall prog 181 [zA a,zd key,.slice none (msg.map za)] k [(g,yE)] (vR (vq a key msg)) []:=by
 have c1:=zgu a.macs key msg hl hm hmsg
 obtain ⟨fr,sd,fs,L,B⟩:=a
 simp only at hl hm c1
 unfold vq
 cases fr with
 | true=>
  simp only [if_true]
  cases he:zcG key msg L with
  | none=>
   rw [zjb L 0 he] at c1
   unfold vR
   simp only [Option.getD_none,Option.isSome_none,zA]
   clear hm he
   refine Bd func181 ntmps181 fun σ N hp hpn hk hkn hfree=>?_
   obtain ⟨hd,hdn⟩:=HD0 hp hpn;clear hp hpn
   have hcs:=And.intro c1 True.intro
   clear c1
   exact W0
  | some t=>
   obtain ⟨i,hi,hfi,hti⟩:=zjc L 0 he
   rw [hfi,Nat.zero_add] at c1
   obtain ⟨z,hz⟩:∃ z,L[i]=z:=⟨_,rfl⟩
   rw [hz] at hti
   obtain ⟨zk,zm,zt⟩:=z
   simp only at hti
   subst hti
   have hzd:zJ ⟨zk,zm,zt⟩=.agg [zd zk,bAV zm,zd zt]:=rfl
   have hi0:¬ (i:Int) < 0:=by omega
   unfold vR
   simp only [Option.getD_some,Option.isSome_some,zA]
   clear hm he hfi
   refine Bd func181 ntmps181 fun σ N hp hpn hk hkn hfree=>?_
   obtain ⟨hd,hdn⟩:=HD0 hp hpn;clear hp hpn
   have hcs:=And.intro c1 True.intro
   clear c1
   exact W0
 | false=>
  simp only [Bool.false_eq_true,if_false]
  clear c1 hm
  by_cases h1:4096 < msg.length
  ·rw [if_pos h1]
   have h1i:(4096:Int) < (msg.length:Int):=by omega
   unfold vR
   simp only [Option.getD_none,Option.isSome_none,zA]
   refine Bd func181 ntmps181 fun σ N hp hpn hk hkn hfree=>?_
   obtain ⟨hd,hdn⟩:=HD0 hp hpn;clear hp hpn
   exact W0
  ·rw [if_neg h1]
   have h1i:¬ (4096:Int) < (msg.length:Int):=by omega
   have c2:=qA key.1 msg (by rw [key.2];decide) h0 oo g
   generalize qC key.1 msg=t at *
   have hs1:=zB key
   have hs2:=zj key
   obtain ⟨K,hK⟩:=key
   have hkA:zd ⟨K,hK⟩=.agg (K.map za):=rfl
   simp only [hkA] at hs1 hs2 c2 ⊢
   clear hkA
   have hs3:AV.celll (K.map za)=true:=zX K
   have htk:(K.map za).take 32=K.map za:=List.take_of_length_le (by rw [List.length_map];omega)
   unfold vR
   simp only [Option.getD_some,Option.isSome_some,zA]
   refine Bd func181 ntmps181 fun σ N hp hpn hk hkn hfree=>?_
   obtain ⟨hd,hdn⟩:=HD0 hp hpn;clear hp hpn
   have hcs:=And.intro c2 True.intro
   clear c2
   exact W0
end
section
variable [W:W32]
theorem zbp (a:Alg) (acc':List Tg):∀ (L:List (List UInt8)) (acc:List Tg) (k:Tg),wn a (acc'++acc) k L=(wn a acc k L).map (acc'++·)
 | [],acc,k=>rfl
 | m::r,acc,k=>by
  rw [wn,wn]
  cases vq a k m with
  | none=>rfl
  | some t=>simp only;rw [List.append_assoc,zbp a acc' r]
omit W in
def zpw (R:Option (List Tg)):AV:=.tup [.slice none ((R.getD []).map zd),.lit (.bool R.isSome)]
theorem zc1 (a:Alg) (m:Nat) (ha:AlgIn a m) (hm:m≤900000) (key:Tg) (msg:List UInt8) (h0:0 < msg.length) (hmsg:msg.length≤100000) (b g k:Nat):
  ACall prog 180 [zd key,.slice none (msg.map za),.ptr b [] 0] k [(b,.box 41 (zA a)),(g,yE)] (vR (vq a key msg)) []:=by
 have c1:=wk a key msg (by have:=ha.ml;omega) ha.mm h0 oo g
 generalize vq a key msg=o at *
 unfold vR at *
 generalize o.getD zeroTag=t at *
 generalize o.isSome=ok at *
 clear ha
 refine Bd func180 ntmps180 fun σ N hp hpn hk hkn hfree=>?_
 simp only [List.mem_cons,List.not_mem_nil,or_false,forall_eq_or_imp,forall_eq] at hp hpn;obtain ⟨hd1,hd2⟩:=hp;obtain ⟨hdn1,hdn2⟩:=hpn
 have hcs:=And.intro c1 True.intro
 clear c1
 exact W0
set_option maxHeartbeats 2000000 in
theorem zeO (a:Alg) (m:Nat) (ha:AlgIn a m) (hm:m≤900000) (key:Tg) (L:List (List UInt8)) (hL:L.length≤100000) (hl:∀ x∈L,0 < x.length∧x.length≤100000) (b g k:Nat):
  ACall prog 179 [zd key,.slice none (L.map bAV),.fn 180 [.ptr b [] 0]] k [(b,.box 41 (zA a)),(g,yE)] (zpw (wn a [key] key L)) []:=by
 obtain ⟨R,hR⟩:∃ R,wn a [key] key L=R:=⟨_,rfl⟩
 rw [hR]
 unfold zpw
 refine Bd func179 ntmps179 fun σ N hp hpn hk hkn hfree=>?_
 simp only [List.mem_cons,List.not_mem_nil,or_false,forall_eq_or_imp,forall_eq] at hp hpn;obtain ⟨hd1,hd2⟩:=hp;obtain ⟨hdn1,hdn2⟩:=hpn
 refine Wk ?_
 refine ze zi (by kernel_rfl) [6,7,8,10,11,12,17,18,19,20,21,22,23,24,25,26,27,28,29,30,31,32,33,34,35,36,37,38,39] [N+4] (fun m_ s_ σ_ n_=>∃ (u:Nat) (t:Tg) (acc:List Tg),m_=L.length - u∧s_ 17=.lit (.int .i64 u)∧s_ 8=.slice (some (N+4)) (acc.map zd)∧σ_ (N+4)=.row 28 32 acc.length∧(u≤L.length)∧(acc.length=u+1)∧((acc.map zd)[u]?=some (zd t))∧(wn a acc t (L.drop u)=R)) ⟨_,0,key,[key],rfl,WF,WF,WF,WC,WC,WC,WC⟩ ?_
 intro m_1 s_1 σ_1 n_1 hs_1 hf_1 hn_1 hI_1
 obtain ⟨u,t,acc,hm_1,h1_17,h1_8,e1_0,hu,hal,hat,hrun⟩:=hI_1
 have h1_2:=KS hs_1 2
 have h1_15:=KS hs_1 15
 have h1_16:=KS hs_1 16
 have k1_0:=KE hf_1 (b)
 have k1_1:=KE hf_1 (g)
 have hlow:=KL (N:=N) (σ:=σ) hf_1
 clear hR
 by_cases hul:u=L.length
 ·subst hul
  rw [List.drop_length,wn] at hrun
  subst hrun
  simp only [Option.getD_some,Option.isSome_some]
  clear hl ha hat
  exact WL
 ·have hu1:u < L.length:=by omega
  obtain ⟨z,hz⟩:∃ z,L[u]=z:=⟨_,rfl⟩
  have hzl:=hl z (by rw [← hz];exact List.getElem_mem _)
  have hzm:(L.map bAV)[u]?=some (.slice none (z.map za)):=by rw [List.getElem?_map,List.getElem?_eq_getElem hu1,hz];rfl
  rw [List.drop_eq_getElem_cons hu1,hz,wn] at hrun
  have c1:=zc1 a m ha hm t z hzl.1 hzl.2 b g
  have hb26:(acc.length+1) * 32≤140737488355328:=by omega
  clear hl ha
  unfold vR at c1
  cases ho:vq a t z with
  | none=>
   rw [ho] at hrun c1
   simp only at hrun
   subst hrun
   simp only [Option.getD_none,Option.isSome_none,List.map_nil] at c1 ⊢
   have hcs:=And.intro c1 True.intro
   clear c1 ho
   exact WL
  | some t2=>
   rw [ho] at hrun c1
   simp only at hrun
   simp only [Option.getD_some,Option.isSome_some] at c1
   have hcs:=And.intro c1 True.intro
   have hal2:(acc++[t2]).length=u+1+1:=by rw [List.length_append,List.length_singleton,hal]
   have hat2:((acc++[t2]).map zd)[u+1]?=some (zd t2):=by rw [List.getElem?_map,List.getElem?_append_right oo,hal];simp
   clear c1 ho
   refine Wk ?_
   exact ⟨WS,WG,WN,_,(show L.length - (u+1) < m_1 by omega),u+1,t2,acc++[t2],rfl,WF,WF,WF,WC,WC,WC,WC⟩
end
section
variable [W:W32]
omit W in
theorem zgj (c:Ca):0 < (y9 c).length:=by simp [y9]
omit W in
theorem zd9 {l:List Ca} {u:Nat} (hu:u < l.length) (hb:xz l[u]=false):(l.any fun c=>!xz c)=true:=by
 rw [List.any_eq_true]
 exact ⟨l[u],List.getElem_mem hu,by rw [hb];rfl⟩
set_option maxHeartbeats 4000000 in
theorem zeV (a:Alg) (m:Nat) (ha:AlgIn a m) (hm:m≤900000) (num:Int) (key:Tg) (ser:Int) (l:List Ca) (hl:l.length≤10000) (hpk:∀ c∈l,PrOk c.first) (g h k:Nat) (_hgh:g≠h):
  ACall prog 110 [zA a,.agg [.lit (.int .i64 num),zd key],.lit (.int .i64 ser),.slice none (l.map z8)] k [(g,yE),(h,zS)] (zf5 (zfe a num key ser l)) []:=by
 unfold zfe
 by_cases hr:num < 1∨1000 < num∨ser < 1∨1073741824 < ser
 ·rw [if_pos hr]
  unfold zf5
  simp only [List.map_nil]
  have c1:=zeF num ser hr
  refine Bd func110 ntmps110 fun σ N hp hpn hk hkn hfree=>?_
  simp only [List.mem_cons,List.not_mem_nil,or_false,forall_eq_or_imp,forall_eq] at hp hpn;obtain ⟨hd1,hd2⟩:=hp;obtain ⟨hdn1,hdn2⟩:=hpn
  have hcs:=And.intro c1 True.intro
  clear c1 ha hpk
  exact WL
 ·rw [if_neg hr]
  have c1:=zeG num ser oo oo oo oo
  obtain ⟨n,rfl⟩:=Int.eq_ofNat_of_zero_le (show 0≤ser by omega)
  have c2:=zex n oo
  have hM:zdV (n:Int) l=yX n::l.map y9:=by unfold zdV;rw [Int.toNat_natCast]
  rw [hM]
  have hml:=zcq n oo
  have hM0:0 < (yX n).length:=by simp [yX]
  have hmm:∀ x∈yX n::l.map y9,0 < x.length∧x.length≤100000:=fun x hx=>by
   rcases List.mem_cons.1 hx with rfl | hx
   ·exact ⟨hM0,by omega⟩
   ·obtain ⟨c,_,rfl⟩:=List.mem_map.1 hx
    exact ⟨zgj c,by have:=xP c;omega⟩
  have c3:=fun b=>zeO a m ha hm key (yX n::l.map y9) (by simp;omega) hmm b g
  have hw:=zbp a [key] (yX n::l.map y9) [] key
  rw [List.append_nil] at hw
  rw [hw] at c3
  obtain ⟨R,hR⟩:∃ R,wn a [] key (yX n::l.map y9)=R:=⟨_,rfl⟩
  rw [hR] at c3 ⊢
  clear hw hR hmm hM hml hM0 ha hr
  generalize yX n=M0 at *
  obtain ⟨v,hv⟩:∃ v,(if (l.any fun c=>!xz c)=true then ([],5) else zdW R)=v:=⟨_,rfl⟩
  rw [hv]
  have hb24:(l.length+1) * 24≤140737488355328:=by omega
  refine Bd func110 ntmps110 fun σ N hp hpn hk hkn hfree=>?_
  simp only [List.mem_cons,List.not_mem_nil,or_false,forall_eq_or_imp,forall_eq] at hp hpn;obtain ⟨hd1,hd2⟩:=hp;obtain ⟨hdn1,hdn2⟩:=hpn
  have hcs:=And.intro c1 (And.intro c2 True.intro)
  clear c1 c2
  refine Wk ?_
  clear hcs
  refine ze zi (by kernel_rfl) [8,9,10,12,13,14,27,28,29,30,31,32,33,34,35,36,37,38,39,40,41,42,43,44] [N+11] (fun m_ s_ σ_ n_=>∃ (u:Nat) (acc:List (List UInt8)),m_=l.length - u∧s_ 27=.lit (.int .i64 u)∧s_ 10=.slice (some (N+11)) (acc.map bAV)∧σ_ (N+11)=.row 31 1 acc.length∧(u≤l.length)∧(acc.length=u+1)∧(M0::(l.take u).map y9=acc)∧(∀ c∈l.take u,xz c=true)) ⟨_,0,[M0],rfl,WF,WF,WF,WC,WC,WC,WC⟩ ?_
  intro m_1 s_1 σ_1 n_1 hs_1 hf_1 hn_1 hI_1
  obtain ⟨u,acc,hm_1,h1_27,h1_10,e1_0,hu,hal,hacc,hok⟩:=hI_1
  have h1_4:=KS hs_1 4
  have h1_5:=KS hs_1 5
  have h1_25:=KS hs_1 25
  have h1_26:=KS hs_1 26
  have k1_0:=KE hf_1 (N)
  have k1_1:=KE hf_1 (N+1)
  have k1_2:=KE hf_1 (g)
  have k1_3:=KE hf_1 (h)
  have hlow:=KL (N:=N) (σ:=σ) hf_1
  by_cases hul:u=l.length
  ·subst hul
   rw [List.take_length] at hacc hok
   subst hacc
   have hany:(l.any fun c=>!xz c)=false:=by
    rw [List.any_eq_false]
    intro c hc
    rw [hok c hc];simp
   rw [hany,if_neg (by simp)] at hv
   subst hv
   clear hok hany hpk hal
   cases R with
   | none=>
    unfold zpw at c3
    unfold zf5 zdW
    simp only [Option.map_none,Option.getD_none,Option.isSome_none,List.map_nil] at c3 ⊢
    have hcs:=And.intro (c3 N) True.intro
    clear c3
    exact WL
   | some ts=>
    unfold zpw at c3
    unfold zf5 zdW
    simp only [Option.map_some,Option.getD_some,Option.isSome_some,List.cons_append,List.nil_append,List.map_cons] at c3 ⊢
    have hcs:=And.intro (c3 N) True.intro
    clear c3
    exact WL
  ·have hu1:u < l.length:=by omega
   obtain ⟨z,hz⟩:∃ z,l[u]=z:=⟨_,rfl⟩
   have hzp:=hpk z (by rw [← hz];exact List.getElem_mem _)
   have hzm:(l.map z8)[u]?=some (z8 z):=by rw [List.getElem?_map,List.getElem?_eq_getElem hu1,hz];rfl
   have c1:=zgh z hzp h
   unfold zbu at c1
   cases hzb:xz z with
   | false=>
    have he:zc7 z=([],5):=by unfold zc7;rw [hzb];rfl
    rw [he] at c1
    simp only [List.map_nil] at c1
    rw [zd9 hu1 (by rw [hz];exact hzb),if_pos rfl] at hv
    subst hv
    unfold zf5
    simp only [List.map_nil]
    have e5:((5:Nat):Int)=5:=rfl
    simp only [e5] at c1 ⊢
    have hcs:=And.intro c1 True.intro
    clear c1 c3 hpk hok
    exact WL
   | true=>
    have he:(zc7 z).2=0:=by unfold zc7;rw [hzb];rfl
    have hMz:[99,97,118,101,97,116]++(zc7 z).1=y9 z:=rfl
    have hMl:=xP z
    have c2:=yH [99,97,118,101,97,116] (zc7 z).1 (by decide) (by unfold y9 at hMl;rw [List.length_append] at hMl;omega)
    rw [hMz] at c2
    have hacc2:M0::(l.take (u+1)).map y9=acc++[y9 z]:=by
     rw [List.take_add_one,List.getElem?_eq_getElem hu1,hz,List.map_append,← hacc];rfl
    have hok2:∀ c∈l.take (u+1),xz c=true:=fun c hc=>by
     rw [List.take_add_one,List.getElem?_eq_getElem hu1,hz] at hc
     rcases List.mem_append.1 hc with hc | hc
     ·exact hok c hc
     ·have hc:c=z:=by simpa using hc
      rw [hc];exact hzb
    rw [he] at c1
    generalize (zc7 z).1=B at *
    generalize y9 z=Mz at *
    have e0:((0:Nat):Int)=0:=rfl
    simp only [e0] at c1
    have hal2:(acc++[Mz]).length=u+1+1:=by rw [List.length_append,List.length_singleton,hal]
    have hb26:(acc.length+1) * 24≤140737488355328:=by omega
    have hcs:=And.intro c1 (And.intro c2 True.intro)
    clear c1 c2 c3 hpk hok hacc hMz he hMl hzp
    refine Wk ?_
    exact ⟨WS,WG,WN,_,(show l.length - (u+1) < m_1 by omega),u+1,acc++[Mz],rfl,WF,WF,WF,WC,WC,WC,WC⟩
set_option maxHeartbeats 2000000 in
theorem zfA (a:Alg) (m:Nat) (ha:AlgIn a m) (hm:m≤900000) (l:List Tg) (hl:l.length≤10000) (g k:Nat):
  ACall prog 112 [zA a,.slice none (l.map zd)] k [(g,yE)] (zf5 (zgP a l)) []:=by
 unfold zgP
 obtain ⟨R,hR⟩:∃ R,zbm a [] l=R:=⟨_,rfl⟩
 rw [hR]
 have hcl:=fun t=>wk a t nodeB (by have:=ha.ml;omega) ha.mm (by decide) (by decide) g
 clear ha
 have h110:za 110=.lit (.int .u8 110):=rfl
 have h111:za 111=.lit (.int .u8 111):=rfl
 have h100:za 100=.lit (.int .u8 100):=rfl
 have h101:za 101=.lit (.int .u8 101):=rfl
 have hnB:nodeB.map za=[.lit (.int .u8 110),.lit (.int .u8 111),.lit (.int .u8 100),.lit (.int .u8 101)]:=rfl
 simp only [hnB] at hcl
 clear h110 h111 h100 h101 hnB
 refine Bd func112 ntmps112 fun σ N hp hpn hk hkn hfree=>?_
 obtain ⟨hd,hdn⟩:=HD0 hp hpn;clear hp hpn
 refine Wk ?_
 refine ALoop.nilrow 6 28 32 (by simp (disch:=omega) [go_sem, *,-List.reduceReplicate]) ?_
 refine yn (N+1) zi (by kernel_rfl) [4,5,6,8,9,10,13,14,15,16,17,18,19,20,21,22,23,24,25,26,27,28,29,30,31] [] (fun m_ s_ σ_ n_=>∃ (u:Nat) (q:Nat) (acc:List Tg),m_=l.length - u∧s_ 13=.lit (.int .i64 u)∧s_ 6=.slice (some q) (acc.map zd)∧σ_ (q)=.row 28 32 acc.length∧(u≤l.length)∧(N+1≤q)∧(q < n_)∧(acc.length=u)∧(zbm a acc (l.drop u)=R)) ⟨_,0,_,[],rfl,WF,WF,WF,WC,WC,WC,WC,WC⟩ ?_
 intro m_3 s_3 σ_3 n_3 hs_3 hf_3 hn_3 hI_3
 obtain ⟨u,q,acc,hm_3,h3_13,h3_6,e3_0,hu,hq,hqn,hal,hrun⟩:=hI_3
 have h3_2:=KS hs_3 2
 have h3_11:=KS hs_3 11
 have h3_12:=KS hs_3 12
 have k3_0:=KE hf_3 (N)
 have k3_1:=KE hf_3 (g)
 have hlow:=KL (N:=N) (σ:=σ) hf_3
 clear hR
 by_cases hul:u=l.length
 ·rw [hul,List.drop_length,zbm] at hrun
  subst hul hrun
  unfold zf5 zdW
  simp only
  clear hcl
  exact WL
 ·have hu1:u < l.length:=by omega
  obtain ⟨z,hz⟩:∃ z,l[u]=z:=⟨_,rfl⟩
  have hzm:(l.map zd)[u]?=some (zd z):=by rw [List.getElem?_map,List.getElem?_eq_getElem hu1,hz];rfl
  rw [List.drop_eq_getElem_cons hu1,hz,zbm] at hrun
  have c1:=hcl z
  clear hcl
  unfold vR at c1
  have hb26:(acc.length+1) * 32≤140737488355328:=by omega
  have M:Mut (n_3+5+2):=⟨⟩
  cases ho:vq a z nodeB with
  | none=>
   rw [ho] at hrun c1
   simp only at hrun
   subst hrun
   unfold zf5 zdW
   simp only [Option.getD_none,Option.isSome_none,List.map_nil] at c1 ⊢
   have hcs:=And.intro c1 True.intro
   clear c1 ho
   exact WL
  | some t2=>
   rw [ho] at hrun c1
   simp only at hrun
   simp only [Option.getD_some,Option.isSome_some] at c1
   have hcs:=And.intro c1 True.intro
   clear c1 ho
   refine Wk ?_
   exact ⟨WS,WG,WN,_,(show l.length - (u+1) < m_3 by omega),u+1,q,acc++[t2],rfl,WF,WF,WF,WC,WC,WC,WC,WC⟩
end
end Go.Proofs.YtglmjglbobhbbaaGreatDoor
namespace Go.Proofs.YtglmjglbobhbbaaGreatDoor
open _root_.Go.Proofs.Tryz
open Go.Ab
attribute [local irreducible] Go.Ab.tyAV Go.Ab.aw Go.Ab.aops Go.Ab.kReg Go.Ab.aThen Go.Ab.aBlk Go.Ab.acond Go.Ab.aguard Go.Ab.astep Go.Ab.AStepX Go.Ab.aRet
theorem zr7 {a:Int} (h:(Lit.int .u64 a).wf=true):0≤a∧a < 18446744073709551616:=by
 have hw:IntKind.u64.min≤a∧a≤IntKind.u64.max:=by simpa [Lit.wf] using h
 have e1:IntKind.u64.min=0:=by decide
 have e2:IntKind.u64.max=18446744073709551615:=by decide
 omega
theorem zkz {m:Nat} {x:AV} (h:tyAV prog (m+2) 138 x):∃ p:Pr,PrOk p∧x=zU p:=by
 obtain ⟨xs,rfl,h1,h2⟩:=xY underlying138 h
 obtain ⟨a,b,c,d,e,f,rfl⟩:∃ a b c d e f,xs=[a,b,c,d,e,f]:=by
  match xs,h1 with
  | [a,b,c,d,e,f],_=>exact ⟨a,b,c,d,e,f,rfl⟩
 obtain ⟨v1,_,rfl⟩:=vv it3 (h2 0 _ _ rfl rfl)
 obtain ⟨v2,w2,rfl⟩:=vv zsI (h2 1 _ _ rfl rfl)
 obtain ⟨v3,_,rfl⟩:=vv it3 (h2 2 _ _ rfl rfl)
 obtain ⟨v4,_,rfl⟩:=vv it3 (h2 3 _ _ rfl rfl)
 obtain ⟨v5,w5,rfl⟩:=zj5 st9 (h2 4 _ _ rfl rfl)
 obtain ⟨v6,_,rfl⟩:=vv it3 (h2 5 _ _ rfl rfl)
 exact ⟨⟨v1,v2,v3,v4,v5,v6⟩,⟨(zr7 w2).1,(zr7 w2).2,w5⟩,rfl⟩
structure DiW (d:Di):Prop where
 tl:d.ticket.length≤140737488351232
 cl:d.conds.length≤9223372036854775807
 ok:∀ p∈d.conds,PrOk p
def CaW (c:Ca):Prop:=PrOk c.first∧wY c
structure PaW (p:Pa):Prop where
 cl:p.cavs.length≤9223372036854775807
 ok:∀ c∈p.cavs,CaW c
theorem zjJ {x:AV} (h:tyAV prog 8 32 x):∃ l:List Pr,(l.length≤9223372036854775807∧∀ p∈l,PrOk p)∧x=.slice none (l.map zU):=jb zwH (fun _y hy=>zkz hy) h
attribute [local irreducible] yE
def c12:Ca:=⟨true,x9,0,[1],[2]⟩
section
variable [W:W32]
end
theorem zhJ (p:Pr) (hp0:PrOk p) (d k:Nat):ACall prog 226 [zU p] k [(d,zS)] (zbu (zaZ p)) []:=by
 unfold zaZ
 split
 ·rename_i h;exact zcD p hp0 h d k
 ·rename_i h
  exact (znH p hp0 (by simpa using h) d k).result (AV.sub_tup (.cons AV.le_nils0 (.cons (AV.le_refl _) .nil)))
section
variable [W:W32]
end
theorem zcF (w b:List UInt8) (r:Rq) (hw:w.length≤1000) (hb:b.length≤1000):∃ R:List UInt8,R.length≤100000∧∀ k,ACall prog 171 [.lit (.string ⟨w.toArray⟩),.slice none (b.map za),yD r] k [] (.slice none (R.map za)) []:=by
 have c1:=yH w b oo oo
 have hwb:(w++b).length≤2000:=by rw [List.length_append];omega
 obtain ⟨rg,rn⟩:=r
 have hrA:yD ⟨rg,rn⟩=.agg [.lit (.int .i64 rg),.lit (.int .i64 rn)]:=rfl
 rw [hrA]
 clear hrA
 generalize w++b=R1 at *
 obtain ⟨X,hX,c2⟩:∃ (X:List UInt8 × Nat),X.1.length≤3000∧∀ k,ACall prog 214 [.slice none (R1.map za),.lit (.int .i64 rg)] k [] (zbu X) []:=by
  by_cases h:rg < 0∨281474976710656 < rg
  ·exact ⟨([],1),by simp,fun k=>(jY R1 rg h k).result (AV.sub_tup (.cons AV.le_nils0 (.cons (AV.le_refl _) .nil)))⟩
  ·obtain ⟨n,rfl⟩:=Int.eq_ofNat_of_zero_le (show 0≤rg by omega)
   have hl:=zh n 7 oo
   exact ⟨(R1++leb n,0),by simp only [List.length_append];omega,fun k=>yU R1 oo n oo k⟩
 obtain ⟨R2,E2⟩:=X
 simp only at hX
 obtain ⟨Y,hY,c3⟩:∃ (X:List UInt8 × Nat),X.1.length≤4000∧∀ k,ACall prog 214 [.slice none (R2.map za),.lit (.int .i64 rn)] k [] (zbu X) []:=by
  by_cases h:rn < 0∨281474976710656 < rn
  ·exact ⟨([],1),by simp,fun k=>(jY R2 rn h k).result (AV.sub_tup (.cons AV.le_nils0 (.cons (AV.le_refl _) .nil)))⟩
  ·obtain ⟨n,rfl⟩:=Int.eq_ofNat_of_zero_le (show 0≤rn by omega)
   have hl:=zh n 7 oo
   exact ⟨(R2++leb n,0),by simp only [List.length_append];omega,fun k=>yU R2 oo n oo k⟩
 obtain ⟨R3,E3⟩:=Y
 simp only at hY
 refine ⟨R3,by omega,fun k=>?_⟩
 unfold zbu at c2 c3
 simp only at c2 c3
 clear hX hY hwb
 refine Bd func171 ntmps171 fun σ N hp hpn hk hkn hfree=>?_
 have hcs:=And.intro c1 (And.intro c2 (And.intro c3 True.intro))
 clear c1 c2 c3
 exact WM
section
variable [W:W32]
def zs2 (a:Alg) (tag leaf:Tg) (r:Rq):Option Tg:=if rqB r=true then vq a tag (y8 leaf r.gate.toNat r.nonce.toNat) else none
set_option maxHeartbeats 2000000 in
theorem zfC (a:Alg) (m:Nat) (ha:AlgIn a m) (hm:m≤60000) (tag leaf:Tg) (r:Rq) (g k:Nat):
  ACall prog 186 [zA a,zd tag,zd leaf,yD r] k [(g,yE)] (vR (zs2 a tag leaf r)) []:=by
 have c1:=wg r
 unfold zs2
 have hlA:zd leaf=.agg (leaf.1.map za):=rfl
 have ps1:=zB leaf
 have ps2:=zj leaf
 cases hr:rqB r with
 | false=>
  rw [hr] at c1
  rw [if_neg (by simp)]
  unfold vR
  simp only [Option.getD_none,Option.isSome_none]
  obtain ⟨rg,rn⟩:=r
  have hrA:yD ⟨rg,rn⟩=.agg [.lit (.int .i64 rg),.lit (.int .i64 rn)]:=rfl
  rw [hrA] at c1 ⊢
  clear ha hlA ps1 ps2 hrA hr
  refine Bd func186 ntmps186 fun σ N hp hpn hk hkn hfree=>?_
  obtain ⟨hd,hdn⟩:=HD0 hp hpn;clear hp hpn
  have hcs:=And.intro c1 True.intro
  clear c1
  exact W0
 | true=>
  rw [hr] at c1
  rw [if_pos rfl]
  obtain ⟨⟨q1,q2⟩,q3,q4⟩:=rqB_iff.1 hr
  have c4:=vZ [98,105,110,100] leaf.1 r.gate.toNat r.nonce.toNat (by decide) (by rw [leaf.2];decide) oo oo
  have hml:=zbc leaf (g:=r.gate.toNat) (n:=r.nonce.toNat) oo oo
  have hmp:0 < (y8 leaf r.gate.toNat r.nonce.toNat).length:=by simp [y8]
  have hbm:[98,105,110,100]++(leaf.1++(leb r.gate.toNat++leb r.nonce.toNat))=y8 leaf r.gate.toNat r.nonce.toNat:=rfl
  rw [hbm] at c4
  have c5:=wk a tag (y8 leaf r.gate.toNat r.nonce.toNat) (by have:=ha.ml;omega) ha.mm hmp oo g
  generalize vq a tag (y8 leaf r.gate.toNat r.nonce.toNat)=o at *
  unfold vR at *
  generalize o.getD zeroTag=t1 at *
  generalize o.isSome=ok1 at *
  obtain ⟨rg,rn⟩:=r
  simp only at *
  rw [show ((rg.toNat:Nat):Int)=rg by omega,show ((rn.toNat:Nat):Int)=rn by omega] at c4
  generalize y8 leaf rg.toNat rn.toNat=bm at *
  have hrA:yD ⟨rg,rn⟩=.agg [.lit (.int .i64 rg),.lit (.int .i64 rn)]:=rfl
  obtain ⟨K,hK⟩:=leaf
  rw [hlA] at ps1 ps2 ⊢
  rw [hrA] at c1 ⊢
  simp only at *
  clear ha hlA hrA hbm hml hmp hr
  have htk:(K.map za).take 32=K.map za:=List.take_of_length_le (by rw [List.length_map];omega)
  refine Bd func186 ntmps186 fun σ N hp hpn hk hkn hfree=>?_
  obtain ⟨hd,hdn⟩:=HD0 hp hpn;clear hp hpn
  have hcs:=And.intro c1 (And.intro c4 (And.intro c5 True.intro))
  clear c1 c4 c5
  exact W0
def zcd (a:Alg):Tg→List Pr→Option Tg
 | t,[]=>some t
 | t,p::r=>if yc p=true∧p.kind≠7 then (match vq a t (qy p) with
   | none=>none
   | some t'=>zcd a t' r) else none
def zhl (a:Alg) (key:Tg) (t:List UInt8) (l:List Pr):Option Tg:=match vq a key (vy t) with
 | none=>none
 | some x=>zcd a x l
end
def zeU:Bu:=⟨⟨0,0⟩,0,0,[],zeroTag,[]⟩
section
variable [W:W32]
set_option maxHeartbeats 4000000 in
theorem zef (a:Alg) (m:Nat) (ha:AlgIn a m) (hm:m≤60000) (e:Nat) (he:e≠0) (d:Di) (leaf:Tg) (r:Rq) (ht:d.ticket.length≤100000) (hc:d.conds.length≤100000) (q r1 r2 g k:Nat):
  ACall prog 172 [.ptr q [] 0,zw d,zd leaf,yD r] k (vA a e q r1 r2++[(g,yE)]) (zC (zu d)) [(q,zcM a e r1 r2),(r1,zfk a.macs.length)]:=by
 have c1:=wg r
 have cf:=xN a e 1 q r1 r2
 rw [if_neg he] at cf
 have c2:=yC d.ticket oo
 have c3:=vS d.conds hc
 obtain ⟨R,hRl,c4⟩:=zcF [98,105,110,100] leaf.1 r (by decide) (by rw [leaf.2];decide)
 have c5:=vD a e d.tag R (by have:=ha.ml;omega) ha.mm (fun h=>absurd h he) hRl q r1 r2 g
 rw [jO he] at c5
 simp only at c5
 obtain ⟨rg,rn⟩:=r
 obtain ⟨ti,cs,dt⟩:=d
 simp only at *
 have hrA:yD ⟨rg,rn⟩=.agg [.lit (.int .i64 rg),.lit (.int .i64 rn)]:=rfl
 have hdA:zw ⟨ti,cs,dt⟩=.agg [.slice none (ti.map za),.slice none (cs.map zU),zd dt]:=rfl
 have hoA:zC (zu ⟨ti,cs,dt⟩)=.agg [.slice none (ti.map za),.slice none (cs.map zU),zd zeroTag]:=rfl
 have hlA:zd leaf=.agg (leaf.1.map za):=rfl
 have ps1:=zB leaf
 have ps2:=zj leaf
 obtain ⟨K,hK⟩:=leaf
 rw [hlA] at ps1 ps2 ⊢
 rw [hrA] at c1 c4 ⊢
 rw [hdA,hoA]
 simp only at *
 clear hrA hdA hoA hlA ha hRl he
 have htk:(K.map za).take 32=K.map za:=List.take_of_length_le (by rw [List.length_map];omega)
 have e01:((1:Nat):Int)=1:=rfl
 unfold vA at *
 simp only [List.cons_append,List.nil_append] at *
 simp only [zW,zP,zO,e01] at *
 clear e01
 cases hr:rqB ⟨rg,rn⟩ with
 | false=>
  rw [hr] at c1
  clear hr
  refine Bd func172 ntmps172 fun σ N hp hpn hk hkn hfree=>?_
  simp only [List.mem_cons,List.not_mem_nil,or_false,forall_eq_or_imp,forall_eq] at hp hpn;obtain ⟨hd1,hd2,hd3,hd4⟩:=hp;obtain ⟨hdn1,hdn2,hdn3,hdn4⟩:=hpn
  have hne:q≠r1:=by rintro rfl;rw [hd1] at hd2;cases hd2
  have hne3:q≠r2:=by rintro rfl;rw [hd1] at hd3;cases hd3
  have hneg:g≠q:=by rintro rfl;rw [hd4] at hd1;exact ya hd1
  have hneg1:g≠r1:=by rintro rfl;rw [hd4] at hd2;exact yb hd2
  have hne23:r1≠r2:=by rintro rfl;rw [hd2] at hd3;simp at hd3
  have hcs:=And.intro c1 (And.intro cf (And.intro c2 (And.intro c3 (And.intro c4 (And.intro c5 True.intro)))))
  clear c1 cf c2 c3 c4 c5
  refine Wk ?_
  refine yd [(q,(.box 249 (.agg [.agg [.lit (.bool a.free),zd a.seed,.lit (.int .i64 a.fresh),.slice (some r1) (a.macs.map zJ),.slice (some r2) (a.boxes.map zo)],.lit (.int .i64 (e:Int))]))),(r1,(.row 190 65 a.macs.length))] (by simp (disch:=omega) [go_sem, *,-List.reduceReplicate];rfl) (by first | rfl | (simp (disch:=omega) [go_sem];done) | (simp (disch:=omega) [go_sem, *];done) | simp (disch:=omega) [go_sem]) (fun id hid=>by simp only [zF,yi];(by_cases hdd:id=q;(· (subst hdd;simp (disch:=omega) [go_sem, *]));(· (by_cases hdd2:id=r1;(· (subst hdd2;simp (disch:=omega) [go_sem, *]));(· (simp (disch:=omega) only [zg];try (first | exact hlow id hid hdd hdd2 | exact hlow id hid))))))) (by simp) (by simp (disch:=omega) [go_sem, *])
 | true=>
  rw [hr] at c1
  clear hr
  refine Bd func172 ntmps172 fun σ N hp hpn hk hkn hfree=>?_
  simp only [List.mem_cons,List.not_mem_nil,or_false,forall_eq_or_imp,forall_eq] at hp hpn;obtain ⟨hd1,hd2,hd3,hd4⟩:=hp;obtain ⟨hdn1,hdn2,hdn3,hdn4⟩:=hpn
  have hne:q≠r1:=by rintro rfl;rw [hd1] at hd2;cases hd2
  have hne3:q≠r2:=by rintro rfl;rw [hd1] at hd3;cases hd3
  have hneg:g≠q:=by rintro rfl;rw [hd4] at hd1;exact ya hd1
  have hneg1:g≠r1:=by rintro rfl;rw [hd4] at hd2;exact yb hd2
  have hne23:r1≠r2:=by rintro rfl;rw [hd2] at hd3;simp at hd3
  have hcs:=And.intro c1 (And.intro c2 (And.intro c3 (And.intro c4 (And.intro c5 True.intro))))
  clear c1 cf c2 c3 c4 c5
  refine Wk ?_
  refine yd [(q,(.box 249 (.agg [.agg [.lit (.bool a.free),zd a.seed,.lit (.int .i64 a.fresh),.slice (some r1) (a.macs.map zJ),.slice (some r2) (a.boxes.map zo)],.lit (.int .i64 (e:Int))]))),(r1,(.row 190 65 a.macs.length))] (by simp (disch:=omega) [go_sem, *,-List.reduceReplicate];rfl) (by first | rfl | (simp (disch:=omega) [go_sem];done) | (simp (disch:=omega) [go_sem, *];done) | simp (disch:=omega) [go_sem]) (fun id hid=>by simp only [zF,yi];(by_cases hdd:id=q;(· (subst hdd;simp (disch:=omega) [go_sem, *]));(· (by_cases hdd2:id=r1;(· (subst hdd2;simp (disch:=omega) [go_sem, *]));(· (simp (disch:=omega) only [zg];try (first | exact hlow id hid hdd hdd2 | exact hlow id hid))))))) (by simp) (by simp (disch:=omega) [go_sem, *])
set_option maxHeartbeats 16000000 in
theorem zc3 (a:Alg) (m:Nat) (ha:AlgIn a m) (p:Pa) (gs:List Di) (r:Rq) (hg:gs.length≤100) (hm:m≤50000) (hb:BuIn (zE p gs r)) (e0 e:Nat) (hE:(if e0=0 then yZ (zE p gs r) else e0)=e) (he:e≠0) (hpl:p.cavs.length≤1000) (hcm:∀ c∈p.cavs,wY c) (hgm:∀ d∈gs,d.ticket.length≤100000∧d.conds.length≤100000) (q r1 r2 g h k:Nat):
  ACall prog 105 [.ptr q [] 0,zG p,.slice none (gs.map zw),yD r] k (vA a e0 q r1 r2++[(g,yE),(h,zS)]) (ye (zE p gs r)) [(q,zcM a e r1 r2),(r1,zfk a.macs.length)]:=by
 have c0:=vB p.cavs oo hcm
 have hc:=wo (zE p gs r) hb 1 0
 obtain ⟨ec,hec⟩:∃ ec,yZ (zE p gs r)=ec:=⟨_,rfl⟩
 rw [hec] at hc hE
 have c1:=xN a e0 ec q r1 r2
 rw [hE] at c1
 clear hec
 obtain ⟨rm,hrml,c2⟩:=zcF [114,101,113,117,101,115,116] [] r (by decide) (by decide)
 have c3:=vD a e p.tag rm (by have:=ha.ml;omega) ha.mm (fun h=>absurd h he) hrml q r1 r2 g
 rw [jO he] at c3
 simp only at c3
 clear hE hb hrml
 obtain ⟨ep,se,L,tg⟩:=p
 obtain ⟨rg,rn⟩:=r
 simp only at *
 have hpA:zG ⟨ep,se,L,tg⟩=.agg [.lit (.int .i64 ep),.lit (.int .i64 se),.slice none (L.map z8),zd tg]:=rfl
 have hrA:yD ⟨rg,rn⟩=.agg [.lit (.int .i64 rg),.lit (.int .i64 rn)]:=rfl
 have hsA:ye (zE ⟨ep,se,L,tg⟩ gs ⟨rg,rn⟩)=.agg [.agg [.lit (.int .i64 rg),.lit (.int .i64 rn)],.lit (.int .i64 ep),.lit (.int .i64 se),.slice none (L.map z8),zd zeroTag,.slice none ((gs.map zu).map zC)]:=rfl
 rw [hsA] at hc ⊢
 rw [hrA] at c2
 rw [hpA,hrA]
 clear hpA hsA
 have hb24:gs.length * 80≤140737488355328:=by omega
 have hb25:gs.length≤140737488355327:=by omega
 unfold vA at *
 simp only [List.cons_append,List.nil_append,List.map_nil] at *
 simp only [zW,zP,zO] at *
 obtain ⟨D0,hD00⟩:∃ D0,gs.map zu=D0:=⟨_,rfl⟩
 have hD0:D0.length=gs.length:=by rw [← hD00];exact List.length_map ..
 have hDv:∀ (v:Nat) (z:Di),gs[v]?=some z→D0[v]?=some (zu z)∧(D0.map zC).set v (zC (zu z))=D0.map zC:=fun v z hz=>by
  have h1:D0[v]?=some (zu z):=by rw [← hD00,List.getElem?_map,hz];rfl
  refine ⟨h1,?_⟩
  have h2:(D0.map zC)[v]?=some (zC (zu z)):=by rw [List.getElem?_map,h1];rfl
  obtain ⟨h3,h4⟩:=List.getElem?_eq_some_iff.1 h2
  rw [← h4,List.set_getElem_self]
 rw [hD00]
 refine Bd func105 ntmps105 fun σ N hp hpn hk hkn hfree=>?_
 simp only [List.mem_cons,List.not_mem_nil,or_false,forall_eq_or_imp,forall_eq] at hp hpn
 obtain ⟨hd1,hd2,hd3,hd4,hd5⟩:=hp
 obtain ⟨hdn1,hdn2,hdn3,hdn4,hdn5⟩:=hpn
 have hne:q≠r1:=by rintro rfl;rw [hd1] at hd2;cases hd2
 have hne3:q≠r2:=by rintro rfl;rw [hd1] at hd3;cases hd3
 have hneg:g≠q:=by rintro rfl;rw [hd4] at hd1;exact ya hd1
 have hneg1:g≠r1:=by rintro rfl;rw [hd4] at hd2;exact yb hd2
 have hneh:h≠q:=by rintro rfl;rw [hd5] at hd1;exact v8 hd1
 have hneh1:h≠r1:=by rintro rfl;rw [hd5] at hd2;exact v9 hd2
 have hne23:r1≠r2:=by rintro rfl;rw [hd2] at hd3;simp at hd3
 rw [jM] at hd5 hc
 have hcs:=And.intro c0 True.intro
 clear c0
 refine Wk ?_
 clear hcs
 refine vM (N+12) [5] 168 34 (bt:=75) (c:=.agg [.agg [.lit (.int .i64 rg),.lit (.int .i64 rn)],.lit (.int .i64 ep),.lit (.int .i64 se),.slice none (L.map z8),zd zeroTag,.nils]) (by simp (disch:=omega) [go_sem, *,-List.reduceReplicate];try rfl) rfl ?_
 refine ze zi (by kernel_rfl) [11,25,26,27,28,29,30,31,32,33,34,35,36,37,38,39] [N+12,N+17] (fun m_ s_ σ_ n_=>∃ (u:Nat),m_=gs.length - u∧s_ 25=.lit (.int .i64 u)∧σ_ (N+12)=.box 75 (.agg [.agg [.lit (.int .i64 rg),.lit (.int .i64 rn)],.lit (.int .i64 ep),.lit (.int .i64 se),.slice none (L.map z8),zd zeroTag,.ms (N+17) u 34 0 u])∧σ_ (N+17)=.mrow u 168 34 (shX gs u)∧(u≤gs.length)) ⟨_,0,rfl,WF,WF,WF,WC⟩ ?_
 intro m_1 s_1 σ_1 n_1 hs_1 hf_1 hn_1 hI_1
 obtain ⟨u,hm_1,h1_25,e1_0,e1_1,hu⟩:=hI_1
 have h1_0:=KS hs_1 0
 have h1_2:=KS hs_1 2
 have h1_5:=KS hs_1 5
 have h1_7:=KS hs_1 7
 have h1_8:=KS hs_1 8
 have h1_9:=KS hs_1 9
 have h1_23:=KS hs_1 23
 have h1_24:=KS hs_1 24
 have k1_0:=KE hf_1 (N)
 have k1_1:=KE hf_1 (N+1)
 have k1_2:=KE hf_1 (N+2)
 have k1_3:=KE hf_1 (q)
 have k1_4:=KE hf_1 (r1)
 have k1_5:=KE hf_1 (r2)
 have k1_6:=KE hf_1 (g)
 have k1_7:=KE hf_1 (h)
 have hlow:=KL (N:=N) (σ:=σ) hf_1
 by_cases hul:u=gs.length
 ·subst hul
  rw [kj,hD00] at e1_1
  clear hu
  rw [hD00] at hc
  clear hD00
  iterate 2 refine Wz ?_
  (apply xI;· (simp only [List.length_cons,List.length_nil,Nat.reduceAdd,Nat.add_assoc];rfl))
  refine Wm ?_
  refine vT (d:=h) (pre:=[(N+17,.mrow gs.length 168 34 (D0.map zC)),(h,.glob 0 (.agg bitsL))]) hc w8 (by simp) (by simp (disch:=omega) [go_sem, *,-List.reduceReplicate]) rfl (by simp) (by
   simp (disch:=omega) [go_sem, *,-List.reduceReplicate]
   exact .cons (.agg (.cons (.shut (AV.le_refl _) rfl) (.cons (.shut (AV.le_refl _) rfl) (.cons (.shut (AV.le_refl _) rfl) (.cons (.shut (AV.le_refl _) (qW L)) (.cons (.shut (AV.le_refl _) (vQ _)) (.cons (.ms (List.mem_cons_self ..) (by simp [hD0]) (qT D0)) .nil))))))) .nil) (by simp (disch:=omega) [go_sem, *,-List.reduceReplicate]) ?_
  have hcs:=And.intro c1 True.intro
  refine Wm ?_
  have hcs:=And.intro c2 (And.intro c3 True.intro)
  clear c1 c2 c3 hc
  refine Wk ?_
  clear hcs
  refine ze zi (by kernel_rfl) [12,13,53,54,55,56,57,58,59,60,61,62,63,64,65,66,67,68] [q,r1,N+12,N+17] (fun m_ s_ σ_ n_=>∃ (v:Nat),m_=gs.length - v∧s_ 53=.lit (.int .i64 v)∧σ_ (q)=.box 249 (.agg [.agg [.lit (.bool a.free),zd a.seed,.lit (.int .i64 a.fresh),.slice (some r1) (a.macs.map zJ),.slice (some r2) (a.boxes.map zo)],.lit (.int .i64 (e:Int))])∧σ_ (r1)=.row 190 65 a.macs.length∧σ_ (N+12)=.box 75 (.agg [.agg [.lit (.int .i64 rg),.lit (.int .i64 rn)],.lit (.int .i64 ep),.lit (.int .i64 se),.slice none (L.map z8),zd zeroTag,.ms (N+17) gs.length 34 0 gs.length])∧σ_ (N+17)=.mrow gs.length 168 34 (D0.map zC)∧(v≤gs.length)) ⟨_,0,rfl,WF,WF,WF,WF,WF,WC⟩ ?_
  intro m_2 s_2 σ_2 n_2 hs_2 hf_2 hn_2 hI_2
  obtain ⟨v,hm_2,h2_53,e2_0,e2_1,e2_2,e2_3,hv⟩:=hI_2
  have h2_0:=KS hs_2 0
  have h2_5:=KS hs_2 5
  have h2_7:=KS hs_2 7
  have h2_8:=KS hs_2 8
  have h2_9:=KS hs_2 9
  have h2_51:=KS hs_2 51
  have h2_52:=KS hs_2 52
  have k2_0:=KE hf_2 (N)
  have k2_1:=KE hf_2 (N+1)
  have k2_2:=KE hf_2 (N+2)
  have k2_3:=KE hf_2 (r2)
  have k2_4:=KE hf_2 (g)
  have hlow:∀ id,id < N→id≠q→id≠r1→σ_2 id=σ id:=fun id hid hdd0 hdd1=>(hf_2.at id oo (by simp [hdd0,hdd1];try omega)).trans (by simp (disch:=omega) only [zg,zF,yi];try first | exact hlow id hid hdd0 hdd1 | exact hlow id hid)
  by_cases hvl:v=gs.length
  ·subst hvl
   clear hv hDv
   iterate 2 refine Wz ?_
   refine yM (N+12) [5] (r:=N+17) (ver:=gs.length) (size:=34) (e:=168) (xs:=D0.map zC) (k:=gs.length) (by simp (disch:=omega) [go_sem, *,-List.reduceReplicate];try exact ⟨rfl,rfl⟩) (by simp (disch:=omega) [go_sem, *,-List.reduceReplicate]) (by simp (disch:=omega) [go_sem, *,-List.reduceReplicate]) (by simp [hD0]) ?_
   refine Wk ?_
   refine yd [(q,(.box 249 (.agg [.agg [.lit (.bool a.free),zd a.seed,.lit (.int .i64 a.fresh),.slice (some r1) (a.macs.map zJ),.slice (some r2) (a.boxes.map zo)],.lit (.int .i64 (e:Int))]))),(r1,(.row 190 65 a.macs.length))] (by simp (disch:=omega) [go_sem, *,-List.reduceReplicate];rfl) (by first | rfl | (simp (disch:=omega) [go_sem];done) | (simp (disch:=omega) [go_sem, *];done) | simp (disch:=omega) [go_sem]) (fun id hid=>by simp only [zF,yi];(by_cases hdd:id=q;(· (subst hdd;simp (disch:=omega) [go_sem, *]));(· (by_cases hdd2:id=r1;(· (subst hdd2;simp (disch:=omega) [go_sem, *]));(· (simp (disch:=omega) only [zg];try (first | exact hlow id hid hdd hdd2 | exact hlow id hid))))))) (by simp) (by simp (disch:=omega) [go_sem, *])
  ·have hv1:v < gs.length:=by omega
   have hv1i:(v:Int) < (gs.length:Int):=by omega
   obtain ⟨z,hz⟩:∃ z,gs[v]=z:=⟨_,rfl⟩
   have hz0:gs[v]?=some z:=by rw [List.getElem?_eq_getElem hv1,hz]
   have hzm:(gs.map zw)[v]?=some (zw z):=by rw [List.getElem?_map,hz0];rfl
   obtain ⟨hgt,hgc⟩:=hgm z (by rw [← hz];exact List.getElem_mem _)
   have c3:=zef a m ha oo e he z tg ⟨rg,rn⟩ hgt hgc q r1 r2 g
   obtain ⟨hy0,hset⟩:=hDv v z hz0
   rw [hrA] at c3
   unfold vA at c3
   simp only [List.cons_append,List.nil_append] at c3
   simp only [zW,zP,zO] at c3
   generalize zu z=y at *
   have hv2:v < D0.length:=by omega
   have hym:(D0.map zC)[v]?=some (zC y):=by rw [List.getElem?_map,hy0];rfl
   have hysz:AV.szl ((D0.map zC).take v)=v * 34:=by
    rw [← List.map_take,AV.szl_uniform _ 34 (fun x hx=>by obtain ⟨c,_,rfl⟩:=List.mem_map.1 hx;exact kG c),List.length_map,List.length_take,Nat.min_eq_left oo]
   have hyo:(AV.agg (D0.map zC)).offs [v]=v * 34:=by simp only [AV.offs,hym,hysz];rfl
   clear hDv hgt hgc hgm ha
   have hcs:=And.intro c3 True.intro
   clear c3
   refine Wk ?_
   clear hcs
   exact ⟨WS,WG,WN,_,(show gs.length - (v+1) < m_2 by omega),v+1,rfl,WF,WF,WF,WF,WF,WC⟩
 ·have hu1:u < gs.length:=by omega
  have hu1i:(u:Int) < (gs.length:Int):=by omega
  obtain ⟨z,hz⟩:∃ z,gs[u]=z:=⟨_,rfl⟩
  have hzm:(gs.map zw)[u]?=some (.agg [.slice none (z.ticket.map za),.slice none (z.conds.map zU),zd z.tag]):=by rw [List.getElem?_map,List.getElem?_eq_getElem hu1,hz];rfl
  have htk:=wH hu1 hz
  have htk2:(shX gs u).take u++[.agg [.slice none (z.ticket.map za),.slice none (z.conds.map zU),zd zeroTag]]=shX gs (u+1):=by rw [List.take_of_length_le (by rw [ve hu];exact Nat.le_refl _)];exact htk
  have hXl:=ve hu
  have hb26:(u+1) * 80≤140737488355328:=by omega
  have hb27:u≤140737488355327:=by omega
  clear c1 c2 c3 hc hDv
  refine Wk ?_
  exact ⟨WS,WG,WN,_,(show gs.length - (u+1) < m_1 by omega),u+1,rfl,WF,WF,WF,WC⟩
def zlR (a:Alg) (tag:Tg) (r:Rq):Option Tg:=if rqB r=true then vq a tag (kI r.gate.toNat r.nonce.toNat) else none
set_option maxHeartbeats 2000000 in
theorem zfx (a:Alg) (m:Nat) (ha:AlgIn a m) (hm:m≤60000) (tag:Tg) (r:Rq) (g k:Nat):
  ACall prog 111 [zA a,zd tag,yD r] k [(g,yE)] (vR (zlR a tag r)) []:=by
 have c1:=wg r
 unfold zlR
 cases hr:rqB r with
 | false=>
  rw [hr] at c1
  rw [if_neg (by simp)]
  unfold vR
  simp only [Option.getD_none,Option.isSome_none]
  obtain ⟨rg,rn⟩:=r
  have hrA:yD ⟨rg,rn⟩=.agg [.lit (.int .i64 rg),.lit (.int .i64 rn)]:=rfl
  rw [hrA] at c1 ⊢
  clear ha hrA hr
  refine Bd func111 ntmps111 fun σ N hp hpn hk hkn hfree=>?_
  obtain ⟨hd,hdn⟩:=HD0 hp hpn;clear hp hpn
  have hcs:=And.intro c1 True.intro
  clear c1
  exact W0
 | true=>
  rw [hr] at c1
  rw [if_pos rfl]
  obtain ⟨⟨q1,q2⟩,q3,q4⟩:=rqB_iff.1 hr
  have c4:=vZ [114,101,113,117,101,115,116] [] r.gate.toNat r.nonce.toNat (by decide) (by decide) oo oo
  have hml:=zcP (g:=r.gate.toNat) (n:=r.nonce.toNat) oo oo
  have hmp:0 < (kI r.gate.toNat r.nonce.toNat).length:=by simp [kI]
  have hbm:[114,101,113,117,101,115,116]++([]++(leb r.gate.toNat++leb r.nonce.toNat))=kI r.gate.toNat r.nonce.toNat:=rfl
  rw [hbm] at c4
  simp only [List.map_nil] at c4
  have c5:=wk a tag (kI r.gate.toNat r.nonce.toNat) (by have:=ha.ml;omega) ha.mm hmp oo g
  generalize vq a tag (kI r.gate.toNat r.nonce.toNat)=o at *
  unfold vR at *
  generalize o.getD zeroTag=t1 at *
  generalize o.isSome=ok1 at *
  obtain ⟨rg,rn⟩:=r
  simp only at *
  rw [show ((rg.toNat:Nat):Int)=rg by omega,show ((rn.toNat:Nat):Int)=rn by omega] at c4
  generalize kI rg.toNat rn.toNat=bm at *
  have hrA:yD ⟨rg,rn⟩=.agg [.lit (.int .i64 rg),.lit (.int .i64 rn)]:=rfl
  rw [hrA] at c1 ⊢
  clear ha hrA hbm hml hmp hr
  refine Bd func111 ntmps111 fun σ N hp hpn hk hkn hfree=>?_
  obtain ⟨hd,hdn⟩:=HD0 hp hpn;clear hp hpn
  have hcs:=And.intro c1 (And.intro c4 (And.intro c5 True.intro))
  clear c1 c4 c5
  exact W0
end
theorem zfD {c:Ca} (h:xz c=true) (ht:c.ticket.length≤200) (hb:c.box.length≤200):(xk c).length≤409:=by
 cases CV.of h with
 | first p hp=>
  have:=(yS p hp).2
  simp only [xk,if_true,List.length_cons];omega
 | third n hn t b h1 h2=>
  simp only at ht hb
  have l1:=zh n 1 oo
  have l2:=zh t.length 2 oo
  have l3:=zh b.length 2 oo
  rw [xk,if_neg (by simp)]
  simp only [yg,List.length_cons,List.length_append,Int.toNat_natCast];omega
theorem kY {l:List Bo} (h:∀ i j (hi:i < l.length) (hj:j < l.length),(l[i]).ticket=(l[j]).ticket→i=j):∀ u,u≤l.length→twU l u=false
 | 0,_=>rfl
 | u+1,hu=>by
  rw [vf,kY h u oo,Bool.false_or,Bool.eq_false_iff]
  intro hx
  obtain ⟨x,hx1,hx2⟩:=List.any_eq_true.1 hx
  obtain ⟨i,hi,rfl⟩:=List.getElem_of_mem hx1
  rw [List.length_take] at hi
  rw [List.getElem_take,decide_eq_true_eq,List.getD_eq_getElem?_getD,List.getElem?_eq_getElem oo,Option.getD_some] at hx2
  have:=h i u oo oo hx2
  omega
section
variable [W:W32]
omit W in
theorem zg1 {L:List Ca} {gs:List Di} {r:Rq} {se:Int} {tg:Tg} (hr:rqB r=true) (s1:1≤se) (s2:se≤50) (cl:L.length≤5) (cv:∀ c∈L,xz c=true∧PrOk c.first∧c.ticket.length≤200∧c.box.length≤200) (th:yF L≤5) (gl:gs.length≤5) (gv:∀ g∈gs,DiV g)
  (gd:∀ i j (hi:i < gs.length) (hj:j < gs.length),(gs[i]).ticket=(gs[j]).ticket→i=j) (D:List Bo) (hD:D.length=gs.length) (hDg:∀ i (hi:i < gs.length) (hj:i < D.length),(D[i]).ticket=(gs[i]).ticket∧(D[i]).conds=(gs[i]).conds):
  BuIn ⟨r,2,se,L,tg,D⟩∧yZ ⟨r,2,se,L,tg,D⟩=0:=by
 have hmem:∀ d∈D,∃ g∈gs,d.ticket=g.ticket∧d.conds=g.conds:=fun d hd=>by
  obtain ⟨i,hi,rfl⟩:=List.getElem_of_mem hd
  obtain ⟨h1,h2⟩:=hDg i oo hi
  exact ⟨_,List.getElem_mem oo,h1,h2⟩
 have hI:BuIn ⟨r,2,se,L,tg,D⟩:=by
  refine ⟨by simp only;omega,by simp only;omega,fun c hc=>(cv c hc).2.1,fun d hd=>?_⟩
  obtain ⟨g,hg,h1,h2⟩:=hmem d hd
  have:=gv g hg
  exact ⟨by rw [h1];have:=this.t2;omega,by rw [h2];have:=this.cl;omega,fun p hp=>(this.cv p (by rw [← h2];exact hp)).2.1⟩
 refine ⟨hI,?_⟩
 have p1:wX ⟨r,2,se,L,tg,D⟩=false:=by
  unfold wX
  rw [hr]
  simp only [Bool.not_true,Bool.or_eq_false_iff,decide_eq_false_iff_not]
  refine ⟨trivial,by omega,by omega,by omega,by omega⟩
 have p2:qE ⟨r,2,se,L,tg,D⟩=false:=by
  unfold qE
  simp only [Bool.or_eq_false_iff,decide_eq_false_iff_not]
  refine ⟨by omega,by omega,by omega,?_⟩
  rw [List.any_eq_false]
  intro d hd
  obtain ⟨g,hg,h1,h2⟩:=hmem d hd
  have:=(gv g hg).cl
  unfold yQ
  rw [h2];simp;omega
 have p3:(L.any fun c=>!xz c)=false:=by
  rw [List.any_eq_false];intro c hc;rw [(cv c hc).1];simp
 have p4:D.any yr=false:=by
  rw [List.any_eq_false]
  intro d hd
  obtain ⟨g,hg,h1,h2⟩:=hmem d hd
  have hv:=gv g hg
  unfold yr
  rw [h1,h2]
  simp only [Bool.or_eq_true,decide_eq_true_eq,not_or,Bool.not_eq_true]
  refine ⟨⟨by have:=hv.t1;omega,by have:=hv.t2;omega⟩,?_⟩
  rw [List.any_eq_false];intro p hp;rw [(hv.cv p hp).1];simp
 have p5:D.any qv=false:=by
  rw [List.any_eq_false]
  intro d hd
  obtain ⟨g,hg,h1,h2⟩:=hmem d hd
  have hv:=gv g hg
  unfold qv
  rw [h2,Bool.not_eq_true,List.any_eq_false];intro p hp;have:=(hv.cv p hp).2.2;simpa using this
 have p6:twU D D.length=false:=kY (fun i j hi hj ht=>by
  rw [(hDg i oo hi).1,(hDg j oo hj).1] at ht
  exact gd i j oo oo ht) _ (Nat.le_refl _)
 have hP:z7 ⟨r,2,se,L,tg,D⟩=0:=by
  unfold z7
  rw [if_neg (by rw [p1];simp),if_neg (by rw [p2];simp),if_neg (by simp only [p3,p4];simp),if_neg (by simp only [p5];simp),if_neg (by simp only [p6];simp)]
 have hL:(vh ⟨r,2,se,L,tg,D⟩).length≤4096:=by
  obtain ⟨⟨r1,r2⟩,r3,r4⟩:=rqB_iff.1 hr
  have l1:=yk xk 409 L fun c hc=>zfD (cv c hc).1 (cv c hc).2.2.1 (cv c hc).2.2.2
  have l2:=yk yy 363 D fun d hd=>by
   obtain ⟨g,hg,h1,h2⟩:=hmem d hd
   have hv:=gv g hg
   have k1:=hv.t2
   have k2:=hv.cl
   have k3:=zh d.ticket.length 2 (by rw [h1];omega)
   have k4:=zh d.conds.length 7 (by rw [h2];omega)
   have k5:=yk xH 40 d.conds fun p hp=>(yS p (hv.cv p (by rw [← h2];exact hp)).1).2
   rw [h1] at k3
   rw [h2] at k4 k5
   unfold yy
   rw [h1,h2]
   simp only [yg,List.length_append,d.proof.2]
   omega
  have m1:=zh 1 7 oo
  have m2:=zh r.gate.toNat 7 oo
  have m3:=zh r.nonce.toNat 7 oo
  have m4:=zh (2:Int).toNat 7 (by decide)
  have m5:=zh se.toNat 7 oo
  have m6:=zh L.length 7 oo
  have m7:=zh D.length 7 oo
  unfold vh zbw
  simp only [List.length_append,List.flatMap_cons,List.flatMap_nil,List.length_nil,tg.2]
  omega
 unfold yZ
 rw [if_neg (by rw [hP];simp),if_neg oo]
end
section
variable [W:W32]
theorem xU {leaf:Tg} {r:Rq} (hr:rqB r=true):∀ (L:List Di) (u m:Nat) (a:Alg) (D:List Bo),AlgIn a m→m+L.length≤60000→(xj leaf r L u a D).1.boxes=a.boxes
 | [],_,_,_,_,_,_=>rfl
 | d::L,u,m,a,D,ha,hm=>by
  simp only [List.length_cons] at hm
  obtain ⟨h0,hB⟩:=vw ha oo d leaf hr
  have h1:=(xJ h0).2.2.2
  have h3:=yN ha d.tag (y8 leaf r.gate.toNat r.nonce.toNat)
  rw [xj,hB]
  simp only
  rw [xU hr L (u+1) (m+1) _ _ h3 oo]
  exact h1
theorem vo {a:Alg} {m:Nat} (ha:AlgIn a m) (p:Pa) (gs:List Di) {r:Rq} (hr:rqB r=true) (hm:m+gs.length≤50000):(zV a p gs r).1.boxes=a.boxes:=by
 have h0:=ka ha oo p hr
 have h1:(qa a p r).1.boxes=a.boxes:=(xJ h0).2.2.2
 have h3:AlgIn (qa a p r).1 (m+1):=yN ha _ _
 unfold zV
 simp only
 rw [xU hr gs 0 (m+1) _ _ h3 oo]
 exact h1
end
end Go.Proofs.YtglmjglbobhbbaaGreatDoor
namespace Go.Proofs.YtglmjglbobhbbaaGreatDoor
open _root_.Go.Proofs.Tryz
open Go.Ab
attribute [local irreducible] Go.Ab.tyAV Go.Ab.aw Go.Ab.aops Go.Ab.kReg Go.Ab.aThen Go.Ab.aBlk Go.Ab.acond Go.Ab.aguard Go.Ab.astep Go.Ab.AStepX Go.Ab.aRet
attribute [local irreducible] yE
section
variable [W:W32]
def zby (r:Alg × Bu × Nat):AV:=.tup [zA r.1,ye r.2.1,.lit (.int .i64 (r.2.2:Nat))]
end
section
variable [W:W32]
def DiP (d:Di):Prop:=d.ticket.length≤90000∧d.conds.length≤90000∧∀ q∈d.conds,PrOk q
omit W in
theorem zfy:ye zeU=.agg [.agg [.lit (.int .i64 0),.lit (.int .i64 0)],.lit (.int .i64 0),.lit (.int .i64 0),.slice none [],zd zeroTag,.slice none []]:=rfl
structure WaP (w:Wa):Prop where
 wc:WaC w
 pk:∀ p∈w.ps,p.cavs.length≤1000∧∀ c∈p.cavs,PrOk c.first∧wY c
 dl:w.ds.length≤100
 dk:∀ d∈w.ds,DiP d
end
theorem zsK (z:Di) (hz:z.ticket.length≤140737488351232) (x:Di) (hx:x.ticket.length≤140737488351232) (a k:Nat):ACall prog 173 [zw x,.ptr a [] 0] k [(a,.box 34 (zw z))] (.lit (.bool (isT z.ticket x))) []:=by
 have c1:=xB x.ticket z.ticket hx hz
 unfold isT
 obtain ⟨ti,co,pf⟩:=x
 obtain ⟨tj,cp,pg⟩:=z
 have hA:zw ⟨ti,co,pf⟩=.agg [.slice none (ti.map za),.slice none (co.map zU),zd pf]:=rfl
 have hB:zw ⟨tj,cp,pg⟩=.agg [.slice none (tj.map za),.slice none (cp.map zU),zd pg]:=rfl
 rw [hA,hB]
 simp only at c1 ⊢
 refine Bd func173 ntmps173 fun σ N hp hpn hk hkn hfree=>?_
 obtain ⟨hd,hdn⟩:=HD0 hp hpn;clear hp hpn
 have hcs:=And.intro c1 True.intro
 clear c1
 exact W0
def ddL (acc:List Di):List Di→List Di
 | []=>acc
 | d::r=>if acc.any (isT d.ticket)=true then ddL acc r else ddL (acc++[d]) r
theorem zn1:∀ (l acc:List Di),∀ d∈ddL acc l,d∈acc∨d∈l
 | [],acc,d,h=>Or.inl h
 | x::r,acc,d,h=>by
  rw [ddL] at h
  split at h
  ·rcases zn1 r acc d h with h | h
   ·exact Or.inl h
   ·exact Or.inr (List.mem_cons_of_mem _ h)
  ·rcases zn1 r _ d h with h | h
   ·rcases List.mem_append.1 h with h | h
    ·exact Or.inl h
    ·rw [List.mem_singleton.1 h];exact Or.inr (List.mem_cons_self ..)
   ·exact Or.inr (List.mem_cons_of_mem _ h)
theorem zn0:∀ (l acc:List Di),(ddL acc l).length≤acc.length+l.length
 | [],acc=>Nat.le_refl _
 | x::r,acc=>by
  rw [ddL]
  split
  ·have:=zn0 r acc;rw [List.length_cons];omega
  ·have:=zn0 r (acc++[x]);rw [List.length_append,List.length_singleton] at this;rw [List.length_cons];omega
theorem zqW:∀ (G acc X:List Di),(∀ d∈G,∀ x∈acc,x.ticket≠d.ticket)→G.Pairwise (fun a b=>a.ticket≠b.ticket)→ddL acc (G++X)=ddL (acc++G) X
 | [],acc,X,_,_=>by simp
 | d::r,acc,X,h,hp=>by
  rw [List.pairwise_cons] at hp
  have hn:¬ acc.any (isT d.ticket)=true:=by
   intro hh
   obtain ⟨x,hx,hx2⟩:=List.any_eq_true.1 hh
   unfold isT at hx2
   exact h d (List.mem_cons_self ..) x hx (by simpa using hx2)
  rw [List.cons_append,ddL,if_neg hn,zqW r (acc++[d]) X (fun y hy x hx=>by
   rcases List.mem_append.1 hx with hx | hx
   ·exact h y (List.mem_cons_of_mem _ hy) x hx
   ·rw [List.mem_singleton.1 hx];exact hp.1 y hy) hp.2]
  simp
theorem zqX:∀ (X acc:List Di),(∀ d∈X,d∈acc)→ddL acc X=acc
 | [],acc,_=>rfl
 | d::r,acc,h=>by
  have hy:acc.any (isT d.ticket)=true:=by
   rw [List.any_eq_true]
   exact ⟨d,h d (List.mem_cons_self ..),by unfold isT;simp⟩
  rw [ddL,if_pos hy]
  exact zqX r acc fun x hx=>h x (List.mem_cons_of_mem _ hx)
set_option maxHeartbeats 4000000 in
theorem zkx (q:Kn) (hdl:q.ds.length≤100000) (hdc:∀ d∈q.ds,WdT d.ticket d.conds) (x:Pa) (hx:PaC x) (k:Nat):ACall prog 106 [xT q,zG x] k [] (.slice none ((ddL [] (jc x q.ds)).map zw)) []:=by
 have c1:=we ⟨[x],q.ds⟩ ⟨by simp,fun p hp=>by rw [List.mem_singleton.1 hp];exact hx,hdl,hdc⟩ 0
 have hm:zbr ⟨[x],q.ds⟩ 0=jc x q.ds:=by
  have hz:yf ⟨[x],q.ds⟩ 0=(x,true):=by unfold yf;simp
  unfold zbr;rw [hz]
 rw [hm] at c1
 have hml:(jc x q.ds).length≤100000:=Nat.le_trans (List.length_filter_le ..) hdl
 have hmc:∀ d∈jc x q.ds,WdT d.ticket d.conds:=fun d hd=>hdc d (List.mem_filter.1 hd).1
 clear hm
 have hwA:yp ⟨[x],q.ds⟩=.agg [.slice none [zG x],.slice none (q.ds.map zw)]:=rfl
 rw [hwA] at c1
 clear hwA hdl hdc hx
 obtain ⟨P,D,B,I⟩:=q
 have hkA:xT ⟨P,D,B,I⟩=.agg [.slice none (P.map zG),.slice none (D.map zw),.slice none (B.map ye),.slice none (I.map xm)]:=rfl
 rw [hkA]
 clear hkA
 simp only at *
 generalize jc x D=M at *
 obtain ⟨R,hR⟩:∃ R,ddL [] (M.drop 0)=R:=⟨_,rfl⟩
 rw [show ddL [] M=R from hR]
 have hs1:=xv x
 have hs2:=yw x
 refine Bd func106 ntmps106 fun σ N hp hpn hk hkn hfree=>?_
 have hcs:=And.intro c1 True.intro
 clear c1
 refine Wk ?_
 clear hcs
 refine ALoop.nilrow 5 34 34 (by simp (disch:=omega) [go_sem, *,-List.reduceReplicate]) ?_
 refine yn (N) zi (by kernel_rfl) [5,7,15,16,17,18,19,20,21,22,23,24,25,26,27] [] (fun m_ s_ σ_ n_=>∃ (u:Nat) (r:Nat) (acc:List Di),m_=M.length - u∧s_ 15=.lit (.int .i64 u)∧s_ 5=.slice (some r) (acc.map zw)∧σ_ (r)=.row 34 34 acc.length∧(N+12≤r)∧(r < n_)∧(u≤M.length)∧(acc.length≤u)∧(∀ d∈acc,WdT d.ticket d.conds)∧(ddL acc (M.drop u)=R)) ⟨_,0,_,[],rfl,WF,WF,WF,WC,WC,WC,WC,WC,WC⟩ ?_
 intro m_1 s_1 σ_1 n_1 hs_1 hf_1 hn_1 hI_1
 obtain ⟨u,r,acc,hm_1,h1_15,h1_5,e1_0,hNr,hrn,hu,hal,hac,hacc⟩:=hI_1
 have h1_4:=KS hs_1 4
 have h1_13:=KS hs_1 13
 have h1_14:=KS hs_1 14
 have hlow:=KL (N:=N) (σ:=σ) hf_1
 clear hR
 by_cases hul:u=M.length
 ·subst hul
  rw [List.drop_length,ddL] at hacc
  subst hacc
  clear hmc hac
  exact WM
 ·have hu1:u < M.length:=by omega
  have hzd:=hmc _ (List.getElem_mem hu1)
  rw [List.drop_eq_getElem_cons hu1,ddL] at hacc
  obtain ⟨z,hz⟩:∃ z,M[u]=z:=⟨_,rfl⟩
  rw [hz] at hacc hzd
  have c2:=zaU acc (isT z.ticket) 173 (n_1+1+2) (.box 34 (zw z)) (by simp) (fun x hx k=>zsK z hzd.1 x (hac x hx).1 _ k) oo
  have hzm:(M.map zw)[u]?=some (zw z):=by rw [List.getElem?_map,List.getElem?_eq_getElem hu1,hz];rfl
  have hb80:(acc.length+1) * 80≤140737488355328:=by omega
  by_cases hq:acc.any (isT z.ticket)=true
  ·rw [if_pos hq] at hacc
   rw [hq] at c2
   clear hmc hzd hq
   have hcs:=And.intro c2 True.intro
   clear c2
   refine Wk ?_
   clear hcs
   exact ⟨WS,WG,WN,_,(show M.length - (u+1) < m_1 by omega),u+1,r,acc,rfl,WF,WF,WF,WC,WC,WC,WC,WC,WC⟩
  ·rw [if_neg hq] at hacc
   simp only [Bool.not_eq_true] at hq
   rw [hq] at c2
   have hac2:∀ d∈acc++[z],WdT d.ticket d.conds:=fun d hd=>by
    rcases List.mem_append.1 hd with hd | hd
    ·exact hac d hd
    ·rw [List.mem_singleton.1 hd];exact hzd
   have hmm:acc.map zw++[zw z]=(acc++[z]).map zw:=by simp
   have hll:(acc++[z]).length=acc.length+1:=by simp
   generalize acc++[z]=acc2 at *
   clear hmc hzd hq hac
   have hcs:=And.intro c2 True.intro
   clear c2
   refine Wk ?_
   clear hcs
   exact ⟨WS,WG,WN,_,(show M.length - (u+1) < m_1 by omega),u+1,r,acc2,rfl,WF,WF,WF,WC,WC,WC,WC,WC,WC⟩
section
variable [W:W32]
def FoQ (a:Alg) (q:Kn) (p:Pa) (l:List Pr) (r:Rq) (g h:Nat):Prop:=∃ R:Alg × Bu × Nat,
 (∀ k,ACall prog 49 [zA a,xT q,.lit (.int .i64 0),.slice none (l.map zU),yD r] k [(g,yE),(h,zS)] (zby R) []) ∧
 (R.2.2=0→(wj a p l).2.1=0∧yZ (zE (wj a p l).2.2 (ddL [] (jc (wj a p l).2.2 q.ds)) r)=0∧R.1=(zV (wj a p l).1 (wj a p l).2.2 (ddL [] (jc (wj a p l).2.2 q.ds)) r).1∧R.2.1=(zV (wj a p l).1 (wj a p l).2.2 (ddL [] (jc (wj a p l).2.2 q.ds)) r).2)
set_option maxHeartbeats 16000000 in
theorem zqC {a:Alg} {m:Nat} (ha:AlgIn a m) (hm:m≤20000) {q:Kn} {p:Pa} {P':List Pa} (hq:q.ps=p::P') (hpl':P'.length≤100000) (hpl:p.cavs.length≤100) (hpk:∀ c∈p.cavs,PrOk c.first∧wY c) (hdl:q.ds.length≤100) (hdk:∀ d∈q.ds,DiP d)
  {l:List Pr} (hl:l.length≤100) (hlk:∀ x∈l,PrOk x) (r:Rq) {g h:Nat} (_hgh:g≠h):FoQ a q p l r g h:=by
 unfold FoQ
 have hdc:∀ d∈q.ds,WdT d.ticket d.conds:=fun d hd=>⟨by have:=(hdk d hd).1;omega,by have:=(hdk d hd).2.1;omega⟩
 have cb:=wK a (by have:=ha.ml;omega) (by have:=ha.bl;omega)
 have c1:=fun qq r1 r2=>zdI a m ha l oo oo p oo (fun c hc=>(hpk c hc).2) hlk qq r1 r2 g h
 have hbx:=wb l a p
 have hin:=zrV l a p m ha
 obtain ⟨hcl,hcm⟩:=kW l a p
 have hck:∀ c∈(wj a p l).2.2.cavs,PrOk c.first∧wY c:=fun c hc=>by
  rcases hcm c hc with h | ⟨x,hx,rfl⟩
  ·exact hpk c h
  ·exact ⟨hlk x hx,by simp [zR],by simp [zR]⟩
 have c2:=zkx q oo hdc (wj a p l).2.2 ⟨by omega,fun c hc=>(hck c hc).2⟩
 clear hcm
 generalize wj a p l=X at *
 obtain ⟨a1,e1,p1⟩:=X
 simp only at *
 have hgl:(ddL [] (jc p1 q.ds)).length≤100:=by
  have h1:=zn0 (jc p1 q.ds) []
  have h2:(jc p1 q.ds).length≤q.ds.length:=List.length_filter_le ..
  simp only [List.length_nil] at h1
  omega
 have hgk:∀ d∈ddL [] (jc p1 q.ds),DiP d:=fun d hd=>by
  rcases zn1 _ _ d hd with h1 | h1
  ·cases h1
  ·exact hdk d (List.mem_filter.1 h1).1
 generalize ddL [] (jc p1 q.ds)=G at *
 have hgm:∀ d∈G,d.ticket.length≤100000∧d.conds.length≤100000:=fun d hd=>⟨Nat.le_trans (hgk d hd).1 (by decide),Nat.le_trans (hgk d hd).2.1 (by decide)⟩
 have hb:BuIn (zE p1 G r):=by
  refine ⟨by simp only [zE];omega,by simp only [zE,List.length_map];omega,fun c hc=>(hck c hc).1,fun d hd=>?_⟩
  simp only [zE] at hd
  obtain ⟨z,hz,rfl⟩:=List.mem_map.1 hd
  have hv:=hgk z hz
  exact ⟨Nat.le_trans hv.1 (by decide),Nat.le_trans hv.2.1 (by decide),fun q hq=>hv.2.2 q hq⟩
 have hkA:xT q=.agg [.slice none (zG p::P'.map zG),.slice none (q.ds.map zw),.slice none (q.bs.map ye),.slice none (q.its.map xm)]:=by
  obtain ⟨Q1,Q2,Q3,Q4⟩:=q
  simp only at hq
  subst hq
  rfl
 have hlen:¬ ((P'.length:Int)+1≤0):=by omega
 have hs1:=xv p
 have hs2:=yw p
 have hs3:=xv p1
 have hs4:=yw p1
 rw [hkA] at c2 ⊢
 clear hkA hq hdk hdc hpk hlk ha hgk
 have e00:((0:Nat):Int)=0:=rfl
 unfold zbN at cb
 unfold vA at c1
 simp only [List.cons_append,List.nil_append] at c1
 simp only [zW,zP,zO,hbx,e00] at cb c1
 by_cases h0:e1=0∧yZ (zE p1 G r)=0
 ·obtain ⟨rfl,hk0⟩:=h0
  have hV:=(vK hb hk0).1
  have hbx2:(zV a1 p1 G r).1.boxes=a.boxes:=(vo hin p1 G hV.rq oo).trans hbx
  have c3:=fun qq r1 r2=>kA a1 (m+2 * l.length) hin p1 G r oo oo hb hk0 (fun c hc=>(hck c hc).2) hgm qq r1 r2 g h
  refine ⟨((zV a1 p1 G r).1,(zV a1 p1 G r).2,0),fun k=>?_,fun _=>⟨rfl,hk0,rfl,rfl⟩⟩
  unfold zby
  simp only
  clear hV hk0 hb hck hgm hin
  generalize zV a1 p1 G r=Z at *
  obtain ⟨a2,b2⟩:=Z
  simp only at *
  have cd:=kF a2
  unfold vA at c3 cd
  simp only [List.cons_append,List.nil_append] at c3
  simp only [zW,zP,zO,hbx,hbx2,e00] at c1 c3 cd
  simp only [e00]
  refine Bd func49 ntmps49 fun σ N hp hpn hk hkn hfree=>?_
  simp only [List.mem_cons,List.not_mem_nil,or_false,forall_eq_or_imp,forall_eq] at hp hpn;obtain ⟨hd1,hd2⟩:=hp;obtain ⟨hdn1,hdn2⟩:=hpn
  have hcs:=And.intro cb True.intro
  refine Wm ?_
  iterate 3 refine Wz ?_
  clear hcs
  refine zL (N+15+1) [0,3] 190 65 (bt:=249) (c:=.agg [.agg [.lit (.bool a.free),zd a.seed,.lit (.int .i64 a.fresh),.clip (a.macs.map zJ),.clip (a.boxes.map zo)],.lit (.int .i64 ((0:Nat):Int))]) (xs:=a.macs.map zJ) (by simp (disch:=omega) [go_sem, *,-List.reduceReplicate]) rfl (vg _) ?_;refine zL (N+15+1) [0,4] 192 35 (bt:=249) (c:=.agg [.agg [.lit (.bool a.free),zd a.seed,.lit (.int .i64 a.fresh),.slice (some (N+15+3)) (a.macs.map zJ),.clip (a.boxes.map zo)],.lit (.int .i64 ((0:Nat):Int))]) (xs:=a.boxes.map zo) (by simp (disch:=omega) [go_sem, *,-List.reduceReplicate]) rfl (xC _) ?_
  have hcs:=And.intro (c1 (N+15+1) (N+15+3) (N+15+3+1)) (And.intro c2 (And.intro (c3 (N+15+1) (N+15+3) (N+15+3+1)) (And.intro (cd (N+15+1) (N+15+3) (N+15+3+1)) True.intro)))
  clear cb c1 c2 c3 cd
  refine Wk ?_
  exact WD
 ·obtain ⟨E,hE⟩:∃ E,(if e1=0 then yZ (zE p1 G r) else e1)=E:=⟨_,rfl⟩
  have hE0:E≠0:=by
   rw [← hE]
   split
   ·rename_i h1;exact fun h2=>h0 ⟨h1,h2⟩
   ·rename_i h1;exact h1
  have c3:=fun qq r1 r2=>zc3 a1 (m+2 * l.length) hin p1 G r oo oo hb e1 E hE hE0 oo (fun c hc=>(hck c hc).2) hgm qq r1 r2 g h
  refine ⟨(wZ,zeU,E),fun k=>?_,fun h=>absurd h hE0⟩
  unfold zby
  simp only
  have cd:=qP a1 E hE0
  have hEi:((E:Int) != 0)=true:=by rw [bne_iff_ne];omega
  clear hb hck hgm hin h0 hE
  generalize zE p1 G r=b2 at *
  unfold vA at c3 cd
  simp only [List.cons_append,List.nil_append] at c3
  simp only [zW,zP,zO,hbx] at c1 c3 cd
  rw [zZ,zfy]
  simp only [zZ] at cd
  refine Bd func49 ntmps49 fun σ N hp hpn hk hkn hfree=>?_
  simp only [List.mem_cons,List.not_mem_nil,or_false,forall_eq_or_imp,forall_eq] at hp hpn;obtain ⟨hd1,hd2⟩:=hp;obtain ⟨hdn1,hdn2⟩:=hpn
  have hcs:=And.intro cb True.intro
  refine Wm ?_
  iterate 3 refine Wz ?_
  clear hcs
  refine zL (N+15+1) [0,3] 190 65 (bt:=249) (c:=.agg [.agg [.lit (.bool a.free),zd a.seed,.lit (.int .i64 a.fresh),.clip (a.macs.map zJ),.clip (a.boxes.map zo)],.lit (.int .i64 ((0:Nat):Int))]) (xs:=a.macs.map zJ) (by simp (disch:=omega) [go_sem, *,-List.reduceReplicate]) rfl (vg _) ?_;refine zL (N+15+1) [0,4] 192 35 (bt:=249) (c:=.agg [.agg [.lit (.bool a.free),zd a.seed,.lit (.int .i64 a.fresh),.slice (some (N+15+3)) (a.macs.map zJ),.clip (a.boxes.map zo)],.lit (.int .i64 ((0:Nat):Int))]) (xs:=a.boxes.map zo) (by simp (disch:=omega) [go_sem, *,-List.reduceReplicate]) rfl (xC _) ?_
  have hcs:=And.intro (c1 (N+15+1) (N+15+3) (N+15+3+1)) (And.intro c2 (And.intro (c3 (N+15+1) (N+15+3) (N+15+3+1)) (And.intro (cd (N+15+1) (N+15+3) (N+15+3+1)) True.intro)))
  clear cb c1 c2 c3 cd
  refine Wk ?_
  exact WD
end
end Go.Proofs.YtglmjglbobhbbaaGreatDoor
