/- Texts U14, joined. -/
import Derived.Test.YtglmjglbobhbbaaGreatDoorM35
namespace Go.Proofs.YtglmjglbobhbbaaGreatDoor
open _root_.Go.Proofs.Tryz
open Go.Ab
attribute [local irreducible] Go.Ab.tyAV Go.Ab.aw Go.Ab.aops Go.Ab.kReg Go.Ab.aThen Go.Ab.aBlk Go.Ab.acond Go.Ab.aguard Go.Ab.astep Go.Ab.AStepX Go.Ab.aRet
attribute [local irreducible] yE
section
variable [W:W32]
theorem Good.tick {con:Co} {se:Int} {S:Ss} {n m:Nat} (h:Good con se S n m) (hm:m≤1000) (c0:0≤con.party) (c7:con.party≤7):(BL S con).2.1.ticket.length≤1000:=by
 obtain ⟨hk,hb2,hB⟩:=ziR h.ain oo (c:=con) (t:=⟨0,150⟩) rfl c0 c7
 have hBL:BL S con=_:=hB
 have hpl:=zdl (zai S.A).2.1 ⟨0,150⟩ rfl
 have htl:=zeK h.ok.key hb2
 rw [hBL]
 simp only
 omega
theorem zmR {a:Alg} {c:Co} {t holder:List UInt8} {mi:Int}:(zaD a c t holder mi).2.1.conds.length≤1:=by
 unfold zaD
 repeat' split
 all_goals first | (simp [di0];done) | skip
 unfold wD
 repeat' split
 all_goals simp [di0]
theorem znl {a:Alg} {d:Di} {p:Pr}:(wD a d p).2.1.conds.length≤d.conds.length+1:=by
 unfold wD
 repeat' split
 all_goals simp [di0]
set_option maxHeartbeats 16000000 in
theorem zpJ (l:List Int) (i:Nat) (h:Dk l i) (q0 j0:Nat) (sd:Tg) (j1 mi j2 pt j3 bo j4 ga j5 no j6 se j7 K j8:Nat) (a1 a2 a3:Alg) (k1 k2:Tg) (e1' e2' e3':Nat) (pa:Pa) (con:Co)
  (h0:yl l i 2=(q0,j0)) (h1:zg5 l j0=(sd,j1)) (h2:zai ⟨decide (q0=0),sd,0,[],[]⟩=(a1,k1,e1')) (h3:zai a1=(a2,k2,e2')) (h4:yl l j1 3000=(mi,j2)) (h5:yl l j2 8=(pt,j3)) (h6:yl l j3 60=(bo,j4)) (h7:yl l j4 8=(ga,j5)) (h8:zaM l j5 1 100=(no,j6)) (h9:zaM l j6 1 50=(se,j7))
  (h10:zdF a2 2 k2 (se:Nat)=(a3,pa,e3')) (h11:yl l j7 6=(K,j8)) (hcon:con=⟨pt,k1,[⟨ann,-(bo:Int) * 365 * 1440⟩,⟨[98,111,98],0⟩]⟩) (hpt:pt≤7) (hbo:bo≤59) (hmi:mi≤2999) (hK:K≤5)
  (hG0:Good con (se:Nat) ⟨a3,pa,[]⟩ 0 10) (R1:Ss) (R2:Nat) (hrun0:zwC l con (mi:Nat) K j8 ⟨a3,pa,[]⟩ (R1,R2)) (d k:Nat):
  ACall prog 24 [.ptr d [] 0,.lit (.bool false)] k [(d,zy l i)] (zbS ⟨R1.A,⟨[⟨2,k2⟩],3⟩,con,R1.p,R1.gs,⟨ga,no⟩,ann,mi⟩) [(d,zy l R2)]:=by
 have d0:Dk l j0:=by have:=yu 2 h;rw [h0] at this;exact this
 have d1:Dk l j1:=by have:=zl5 d0;rw [h1] at this;exact this
 have d2:Dk l j2:=by have:=yu 3000 d1;rw [h4] at this;exact this
 have d3:Dk l j3:=by have:=yu 8 d2;rw [h5] at this;exact this
 have d4:Dk l j4:=by have:=yu 60 d3;rw [h6] at this;exact this
 have d5:Dk l j5:=by have:=yu 8 d4;rw [h7] at this;exact this
 have d6:Dk l j6:=by have:=zeE (lo:=1) (n:=100) d5;rw [h8] at this;exact this
 have d7:Dk l j7:=by have:=zeE (lo:=1) (n:=50) d6;rw [h9] at this;exact this
 have d8:Dk l j8:=by have:=yu 6 d7;rw [h11] at this;exact this
 have c1:=yV l i 2 h oo oo
 have c2:=zlc l j0 d0
 have c3:=zoB (decide (q0=0)) sd
 have i0:AlgIn ⟨decide (q0=0),sd,0,[],[]⟩ 0:=⟨by simp,by simp,by simp,by simp,fun e he=>by simp at he,fun e he=>by simp at he⟩
 have c4:=zk8 ⟨decide (q0=0),sd,0,[],[]⟩ (by simp)
 have i1:AlgIn a1 1:=by have:=zfR i0;rw [h2] at this;exact this
 have c5:=zk8 a1 i1.f0
 have i2:AlgIn a2 2:=by have:=zfR i1;rw [h3] at this;exact this
 have c6:=yV l j1 3000 d1 oo oo
 have c7:=yV l j2 8 d2 oo oo
 have c8:=yV l j3 60 d3 oo oo
 have c9:=yV l j4 8 d4 oo oo
 have c10:=zhd l j5 1 100 100 d5 oo oo oo oo
 have c11:=zhd l j6 1 50 50 d6 oo oo oo oo
 have c12:=zcO a2 2 i2 oo 2 (se:Nat) k2
 have c13:=yV l j7 6 d7 oo oo
 rw [h0] at c1
 rw [h1] at c2
 rw [h2] at c4
 rw [h3] at c5
 rw [h4] at c6
 rw [h5] at c7
 rw [h6] at c8
 rw [h7] at c9
 rw [h8] at c10
 rw [h9] at c11
 rw [h10] at c12
 rw [h11] at c13
 unfold zha at c4 c5
 unfold zdZ at c12
 simp only at c1 c2 c4 c5 c6 c7 c8 c9 c10 c11 c12 c13
 clear h0 h1 h2 h3 h4 h5 h6 h7 h8 h9 h10 h11 i0 i1 i2 d0 d1 d2 d3 d4 d5 d6 d7 h
 have hq0:((q0:Int) == 0)=decide (q0=0):=by
  by_cases hq:q0=0
  ·subst hq;rfl
  ·rw [decide_eq_false hq,beq_eq_false_iff_ne];omega
 have hq1:decide ((q0:Int)=0)=decide (q0=0):=by congr 1;exact propext oo
 generalize decide (q0=0)=fr at *
 have hc0:0≤con.party:=by rw [hcon];simp
 have hc7:con.party≤7:=by rw [hcon];simp only;omega
 obtain ⟨bon,hbon⟩:∃ x:Int,-(bo:Int) * 365 * 1440=x:=⟨_,rfl⟩
 have hb0:-60000000≤bon:=by omega
 have hb1:bon≤0:=by omega
 rw [hbon] at hcon
 have hfp:zhu con.ps ann=(⟨ann,bon⟩,true):=by rw [hcon];rfl
 have hcA:xW con=.agg [.lit (.int .i64 (pt:Int)),zd k1,.slice none [.agg [.lit (.string ⟨#[97,110,110]⟩),.lit (.int .i64 bon)],.agg [.lit (.string ⟨#[98,111,98]⟩),.lit (.int .i64 0)]]]:=by rw [hcon];rfl
 have hcps:con.ps.length=2:=by rw [hcon];rfl
 have hres:zbS ⟨R1.A,⟨[⟨2,k2⟩],3⟩,con,R1.p,R1.gs,⟨ga,no⟩,ann,mi⟩=.agg [zA R1.A,.agg [.slice none [.agg [.lit (.int .i64 2),zd k2]],.lit (.int .i64 3)],.agg [.lit (.int .i64 (pt:Int)),zd k1,.slice none [.agg [.lit (.string ⟨#[97,110,110]⟩),.lit (.int .i64 bon)],.agg [.lit (.string ⟨#[98,111,98]⟩),.lit (.int .i64 0)]]],zG R1.p,.slice none (R1.gs.map zw),.agg [.lit (.int .i64 (ga:Int)),.lit (.int .i64 (no:Int))],.lit (.string ⟨#[97,110,110]⟩),.lit (.int .i64 (mi:Int))]:=by
  unfold zbS;simp only;rw [hcA];rfl
 rw [hres]
 clear hres hcon
 refine Bd func24 ntmps24 fun σ N hp hpn hk hkn hfree=>?_
 obtain ⟨hd,hdn⟩:=HD0 hp hpn;clear hp hpn
 have hcs:=And.intro (c1 d) (And.intro (c2 d) (And.intro c3 (And.intro c4 (And.intro c5 (And.intro (c6 d) (And.intro (c7 d) (And.intro (c8 d) (And.intro (c9 d) (And.intro (c10 d) (And.intro (c11 d) (And.intro c12 (And.intro (c13 d) True.intro))))))))))))
 clear c1 c2 c3 c4 c5 c6 c7 c8 c9 c10 c11 c12 c13
 refine Wm ?_
 iterate 6 refine Wz ?_
 replace hcs:=hcs.2.2.2.2.2
 iterate 7 refine Wz ?_
 clear hcs
 refine wl (N+1) [1,0] (.slice none [.agg [.lit (.int .i64 2),zd k2]]) (bt:=51) (c:=.agg [zA a3,.agg [.slice (some (N+32+2)) [.agg [.lit (.int .i64 2),zd k2]],.lit (.int .i64 3)],.agg [.lit (.int .i64 (pt:Int)),zd k1,.slice (some (N+44+10)) [.agg [.lit (.string ⟨#[97,110,110]⟩),.lit (.int .i64 bon)],.agg [.lit (.string ⟨#[98,111,98]⟩),.lit (.int .i64 0)]]],zG pa,.nils,.agg [.lit (.int .i64 (ga:Int)),.lit (.int .i64 (no:Int))],.lit (.string ⟨#[97,110,110]⟩),.lit (.int .i64 (mi:Int))]) (by simp (disch:=omega) [go_sem, *,-List.reduceReplicate]) rfl (AV.le_own _ _) rfl rfl ?_
 refine wl (N+1) [2,2] (.slice none [.agg [.lit (.string ⟨#[97,110,110]⟩),.lit (.int .i64 bon)],.agg [.lit (.string ⟨#[98,111,98]⟩),.lit (.int .i64 0)]]) (bt:=51) (c:=.agg [zA a3,.agg [.slice none [.agg [.lit (.int .i64 2),zd k2]],.lit (.int .i64 3)],.agg [.lit (.int .i64 (pt:Int)),zd k1,.slice (some (N+44+10)) [.agg [.lit (.string ⟨#[97,110,110]⟩),.lit (.int .i64 bon)],.agg [.lit (.string ⟨#[98,111,98]⟩),.lit (.int .i64 0)]]],zG pa,.nils,.agg [.lit (.int .i64 (ga:Int)),.lit (.int .i64 (no:Int))],.lit (.string ⟨#[97,110,110]⟩),.lit (.int .i64 (mi:Int))]) (by simp (disch:=omega) [go_sem, *,-List.reduceReplicate];try rfl) rfl (AV.le_own _ _) rfl rfl ?_
 refine zdC (N+1) [4] 34 34 (bt:=51) (c:=.agg [zA a3,.agg [.slice none [.agg [.lit (.int .i64 2),zd k2]],.lit (.int .i64 3)],.agg [.lit (.int .i64 (pt:Int)),zd k1,.slice none [.agg [.lit (.string ⟨#[97,110,110]⟩),.lit (.int .i64 bon)],.agg [.lit (.string ⟨#[98,111,98]⟩),.lit (.int .i64 0)]]],zG pa,.nils,.agg [.lit (.int .i64 (ga:Int)),.lit (.int .i64 (no:Int))],.lit (.string ⟨#[97,110,110]⟩),.lit (.int .i64 (mi:Int))]) (by simp (disch:=omega) [go_sem, *,-List.reduceReplicate];try rfl) rfl ?_
 refine ze zi (by kernel_rfl) (8::9::10::11::12::13::83::84::85::86::87::88::89::90::91::92::93::94::95::96::97::98::99::100::101::102::103::104::105::106::107::108::109::110::111::112::113::114::115::116::117::118::119::120::121::122::123::124::125::126::127::128::129::130::131::132::133::134::135::136::137::138::139::140::141::142::143::144::145::146::147::148::149::150::151::152::153::154::155::156::157::158::159::160::161::162::163::164::165::166::167::168::169::170::171::172::173::174::[]) [d,N+1,N+86] (fun m_ s_ σ_ n_=>∃ (f:Nat) (j':Nat) (S:Ss) (n1:Nat) (m1:Nat),m_=f∧s_ 8=.lit (.int .i64 f)∧σ_ (d)=zy l j'∧σ_ (N+1)=.box 51 (.agg [zA S.A,.agg [.slice none [.agg [.lit (.int .i64 2),zd k2]],.lit (.int .i64 3)],.agg [.lit (.int .i64 (pt:Int)),zd k1,.slice none [.agg [.lit (.string ⟨#[97,110,110]⟩),.lit (.int .i64 bon)],.agg [.lit (.string ⟨#[98,111,98]⟩),.lit (.int .i64 0)]]],zG S.p,.slice (some (N+86)) (S.gs.map zw),.agg [.lit (.int .i64 (ga:Int)),.lit (.int .i64 (no:Int))],.lit (.string ⟨#[97,110,110]⟩),.lit (.int .i64 (mi:Int))])∧σ_ (N+86)=.row 34 34 S.gs.length∧(f+n1≤6)∧(m1+12 * f≤1000)∧(Dk l j')∧(Good con (se:Nat) S n1 m1)∧(zwC l con (mi:Nat) f j' S (R1,R2))) ⟨_,K,j8,⟨a3,pa,[]⟩,0,10,rfl,WF,WF,WF,WF,WC,WC,WC,WC,WC⟩ ?_
 intro m_1 s_1 σ_1 n_1 hs_1 hf_1 hn_1 hI_1
 obtain ⟨f,j',S,n1,m1,hm_1,h1_8,e1_0,e1_1,e1_2,hfn,hfm,hj,hG,hrun⟩:=hI_1
 have h1_0:=KS hs_1 0
 have h1_1:=KS hs_1 1
 have h1_4:=KS hs_1 4
 have h1_5:=KS hs_1 5
 have k1_0:=KE hf_1 (N)
 have hlow:=KD (N:=N) (d:=d) (σ:=σ) hf_1
 clear hG0 hrun0 d8
 cases f with
 | zero=>
  have hrun:(R1,R2)=(S,j'):=hrun
  simp only [Prod.mk.injEq] at hrun
  obtain ⟨rfl,rfl⟩:=hrun
  clear hG hj
  refine Wk ?_
  exact RV (d) (zy l R2)
 | succ f=>
  obtain ⟨hr1,hr2⟩:=hrun
  have t1:=yV l j' 4 hj oo oo
  have e1x:=yu 4 hj
  have b1x:=y7 l j' 4 oo
  have hgs:=hG.gl
  have hb24:(S.gs.length+1) * 80≤140737488355328:=by omega
  have hb25:S.gs.length≤140737488355327:=by omega
  by_cases hx:(yl l j' 4).1=0
  ·obtain ⟨X2,hX2,hrun⟩:=hr2 hx
   clear hr1 hr2
   have e2x:=yu 3 e1x
   have b2x:=y7 l (yl l j' 4).2 3 oo
   obtain ⟨hG2,hd2,_⟩:=hG.thd oo oo hc0 hc7 hfp hb0 hb1 oo oo e2x oo hX2
   have t2:=zgU S.A m1 hG.ain oo con ⟨0,150⟩
   have htk:=hG.tick oo hc0 hc7
   have iB:AlgIn (BL S con).1 (m1+2):=zc4 hG.ain con ⟨0,150⟩
   have hcl:=hG.cl
   have t3:=zjO (BL S con).1 (m1+2) iB oo S.p oo (BL S con).2.1 oo
   have iA:AlgIn (AD S con).1 (m1+6):=zhf iB S.p (BL S con).2.1
   have t4:=zlV (AD S con).1 (m1+6) iA oo con oo (BL S con).2.1.ticket oo ann (by decide) (mi:Nat)
   have iG:AlgIn (GR S con (mi:Nat)).1 (m1+8):=zel iA con (BL S con).2.1.ticket ann (mi:Nat)
   have hcG:=zmR (a:=(AD S con).1) (c:=con) (t:=(BL S con).2.1.ticket) (holder:=ann) (mi:=(mi:Nat))
   have t5:=yV l (yl l j' 4).2 3 e1x oo oo
   have hBL:zax S.A con ⟨0,150⟩=BL S con:=rfl
   have hAD:zbq (BL S con).1 S.p (BL S con).2.1=AD S con:=rfl
   have hGR:zaD (AD S con).1 con (BL S con).2.1.ticket ann (mi:Nat)=GR S con (mi:Nat):=rfl
   simp only [hBL] at t2
   simp only [hAD] at t3
   simp only [hGR] at t4 iG hcG
   clear hBL hAD hGR iA iB hG
   generalize hBL:BL S con=B at *
   generalize hAD:AD S con=D at *
   generalize hGR:GR S con (mi:Nat)=G at *
   obtain ⟨aB,bl,eB⟩:=B
   obtain ⟨aD,pD,eD⟩:=D
   obtain ⟨aG,gG,eG⟩:=G
   clear hBL hAD hGR
   have hG3:=hG2
   clear hG2
   generalize yl l (yl l j' 4).2 3=Y at *
   generalize yl l j' 4=X at *
   obtain ⟨x,jx⟩:=X
   obtain ⟨y,jy⟩:=Y
   obtain ⟨Q1,Q2,Q3⟩:=X2
   unfold zxC at t2
   unfold zdZ at t3
   unfold zmf at t4
   obtain ⟨bp,bk,bt⟩:=bl
   unfold zbo ann at t4
   simp only at *
   subst hx
   have hblA:zeb ⟨bp,bk,bt⟩=.agg [.lit (.int .i64 bp),zd bk,.slice none (bt.map za)]:=rfl
   have hte:zhS ⟨0,150⟩=.agg [.lit (.int .i64 0),.lit (.int .i64 150)]:=rfl
   have iG2:AlgIn aG (1100 - y):=iG.more oo
   have hcG2:gG.conds.length+y≤10:=by omega
   have hy2:y≤2:=by omega
   have hcs:=And.intro (t1 d) (And.intro t2 (And.intro t3 (And.intro t4 (And.intro (t5 d) True.intro))))
   clear t1 t2 t3 t4 t5 e1x hj
   refine Wk ?_
   clear hcs hblA hte
   refine ze zi (by kernel_rfl) [12,13,151,152,153,154,155,156,157,158,159,160,161,162,163,164,165,166,167,168] [d,N+1,n_1+33] (fun m_ s_ σ_ n_=>∃ (f2:Nat) (j2':Nat) (A2:Alg) (g2:Di),m_=f2∧s_ 12=.lit (.int .i64 f2)∧σ_ (d)=zy l j2'∧σ_ (N+1)=.box 51 (.agg [zA A2,.agg [.slice none [.agg [.lit (.int .i64 2),zd k2]],.lit (.int .i64 3)],.agg [.lit (.int .i64 (pt:Int)),zd k1,.slice none [.agg [.lit (.string ⟨#[97,110,110]⟩),.lit (.int .i64 bon)],.agg [.lit (.string ⟨#[98,111,98]⟩),.lit (.int .i64 0)]]],zG pD,.slice (some (N+86)) (S.gs.map zw),.agg [.lit (.int .i64 (ga:Int)),.lit (.int .i64 (no:Int))],.lit (.string ⟨#[97,110,110]⟩),.lit (.int .i64 (mi:Int))])∧σ_ (n_1+33)=.box 34 (zw g2)∧(f2≤2)∧(Dk l j2')∧(AlgIn A2 (1100 - f2))∧(g2.conds.length+f2≤10)∧(zuN l f2 j2' A2 g2 (Q1,Q2,Q3))) ⟨_,y,jy,aG,gG,rfl,WF,WF,WF,WF,WC,WC,WC,WC,WC⟩ ?_
   intro m_2 s_2 σ_2 n_2 hs_2 hf_2 hn_2 hI_2
   obtain ⟨f2,j2',A2,g2,hm_2,h2_12,e2_0,e2_1,e2_2,hf2,hj2,hA2,hg2,hrr⟩:=hI_2
   have h2_0:=KS hs_2 0
   have h2_1:=KS hs_2 1
   have h2_4:=KS hs_2 4
   have h2_5:=KS hs_2 5
   have h2_8:=KS hs_2 8
   have h2_9:=KS hs_2 9
   have h2_10:=KS hs_2 10
   have h2_11:=KS hs_2 11
   have h2_83:=KS hs_2 83
   have h2_84:=KS hs_2 84
   have h2_87:=KS hs_2 87
   have h2_88:=KS hs_2 88
   have h2_89:=KS hs_2 89
   have h2_90:=KS hs_2 90
   have h2_91:=KS hs_2 91
   have h2_92:=KS hs_2 92
   have h2_93:=KS hs_2 93
   have h2_94:=KS hs_2 94
   have h2_95:=KS hs_2 95
   have h2_96:=KS hs_2 96
   have h2_97:=KS hs_2 97
   have h2_98:=KS hs_2 98
   have h2_99:=KS hs_2 99
   have h2_100:=KS hs_2 100
   have h2_101:=KS hs_2 101
   have h2_102:=KS hs_2 102
   have h2_103:=KS hs_2 103
   have h2_104:=KS hs_2 104
   have h2_105:=KS hs_2 105
   have h2_106:=KS hs_2 106
   have h2_108:=KS hs_2 108
   have h2_109:=KS hs_2 109
   have h2_110:=KS hs_2 110
   have h2_111:=KS hs_2 111
   have h2_112:=KS hs_2 112
   have h2_113:=KS hs_2 113
   have h2_114:=KS hs_2 114
   have h2_115:=KS hs_2 115
   have h2_116:=KS hs_2 116
   have h2_117:=KS hs_2 117
   have h2_118:=KS hs_2 118
   have h2_120:=KS hs_2 120
   have h2_121:=KS hs_2 121
   have h2_122:=KS hs_2 122
   have h2_123:=KS hs_2 123
   have h2_124:=KS hs_2 124
   have h2_125:=KS hs_2 125
   have h2_126:=KS hs_2 126
   have h2_127:=KS hs_2 127
   have h2_128:=KS hs_2 128
   have h2_129:=KS hs_2 129
   have h2_131:=KS hs_2 131
   have h2_132:=KS hs_2 132
   have h2_133:=KS hs_2 133
   have h2_134:=KS hs_2 134
   have h2_135:=KS hs_2 135
   have h2_136:=KS hs_2 136
   have h2_137:=KS hs_2 137
   have h2_138:=KS hs_2 138
   have h2_139:=KS hs_2 139
   have h2_140:=KS hs_2 140
   have h2_141:=KS hs_2 141
   have h2_142:=KS hs_2 142
   have h2_143:=KS hs_2 143
   have h2_144:=KS hs_2 144
   have h2_145:=KS hs_2 145
   have h2_146:=KS hs_2 146
   have h2_148:=KS hs_2 148
   have h2_149:=KS hs_2 149
   have h2_150:=KS hs_2 150
   have k2_0:=KE hf_2 (N)
   have k2_1:=KE hf_2 (N+86)
   have hlow:=KD (N:=N) (d:=d) (σ:=σ) hf_2
   clear hX2 iG hcG e2x iG2 hcG2 hy2
   cases f2 with
   | zero=>
    have hrr:(Q1,Q2,Q3)=(A2,g2,j2'):=hrr
    simp only [Prod.mk.injEq] at hrr
    obtain ⟨rfl,rfl,rfl⟩:=hrr
    have hmm:S.gs.map zw++[zw Q2]=(S.gs++[Q2]).map zw:=by simp
    have hll:S.gs.length+1=(S.gs++[Q2]).length:=by simp
    generalize S.gs++[Q2]=L at *
    clear hA2 hj2
    refine Wk ?_
    exact ⟨WS,WG,WN,_,(show (f) < m_1 by omega),f,Q3,⟨Q1,pD,L⟩,n1+1,m1+12,rfl,WF,WF,WF,WF,WC,WC,WC,WC,WC⟩
   | succ f2=>
    obtain ⟨p,jp,⟨p1,p2,p3,p4,p5⟩,hrr⟩:=hrr
    have u1:=zgV A2 (1100 - (f2+1)) hA2 oo g2 oo p p2
    have iR:=zdm hA2 g2 p
    have hcR:=znl (a:=A2) (d:=g2) (p:=p)
    generalize wD A2 g2 p=Z at *
    obtain ⟨aR,gR,eR⟩:=Z
    unfold zmf at u1
    simp only at *
    have iR2:AlgIn aR (1100 - f2):=iR.more oo
    have hcR2:gR.conds.length+f2≤10:=by omega
    have hcs:=And.intro (p5 d) (And.intro u1 True.intro)
    clear u1 p5 iR hA2 hj2 hcR p1 p2 p3 hrun hG3
    refine Wk ?_
    exact ⟨WS,WG,WN,_,(show (f2) < m_2 by omega),f2,jp,aR,gR,rfl,WF,WF,WF,WF,WC,WC,WC,WC,WC⟩
  ·obtain ⟨p,jp,⟨p1,p2,p3,p4,p5⟩,hrun⟩:=hr1 hx
   clear hr1 hr2
   have hG2:=hG.nar oo oo p1 p2
   have hcl:=hG.cl
   have t2:=zdq S.A m1 hG.ain S.p [p] (by simp;omega) (by simp;omega) (fun z hz=>by rw [List.mem_singleton.1 hz];exact p2)
   have hG3:Good con (se:Nat) ⟨(yT S.A S.p [p]).1,(yT S.A S.p [p]).2.1,S.gs⟩ (n1+1) (m1+12):={ hG2 with ain:=hG2.ain.more oo }
   clear hG2 hG
   generalize yl l j' 4=X at *
   obtain ⟨x,jx⟩:=X
   generalize yT S.A S.p [p]=Z at *
   obtain ⟨aZ,pZ,eZ⟩:=Z
   unfold zdZ at t2
   simp only [List.map_cons,List.map_nil] at *
   have hx0:(0:Int) < (x:Int):=by omega
   have hcs:=And.intro (t1 d) (And.intro (p5 d) (And.intro t2 True.intro))
   clear t1 t2 p5 e1x hj p1 p2 p3
   refine Wk ?_
   exact ⟨WS,WG,WN,_,(show (f) < m_1 by omega),f,jp,⟨aZ,pZ,S.gs⟩,n1+1,m1+12,rfl,WF,WF,WF,WF,WC,WC,WC,WC,WC⟩
end
end Go.Proofs.YtglmjglbobhbbaaGreatDoor
