/- Texts N3, K6, K7, joined. -/
import Derived.Test.YtglmjglbobhbbaaGreatDoorM11
import Derived.Test.YtglmjglbobhbbaaGreatDoorM13
namespace Go.Proofs.YtglmjglbobhbbaaGreatDoor
open _root_.Go.Proofs.Tryz
open Go.Ab
attribute [local irreducible] Go.Ab.tyAV Go.Ab.aw Go.Ab.aops Go.Ab.kReg Go.Ab.aThen Go.Ab.aBlk Go.Ab.acond Go.Ab.aguard Go.Ab.astep Go.Ab.AStepX Go.Ab.aRet
def yg (x:List UInt8):List UInt8:=leb x.length++x
theorem zu6 (x:List UInt8) (hx:x.length≤10000000) (k:Nat):ACall prog 201 [.slice none (x.map za)] k [] (.slice (some k) ((yg x).map za)) [(k,.row 5 1 ((leb x.length).length+x.length))]:=by
 have hl:=zh x.length 8 oo
 have hc:=wO x.length
 have hn9:x.length < 128 ^ 9:=by omega
 unfold yg
 refine Bd func201 ntmps201 fun σ N hp hpn hk hkn hfree=>?_
 refine Wk ?_
 refine jN (hc _ hn9) (by simp (disch:=omega) [go_sem, *,-List.reduceReplicate];try rfl) (by simp (disch:=omega) [go_sem, *,-List.reduceReplicate];repeat' first | exact ALe.nil | exact AV.le_refl _ | exact AV.le_nils | exact AV.le_own _ _ | apply ALe.cons | apply AV.sub_agg) (by simp (disch:=omega) [go_sem, *,-List.reduceReplicate]) ?_
 refine Wk ?_
 refine zQ (r0:=N+3) (by simp (disch:=omega) [go_sem, *,-List.reduceReplicate];rfl) oo (by simp (disch:=omega) [go_sem];try rfl) (fun id hid=>by simp (disch:=omega) only [zg,zF,yi];try exact hlow id hid) (by simp (disch:=omega) only [zr];rfl) (by simp (disch:=omega) [go_sem])
theorem zdA (b x:List UInt8) (hb:b.length≤10000000) (hx:x.length≤1024) (k:Nat):ACall prog 224 [.slice none (b.map za),.slice none (x.map za)] k []
  (.tup [.slice (some k) ((b++yg x).map za),.lit (.int .i64 0)]) [(k,.row 5 1 (b++yg x).length)]:=by
 have hl:=zh x.length 2 oo
 have hx':¬ (1024:Int) < (x.length:Int):=by omega
 have hc:=wN b oo x.length oo
 have hf:(b++yg x)=b++leb x.length++x:=by simp [yg]
 rw [hf,List.length_append,List.length_append]
 refine Bd func224 ntmps224 fun σ N hp hpn hk hkn hfree=>?_
 have hcs:=And.intro hc True.intro
 refine Wk ?_
 refine zQ (r0:=N+8) (by simp (disch:=omega) [go_sem, *,-List.reduceReplicate];rfl) oo (by simp (disch:=omega) [go_sem];try rfl) (fun id hid=>by simp (disch:=omega) only [zg,zF,yi];try exact hlow id hid) (by simp (disch:=omega) only [zr];rfl) (by simp (disch:=omega) [go_sem])
theorem qM (x:List UInt8) (hx:x.length≤10000000) (k:Nat):ACall prog 201 [.slice none (x.map za)] k [] (.slice none ((yg x).map za)) []:=by
 have hl:=zh x.length 8 oo
 have hc:=wO x.length
 have hn9:x.length < 128 ^ 9:=by omega
 unfold yg
 refine Bd func201 ntmps201 fun σ N hp hpn hk hkn hfree=>?_
 refine Wk ?_
 refine jN (hc _ hn9) (by simp (disch:=omega) [go_sem, *,-List.reduceReplicate];try rfl) (by simp (disch:=omega) [go_sem, *,-List.reduceReplicate];repeat' first | exact ALe.nil | exact AV.le_refl _ | exact AV.le_nils | exact AV.le_own _ _ | apply ALe.cons | apply AV.sub_agg) (by simp (disch:=omega) [go_sem, *,-List.reduceReplicate]) ?_
 exact WM
theorem zpV (b x:List UInt8) (hb:b.length≤10000000) (hx:x.length≤1024) (k:Nat):ACall prog 224 [.slice none (b.map za),.slice none (x.map za)] k []
  (.tup [.slice none ((b++yg x).map za),.lit (.int .i64 0)]) []:=by
 have hl:=zh x.length 2 oo
 have hx':¬ (1024:Int) < (x.length:Int):=by omega
 have hc:=wN b oo x.length oo
 have hf:(b++yg x)=b++leb x.length++x:=by simp [yg]
 rw [hf]
 refine Bd func224 ntmps224 fun σ N hp hpn hk hkn hfree=>?_
 have hcs:=And.intro hc True.intro
 exact WL
theorem ztQ (b:List UInt8):(rdS b).2.1≤b.length:=by
 rcases zuO b with h | ⟨e,h,_⟩
 ·exact (zwy b (n:=(rdS b).1) (u:=(rdS b).2.1) (by rw [← h])).2.1
 ·rw [h];simp
theorem zj3 (b:List UInt8) (u n:Nat):((b.map za).take (u+n)).drop u=((b.drop u).take n).map za:=by
 rw [List.map_take,List.map_drop,List.drop_take]
 congr 1
 omega
abbrev natsAV (ns:List Nat):AV:=.slice none (ns.map fun (n:Nat)=>AV.lit (.int .i64 (n:Int)))
theorem zag (ns:List Nat) (bs:List UInt8) (h0:0 < ns.length) (hb:bs.length+8 * ns.length≤1000000) (hn:∀ n∈ns,n≤281474976710656) (R:List UInt8) (hR:bs++ns.flatMap leb=R) (k:Nat):
  ACall prog 254 [.slice none (bs.map za),natsAV ns] k [] (.slice (some k) (R.map za)) [(k,.row 5 1 R.length)]:=by
 refine Bd func254 ntmps254 fun σ N hp hpn hk hkn hfree=>?_
 refine Wk ?_
 refine zeY (ns.length) (N) zi (by kernel_rfl) [0,6,9,10,11,12,13,14,15,16,17,18,19] [] (fun s_ σ_ n_=>s_ 9=.lit (.int .i64 0)∧s_ 0=.slice none (bs.map za)∧True) (fun m_ s_ σ_ n_=>∃ (u:Nat) (q:Nat) (acc:List UInt8),m_=ns.length - u∧s_ 9=.lit (.int .i64 u)∧s_ 0=.slice (some q) (acc.map za)∧σ_ (q)=.row 5 1 acc.length∧(u≤ns.length)∧(acc.length≤bs.length+8 * u)∧(acc=bs++(ns.take u).flatMap leb)∧(N≤q)∧(q < n_)) ⟨WF,WF,trivial⟩ ?_ ?_
 ·intro s_1 σ_1 n_1 hs_1 hf_1 hn_1 hI_1
  obtain ⟨h1_9,h1_0,-⟩:=hI_1
  have h1_4:=KS hs_1 4
  have h1_7:=KS hs_1 7
  have h1_8:=KS hs_1 8
  have hlow:=KL (N:=N) (σ:=σ) hf_1
  obtain ⟨c,hc⟩:∃ c,ns[0]=c:=⟨_,rfl⟩
  have hcn:c≤281474976710656:=hn c (by rw [← hc];exact List.getElem_mem h0)
  have hcl:=zh c 7 oo
  have c1:=wN bs oo c hcn
  have hacc2:bs++leb c=bs++(ns.take (0+1)).flatMap leb:=by
   rw [List.take_add_one,List.getElem?_eq_getElem h0,hc]
   simp
  have hal2:(bs++leb c).length≤bs.length+8 * (0+1):=by rw [List.length_append];omega
  have hll:bs.length+(leb c).length=(bs++leb c).length:=by simp
  rw [hll] at c1
  generalize bs++leb c=acc2 at *
  have hcs:=And.intro c1 True.intro
  clear c1 hll hR
  refine Wk ?_
  exact ⟨WS,WG,WN,_,(show ns.length - (1) < (ns.length) by omega),1,_,acc2,rfl,WF,WF,WF,WC,WC,WC,WC,WC⟩
 intro m_1 s_1 σ_1 n_1 hs_1 hf_1 hn_1 hI_1
 obtain ⟨u,q,acc,hm_1,h1_9,h1_0,e1_0,hu,hal,hacc,hq,hqn⟩:=hI_1
 have h1_4:=KS hs_1 4
 have h1_7:=KS hs_1 7
 have h1_8:=KS hs_1 8
 have hlow:=KL (N:=N) (σ:=σ) hf_1
 by_cases hul:u=ns.length
 ·rw [hul,List.take_length,hR] at hacc
  subst hul hacc
  clear hR
  refine Wk ?_
  refine zQ (r0:=q) (by simp (disch:=omega) [go_sem, *,-List.reduceReplicate];rfl) oo (by simp (disch:=omega) [go_sem];try rfl) (fun id hid=>by simp (disch:=omega) only;try exact hlow id hid) (by simp (disch:=omega) [go_sem, *,-List.reduceReplicate];rfl) (by simp (disch:=omega) [go_sem])
 ·have hui:u < ns.length:=by omega
  obtain ⟨c,hc⟩:∃ c,ns[u]=c:=⟨_,rfl⟩
  have hcn:c≤281474976710656:=hn c (by rw [← hc];exact List.getElem_mem hui)
  have hcl:=zh c 7 oo
  have c1:=wN acc oo c hcn
  have hacc2:acc++leb c=bs++(ns.take (u+1)).flatMap leb:=by
   rw [List.take_add_one,List.getElem?_eq_getElem hui,hc,hacc]
   simp
  have hal2:(acc++leb c).length≤bs.length+8 * (u+1):=by rw [List.length_append];omega
  have hll:acc.length+(leb c).length=(acc++leb c).length:=by simp
  rw [hll] at c1
  clear hacc hll hR
  generalize acc++leb c=acc2 at *
  have hcs:=And.intro c1 True.intro
  clear c1
  refine Wk ?_
  exact ⟨WS,WG,WN,_,(show ns.length - (u+1) < m_1 by omega),u+1,_,acc2,rfl,WF,WF,WF,WC,WC,WC,WC,WC⟩
def xH (p:Pr):List UInt8:=
 leb p.kind.toNat++(if p.kind=4∨p.kind=5 then leb p.frm.toNat++leb p.to.toNat else if p.kind=6 then yg p.name else if p.kind=7 then leb p.num.toNat else yh p.mask)
theorem zdi {m:Int} {n:Nat} (h:zev m n=true):m≠0∧m < 2 ^ n:=by
 unfold zev at h
 simpa using h
inductive PV:Pr→Prop where
 | mask (kn:Nat) (m:Int) (hk:kn=1∧m < 18446744073709551616∨kn=2∧m < 4294967296∨kn=3∧m < 128) (hm:m≠0):PV ⟨kn,m,0,0,[],0⟩
 | span (kn f t:Nat) (hk:kn=4∧f≤t∧t≤67108864∨kn=5∧f < 1440∧t < 1440):PV ⟨kn,0,f,t,[],0⟩
 | holder (n:List UInt8) (hn:zbO n=true):PV ⟨6,0,0,0,n,0⟩
 | rides (x:Nat) (hx:x≤1000000):PV ⟨7,0,0,0,[],x⟩
theorem PV.of {p:Pr} (h:yc p=true):PV p:=by
 obtain ⟨kd,m,f,t,n,x⟩:=p
 unfold yc at h
 simp only at h
 split at h
 ·rename_i e;subst e
  simp only [Bool.and_eq_true,decide_eq_true_eq,Pr.mk.injEq] at h
  obtain ⟨h1,h2,h3,h4,h5,h6,h7⟩:=h
  subst h4 h5 h6 h7
  exact .mask 1 m (.inl ⟨rfl,(zdi h1).2⟩) (zdi h1).1
 split at h
 ·rename_i e;subst e
  simp only [Bool.and_eq_true,decide_eq_true_eq,Pr.mk.injEq] at h
  obtain ⟨h1,h2,h3,h4,h5,h6,h7⟩:=h
  subst h4 h5 h6 h7
  exact .mask 2 m (.inr (.inl ⟨rfl,(zdi h1).2⟩)) (zdi h1).1
 split at h
 ·rename_i e;subst e
  simp only [Bool.and_eq_true,decide_eq_true_eq,Pr.mk.injEq] at h
  obtain ⟨h1,h2,h3,h4,h5,h6,h7⟩:=h
  subst h4 h5 h6 h7
  exact .mask 3 m (.inr (.inr ⟨rfl,(zdi h1).2⟩)) (zdi h1).1
 split at h
 ·rename_i e;subst e
  simp only [Bool.and_eq_true,decide_eq_true_eq,Pr.mk.injEq] at h
  obtain ⟨h1,h2,h3,h4,h5,h6,h7,h8,h9⟩:=h
  subst h5 h8 h9
  obtain ⟨f',rfl⟩:=Int.eq_ofNat_of_zero_le h1
  obtain ⟨t',rfl⟩:=Int.eq_ofNat_of_zero_le (Int.le_trans h1 h2)
  exact .span 4 f' t' (.inl ⟨rfl,by omega,by omega⟩)
 split at h
 ·rename_i e;subst e
  simp only [Bool.and_eq_true,decide_eq_true_eq,Pr.mk.injEq] at h
  obtain ⟨h1,h2,h3,h4,h5,h6,h7,h8,h9,h10⟩:=h
  subst h6 h9 h10
  obtain ⟨f',rfl⟩:=Int.eq_ofNat_of_zero_le h1
  obtain ⟨t',rfl⟩:=Int.eq_ofNat_of_zero_le h3
  exact .span 5 f' t' (.inr ⟨rfl,by omega,by omega⟩)
 split at h
 ·rename_i e;subst e
  simp only [Bool.and_eq_true,decide_eq_true_eq,Pr.mk.injEq] at h
  obtain ⟨h1,h2,h3,h4,h5,h6,h7⟩:=h
  subst h3 h4 h5 h7
  exact .holder n h1
 split at h
 ·rename_i e;subst e
  simp only [Bool.and_eq_true,decide_eq_true_eq,Pr.mk.injEq] at h
  obtain ⟨h1,h2,h3,h4,h5,h6,h7,h8⟩:=h
  subst h4 h5 h6 h7
  obtain ⟨x',rfl⟩:=Int.eq_ofNat_of_zero_le h1
  exact .rides x' oo
 ·cases h
theorem zqj (p:Pr) (hp0:PrOk p) (h:yc p=false) (k:Nat):
  ACall prog 192 [zU p] k [] (.tup [.nils,.lit (.int .i64 5)]) []:=by
 have c1:=vU p hp0
 rw [h] at c1
 refine Bd func192 ntmps192 fun σ N hp hpn hk hkn hfree=>?_
 have hcs:=And.intro c1 True.intro
 clear c1
 exact W0
set_option maxHeartbeats 4000000 in
theorem zsi (kn:Nat) (m:Int) (hk:kn=1∨kn=2∨kn=3) (hp0:PrOk ⟨kn,m,0,0,[],0⟩) (h:yc ⟨kn,m,0,0,[],0⟩=true) (d k:Nat):
  ACall prog 226 [zU ⟨kn,m,0,0,[],0⟩] k [(d,zS)] (.tup [.slice none ((leb kn++yh m).map za),.lit (.int .i64 0)]) []:=by
 have c1:=xZ _ hp0 d
 rw [h] at c1
 have m0:=hp0.m0
 have m1:=hp0.m1
 simp only at m0 m1
 have c2:=zag [kn] [] (by simp) (by simp) (by simp;omega) (leb kn) (by simp)
 simp only [List.map_nil] at c2
 have hl:=zh kn 7 oo
 generalize leb kn=L at *
 have g4:((kn:Int) == 4)=false:=by rw [beq_eq_false_iff_ne];omega
 have g5:((kn:Int) == 5)=false:=by rw [beq_eq_false_iff_ne];omega
 have g6:((kn:Int) == 6)=false:=by rw [beq_eq_false_iff_ne];omega
 have g7:((kn:Int) == 7)=false:=by rw [beq_eq_false_iff_ne];omega
 have e7:=z9 m 56
 have e6:=z9 m 48
 have e5:=z9 m 40
 have e4:=z9 m 32
 have e3:=z9 m 24
 have e2:=z9 m 16
 have e1:=z9 m 8
 have e0:=z9 m 0
 simp only [Int.reducePow,Int.pow_zero,Int.fdiv_one] at e7 e6 e5 e4 e3 e2 e1 e0
 unfold yh
 generalize sh8 m 56=b7 at *
 generalize sh8 m 48=b6 at *
 generalize sh8 m 40=b5 at *
 generalize sh8 m 32=b4 at *
 generalize sh8 m 24=b3 at *
 generalize sh8 m 16=b2 at *
 generalize sh8 m 8=b1 at *
 generalize sh8 m 0=b0 at *
 clear hk
 simp only [zU] at *
 refine Bd func226 ntmps226 fun σ N hp hpn hk hkn hfree=>?_
 obtain ⟨hd,hdn⟩:=HD0 hp hpn;clear hp hpn
 have hcs:=And.intro c1 (And.intro c2 True.intro)
 clear c1 c2
 refine Wk ?_
 refine yn (N+1) zi (by kernel_rfl) [4,5,41,42,43,44,45,46,47,48,49,50,51,52] [] (fun m_ s_ σ_ n_=>∃ (u:Nat) (q:Nat) (acc:List UInt8),m_=8 - u∧s_ 5=.lit (.int .i64 (56 - 8 * (u:Int)))∧s_ 4=.slice (some q) ((L++acc).map za)∧σ_ (q)=.row 5 1 (L.length+acc.length)∧(u≤8)∧(N+1≤q)∧(q < n_)∧(acc=[b7,b6,b5,b4,b3,b2,b1,b0].take u)) ⟨_,0,_,[],rfl,WF,WF,WF,WC,WC,WC,WC⟩ ?_
 intro m_1 s_1 σ_1 n_1 hs_1 hf_1 hn_1 hI_1
 obtain ⟨u,q,acc,hm_1,h1_5,h1_4,e1_0,hu,hq,hqn,hacc⟩:=hI_1
 have h1_1:=KS hs_1 1
 have h1_2:=KS hs_1 2
 have h1_3:=KS hs_1 3
 have k1_0:=KE hf_1 (N)
 have hlow:=KL (N:=N) (σ:=σ) hf_1
 have hb7:za b7=.lit (.int .u8 b7.toNat):=rfl
 have hb6:za b6=.lit (.int .u8 b6.toNat):=rfl
 have hb5:za b5=.lit (.int .u8 b5.toNat):=rfl
 have hb4:za b4=.lit (.int .u8 b4.toNat):=rfl
 have hb3:za b3=.lit (.int .u8 b3.toNat):=rfl
 have hb2:za b2=.lit (.int .u8 b2.toNat):=rfl
 have hb1:za b1=.lit (.int .u8 b1.toNat):=rfl
 have hb0:za b0=.lit (.int .u8 b0.toNat):=rfl
 have hcase:u=0∨u=1∨u=2∨u=3∨u=4∨u=5∨u=6∨u=7∨u=8:=by omega
 rcases hcase with rfl | hcase
 ·simp only [List.take_zero] at hacc
  subst hacc
  refine Wk ?_
  exact ⟨WS,WG,WN,_,(show 8 - (1) < m_1 by omega),1,q,[b7],rfl,WF,WF,WF,WC,WC,WC,WC⟩
 rcases hcase with rfl | hcase
 ·simp only [List.take_succ_cons,List.take_zero] at hacc
  subst hacc
  refine Wk ?_
  exact ⟨WS,WG,WN,_,(show 8 - (2) < m_1 by omega),2,q,[b7,b6],rfl,WF,WF,WF,WC,WC,WC,WC⟩
 rcases hcase with rfl | hcase
 ·simp only [List.take_succ_cons,List.take_zero] at hacc
  subst hacc
  refine Wk ?_
  exact ⟨WS,WG,WN,_,(show 8 - (3) < m_1 by omega),3,q,[b7,b6,b5],rfl,WF,WF,WF,WC,WC,WC,WC⟩
 rcases hcase with rfl | hcase
 ·simp only [List.take_succ_cons,List.take_zero] at hacc
  subst hacc
  refine Wk ?_
  exact ⟨WS,WG,WN,_,(show 8 - (4) < m_1 by omega),4,q,[b7,b6,b5,b4],rfl,WF,WF,WF,WC,WC,WC,WC⟩
 rcases hcase with rfl | hcase
 ·simp only [List.take_succ_cons,List.take_zero] at hacc
  subst hacc
  refine Wk ?_
  exact ⟨WS,WG,WN,_,(show 8 - (5) < m_1 by omega),5,q,[b7,b6,b5,b4,b3],rfl,WF,WF,WF,WC,WC,WC,WC⟩
 rcases hcase with rfl | hcase
 ·simp only [List.take_succ_cons,List.take_zero] at hacc
  subst hacc
  refine Wk ?_
  exact ⟨WS,WG,WN,_,(show 8 - (6) < m_1 by omega),6,q,[b7,b6,b5,b4,b3,b2],rfl,WF,WF,WF,WC,WC,WC,WC⟩
 rcases hcase with rfl | hcase
 ·simp only [List.take_succ_cons,List.take_zero] at hacc
  subst hacc
  refine Wk ?_
  exact ⟨WS,WG,WN,_,(show 8 - (7) < m_1 by omega),7,q,[b7,b6,b5,b4,b3,b2,b1],rfl,WF,WF,WF,WC,WC,WC,WC⟩
 rcases hcase with rfl | hcase
 ·simp only [List.take_succ_cons,List.take_zero] at hacc
  subst hacc
  refine Wk ?_
  exact ⟨WS,WG,WN,_,(show 8 - (8) < m_1 by omega),8,q,[b7,b6,b5,b4,b3,b2,b1,b0],rfl,WF,WF,WF,WC,WC,WC,WC⟩
 subst hcase
 simp only [List.take_succ_cons,List.take_zero] at hacc
 subst hacc
 exact WL
end Go.Proofs.YtglmjglbobhbbaaGreatDoor
