/- Texts H4, joined. -/
import Derived.Test.YtglmjglbobhbbaaGreatDoorM9
namespace Go.Proofs.YtglmjglbobhbbaaGreatDoor
open _root_.Go.Proofs.Tryz
open Go.Ab
attribute [local irreducible] Go.Ab.tyAV Go.Ab.aw Go.Ab.aops Go.Ab.kReg Go.Ab.aThen Go.Ab.aBlk Go.Ab.acond Go.Ab.aguard Go.Ab.astep Go.Ab.AStepX Go.Ab.aRet
theorem zkk (k:Nat):ACall prog 256 [] k [] (zfm shaZ) []:=by
 refine Bd func256 ntmps256 fun σ N hp hpn hk hkn hfree=>?_
 repeat (first | apply zmL | apply zjj | apply zgz | apply zgA | (apply zgB;· (first | (simp [addT,CF,CFy,Ind,zpD];done) | (simp only [addT,CF,CFy,Ind];repeat' (first | exact trivial | apply And.intro | exact Or.inl (by decide +kernel) | (refine Or.inr ⟨?_,?_⟩ <;> (simp;try omega)))))) | apply zek | apply zbg | apply zcn | apply zmI | apply zdb | apply kP | (apply zbe;· rfl) | apply zmO | (apply xI;· (simp only [List.length_cons,List.length_nil,Nat.reduceAdd];rfl)) | apply zjl | apply zgw | apply zgD | apply zgC | apply zji | apply zmN)
 apply zjk
 ·rfl
 ·(simp (disch:=omega) [go_sem, *,-List.reduceReplicate];try first | rfl | exact ⟨rfl,rfl⟩ | exact ⟨rfl,rfl,rfl⟩)
 repeat (first | apply zmL | apply zjj | apply zgz | apply zgA | (apply zgB;· (first | (simp [addT,CF,CFy,Ind,zpD];done) | (simp only [addT,CF,CFy,Ind];repeat' (first | exact trivial | apply And.intro | exact Or.inl (by decide +kernel) | (refine Or.inr ⟨?_,?_⟩ <;> (simp;try omega)))))) | apply zek | apply zbg | apply zcn | apply zmI | apply zdb | apply kP | (apply zbe;· rfl) | apply zmO | (apply xI;· (simp only [List.length_cons,List.length_nil,Nat.reduceAdd,Nat.add_assoc];rfl)) | apply zjl | apply zgw | apply zgD | apply zgC | apply zji | apply zmN)
 refine zdD (v:=zfm shaZ) rfl (by kernel_rfl) ?_
 have hzl:=zcQ
 exact W0
section
variable [W:W32]
set_option maxHeartbeats 4000000 in
theorem zlY (o:V8) (b:List UInt8) (hb:b.length=64) (k:Nat):
  ACall prog 233 [zeN o,.slice none (b.map za)] k [] (zeN (chg o b)) []:=by
 obtain ⟨w,hw⟩:∃ w,Wd b 64=w:=⟨_,rfl⟩
 have hwl:w.length=64:=by rw [← hw];exact zhU b 64
 have hz:List.replicate 64 (0:Int)=Wd b 0:=by unfold Wd;rfl
 obtain ⟨Z,hZ⟩:∃ Z,Wd b 0=Z:=⟨_,rfl⟩
 have hZl:Z.length=64:=by rw [← hZ];exact zhU b 0
 rw [hZ] at hz
 have c1:=zkk
 obtain ⟨v,hv⟩:∃ v,Rd w o 64=v:=⟨_,rfl⟩
 have hR:chg o b=zue v o:=by rw [chg,hw,hv]
 rw [hR,zeN,zeN,← Ad_8']
 clear hR
 obtain ⟨ol,hol⟩:∃ l,o.l=l:=⟨_,rfl⟩
 have holl:ol.length=8:=by rw [← hol];rfl
 rw [hol]
 refine Bd func233 ntmps233 fun σ N hp hpn hk hkn hfree=>?_
 refine Wk ?_
 refine ze zi (by kernel_rfl) [6,22,23,24,25,26,27,28,29,30,31,32,33,34,35,36,37,38,39,40,41,42,43,44,45,46,47,48,49,50,51,52,53,54,55,56,57,58,59,60] [N+2] (fun m_ s_ σ_ n_=>∃ (t:Nat) (L:List Int),m_=16 - t∧s_ 6=.lit (.int .i64 t)∧σ_ (N+2)=.box 315 (zfm L)∧(t≤16)∧(Wd b t=L)) ⟨_,0,Z,rfl,WF,WF,WC,WC⟩ ?_
 intro m_1 s_1 σ_1 n_1 hs_1 hf_1 hn_1 hI_1
 obtain ⟨t,L,hm_1,h1_6,e1_0,ht,hL⟩:=hI_1
 have h1_1:=KS hs_1 1
 have h1_2:=KS hs_1 2
 have h1_4:=KS hs_1 4
 have h1_5:=KS hs_1 5
 have k1_0:=KE hf_1 (N)
 have k1_1:=KE hf_1 (N+1)
 have hlow:=KL (N:=N) (σ:=σ) hf_1
 have hlen:L.length=64:=by rw [← hL];exact zhU b t
 by_cases h16:t < 16
 ·have h16':(t:Int) < 16:=by omega
  have htl:t < 64:=by omega
  have hw:=zvN b t h16
  rw [hL] at hw
  have i0:(4 * (t:Int)).toNat=4 * t:=by omega
  have i1:(4 * (t:Int)+1).toNat=4 * t+1:=by omega
  have i2:(4 * (t:Int)+2).toNat=4 * t+2:=by omega
  have i3:(4 * (t:Int)+3).toNat=4 * t+3:=by omega
  have hlt0:4 * t < b.length:=by omega
  have hlt1:4 * t+1 < b.length:=by omega
  have hlt2:4 * t+2 < b.length:=by omega
  have hlt3:4 * t+3 < b.length:=by omega
  obtain ⟨c0,g0⟩:∃ c,b[4 * t]=c:=⟨_,rfl⟩
  obtain ⟨c1,g1⟩:∃ c,b[4 * t+1]=c:=⟨_,rfl⟩
  obtain ⟨c2,g2⟩:∃ c,b[4 * t+2]=c:=⟨_,rfl⟩
  obtain ⟨c3,g3⟩:∃ c,b[4 * t+3]=c:=⟨_,rfl⟩
  have hwd:=zsc hlt3 g0 g1 g2 g3
  generalize zu3 b t=wt at *
  have e0:za c0=.lit (.int .u8 c0.toNat):=rfl
  have e1:za c1=.lit (.int .u8 c1.toNat):=rfl
  have e2:za c2=.lit (.int .u8 c2.toNat):=rfl
  have e3:za c3=.lit (.int .u8 c3.toNat):=rfl
  clear hL
  refine Wk ?_
  clear hwd e0 e1 e2 e3 g0 g1 g2 g3 i0 i1 i2 i3
  exact ⟨WS,WG,WN,_,(show 16 - (t+1) < m_1 by omega),t+1,L.set t wt,rfl,WF,WF,WC,WC⟩
 ·have ht16:t=16:=by omega
  subst ht16
  clear h16 ht
  refine Wk ?_
  refine ze zi (by kernel_rfl) [7,8,9,61,62,63,64,65,66,67,68,69,70,71,72,73,74,75,76,77,78,79,80,81,82,83,84,85,86,87,88,89,90,91,92,93,94,95,96,97,98,99,100,101] [N+2] (fun m_ s_ σ_ n_=>∃ (t:Nat) (L:List Int),m_=64 - t∧s_ 7=.lit (.int .i64 t)∧σ_ (N+2)=.box 315 (zfm L)∧(t≤64)∧(¬ t < 16)∧(Wd b t=L)) ⟨_,16,L,rfl,WF,WF,WC,WC,WC⟩ ?_
  intro m_2 s_2 σ_2 n_2 hs_2 hf_2 hn_2 hI_2
  obtain ⟨t,L,hm_2,h2_7,e2_0,ht,h16,hL⟩:=hI_2
  have h2_2:=KS hs_2 2
  have h2_4:=KS hs_2 4
  have h2_5:=KS hs_2 5
  have k2_0:=KE hf_2 (N)
  have k2_1:=KE hf_2 (N+1)
  have hlow:=KL (N:=N) (σ:=σ) hf_2
  have hlen:L.length=64:=by rw [← hL];exact zhU b t
  by_cases ht64:t=64
  ·subst ht64
   rw [hw] at hL
   subst hL
   have hcs:=And.intro c1 True.intro
   have hR0:Rd w o 0=o:=rfl
   have hzl:=zcQ
   refine Wk ?_
   refine ze zi (by kernel_rfl) (12::13::14::15::16::17::18::19::20::104::105::106::107::108::109::110::111::112::113::114::115::116::117::118::119::120::121::122::123::124::125::126::127::128::129::130::131::132::133::134::135::136::137::138::139::140::141::142::143::144::145::146::147::148::149::150::151::152::153::154::155::156::157::158::159::160::161::162::163::164::165::166::167::168::169::170::171::172::173::174::175::176::177::178::179::180::181::182::183::184::185::186::187::[]) [n_2+6] (fun m_ s_ σ_ n_=>∃ (t:Nat) (x:V8),m_=64 - t∧s_ 12=.lit (.int .i64 t)∧σ_ (n_2+6)=.box 297 (zfm x.l)∧(t≤64)∧(Rd w o t=x)) ⟨_,0,o,rfl,WF,WF,WC,WC⟩ ?_
   intro m_3 s_3 σ_3 n_3 hs_3 hf_3 hn_3 hI_3
   obtain ⟨t,x,hm_3,h3_12,e3_0,ht,hx⟩:=hI_3
   have h3_2:=KS hs_3 2
   have h3_4:=KS hs_3 4
   have h3_5:=KS hs_3 5
   have h3_10:=KS hs_3 10
   have h3_11:=KS hs_3 11
   have k3_0:=KE hf_3 (N)
   have k3_1:=KE hf_3 (N+1)
   have k3_2:=KE hf_3 (N+2)
   have k3_3:=KE hf_3 (n_2+3)
   have hlow:=KL (N:=N) (σ:=σ) hf_3
   by_cases ht64:t=64
   ·subst ht64
    rw [hv] at hx
    subst hx
    generalize hvl:V8.l v=vl at *
    have hvll:vl.length=8:=by rw [← hvl];rfl
    have hR0:Ad ol vl 0=ol:=rfl
    refine Wk ?_
    refine ze zi (by kernel_rfl) [21,188,189,190,191,192,193,194,195,196,197,198,199,200] [N] (fun m_ s_ σ_ n_=>∃ (t:Nat) (L:List Int),m_=8 - t∧s_ 21=.lit (.int .i64 t)∧σ_ (N)=.box 297 (zfm L)∧(t≤8)∧(Ad ol vl t=L)) ⟨_,0,ol,rfl,WF,WF,WC,WC⟩ ?_
    intro m_4 s_4 σ_4 n_4 hs_4 hf_4 hn_4 hI_4
    obtain ⟨t,L,hm_4,h4_21,e4_0,ht,hL⟩:=hI_4
    have h4_2:=KS hs_4 2
    have h4_4:=KS hs_4 4
    have h4_11:=KS hs_4 11
    have k4_0:=KE hf_4 (N+1)
    have k4_1:=KE hf_4 (n_2+6)
    have hlow:=KL (N:=N) (σ:=σ) hf_4
    have hlen:L.length=8:=by rw [← hL,zqz,holl]
    by_cases ht8:t=8
    ·subst ht8
     subst hL
     exact W0
    ·have htl:(t:Int) < 8:=by omega
     have htl':t < 8:=by omega
     have htn:t < L.length:=by omega
     have htn':t < vl.length:=by omega
     obtain ⟨p,hp⟩:∃ x,L[t]=x:=⟨_,rfl⟩
     obtain ⟨q,hq⟩:∃ x,vl[t]=x:=⟨_,rfl⟩
     have hS:Ad ol vl (t+1)=L.set t (W.cv (p+q)):=by
      rw [Ad,hL,List.getD_eq_getElem?_getD,List.getElem?_eq_getElem htn,List.getD_eq_getElem?_getD,List.getElem?_eq_getElem htn',hp,hq];rfl
     clear hL
     refine Wk ?_
     exact ⟨WS,WG,WN,_,(show 8 - (t+1) < m_4 by omega),t+1,L.set t (W.cv (p+q)),rfl,WF,WF,WC,WC⟩
   ·have htl:(t:Int) < 64:=by omega
    have htn:t < 64:=by omega
    have htw:t < w.length:=by omega
    have htz:t < shaZ.length:=by omega
    have hkd:shaZ.getD t 0=shaZ[t]:=by
     rw [List.getD_eq_getElem?_getD,List.getElem?_eq_getElem htz];rfl
    have hwd:w.getD t 0=w[t]:=by
     rw [List.getD_eq_getElem?_getD,List.getElem?_eq_getElem htw];rfl
    obtain ⟨kt,hkt⟩:∃ x,shaZ[t]=x:=⟨_,rfl⟩
    rw [hkt] at hkd
    obtain ⟨wt,hwt⟩:∃ x,w[t]=x:=⟨_,rfl⟩
    rw [hwt] at hwd
    have hS:Rd w o (t+1)=rnd x kt wt:=by rw [Rd,hx,hkd,hwd]
    clear hkd hwd hx
    obtain ⟨xa,xb,xc,xd,xe,xf,xg,xh⟩:=x
    simp only [V8.l] at *
    obtain ⟨s1,hs1⟩:∃ z,W.x32 (W.x32 (W.rotr xe 6) (W.rotr xe 11)) (W.rotr xe 25)=z:=⟨_,rfl⟩
    obtain ⟨s0,hs0⟩:∃ z,W.x32 (W.x32 (W.rotr xa 2) (W.rotr xa 13)) (W.rotr xa 22)=z:=⟨_,rfl⟩
    obtain ⟨ch,hch⟩:∃ z,W.x32 (W.n32 xe xf) (W.n32 (W.x32 4294967295 xe) xg)=z:=⟨_,rfl⟩
    obtain ⟨mj,hmj⟩:∃ z,W.x32 (W.x32 (W.n32 xa xb) (W.n32 xa xc)) (W.n32 xb xc)=z:=⟨_,rfl⟩
    obtain ⟨t1,ht1⟩:∃ z,W.cv (W.cv (W.cv (W.cv (xh+s1)+ch)+kt)+wt)=z:=⟨_,rfl⟩
    obtain ⟨t2,ht2⟩:∃ z,W.cv (s0+mj)=z:=⟨_,rfl⟩
    have hS':rnd ⟨xa,xb,xc,xd,xe,xf,xg,xh⟩ kt wt=⟨W.cv (t1+t2),xa,xb,xc,W.cv (xd+t1),xe,xf,xg⟩:=by
     unfold rnd T1 T2 S1 S0 Ch Maj
     simp only [hs1,hs0,hch,hmj,ht1,ht2]
    rw [hS'] at hS
    clear hS'
    have r1:=qB xe 6 oo
    have r2:=qB xe 11 oo
    have r3:=qB xe 25 oo
    have r4:=qB xa 2 oo
    have r5:=qB xa 13 oo
    have r6:=qB xa 22 oo
    have hcs:=And.intro r1 (And.intro r2 (And.intro r3 (And.intro r4 (And.intro r5 (And.intro r6 True.intro)))))
    clear r1 r2 r3 r4 r5 r6 hZ hzl hol
    refine Wk ?_
    exact ⟨WS,WG,WN,_,(show 64 - (t+1) < m_3 by omega),t+1,V8.mk (W.cv (t1+t2)) xa xb xc (W.cv (xd+t1)) xe xf xg,rfl,WF,WF,WC,WC⟩
  ·have htl:t < 64:=by omega
   have htl':(t:Int) < 64:=by omega
   have hw:=zvM b t h16
   rw [hL] at hw
   have j15:((t:Int) - 15).toNat=t - 15:=by omega
   have j2:((t:Int) - 2).toNat=t - 2:=by omega
   have j7:((t:Int) - 7).toNat=t - 7:=by omega
   have j16:((t:Int) - 16).toNat=t - 16:=by omega
   have l15:t - 15 < L.length:=by omega
   have l2:t - 2 < L.length:=by omega
   have l7:t - 7 < L.length:=by omega
   have l16:t - 16 < L.length:=by omega
   obtain ⟨x15,g15⟩:∃ x,L[t - 15]=x:=⟨_,rfl⟩
   obtain ⟨x2,g2⟩:∃ x,L[t - 2]=x:=⟨_,rfl⟩
   obtain ⟨x7,g7⟩:∃ x,L[t - 7]=x:=⟨_,rfl⟩
   obtain ⟨x16,g16⟩:∃ x,L[t - 16]=x:=⟨_,rfl⟩
   rw [zpb oo oo g2 g7 g15 g16] at hw
   have r1:=qB x2 17 oo
   have r2:=qB x2 19 oo
   have r3:=qB x15 7 oo
   have r4:=qB x15 18 oo
   have s0:W.x32 (W.x32 (W.rotr x15 7) (W.rotr x15 18)) (x15.fdiv 8)=sg0 x15:=by unfold sg0;rfl
   have s1:W.x32 (W.x32 (W.rotr x2 17) (W.rotr x2 19)) (x2.fdiv 1024)=sg1 x2:=by unfold sg1;rfl
   have hcs:=And.intro r1 (And.intro r2 (And.intro r3 (And.intro r4 True.intro)))
   clear r1 r2 r3 r4 hL
   refine Wk ?_
   exact ⟨WS,WG,WN,_,(show 64 - (t+1) < m_2 by omega),t+1,L.set t (W.cv (W.cv (W.cv (sg1 x2+x7)+sg0 x15)+x16)),rfl,WF,WF,WC,WC,WC⟩
end
end Go.Proofs.YtglmjglbobhbbaaGreatDoor
