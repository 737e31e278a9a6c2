/- Texts P22, P1, W4p, P23, U17p, U27p, W2p, Q6p, W8p, W9p, P16, U19, P24, C17, W12, W15, I3, W16, C14, C15, X1, X2, X3, X4, X5, X6, P27, P28, W6, joined. -/
import Derived.Test.YtglmjglbobhbbaaGreatDoorME1
import Derived.RecoverIn
import Derived.RangeFuncLeaves
namespace Go.Proofs.YtglmjglbobhbbaaGreatDoor
open _root_.Go.Proofs.Tryz
open Go.Ab
attribute [local irreducible] Go.Ab.tyAV Go.Ab.aw Go.Ab.aops Go.Ab.kReg Go.Ab.aThen Go.Ab.aBlk Go.Ab.acond Go.Ab.aguard Go.Ab.astep Go.Ab.AStepX Go.Ab.aRet
attribute [local irreducible] yE
theorem zes {w:Wa} (h:WaC w) {d:Di} (hd:WdT d.ticket d.conds):WaC (wL w d).1:=by
 unfold wL
 split
 ·rename_i hc
  refine ⟨h.pl,h.pc,by simp only [List.length_append,List.length_singleton];omega,fun x hx=>?_⟩
  rcases List.mem_append.1 hx with hx | hx
  ·exact h.dc x (List.mem_of_mem_eraseP hx)
  ·rw [List.mem_singleton.1 hx];exact hd
 ·exact ⟨by simp [w0],fun x hx=>by simp [w0] at hx,by simp [w0],fun x hx=>by simp [w0] at hx⟩
theorem zff {w:Wa} (h:WaC w) {p:Pa} (hp:PaC p):WaC (wW w p).1:=by
 unfold wW
 split
 ·refine ⟨by simp only [List.length_append,List.length_singleton];omega,fun x hx=>?_,h.dl,h.dc⟩
  rcases List.mem_append.1 hx with hx | hx
  ·exact h.pc x hx
  ·rw [List.mem_singleton.1 hx];exact hp
 ·exact ⟨by simp [w0],fun x hx=>by simp [w0] at hx,by simp [w0],fun x hx=>by simp [w0] at hx⟩
def qD (X:Wa × Nat):List Di→Wa × Nat
 | []=>X
 | d::r=>if X.2=0 then qD (wL X.1 d) r else X
def zcA (f t:Wa) (i:Int):Wa × Nat:=if (yf f i).2=true then qD (wW t (yf f i).1) (zbr f i) else (w0,12)
theorem zdf {X:Wa × Nat} (h:X.2≠0) (l:List Di):qD X l=X:=by
 cases l with
 | nil=>rfl
 | cons d r=>rw [qD,if_neg h]
set_option maxHeartbeats 4000000 in
theorem zaT (f t:Wa) (hf:WaC f) (ht:WaC t) (i:Int) (k:Nat):ACall prog 21 [yp f,yp t,.lit (.int .i64 i)] k [] (.tup [yp (zcA f t i).1,.lit (.int .i64 (zcA f t i).2)]) []:=by
 have c1:=vF f (by have:=hf.pl;omega) i
 have c2:=qc t ht _ (wA hf.pc i)
 have h0:=zff ht (wA hf.pc i)
 have c3:=we f hf i
 have hmc:=zdj hf.dc i
 have hml:=kK (w:=f) i
 have hfl:=hf.dl
 unfold zcA
 generalize zbr f i=M at *
 clear hf ht
 generalize yf f i=Z at *
 obtain ⟨p,b⟩:=Z
 simp only at *
 cases b with
 | false=>
  rw [if_neg (by simp)]
  refine ACall.result (r:=.tup [.agg [.nils,.nils],.lit (.int .i64 12)]) ?_ (AV.sub_tup (.cons zdY (.cons (AV.le_refl _) .nil)))
  clear c2 c3 hmc h0
  refine Bd func21 ntmps21 fun σ N hp hpn hk hkn hfree=>?_
  have hcs:=And.intro c1 True.intro
  clear c1
  exact W0
 | true=>
  rw [if_pos rfl]
  obtain ⟨⟨R1,R2⟩,hR⟩:∃ R,qD (wW t p) (M.drop 0)=R:=⟨_,rfl⟩
  rw [show qD (wW t p) M=(R1,R2) from hR]
  simp only
  generalize hY:wW t p=Y at *
  obtain ⟨Y1,Y2⟩:=Y
  simp only at c2 h0
  clear hY
  refine Bd func21 ntmps21 fun σ N hp hpn hk hkn hfree=>?_
  have hcs:=And.intro c1 (And.intro c2 (And.intro c3 True.intro))
  clear c1 c2 c3
  refine Wk ?_
  clear hcs
  refine ze zi (by kernel_rfl) [11,13,33,34,35,36,37,38,39,40,41,42,43,44,45] [N+15+6] (fun m_ s_ σ_ n_=>∃ (u:Nat) (w:Wa) (e:Nat),m_=M.length - u∧s_ 33=.lit (.int .i64 u)∧s_ 11=.lit (.int .i64 e)∧σ_ (N+15+6)=.box 25 (yp w)∧(u≤M.length)∧(WaC w)∧(qD (w,e) (M.drop u)=(R1,R2))) ⟨_,0,Y1,Y2,rfl,WF,WF,WF,WC,WC,WC⟩ ?_
  intro m_1 s_1 σ_1 n_1 hs_1 hf_1 hn_1 hI_1
  obtain ⟨u,w,e,hm_1,h1_33,h1_11,e1_0,hu,hw,hres⟩:=hI_1
  have h1_6:=KS hs_1 6
  have h1_7:=KS hs_1 7
  have h1_10:=KS hs_1 10
  have h1_31:=KS hs_1 31
  have h1_32:=KS hs_1 32
  have k1_0:=KE hf_1 (N)
  have k1_1:=KE hf_1 (N+1)
  have k1_2:=KE hf_1 (N+2)
  have k1_3:=KE hf_1 (N+4+6)
  have hlow:=KL (N:=N) (σ:=σ) hf_1
  clear hR h0
  by_cases hul:u=M.length
  ·subst hul
   rw [List.drop_length,qD] at hres
   simp only [Prod.mk.injEq] at hres
   obtain ⟨rfl,rfl⟩:=hres
   clear hmc hw
   refine Wk ?_
   exact WD
  ·have hu1:u < M.length:=by omega
   rw [List.drop_eq_getElem_cons hu1,qD] at hres
   have hzd:=hmc _ (List.getElem_mem hu1)
   obtain ⟨z,hz⟩:∃ z,M[u]=z:=⟨_,rfl⟩
   rw [hz] at hres hzd
   have hzm:(M.map zw)[u]?=some (zw z):=by rw [List.getElem?_map,List.getElem?_eq_getElem hu1,hz];rfl
   by_cases he:e=0
   ·subst he
    simp only [↓reduceIte] at hres
    have c4:=zbV w hw z hzd
    have hw2:=zes hw hzd
    generalize wL w z=X at *
    obtain ⟨w2,e2⟩:=X
    simp only at c4 hw2 hres
    clear hmc hzd hw
    have hcs:=And.intro c4 True.intro
    clear c4
    refine Wk ?_
    clear hcs
    exact ⟨WS,WG,WN,_,(show M.length - (u+1) < m_1 by omega),u+1,w2,e2,rfl,WF,WF,WF,WC,WC,WC⟩
   ·simp only [if_neg he] at hres
    have he2:((e:Int) == 0)=false:=by rw [beq_eq_false_iff_ne];omega
    have hres2:qD (w,e) (M.drop (u+1))=(R1,R2):=by rw [zdf (X:=(w,e)) he];exact hres
    clear hmc hzd hres
    refine Wk ?_
    exact ⟨WS,WG,WN,_,(show M.length - (u+1) < m_1 by omega),u+1,w,e,rfl,WF,WF,WF,WC,WC,WC⟩
section
variable [W:W32]
def wj (a:Alg) (p:Pa):List Pr→Alg × Nat × Pa
 | []=>(a,0,p)
 | x::r=>if (zY a 0 p (zR x)).2.1=0 then wj (zY a 0 p (zR x)).1 (zY a 0 p (zR x)).2.2 r else zY a 0 p (zR x)
theorem vz (a:Alg) (e:Nat) (p:Pa) (c:Ca):(zY a e p c).1.boxes=a.boxes:=by unfold zY;simp only [wa]
theorem vN (a:Alg) (e:Nat) (p:Pa) (c:Ca):(zY a e p c).2.2.cavs=p.cavs++[c]:=rfl
theorem zbM {a:Alg} {m:Nat} (h:AlgIn a m) (e:Nat) (p:Pa) (c:Ca):AlgIn (zY a e p c).1 (m+2):=zdE h _ _ _
theorem wb:∀ (l:List Pr) (a:Alg) (p:Pa),(wj a p l).1.boxes=a.boxes
 | [],a,p=>rfl
 | x::r,a,p=>by
  rw [wj]
  split
  ·rw [wb r,vz]
  ·exact vz a 0 p _
theorem jR:∀ (l:List Pr) (a:Alg) (p:Pa),yT a p l=if (wj a p l).2.1=0 then ((wj a p l).1,(wj a p l).2.2,0) else (wZ,pa0,(wj a p l).2.1)
 | [],a,p=>rfl
 | x::r,a,p=>by
  rw [yT,wj,zau]
  by_cases h:(zY a 0 p (zR x)).2.1=0
  ·rw [if_pos h,if_pos h,if_pos rfl]
   exact jR r _ _
  ·rw [if_neg h,if_neg h,if_neg h,if_neg h]
theorem kW:∀ (l:List Pr) (a:Alg) (p:Pa),(wj a p l).2.2.cavs.length≤p.cavs.length+l.length∧∀ c∈(wj a p l).2.2.cavs,c∈p.cavs∨∃ x∈l,c=zR x
 | [],a,p=>⟨by simp [wj],fun c hc=>Or.inl hc⟩
 | x::r,a,p=>by
  rw [wj]
  split
  ·obtain ⟨h1,h2⟩:=kW r (zY a 0 p (zR x)).1 (zY a 0 p (zR x)).2.2
   rw [vN,List.length_append,List.length_singleton] at h1
   refine ⟨by simp only [List.length_cons];omega,fun c hc=>?_⟩
   rcases h2 c hc with h | ⟨y,hy,h⟩
   ·rw [vN] at h
    rcases List.mem_append.1 h with h | h
    ·exact Or.inl h
    ·exact Or.inr ⟨x,List.mem_cons_self ..,List.mem_singleton.1 h⟩
   ·exact Or.inr ⟨y,List.mem_cons_of_mem _ hy,h⟩
  ·rw [vN,List.length_append,List.length_singleton]
   refine ⟨by simp only [List.length_cons];omega,fun c hc=>?_⟩
   rcases List.mem_append.1 hc with h | h
   ·exact Or.inl h
   ·exact Or.inr ⟨x,List.mem_cons_self ..,List.mem_singleton.1 h⟩
set_option maxHeartbeats 16000000 in
theorem zdI (a:Alg) (m:Nat) (ha:AlgIn a m) (l:List Pr) (hl:l.length≤1000) (hm:m≤100000) (p:Pa) (hpl:p.cavs.length≤1000) (hpc:∀ x∈p.cavs,wY x) (hlk:∀ x∈l,PrOk x) (q r1 r2 g h k:Nat):
  ACall prog 100 [.ptr q [] 0,zG p,.slice none (l.map zU)] k (vA a 0 q r1 r2++[(g,yE),(h,zS)]) (zG (wj a p l).2.2) [(q,zcM (wj a p l).1 (wj a p l).2.1 r1 r2),(r1,zfk (wj a p l).1.macs.length)]:=by
 have hRb:=wb l a p
 obtain ⟨R,hR⟩:∃ R,wj a p (l.drop 0)=R:=⟨_,rfl⟩
 rw [show wj a p l=R from hR] at hRb ⊢
 obtain ⟨Ra,Re,Rp⟩:=R
 simp only at hRb ⊢
 obtain ⟨BX,hBX⟩:∃ x,a.boxes=x:=⟨_,rfl⟩
 rw [hBX] at hRb
 unfold vA
 simp only [List.cons_append,List.nil_append]
 simp only [zW,zP,zO,hRb,hBX]
 have e00:((0:Nat):Int)=0:=rfl
 simp only [e00]
 refine Bd func100 ntmps100 fun σ N hp hpn hk hkn hfree=>?_
 simp only [List.mem_cons,List.not_mem_nil,or_false,forall_eq_or_imp,forall_eq] at hp hpn
 obtain ⟨hd1,hd2,hd3,hd4,hd5⟩:=hp
 obtain ⟨hdn1,hdn2,hdn3,hdn4,hdn5⟩:=hpn
 have hne:q≠r1:=by rintro rfl;rw [hd1] at hd2;cases hd2
 have hne3:q≠r2:=by rintro rfl;rw [hd1] at hd3;cases hd3
 have hneg:g≠q:=by rintro rfl;rw [hd4] at hd1;exact ya hd1
 have hneg1:g≠r1:=by rintro rfl;rw [hd4] at hd2;exact yb hd2
 have hneh:h≠q:=by rintro rfl;rw [hd5] at hd1;exact v8 hd1
 have hneh1:h≠r1:=by rintro rfl;rw [hd5] at hd2;exact v9 hd2
 have hne23:r1≠r2:=by
  rintro rfl
  rw [hd2] at hd3
  simp at hd3
 refine Wk ?_
 refine ze zi (by kernel_rfl) [8,9,10,13,14,15,16,17,18,19,20,21,22,23,24,25,26,27,28,29] [N,q,r1] (fun m_ s_ σ_ n_=>∃ (u:Nat) (A:Alg) (P:Pa),m_=l.length - u∧s_ 13=.lit (.int .i64 u)∧σ_ (N)=.box 30 (zG P)∧σ_ (q)=.box 249 (.agg [.agg [.lit (.bool A.free),zd A.seed,.lit (.int .i64 A.fresh),.slice (some r1) (A.macs.map zJ),.slice (some r2) (BX.map zo)],.lit (.int .i64 0)])∧σ_ (r1)=.row 190 65 A.macs.length∧(u≤l.length)∧(AlgIn A (m+2 * u))∧(A.boxes=BX)∧(P.cavs.length≤p.cavs.length+u)∧(∀ x∈P.cavs,wY x)∧(wj A P (l.drop u)=(Ra,Re,Rp))) ⟨_,0,a,p,rfl,WF,WF,WF,WF,WC,WC,WC,WC,WC,WC⟩ ?_
 intro m_3 s_3 σ_3 n_3 hs_3 hf_3 hn_3 hI_3
 obtain ⟨u,A,P,hm_3,h3_13,e3_0,e3_1,e3_2,hu,hA,hAb,hPl,hPc,hres⟩:=hI_3
 have h3_0:=KS hs_3 0
 have h3_4:=KS hs_3 4
 have h3_6:=KS hs_3 6
 have h3_11:=KS hs_3 11
 have h3_12:=KS hs_3 12
 have k3_0:=KE hf_3 (N+1)
 have k3_1:=KE hf_3 (r2)
 have k3_2:=KE hf_3 (g)
 have k3_3:=KE hf_3 (h)
 have hlow:∀ id,id < N→id≠q→id≠r1→σ_3 id=σ id:=fun id hid hdd0 hdd1=>(hf_3.at id oo (by simp [hdd0,hdd1];try omega)).trans (by simp (disch:=omega) only [zg];try first | exact hlow id hid hdd0 hdd1 | exact hlow id hid)
 clear hR ha hpc
 by_cases hul:u=l.length
 ·subst hul
  rw [List.drop_length,wj] at hres
  simp only [Prod.mk.injEq] at hres
  obtain ⟨rfl,rfl,rfl⟩:=hres
  clear hlk hA hPc
  refine Wk ?_
  refine yd [(q,(.box 249 (.agg [.agg [.lit (.bool A.free),zd A.seed,.lit (.int .i64 A.fresh),.slice (some r1) (A.macs.map zJ),.slice (some r2) (BX.map zo)],.lit (.int .i64 0)]))),(r1,(.row 190 65 A.macs.length))] (by simp (disch:=omega) [go_sem, *,-List.reduceReplicate];rfl) (by first | rfl | (simp (disch:=omega) [go_sem];done) | (simp (disch:=omega) [go_sem, *];done) | simp (disch:=omega) [go_sem]) (fun id hid=>by simp only [zF,yi];(by_cases hdd:id=q;(· (subst hdd;simp (disch:=omega) [go_sem, *]));(· (by_cases hdd2:id=r1;(· (subst hdd2;simp (disch:=omega) [go_sem, *]));(· (simp (disch:=omega) only [zg];try (first | exact hlow id hid hdd hdd2 | exact hlow id hid))))))) (by simp) (by simp (disch:=omega) [go_sem, *])
 ·have hu1:u < l.length:=by omega
  rw [List.drop_eq_getElem_cons hu1,wj] at hres
  have hx:=hlk _ (List.getElem_mem hu1)
  obtain ⟨x,hxe⟩:∃ x,l[u]=x:=⟨_,rfl⟩
  rw [hxe] at hres hx
  have hxm:(l.map zU)[u]?=some (zU x):=by rw [List.getElem?_map,List.getElem?_eq_getElem hu1,hxe];rfl
  have c1:=jl A (m+2 * u) hA oo 0 P oo hPc (zR x) ⟨by simp [zR],by simp [zR]⟩ hx q r1 r2 g h
  have hin:=zbM hA 0 P (zR x)
  have hbx:=vz A 0 P (zR x)
  have hcv:=vN A 0 P (zR x)
  generalize zY A 0 P (zR x)=X at *
  obtain ⟨a1,e1,p1⟩:=X
  simp only at c1 hbx hin hcv hres
  have hp1l:p1.cavs.length≤p.cavs.length+(u+1):=by rw [hcv,List.length_append,List.length_singleton];omega
  have hp1c:∀ y∈p1.cavs,wY y:=fun y hy=>by
   rw [hcv] at hy
   rcases List.mem_append.1 hy with hy | hy
   ·exact hPc y hy
   ·rw [List.mem_singleton.1 hy];exact ⟨by simp [zR],by simp [zR]⟩
  have hfA:z8 (zR x)=.agg [.lit (.bool false),zU x,.lit (.int .i64 0),.slice none [],.slice none []]:=rfl
  rw [hfA] at c1
  have hs1:=xv P
  have hs2:=yw P
  have hs3:=xv p1
  have hs4:=yw p1
  have hin2:AlgIn a1 (m+2 * (u+1)):=hin.more oo
  have hb2:a1.boxes=BX:=hbx.trans hAb
  clear hA hPl hPc hx hfA hlk hin hcv
  by_cases he:e1=0
  ·subst he
   have c2:=kF a1 q r1 r2
   unfold vA at c1 c2
   simp only [List.cons_append,List.nil_append] at c1 c2
   simp only [zW,zP,zO,hb2,hAb,e00] at c1 c2
   simp only [↓reduceIte] at hres
   have hcs:=And.intro c1 (And.intro c2 True.intro)
   clear c1 c2
   refine Wk ?_
   clear hcs
   exact ⟨WS,WG,WN,_,(show l.length - (u+1) < m_3 by omega),u+1,a1,p1,rfl,WF,WF,WF,WF,WC,WC,WC,WC,WC,WC⟩
  ·have c2:=qP a1 e1 he q r1 r2
   unfold vA at c1 c2
   simp only [List.cons_append,List.nil_append] at c1 c2
   simp only [zW,zP,zO,hb2,hAb,e00] at c1 c2
   simp only [if_neg he,Prod.mk.injEq] at hres
   obtain ⟨rfl,rfl,rfl⟩:=hres
   have he3:((e1:Int) != 0)=true:=by rw [bne_iff_ne];omega
   clear hp1l hp1c hin2
   have hcs:=And.intro c1 (And.intro c2 True.intro)
   clear c1 c2
   refine Wk ?_
   refine yd [(q,(.box 249 (.agg [.agg [.lit (.bool a1.free),zd a1.seed,.lit (.int .i64 a1.fresh),.slice (some r1) (a1.macs.map zJ),.slice (some r2) (BX.map zo)],.lit (.int .i64 e1)]))),(r1,(.row 190 65 a1.macs.length))] (by simp (disch:=omega) [go_sem, *,-List.reduceReplicate];rfl) (by first | rfl | (simp (disch:=omega) [go_sem];done) | (simp (disch:=omega) [go_sem, *];done) | simp (disch:=omega) [go_sem]) (fun id hid=>by simp only [zF,yi];(by_cases hdd:id=q;(· (subst hdd;simp (disch:=omega) [go_sem, *]));(· (by_cases hdd2:id=r1;(· (subst hdd2;simp (disch:=omega) [go_sem, *]));(· (simp (disch:=omega) only [zg];try (first | exact hlow id hid hdd hdd2 | exact hlow id hid))))))) (by simp) (by simp (disch:=omega) [go_sem, *])
end
def w3P:Pr:=⟨4,0,0,3000,[],0⟩
section
variable [W:W32]
theorem AlgOk.node0 {a:Alg} (h:AlgOk a) (key:Tg) (msg:List UInt8):AlgOk (xS a key msg).1:=by
 unfold xS
 split
 ·split
  ·exact (h.mac _ _).mac _ _
  ·exact AlgOk.zero
 ·exact AlgOk.zero
theorem AlgOk.att {a:Alg} (h:AlgOk a) (p:Pa) (c:Ca):AlgOk (zba a p c).1:=by
 unfold zba
 split
 ·exact AlgOk.zero
 ·split
  ·exact AlgOk.zero
  ·split
   ·exact h.node0 _ _
   ·exact AlgOk.zero
theorem AlgOk.nar:∀ {l:List Pr} {a:Alg} (_:AlgOk a) (p:Pa),AlgOk (yT a p l).1
 | [],_,h,_=>h
 | x::r,a,h,p=>by
  unfold yT
  split
  ·exact AlgOk.nar (l:=r) (h.att _ _) _
  ·exact AlgOk.zero
theorem AlgOk.restr {a:Alg} (h:AlgOk a) (d:Di) (p:Pr):AlgOk (wD a d p).1:=by
 unfold wD
 split
 ·exact AlgOk.zero
 ·split
  ·exact AlgOk.zero
  ·split
   ·exact AlgOk.zero
   ·split
    ·exact h.mac _ _
    ·exact AlgOk.zero
theorem AlgOk.blank {a:Alg} (h:AlgOk a) (c:Co) (t:Te):AlgOk (zax a c t).1:=by
 unfold zax
 split
 ·exact AlgOk.zero
 ·split
  ·split
   ·exact h.key.sealed _ _ _
   ·exact AlgOk.zero
  ·exact AlgOk.zero
theorem AlgOk.addT {a:Alg} (h:AlgOk a) (p:Pa) (b:Bl):AlgOk (zbq a p b).1:=by
 unfold zbq
 split
 ·split
  ·exact ((h.mac _ _).sealed _ _ _).att _ _
  ·exact AlgOk.zero
 ·exact AlgOk.zero
theorem AlgOk.grant {a:Alg} (h:AlgOk a) (c:Co) (t holder:List UInt8) (mi:Int):AlgOk (zaD a c t holder mi).1:=by
 unfold zaD
 split
 ·exact AlgOk.zero
 ·split
  ·exact AlgOk.zero
  ·split
   ·exact AlgOk.zero
   ·split
    ·exact AlgOk.zero
    ·split
     ·exact AlgOk.zero
     ·split
      ·exact (h.mac _ _).restr _ _
      ·exact AlgOk.zero
theorem zbz:∀ {l:List Pr} {a:Alg} {m:Nat} (_:AlgIn a m) (p:Pa),AlgIn (yT a p l).1 (m+2 * l.length)
 | [],_,_,h,_=>h
 | x::r,a,m,h,p=>by
  unfold yT
  split
  ·have:=zbz (l:=r) (zhi h p (zR x)) (zba a p (zR x)).2.1
   rw [show m+2 * (x::r).length=m+2+2 * r.length by simp;omega]
   exact this
  ·exact xE _
theorem zaJ:∀ {l:List Pr} {a:Alg} (p:Pa),(yT a p l).2.1.cavs.length≤p.cavs.length+l.length
 | [],_,_=>Nat.le_refl _
 | x::r,a,p=>by
  unfold yT
  split
  ·have:=zaJ (l:=r) (a:=(zba a p (zR x)).1) (zba a p (zR x)).2.1
   have h2:=zbJ (a:=a) (p:=p) (c:=zR x)
   rw [List.length_cons]
   omega
  ·simp [pa0]
theorem zaW {a:Alg} {p:Pa} {b:Bl}:(zbq a p b).2.1.cavs.length≤p.cavs.length+1:=by
 unfold zbq
 split
 ·split
  ·exact zbJ
  ·simp [pa0]
 ·simp [pa0]
structure SoW (S:Ss) (n m:Nat):Prop where
 ain:AlgIn S.A m
 ok:AlgOk S.A
 cl:S.p.cavs.length≤n
 gl:S.gs.length≤n
def zf1 (l:List Int):Nat→Nat→Alg→Di→(Alg × Di × Nat)→Prop
 | 0,j,A,g,R=>R=(A,g,j)
 | f+1,j,A,g,R=>∃ p j1,PRD l j false p j1∧zf1 l f j1 (wD A g w3P).1 (wD A g w3P).2.1 R
theorem zaL {l:List Int}:∀ (f j:Nat) (A:Alg) (g:Di) (R:Alg × Di × Nat) (m:Nat),zf1 l f j A g R→Dk l j→AlgIn A m→AlgOk A→Dk l R.2.2∧AlgIn R.1 (m+f)∧AlgOk R.1
 | 0,j,A,g,R,m,hR,h,ha,ok=>by
  have hR:R=(A,g,j):=hR
  subst hR
  exact ⟨h,ha,ok⟩
 | f+1,j,A,g,R,m,hR,h,ha,ok=>by
  obtain ⟨p,j1,hp,hR⟩:=hR
  have:=zaL f j1 _ _ R (m+1) hR hp.2.2.2.1 (zdm ha g w3P) (ok.restr g w3P)
  rw [show m+(f+1)=m+1+f by omega]
  exact this
theorem SoW.thd {con:Co} {mi:Int} {S:Ss} {n m:Nat} (h:SoW S n m) {l:List Int} {f j:Nat} (hj:Dk l j) (hf2:f≤2) {R2:Alg × Di × Nat} (hR:zf1 l f j (GR S con mi).1 (GR S con mi).2.1 R2):Dk l R2.2.2∧SoW ⟨R2.1,(AD S con).2.1,S.gs++[R2.2.1]⟩ (n+1) (m+12):=by
 have iB:AlgIn (BL S con).1 (m+2):=zc4 h.ain con ⟨0,150⟩
 have iA:AlgIn (AD S con).1 (m+6):=zhf iB S.p (BL S con).2.1
 have iG:AlgIn (GR S con mi).1 (m+8):=zel iA con (BL S con).2.1.ticket ann mi
 have oB:AlgOk (BL S con).1:=h.ok.blank con ⟨0,150⟩
 have oA:AlgOk (AD S con).1:=oB.addT S.p (BL S con).2.1
 have oG:AlgOk (GR S con mi).1:=oA.grant con (BL S con).2.1.ticket ann mi
 obtain ⟨h1,h2,h3⟩:=zaL f j _ _ R2 _ hR hj iG oG
 have hc:(AD S con).2.1.cavs.length≤S.p.cavs.length+1:=zaW
 have:=h.cl
 have:=h.gl
 exact ⟨h1,h2.more oo,h3,by simp only;omega,by simp;omega⟩
theorem SoW.nar {S:Ss} {n m:Nat} (h:SoW S n m) {L:List Pr} (hL:L.length≤1):SoW ⟨(yT S.A S.p L).1,(yT S.A S.p L).2.1,S.gs⟩ (n+1) (m+12):=by
 have h1:=zaJ (l:=L) (a:=S.A) S.p
 have:=h.cl
 have:=h.gl
 exact ⟨(zbz (l:=L) h.ain S.p).more oo,h.ok.nar S.p,by simp only;omega,by simp only;omega⟩
end
section
variable [W:W32]
omit W in
theorem ziJ:zA aF=.agg [.lit (.bool true),zd zeroTag,.lit (.int .i64 0),.slice none [],.slice none []]:=rfl
end
structure FewW (w:Wa):Prop where
 p:∀ x∈w.ps,x.cavs.length≤70
 pl:w.ps.length≤40
 dl:w.ds.length≤40
theorem kO:yp w0=.agg [.slice none [],.slice none []]:=rfl
theorem zd8 {w:Wa} {p:Pa}:(wW w p).2=0∨(wW w p).2=2:=by
 unfold wW
 split
 ·exact Or.inl rfl
 ·exact Or.inr rfl
section
variable [W:W32]
def zbK (a:Alg) (w:Wa) (i:Int) (l:List Pr):Alg × Wa × Nat:=
 if (yf w i).2=true then
  if (yT a (yf w i).1 l).2.2=0 then
   if (wW w (yT a (yf w i).1 l).2.1).2=0 then ((yT a (yf w i).1 l).1,(wW w (yT a (yf w i).1 l).2.1).1,0)
   else (wZ,w0,(wW w (yT a (yf w i).1 l).2.1).2)
  else (wZ,w0,(yT a (yf w i).1 l).2.2)
 else (wZ,w0,12)
def ze9 (R:Alg × Wa × Nat):AV:=.tup [zA R.1,yp R.2.1,.lit (.int .i64 R.2.2)]
theorem ze2 {a:Alg} {p:Pa} {l:List Pr} (hp:PaC p) (hl:p.cavs.length+l.length≤100000):PaC (wj a p l).2.2:=by
 obtain ⟨h1,h2⟩:=kW l a p
 refine ⟨by omega,fun c hc=>?_⟩
 rcases h2 c hc with h | ⟨x,_,rfl⟩
 ·exact hp.2 c h
 ·exact ⟨by simp [zR],by simp [zR]⟩
set_option maxHeartbeats 8000000 in
theorem zb1 (a:Alg) (m:Nat) (ha:AlgIn a m) (hm:m≤100000) (w:Wa) (hw:WaC w) (hpz:∀ p∈w.ps,p.cavs.length≤1000) (i:Int) (l:List Pr) (hl:l.length≤1000) (hlk:∀ x∈l,PrOk x) (g h k:Nat) (_hgh:g≠h):
  ACall prog 41 [zA a,yp w,.lit (.int .i64 i),.slice none (l.map zU)] k [(g,yE),(h,zS)] (ze9 (zbK a w i l)) []:=by
 have cf:=vF w (by have:=hw.pl;omega) i
 have hpc:=wA hw.pc i
 have hpl:(yf w i).1.cavs.length≤1000:=by
  rcases vE (w:=w) (i:=i) with h1 | h1
  ·rw [h1];simp [pa0]
  ·exact hpz _ h1
 clear hpz
 unfold zbK ze9
 generalize yf w i=Z at *
 obtain ⟨p,b⟩:=Z
 simp only at *
 cases b with
 | false=>
  rw [if_neg (by simp)]
  simp only
  rw [kO,zZ]
  clear hpc hlk ha hw
  refine Bd func41 ntmps41 fun σ N hp hpn hk hkn hfree=>?_
  simp only [List.mem_cons,List.not_mem_nil,or_false,forall_eq_or_imp,forall_eq] at hp hpn;obtain ⟨hd1,hd2⟩:=hp;obtain ⟨hdn1,hdn2⟩:=hpn
  have hcs:=And.intro cf True.intro
  clear cf
  refine Wk ?_
  exact WD
 | true=>
  rw [if_pos rfl,jR]
  have cb:=wK a (by have:=ha.ml;omega) (by have:=ha.bl;omega)
  have c1:=fun q r1 r2=>zdI a m ha l hl hm p hpl hpc.2 hlk q r1 r2 g h
  have hbx:=wb l a p
  have hpc2:=ze2 (a:=a) (l:=l) hpc oo
  generalize wj a p l=R at *
  obtain ⟨a1,e1,p1⟩:=R
  simp only at *
  have hs1:=xv p
  have hs2:=yw p
  have hs3:=xv p1
  have hs4:=yw p1
  have e00:((0:Nat):Int)=0:=rfl
  unfold zbN at cb
  unfold vA at c1
  simp only [List.cons_append,List.nil_append] at c1
  simp only [zW,zP,zO,hbx,e00] at cb c1
  by_cases he:e1=0
  ·subst he
   have c2:=kF a1
   unfold vA at c2
   simp only [zW,zP,zO,hbx,e00] at c1 c2
   simp only [↓reduceIte]
   have c3:=qc w hw p1 hpc2
   have hae:=zd8 (w:=w) (p:=p1)
   generalize wW w p1=Y at *
   obtain ⟨w2,e2⟩:=Y
   simp only at *
   clear hpc hpc2 hlk ha hw
   rcases hae with rfl | rfl
   ·simp only [↓reduceIte]
    refine Bd func41 ntmps41 fun σ N hp hpn hk hkn hfree=>?_
    simp only [List.mem_cons,List.not_mem_nil,or_false,forall_eq_or_imp,forall_eq] at hp hpn;obtain ⟨hd1,hd2⟩:=hp;obtain ⟨hdn1,hdn2⟩:=hpn
    have hcs:=And.intro cf (And.intro cb True.intro)
    clear cf cb
    refine Wm ?_
    iterate 4 refine Wz ?_
    clear hcs
    refine zL (N+16+1) [0,3] 190 65 (bt:=249) (c:=.agg [.agg [.lit (.bool a.free),zd a.seed,.lit (.int .i64 a.fresh),.clip (a.macs.map zJ),.clip (a.boxes.map zo)],.lit (.int .i64 ((0:Nat):Int))]) (xs:=a.macs.map zJ) (by simp (disch:=omega) [go_sem, *,-List.reduceReplicate]) rfl (vg _) ?_;refine zL (N+16+1) [0,4] 192 35 (bt:=249) (c:=.agg [.agg [.lit (.bool a.free),zd a.seed,.lit (.int .i64 a.fresh),.slice (some (N+16+3)) (a.macs.map zJ),.clip (a.boxes.map zo)],.lit (.int .i64 ((0:Nat):Int))]) (xs:=a.boxes.map zo) (by simp (disch:=omega) [go_sem, *,-List.reduceReplicate]) rfl (xC _) ?_
    have hcs:=And.intro (c1 (N+16+1) (N+16+3) (N+16+3+1)) (And.intro (c2 (N+16+1) (N+16+3) (N+16+3+1)) (And.intro c3 True.intro))
    clear c1 c2 c3
    refine Wk ?_
    exact WD
   ·simp only [show ¬ (2=0) by omega,if_false]
    rw [kO,zZ]
    refine Bd func41 ntmps41 fun σ N hp hpn hk hkn hfree=>?_
    simp only [List.mem_cons,List.not_mem_nil,or_false,forall_eq_or_imp,forall_eq] at hp hpn;obtain ⟨hd1,hd2⟩:=hp;obtain ⟨hdn1,hdn2⟩:=hpn
    have hcs:=And.intro cf (And.intro cb True.intro)
    clear cf cb
    refine Wm ?_
    iterate 4 refine Wz ?_
    clear hcs
    refine zL (N+16+1) [0,3] 190 65 (bt:=249) (c:=.agg [.agg [.lit (.bool a.free),zd a.seed,.lit (.int .i64 a.fresh),.clip (a.macs.map zJ),.clip (a.boxes.map zo)],.lit (.int .i64 ((0:Nat):Int))]) (xs:=a.macs.map zJ) (by simp (disch:=omega) [go_sem, *,-List.reduceReplicate]) rfl (vg _) ?_;refine zL (N+16+1) [0,4] 192 35 (bt:=249) (c:=.agg [.agg [.lit (.bool a.free),zd a.seed,.lit (.int .i64 a.fresh),.slice (some (N+16+3)) (a.macs.map zJ),.clip (a.boxes.map zo)],.lit (.int .i64 ((0:Nat):Int))]) (xs:=a.boxes.map zo) (by simp (disch:=omega) [go_sem, *,-List.reduceReplicate]) rfl (xC _) ?_
    have hcs:=And.intro (c1 (N+16+1) (N+16+3) (N+16+3+1)) (And.intro (c2 (N+16+1) (N+16+3) (N+16+3+1)) (And.intro c3 True.intro))
    clear c1 c2 c3
    refine Wk ?_
    exact WD
  ·have c2:=qP a1 e1 he
   unfold vA at c2
   simp only [zW,zP,zO,hbx] at c1 c2
   have he3:((e1:Int) != 0)=true:=by rw [bne_iff_ne];omega
   rw [if_neg he]
   simp only [if_neg he]
   rw [kO]
   simp only [zZ] at *
   clear hpc hpc2 hlk ha hw
   refine Bd func41 ntmps41 fun σ N hp hpn hk hkn hfree=>?_
   simp only [List.mem_cons,List.not_mem_nil,or_false,forall_eq_or_imp,forall_eq] at hp hpn;obtain ⟨hd1,hd2⟩:=hp;obtain ⟨hdn1,hdn2⟩:=hpn
   have hcs:=And.intro cf (And.intro cb True.intro)
   clear cf cb
   refine Wm ?_
   iterate 4 refine Wz ?_
   clear hcs
   refine zL (N+16+1) [0,3] 190 65 (bt:=249) (c:=.agg [.agg [.lit (.bool a.free),zd a.seed,.lit (.int .i64 a.fresh),.clip (a.macs.map zJ),.clip (a.boxes.map zo)],.lit (.int .i64 ((0:Nat):Int))]) (xs:=a.macs.map zJ) (by simp (disch:=omega) [go_sem, *,-List.reduceReplicate]) rfl (vg _) ?_;refine zL (N+16+1) [0,4] 192 35 (bt:=249) (c:=.agg [.agg [.lit (.bool a.free),zd a.seed,.lit (.int .i64 a.fresh),.slice (some (N+16+3)) (a.macs.map zJ),.clip (a.boxes.map zo)],.lit (.int .i64 ((0:Nat):Int))]) (xs:=a.boxes.map zo) (by simp (disch:=omega) [go_sem, *,-List.reduceReplicate]) rfl (xC _) ?_
   have hcs:=And.intro (c1 (N+16+1) (N+16+3) (N+16+3+1)) (And.intro (c2 (N+16+1) (N+16+3) (N+16+3+1)) True.intro)
   clear c1 c2
   refine Wk ?_
   exact WD
set_option maxHeartbeats 4000000 in
theorem zbY (a:Alg) (m:Nat) (ha:AlgIn a m) (w:Wa) (hw:w.ps.length≤1000000) (hpz:∀ p∈w.ps,p.cavs.length≤1000) (i:Int) (l:List Pr) (hm:m+2 * l.length≤800000) (hl:l.length≤1000) (hlk:∀ x∈l,PrOk x) (k:Nat):
  ACall prog 42 [zA a,yp w,.lit (.int .i64 i),.slice none (l.map zU)] k [] (ze9 (zbK a w i l)) []:=by
 have cf:=qb w hw i
 have hpl:(yf w i).1.cavs.length≤1000:=by
  rcases vE (w:=w) (i:=i) with h1 | h1
  ·rw [h1];simp [pa0]
  ·exact hpz _ h1
 clear hpz
 unfold zbK ze9
 generalize yf w i=Z at *
 obtain ⟨p,b⟩:=Z
 simp only at *
 cases b with
 | false=>
  rw [if_neg (by simp)]
  simp only
  rw [kO,zZ]
  clear hlk ha
  refine Bd func42 ntmps42 fun σ N hp hpn hk hkn hfree=>?_
  have hcs:=And.intro cf True.intro
  clear cf
  refine Wk ?_
  exact WD
 | true=>
  rw [if_pos rfl]
  have c1:=zdq a m ha p l hm oo hlk
  generalize yT a p l=R at *
  obtain ⟨a1,p1,e1⟩:=R
  unfold zdZ at c1
  simp only at *
  by_cases he:e1=0
  ·subst he
   simp only [↓reduceIte]
   have c3:=zah w p1
   have hae:=zd8 (w:=w) (p:=p1)
   generalize wW w p1=Y at *
   obtain ⟨w2,e2⟩:=Y
   simp only at *
   clear hlk ha
   rcases hae with rfl | rfl
   ·simp only [↓reduceIte]
    refine Bd func42 ntmps42 fun σ N hp hpn hk hkn hfree=>?_
    have hcs:=And.intro cf (And.intro c1 (And.intro c3 True.intro))
    clear cf c1 c3
    refine Wk ?_
    exact WD
   ·simp only [show ¬ (2=0) by omega,if_false]
    rw [kO,zZ]
    refine Bd func42 ntmps42 fun σ N hp hpn hk hkn hfree=>?_
    have hcs:=And.intro cf (And.intro c1 (And.intro c3 True.intro))
    clear cf c1 c3
    refine Wk ?_
    exact WD
  ·have he3:((e1:Int) != 0)=true:=by rw [bne_iff_ne];omega
   rw [if_neg he]
   simp only
   rw [kO,zZ]
   clear hlk ha
   refine Bd func42 ntmps42 fun σ N hp hpn hk hkn hfree=>?_
   have hcs:=And.intro cf (And.intro c1 True.intro)
   clear cf c1
   refine Wk ?_
   exact WD
def qK:Pa:=⟨1,1,[],zeroTag⟩
omit W in
theorem zjG:zG qK=.agg [.lit (.int .i64 1),.lit (.int .i64 1),.slice none [],zd zeroTag]:=rfl
omit W in
theorem zpu (L:List Pa) (hL:L.length≤10) (h:∀ p∈L,p=qK):WaC ⟨L,[]⟩:=
 ⟨by simp only;omega,fun p hp=>by rw [h p hp];exact ⟨by simp [qK],fun c hc=>by simp [qK] at hc⟩,by simp,fun d hd=>by cases hd⟩
set_option maxHeartbeats 4000000 in
theorem jZ (g h:Nat) (hgh:g≠h) (k:Nat):ACall prog 10 [] k [(g,yE),(h,zS)] (.lit (.bool true)) []:=by
 have c1:=qc w0 (zpu [] (by simp) (fun p hp=>by cases hp)) qK ⟨by simp [qK],fun c hc=>by simp [qK] at hc⟩
 have c2:=fun k=>zb1 aF 0 zld oo ⟨[qK],[]⟩ (zpu [qK] (by simp) (fun p hp=>List.mem_singleton.1 hp)) (fun p hp=>by rw [List.mem_singleton.1 hp];simp [qK]) 0 [] (by simp) (fun x hx=>by cases hx) g h k hgh
 have c3:=zaT ⟨[qK,qK],[]⟩ w0 (zpu [qK,qK] (by simp) (fun p hp=>by simpa using hp)) (zpu [] (by simp) (fun p hp=>by cases hp)) 2
 have h1:wW w0 qK=(⟨[qK],[]⟩,0):=rfl
 have h2:zbK aF ⟨[qK],[]⟩ 0 []=(aF,⟨[qK,qK],[]⟩,0):=rfl
 have h3:zcA ⟨[qK,qK],[]⟩ w0 2=(w0,12):=rfl
 rw [h1] at c1
 rw [h2] at c2
 rw [h3] at c3
 have e1:yp ⟨[qK],[]⟩=.agg [.slice none [zG qK],.slice none []]:=rfl
 have e2:yp ⟨[qK,qK],[]⟩=.agg [.slice none [zG qK,zG qK],.slice none []]:=rfl
 unfold ze9 at c2
 simp only at *
 rw [e1,kO] at c1
 rw [e1,e2,ziJ] at c2
 rw [e2,kO] at c3
 simp only [zjG,List.map_nil] at c1 c2 c3
 have f0:((0:Nat):Int)=0:=rfl
 have f12:((12:Nat):Int)=12:=rfl
 rw [f0] at c1 c2
 rw [f12] at c3
 clear h1 h2 h3 e1 e2 f0 f12
 refine Bd func10 ntmps10 fun σ N hp hpn hk hkn hfree=>?_
 simp only [List.mem_cons,List.not_mem_nil,or_false,forall_eq_or_imp,forall_eq] at hp hpn;obtain ⟨hd1,hd2⟩:=hp;obtain ⟨hdn1,hdn2⟩:=hpn
 have hcs:=And.intro c1 (And.intro c2 (And.intro c3 True.intro))
 clear c1 c2 c3
 exact W0
end
theorem zfD {c:Ca} (h:xz c=true) (ht:c.ticket.length≤200) (hb:c.box.length≤200):(xk c).length≤409:=by
 cases CV.of h with
 | first p hp=>
  have:=(yS p hp).2
  simp only [xk,if_true,List.length_cons];omega
 | third n hn t b h1 h2=>
  simp only at ht hb
  have l1:=zh n 1 oo
  have l2:=zh t.length 2 oo
  have l3:=zh b.length 2 oo
  rw [xk,if_neg (by simp)]
  simp only [yg,List.length_cons,List.length_append,Int.toNat_natCast];omega
theorem kY {l:List Bo} (h:∀ i j (hi:i < l.length) (hj:j < l.length),(l[i]).ticket=(l[j]).ticket→i=j):∀ u,u≤l.length→twU l u=false
 | 0,_=>rfl
 | u+1,hu=>by
  rw [vf,kY h u oo,Bool.false_or,Bool.eq_false_iff]
  intro hx
  obtain ⟨x,hx1,hx2⟩:=List.any_eq_true.1 hx
  obtain ⟨i,hi,rfl⟩:=List.getElem_of_mem hx1
  rw [List.length_take] at hi
  rw [List.getElem_take,decide_eq_true_eq,List.getD_eq_getElem?_getD,List.getElem?_eq_getElem oo,Option.getD_some] at hx2
  have:=h i u oo oo hx2
  omega
section
variable [W:W32]
theorem xU {leaf:Tg} {r:Rq} (hr:rqB r=true):∀ (L:List Di) (u m:Nat) (a:Alg) (D:List Bo),AlgIn a m→m+L.length≤60000→(xj leaf r L u a D).1.boxes=a.boxes
 | [],_,_,_,_,_,_=>rfl
 | d::L,u,m,a,D,ha,hm=>by
  simp only [List.length_cons] at hm
  obtain ⟨h0,hB⟩:=vw ha oo d leaf hr
  have h1:=(xJ h0).2.2.2
  have h3:=yN ha d.tag (y8 leaf r.gate.toNat r.nonce.toNat)
  rw [xj,hB]
  simp only
  rw [xU hr L (u+1) (m+1) _ _ h3 oo]
  exact h1
theorem vo {a:Alg} {m:Nat} (ha:AlgIn a m) (p:Pa) (gs:List Di) {r:Rq} (hr:rqB r=true) (hm:m+gs.length≤50000):(zV a p gs r).1.boxes=a.boxes:=by
 have h0:=ka ha oo p hr
 have h1:(qa a p r).1.boxes=a.boxes:=(xJ h0).2.2.2
 have h3:AlgIn (qa a p r).1 (m+1):=yN ha _ _
 unfold zV
 simp only
 rw [xU hr gs 0 (m+1) _ _ h3 oo]
 exact h1
end
section
variable [W:W32]
def zbm (a:Alg):List Tg→List Tg→Option (List Tg)
 | acc,[]=>some acc
 | acc,k::r=>match vq a k nodeB with
  | none=>none
  | some t=>zbm a (acc++[t]) r
def zgP (a:Alg) (l:List Tg):List Tg × Nat:=zdW (zbm a [] l)
omit W in
def zf5 (r:List Tg × Nat):AV:=.tup [.slice none (r.1.map zd),.lit (.int .i64 (r.2:Nat))]
theorem zdk {a:Alg} (ok:AlgOk a):∀ {L acc:List Tg},(∀ x∈L,∃ id,(⟨x,nodeB,id⟩:MacE)∈a.macs)→∃ ids,zbm a acc L=some ids
 | [],acc,_=>⟨acc,rfl⟩
 | t::r,acc,h=>by
  obtain ⟨id,hid⟩:=h t (List.mem_cons_self ..)
  have hl:=q7 ok hid
  simp only at hl
  obtain ⟨ids,hi⟩:=zdk ok (L:=r) (acc:=acc++[id]) (fun x hx=>h x (List.mem_cons_of_mem _ hx))
  exact ⟨ids,by rw [zbm,hl];exact hi⟩
end
section
variable [W:W32]
theorem wk (a:Alg) (key:Tg) (msg:List UInt8) (hl:a.macs.length≤1000000) (hm:∀ e∈a.macs,e.msg.length≤100000) (h0:0 < msg.length) (hmsg:msg.length≤1000000) (g k:Nat):
  ACall prog 181 [zA a,zd key,.slice none (msg.map za)] k [(g,yE)] (vR (vq a key msg)) []:=by
 have c1:=zgu a.macs key msg hl hm hmsg
 obtain ⟨fr,sd,fs,L,B⟩:=a
 simp only at hl hm c1
 unfold vq
 cases fr with
 | true=>
  simp only [if_true]
  cases he:zcG key msg L with
  | none=>
   rw [zjb L 0 he] at c1
   unfold vR
   simp only [Option.getD_none,Option.isSome_none,zA]
   clear hm he
   refine Bd func181 ntmps181 fun σ N hp hpn hk hkn hfree=>?_
   obtain ⟨hd,hdn⟩:=HD0 hp hpn;clear hp hpn
   have hcs:=And.intro c1 True.intro
   clear c1
   exact W0
  | some t=>
   obtain ⟨i,hi,hfi,hti⟩:=zjc L 0 he
   rw [hfi,Nat.zero_add] at c1
   obtain ⟨z,hz⟩:∃ z,L[i]=z:=⟨_,rfl⟩
   rw [hz] at hti
   obtain ⟨zk,zm,zt⟩:=z
   simp only at hti
   subst hti
   have hzd:zJ ⟨zk,zm,zt⟩=.agg [zd zk,bAV zm,zd zt]:=rfl
   have hi0:¬ (i:Int) < 0:=by omega
   unfold vR
   simp only [Option.getD_some,Option.isSome_some,zA]
   clear hm he hfi
   refine Bd func181 ntmps181 fun σ N hp hpn hk hkn hfree=>?_
   obtain ⟨hd,hdn⟩:=HD0 hp hpn;clear hp hpn
   have hcs:=And.intro c1 True.intro
   clear c1
   exact W0
 | false=>
  simp only [Bool.false_eq_true,if_false]
  clear c1 hm
  by_cases h1:4096 < msg.length
  ·rw [if_pos h1]
   have h1i:(4096:Int) < (msg.length:Int):=by omega
   unfold vR
   simp only [Option.getD_none,Option.isSome_none,zA]
   refine Bd func181 ntmps181 fun σ N hp hpn hk hkn hfree=>?_
   obtain ⟨hd,hdn⟩:=HD0 hp hpn;clear hp hpn
   exact W0
  ·rw [if_neg h1]
   have h1i:¬ (4096:Int) < (msg.length:Int):=by omega
   have c2:=qA key.1 msg (by rw [key.2];decide) h0 oo g
   generalize qC key.1 msg=t at *
   have hs1:=zB key
   have hs2:=zj key
   obtain ⟨K,hK⟩:=key
   have hkA:zd ⟨K,hK⟩=.agg (K.map za):=rfl
   simp only [hkA] at hs1 hs2 c2 ⊢
   clear hkA
   have hs3:AV.celll (K.map za)=true:=zX K
   have htk:(K.map za).take 32=K.map za:=List.take_of_length_le (by rw [List.length_map];omega)
   unfold vR
   simp only [Option.getD_some,Option.isSome_some,zA]
   refine Bd func181 ntmps181 fun σ N hp hpn hk hkn hfree=>?_
   obtain ⟨hd,hdn⟩:=HD0 hp hpn;clear hp hpn
   have hcs:=And.intro c2 True.intro
   clear c2
   exact W0
end
section
variable [W:W32]
theorem zbp (a:Alg) (acc':List Tg):∀ (L:List (List UInt8)) (acc:List Tg) (k:Tg),wn a (acc'++acc) k L=(wn a acc k L).map (acc'++·)
 | [],acc,k=>rfl
 | m::r,acc,k=>by
  rw [wn,wn]
  cases vq a k m with
  | none=>rfl
  | some t=>simp only;rw [List.append_assoc,zbp a acc' r]
omit W in
def zpw (R:Option (List Tg)):AV:=.tup [.slice none ((R.getD []).map zd),.lit (.bool R.isSome)]
theorem zc1 (a:Alg) (m:Nat) (ha:AlgIn a m) (hm:m≤900000) (key:Tg) (msg:List UInt8) (h0:0 < msg.length) (hmsg:msg.length≤100000) (b g k:Nat):
  ACall prog 180 [zd key,.slice none (msg.map za),.ptr b [] 0] k [(b,.box 41 (zA a)),(g,yE)] (vR (vq a key msg)) []:=by
 have c1:=wk a key msg (by have:=ha.ml;omega) ha.mm h0 oo g
 generalize vq a key msg=o at *
 unfold vR at *
 generalize o.getD zeroTag=t at *
 generalize o.isSome=ok at *
 clear ha
 refine Bd func180 ntmps180 fun σ N hp hpn hk hkn hfree=>?_
 simp only [List.mem_cons,List.not_mem_nil,or_false,forall_eq_or_imp,forall_eq] at hp hpn;obtain ⟨hd1,hd2⟩:=hp;obtain ⟨hdn1,hdn2⟩:=hpn
 have hcs:=And.intro c1 True.intro
 clear c1
 exact W0
set_option maxHeartbeats 2000000 in
theorem zeO (a:Alg) (m:Nat) (ha:AlgIn a m) (hm:m≤900000) (key:Tg) (L:List (List UInt8)) (hL:L.length≤100000) (hl:∀ x∈L,0 < x.length∧x.length≤100000) (b g k:Nat):
  ACall prog 179 [zd key,.slice none (L.map bAV),.fn 180 [.ptr b [] 0]] k [(b,.box 41 (zA a)),(g,yE)] (zpw (wn a [key] key L)) []:=by
 obtain ⟨R,hR⟩:∃ R,wn a [key] key L=R:=⟨_,rfl⟩
 rw [hR]
 unfold zpw
 refine Bd func179 ntmps179 fun σ N hp hpn hk hkn hfree=>?_
 simp only [List.mem_cons,List.not_mem_nil,or_false,forall_eq_or_imp,forall_eq] at hp hpn;obtain ⟨hd1,hd2⟩:=hp;obtain ⟨hdn1,hdn2⟩:=hpn
 refine Wk ?_
 refine ze zi (by kernel_rfl) [6,7,8,10,11,12,17,18,19,20,21,22,23,24,25,26,27,28,29,30,31,32,33,34,35,36,37,38,39] [N+4] (fun m_ s_ σ_ n_=>∃ (u:Nat) (t:Tg) (acc:List Tg),m_=L.length - u∧s_ 17=.lit (.int .i64 u)∧s_ 8=.slice (some (N+4)) (acc.map zd)∧σ_ (N+4)=.row 28 32 acc.length∧(u≤L.length)∧(acc.length=u+1)∧((acc.map zd)[u]?=some (zd t))∧(wn a acc t (L.drop u)=R)) ⟨_,0,key,[key],rfl,WF,WF,WF,WC,WC,WC,WC⟩ ?_
 intro m_1 s_1 σ_1 n_1 hs_1 hf_1 hn_1 hI_1
 obtain ⟨u,t,acc,hm_1,h1_17,h1_8,e1_0,hu,hal,hat,hrun⟩:=hI_1
 have h1_2:=KS hs_1 2
 have h1_15:=KS hs_1 15
 have h1_16:=KS hs_1 16
 have k1_0:=KE hf_1 (b)
 have k1_1:=KE hf_1 (g)
 have hlow:=KL (N:=N) (σ:=σ) hf_1
 clear hR
 by_cases hul:u=L.length
 ·subst hul
  rw [List.drop_length,wn] at hrun
  subst hrun
  simp only [Option.getD_some,Option.isSome_some]
  clear hl ha hat
  exact WL
 ·have hu1:u < L.length:=by omega
  obtain ⟨z,hz⟩:∃ z,L[u]=z:=⟨_,rfl⟩
  have hzl:=hl z (by rw [← hz];exact List.getElem_mem _)
  have hzm:(L.map bAV)[u]?=some (.slice none (z.map za)):=by rw [List.getElem?_map,List.getElem?_eq_getElem hu1,hz];rfl
  rw [List.drop_eq_getElem_cons hu1,hz,wn] at hrun
  have c1:=zc1 a m ha hm t z hzl.1 hzl.2 b g
  have hb26:(acc.length+1) * 32≤140737488355328:=by omega
  clear hl ha
  unfold vR at c1
  cases ho:vq a t z with
  | none=>
   rw [ho] at hrun c1
   simp only at hrun
   subst hrun
   simp only [Option.getD_none,Option.isSome_none,List.map_nil] at c1 ⊢
   have hcs:=And.intro c1 True.intro
   clear c1 ho
   exact WL
  | some t2=>
   rw [ho] at hrun c1
   simp only at hrun
   simp only [Option.getD_some,Option.isSome_some] at c1
   have hcs:=And.intro c1 True.intro
   have hal2:(acc++[t2]).length=u+1+1:=by rw [List.length_append,List.length_singleton,hal]
   have hat2:((acc++[t2]).map zd)[u+1]?=some (zd t2):=by rw [List.getElem?_map,List.getElem?_append_right oo,hal];simp
   clear c1 ho
   refine Wk ?_
   exact ⟨WS,WG,WN,_,(show L.length - (u+1) < m_1 by omega),u+1,t2,acc++[t2],rfl,WF,WF,WF,WC,WC,WC,WC⟩
end
section
variable [W:W32]
omit W in
theorem zgj (c:Ca):0 < (y9 c).length:=by simp [y9]
omit W in
theorem zd9 {l:List Ca} {u:Nat} (hu:u < l.length) (hb:xz l[u]=false):(l.any fun c=>!xz c)=true:=by
 rw [List.any_eq_true]
 exact ⟨l[u],List.getElem_mem hu,by rw [hb];rfl⟩
set_option maxHeartbeats 4000000 in
theorem zeV (a:Alg) (m:Nat) (ha:AlgIn a m) (hm:m≤900000) (num:Int) (key:Tg) (ser:Int) (l:List Ca) (hl:l.length≤10000) (hpk:∀ c∈l,PrOk c.first) (g h k:Nat) (_hgh:g≠h):
  ACall prog 110 [zA a,.agg [.lit (.int .i64 num),zd key],.lit (.int .i64 ser),.slice none (l.map z8)] k [(g,yE),(h,zS)] (zf5 (zfe a num key ser l)) []:=by
 unfold zfe
 by_cases hr:num < 1∨1000 < num∨ser < 1∨1073741824 < ser
 ·rw [if_pos hr]
  unfold zf5
  simp only [List.map_nil]
  have c1:=zeF num ser hr
  refine Bd func110 ntmps110 fun σ N hp hpn hk hkn hfree=>?_
  simp only [List.mem_cons,List.not_mem_nil,or_false,forall_eq_or_imp,forall_eq] at hp hpn;obtain ⟨hd1,hd2⟩:=hp;obtain ⟨hdn1,hdn2⟩:=hpn
  have hcs:=And.intro c1 True.intro
  clear c1 ha hpk
  exact WL
 ·rw [if_neg hr]
  have c1:=zeG num ser oo oo oo oo
  obtain ⟨n,rfl⟩:=Int.eq_ofNat_of_zero_le (show 0≤ser by omega)
  have c2:=zex n oo
  have hM:zdV (n:Int) l=yX n::l.map y9:=by unfold zdV;rw [Int.toNat_natCast]
  rw [hM]
  have hml:=zcq n oo
  have hM0:0 < (yX n).length:=by simp [yX]
  have hmm:∀ x∈yX n::l.map y9,0 < x.length∧x.length≤100000:=fun x hx=>by
   rcases List.mem_cons.1 hx with rfl | hx
   ·exact ⟨hM0,by omega⟩
   ·obtain ⟨c,_,rfl⟩:=List.mem_map.1 hx
    exact ⟨zgj c,by have:=xP c;omega⟩
  have c3:=fun b=>zeO a m ha hm key (yX n::l.map y9) (by simp;omega) hmm b g
  have hw:=zbp a [key] (yX n::l.map y9) [] key
  rw [List.append_nil] at hw
  rw [hw] at c3
  obtain ⟨R,hR⟩:∃ R,wn a [] key (yX n::l.map y9)=R:=⟨_,rfl⟩
  rw [hR] at c3 ⊢
  clear hw hR hmm hM hml hM0 ha hr
  generalize yX n=M0 at *
  obtain ⟨v,hv⟩:∃ v,(if (l.any fun c=>!xz c)=true then ([],5) else zdW R)=v:=⟨_,rfl⟩
  rw [hv]
  have hb24:(l.length+1) * 24≤140737488355328:=by omega
  refine Bd func110 ntmps110 fun σ N hp hpn hk hkn hfree=>?_
  simp only [List.mem_cons,List.not_mem_nil,or_false,forall_eq_or_imp,forall_eq] at hp hpn;obtain ⟨hd1,hd2⟩:=hp;obtain ⟨hdn1,hdn2⟩:=hpn
  have hcs:=And.intro c1 (And.intro c2 True.intro)
  clear c1 c2
  refine Wk ?_
  clear hcs
  refine ze zi (by kernel_rfl) [8,9,10,12,13,14,27,28,29,30,31,32,33,34,35,36,37,38,39,40,41,42,43,44] [N+11] (fun m_ s_ σ_ n_=>∃ (u:Nat) (acc:List (List UInt8)),m_=l.length - u∧s_ 27=.lit (.int .i64 u)∧s_ 10=.slice (some (N+11)) (acc.map bAV)∧σ_ (N+11)=.row 31 1 acc.length∧(u≤l.length)∧(acc.length=u+1)∧(M0::(l.take u).map y9=acc)∧(∀ c∈l.take u,xz c=true)) ⟨_,0,[M0],rfl,WF,WF,WF,WC,WC,WC,WC⟩ ?_
  intro m_1 s_1 σ_1 n_1 hs_1 hf_1 hn_1 hI_1
  obtain ⟨u,acc,hm_1,h1_27,h1_10,e1_0,hu,hal,hacc,hok⟩:=hI_1
  have h1_4:=KS hs_1 4
  have h1_5:=KS hs_1 5
  have h1_25:=KS hs_1 25
  have h1_26:=KS hs_1 26
  have k1_0:=KE hf_1 (N)
  have k1_1:=KE hf_1 (N+1)
  have k1_2:=KE hf_1 (g)
  have k1_3:=KE hf_1 (h)
  have hlow:=KL (N:=N) (σ:=σ) hf_1
  by_cases hul:u=l.length
  ·subst hul
   rw [List.take_length] at hacc hok
   subst hacc
   have hany:(l.any fun c=>!xz c)=false:=by
    rw [List.any_eq_false]
    intro c hc
    rw [hok c hc];simp
   rw [hany,if_neg (by simp)] at hv
   subst hv
   clear hok hany hpk hal
   cases R with
   | none=>
    unfold zpw at c3
    unfold zf5 zdW
    simp only [Option.map_none,Option.getD_none,Option.isSome_none,List.map_nil] at c3 ⊢
    have hcs:=And.intro (c3 N) True.intro
    clear c3
    exact WL
   | some ts=>
    unfold zpw at c3
    unfold zf5 zdW
    simp only [Option.map_some,Option.getD_some,Option.isSome_some,List.cons_append,List.nil_append,List.map_cons] at c3 ⊢
    have hcs:=And.intro (c3 N) True.intro
    clear c3
    exact WL
  ·have hu1:u < l.length:=by omega
   obtain ⟨z,hz⟩:∃ z,l[u]=z:=⟨_,rfl⟩
   have hzp:=hpk z (by rw [← hz];exact List.getElem_mem _)
   have hzm:(l.map z8)[u]?=some (z8 z):=by rw [List.getElem?_map,List.getElem?_eq_getElem hu1,hz];rfl
   have c1:=zgh z hzp h
   unfold zbu at c1
   cases hzb:xz z with
   | false=>
    have he:zc7 z=([],5):=by unfold zc7;rw [hzb];rfl
    rw [he] at c1
    simp only [List.map_nil] at c1
    rw [zd9 hu1 (by rw [hz];exact hzb),if_pos rfl] at hv
    subst hv
    unfold zf5
    simp only [List.map_nil]
    have e5:((5:Nat):Int)=5:=rfl
    simp only [e5] at c1 ⊢
    have hcs:=And.intro c1 True.intro
    clear c1 c3 hpk hok
    exact WL
   | true=>
    have he:(zc7 z).2=0:=by unfold zc7;rw [hzb];rfl
    have hMz:[99,97,118,101,97,116]++(zc7 z).1=y9 z:=rfl
    have hMl:=xP z
    have c2:=yH [99,97,118,101,97,116] (zc7 z).1 (by decide) (by unfold y9 at hMl;rw [List.length_append] at hMl;omega)
    rw [hMz] at c2
    have hacc2:M0::(l.take (u+1)).map y9=acc++[y9 z]:=by
     rw [List.take_add_one,List.getElem?_eq_getElem hu1,hz,List.map_append,← hacc];rfl
    have hok2:∀ c∈l.take (u+1),xz c=true:=fun c hc=>by
     rw [List.take_add_one,List.getElem?_eq_getElem hu1,hz] at hc
     rcases List.mem_append.1 hc with hc | hc
     ·exact hok c hc
     ·have hc:c=z:=by simpa using hc
      rw [hc];exact hzb
    rw [he] at c1
    generalize (zc7 z).1=B at *
    generalize y9 z=Mz at *
    have e0:((0:Nat):Int)=0:=rfl
    simp only [e0] at c1
    have hal2:(acc++[Mz]).length=u+1+1:=by rw [List.length_append,List.length_singleton,hal]
    have hb26:(acc.length+1) * 24≤140737488355328:=by omega
    have hcs:=And.intro c1 (And.intro c2 True.intro)
    clear c1 c2 c3 hpk hok hacc hMz he hMl hzp
    refine Wk ?_
    exact ⟨WS,WG,WN,_,(show l.length - (u+1) < m_1 by omega),u+1,acc++[Mz],rfl,WF,WF,WF,WC,WC,WC,WC⟩
set_option maxHeartbeats 2000000 in
theorem zfA (a:Alg) (m:Nat) (ha:AlgIn a m) (hm:m≤900000) (l:List Tg) (hl:l.length≤10000) (g k:Nat):
  ACall prog 112 [zA a,.slice none (l.map zd)] k [(g,yE)] (zf5 (zgP a l)) []:=by
 unfold zgP
 obtain ⟨R,hR⟩:∃ R,zbm a [] l=R:=⟨_,rfl⟩
 rw [hR]
 have hcl:=fun t=>wk a t nodeB (by have:=ha.ml;omega) ha.mm (by decide) (by decide) g
 clear ha
 have h110:za 110=.lit (.int .u8 110):=rfl
 have h111:za 111=.lit (.int .u8 111):=rfl
 have h100:za 100=.lit (.int .u8 100):=rfl
 have h101:za 101=.lit (.int .u8 101):=rfl
 have hnB:nodeB.map za=[.lit (.int .u8 110),.lit (.int .u8 111),.lit (.int .u8 100),.lit (.int .u8 101)]:=rfl
 simp only [hnB] at hcl
 clear h110 h111 h100 h101 hnB
 refine Bd func112 ntmps112 fun σ N hp hpn hk hkn hfree=>?_
 obtain ⟨hd,hdn⟩:=HD0 hp hpn;clear hp hpn
 refine Wk ?_
 refine ALoop.nilrow 6 28 32 (by simp (disch:=omega) [go_sem, *,-List.reduceReplicate]) ?_
 refine yn (N+1) zi (by kernel_rfl) [4,5,6,8,9,10,13,14,15,16,17,18,19,20,21,22,23,24,25,26,27,28,29,30,31] [] (fun m_ s_ σ_ n_=>∃ (u:Nat) (q:Nat) (acc:List Tg),m_=l.length - u∧s_ 13=.lit (.int .i64 u)∧s_ 6=.slice (some q) (acc.map zd)∧σ_ (q)=.row 28 32 acc.length∧(u≤l.length)∧(N+1≤q)∧(q < n_)∧(acc.length=u)∧(zbm a acc (l.drop u)=R)) ⟨_,0,_,[],rfl,WF,WF,WF,WC,WC,WC,WC,WC⟩ ?_
 intro m_3 s_3 σ_3 n_3 hs_3 hf_3 hn_3 hI_3
 obtain ⟨u,q,acc,hm_3,h3_13,h3_6,e3_0,hu,hq,hqn,hal,hrun⟩:=hI_3
 have h3_2:=KS hs_3 2
 have h3_11:=KS hs_3 11
 have h3_12:=KS hs_3 12
 have k3_0:=KE hf_3 (N)
 have k3_1:=KE hf_3 (g)
 have hlow:=KL (N:=N) (σ:=σ) hf_3
 clear hR
 by_cases hul:u=l.length
 ·rw [hul,List.drop_length,zbm] at hrun
  subst hul hrun
  unfold zf5 zdW
  simp only
  clear hcl
  exact WL
 ·have hu1:u < l.length:=by omega
  obtain ⟨z,hz⟩:∃ z,l[u]=z:=⟨_,rfl⟩
  have hzm:(l.map zd)[u]?=some (zd z):=by rw [List.getElem?_map,List.getElem?_eq_getElem hu1,hz];rfl
  rw [List.drop_eq_getElem_cons hu1,hz,zbm] at hrun
  have c1:=hcl z
  clear hcl
  unfold vR at c1
  have hb26:(acc.length+1) * 32≤140737488355328:=by omega
  have M:Mut (n_3+5+2):=⟨⟩
  cases ho:vq a z nodeB with
  | none=>
   rw [ho] at hrun c1
   simp only at hrun
   subst hrun
   unfold zf5 zdW
   simp only [Option.getD_none,Option.isSome_none,List.map_nil] at c1 ⊢
   have hcs:=And.intro c1 True.intro
   clear c1 ho
   exact WL
  | some t2=>
   rw [ho] at hrun c1
   simp only at hrun
   simp only [Option.getD_some,Option.isSome_some] at c1
   have hcs:=And.intro c1 True.intro
   clear c1 ho
   refine Wk ?_
   exact ⟨WS,WG,WN,_,(show l.length - (u+1) < m_3 by omega),u+1,q,acc++[t2],rfl,WF,WF,WF,WC,WC,WC,WC,WC⟩
end
structure Few (q:Kn):Prop where
 p:∀ x∈q.ps,x.cavs.length≤70
 b:∀ x∈q.bs,x.cavs.length≤70∧x.dis.length≤30
 pl:q.ps.length≤40
 dl:q.ds.length≤40
 bl:q.bs.length≤70
 il:q.its.length≤70
section
variable [W:W32]
def zaN (l:List Int) (s:Sc) (n:Nat) (X:Alg × Kn × Nat):Alg × Kn × Nat:=
 if (yl l X.2.2 3).1=0 then ((zV X.1 s.pass s.grants s.req).1,⟨X.2.1.ps,X.2.1.ds,xy X.2.1.bs (zV X.1 s.pass s.grants s.req).2,X.2.1.its⟩,(yl l X.2.2 3).2)
 else if (yl l X.2.2 3).1=1 then (X.1,⟨X.2.1.ps,X.2.1.ds,X.2.1.bs,xy X.2.1.its ⟨n,0,0,zeroTag,[],(zg5 l (yl l X.2.2 3).2).1⟩⟩,(zg5 l (yl l X.2.2 3).2).2)
 else (X.1,(if (v7 X.2.1 s.pass s.grants).2=0 then (v7 X.2.1 s.pass s.grants).1 else X.2.1),(yl l X.2.2 3).2)
structure KB (s:Sc) (A:Alg) (q:Kn) (i:Nat):Prop where
 ain:AlgIn A (1000+6 * i)
 ok:AlgOk A
 fr:A.free=s.alg.free
 bx:A.boxes=s.alg.boxes
 sub:∀ e∈s.alg.macs,e∈A.macs
 kc:KnC q
 p0:∃ r,q.ps=s.pass::r
 d0:∃ r,q.ds=s.grants++r∧∀ d∈r,d∈s.grants
 pl:q.ps.length≤1+i
 bl:q.bs.length≤i
 il:q.its.length≤i
 dl:q.ds.length≤100
theorem yW {s:Sc} (hs:ScV s):PaC s.pass∧(∀ d∈s.grants,WdT d.ticket d.conds)∧s.grants.length≤5:=by
 obtain ⟨⟨se,hG,_⟩,_⟩:=hs
 have hgl:=hG.gl
 have hcl:=hG.cl
 have hgv:=hG.gv
 have hcv:=hG.cv
 simp only at hgl hcl hgv hcv
 refine ⟨⟨by omega,fun c hc=>?_⟩,fun d hd=>?_,hgl⟩
 ·have:=hcv c hc
  exact ⟨by omega,by omega⟩
 ·have hv:=hgv d hd
  have v1:=hv.t2
  have v2:=hv.cl
  exact ⟨by omega,by omega⟩
theorem zbQ {s:Sc} (hs:ScV s) {A:Alg} {m:Nat} (hin0:AlgIn A m) (hm:m≤10000):BuC (zV A s.pass s.grants s.req).2:=by
 have hr:=hs.rq
 obtain ⟨hp,hd,hgl⟩:=yW hs
 have hin:AlgIn (qa A s.pass s.req).1 (m+1):=yN hin0 _ _
 obtain ⟨_,b2⟩:=zaw (leaf:=s.pass.tag) hr s.grants s.grants 0 _ (s.grants.map zu) (m+1) hin oo rfl (by simp) (fun i hi hj=>by rw [List.getElem_map];exact ⟨rfl,rfl⟩)
 have hl:(zV A s.pass s.grants s.req).2.dis.length=s.grants.length:=by unfold zV;simp only;rw [xO];simp
 refine ⟨?_,fun c hc=>hp.2 c hc,by omega,fun d hd2=>?_⟩
 ·show s.pass.cavs.length≤100000;exact hp.1
 ·obtain ⟨i,hi,rfl⟩:=List.getElem_of_mem hd2
  have hi2:i < s.grants.length:=by rw [← hl];exact hi
  obtain ⟨t1,t2⟩:=b2 i hi2 hi
  have hv:=hd _ (List.getElem_mem hi2)
  show WdT ((zV A s.pass s.grants s.req).2.dis[i]).ticket ((zV A s.pass s.grants s.req).2.dis[i]).conds
  rw [show ((zV A s.pass s.grants s.req).2.dis[i]).ticket=(s.grants[i]).ticket from t1,show ((zV A s.pass s.grants s.req).2.dis[i]).conds=(s.grants[i]).conds from t2]
  exact hv
theorem KB.step {s:Sc} (hs:ScV s) {l:List Int} {n:Nat} {X:Alg × Kn × Nat} {i:Nat} (h:KB s X.1 X.2.1 i) (hi:i≤10):KB s (zaN l s n X).1 (zaN l s n X).2.1 (i+1):=by
 obtain ⟨A,q,j⟩:=X
 obtain ⟨hp,hd,hgl⟩:=yW hs
 have hbl:=h.bl
 have hil:=h.il
 have hpl:=h.pl
 simp only at h hbl hil hpl ⊢
 unfold zaN
 simp only
 by_cases h0:(yl l j 3).1=0
 ·rw [if_pos h0]
  obtain ⟨k1,k2,k3,k4,_⟩:=zeZ h.ain h.ok s.pass s.grants hs.rq oo
  have k5:=vo h.ain s.pass s.grants hs.rq oo
  have hb:=zbQ hs h.ain oo
  refine ⟨k2.more oo,k1,k3.trans h.fr,k5.trans h.bx,fun e he=>k4 e (h.sub e he),h.kc.see hb oo,h.p0,h.d0,by first | omega | (simp only;omega),?_,by first | omega | (simp only;omega),h.dl⟩
  have:=xu q.bs (zV A s.pass s.grants s.req).2
  simp only;omega
 ·rw [if_neg h0]
  by_cases h1:(yl l j 3).1=1
  ·rw [if_pos h1]
   refine ⟨h.ain.more oo,h.ok,h.fr,h.bx,h.sub,h.kc.watch (by simp) oo,h.p0,h.d0,by first | omega | (simp only;omega),by first | omega | (simp only;omega),?_,h.dl⟩
   have:=xu q.its (⟨n,0,0,zeroTag,[],(zg5 l (yl l j 3).2).1⟩:It)
   simp only;omega
  ·rw [if_neg h1]
   unfold v7
   by_cases hc:q.ps.length < 32∧q.ds.length+s.grants.length≤32
   ·rw [if_pos hc]
    simp only [↓reduceIte]
    obtain ⟨r,hr⟩:=h.p0
    obtain ⟨r2,hr2,hr3⟩:=h.d0
    refine ⟨h.ain.more oo,h.ok,h.fr,h.bx,h.sub,h.kc.learn hp hd oo oo,⟨r++[s.pass],by rw [hr];rfl⟩,⟨r2++s.grants,by rw [hr2,List.append_assoc],fun d hd=>?_⟩,?_,(show q.bs.length≤i+1 by omega),(show q.its.length≤i+1 by omega),by simp only [List.length_append];omega⟩
    ·rcases List.mem_append.1 hd with hd | hd
     ·exact hr3 d hd
     ·exact hd
    ·rw [List.length_append,List.length_singleton];omega
   ·rw [if_neg hc]
    simp only [show ¬ (2=0) by omega,if_false]
    exact ⟨h.ain.more oo,h.ok,h.fr,h.bx,h.sub,h.kc,h.p0,h.d0,by omega,by omega,by omega,h.dl⟩
theorem KB.first {s:Sc} (hs:ScV s):KB s s.alg ⟨[s.pass],s.grants,[],[]⟩ 0:=by
 obtain ⟨hp,hd,hgl⟩:=yW hs
 obtain ⟨⟨se,hG,_⟩,_⟩:=hs
 exact ⟨hG.ain,hG.ok,rfl,rfl,fun e he=>he,⟨by simp,fun x hx=>by rw [List.mem_singleton.1 hx];exact hp,by simp only;omega,hd,by simp,fun x hx=>(by cases hx),by simp,fun x hx=>(by cases hx)⟩,⟨[],rfl⟩,⟨[],by simp,fun d hd=>(by cases hd)⟩,by simp,by simp,by simp,by simp only;omega⟩
end
end Go.Proofs.YtglmjglbobhbbaaGreatDoor
namespace Go.Proofs.YtglmjglbobhbbaaGreatDoor
open _root_.Go.Proofs.Tryz
open Go.Ab
attribute [local irreducible] Go.Ab.tyAV Go.Ab.aw Go.Ab.aops Go.Ab.kReg Go.Ab.aThen Go.Ab.aBlk Go.Ab.acond Go.Ab.aguard Go.Ab.astep Go.Ab.AStepX Go.Ab.aRet
def zlO (l:List Int) (r:Bool):Nat→Nat→List Pr→(List Pr × Nat)→Prop
 | 0,j,acc,R=>R=(acc,j)
 | f+1,j,acc,R=>∃ p j1,PRD l j r p j1∧zlO l r f j1 (acc++[p]) R
theorem zcs {l:List Int} {r:Bool}:∀ (f j:Nat) (acc:List Pr),Dk l j→(∀ p∈acc,PrOk p∧yc p=true)→∃ R,zlO l r f j acc R∧Dk l R.2∧(∀ p∈R.1,PrOk p∧yc p=true)∧R.1.length=acc.length+f
 | 0,j,acc,h,ha=>⟨_,rfl,h,ha,rfl⟩
 | f+1,j,acc,h,ha=>by
  obtain ⟨p,j1,hp⟩:=zkG h r
  obtain ⟨R,hR,h1,h2,h3⟩:=zcs (r:=r) f j1 (acc++[p]) hp.2.2.2.1 (fun q hq=>by
   rcases List.mem_append.1 hq with hq | hq
   ·exact ha q hq
   ·rw [List.mem_singleton.1 hq];exact ⟨hp.2.1,hp.1⟩)
  exact ⟨R,⟨p,j1,hp,hR⟩,h1,h2,by rw [h3];simp;omega⟩
set_option maxHeartbeats 2000000 in
theorem zaV (l:List Int) (i:Nat) (h:Dk l i) (n:Nat) (hn:n≤1000) (r:Bool) (R:List Pr) (j:Nat) (hR:zlO l r (yl l i (n+1)).1 (yl l i (n+1)).2 [] (R,j)) (d k:Nat):
  ACall prog 40 [.ptr d [] 0,.lit (.int .i64 n),.lit (.bool r)] k [(d,zy l i)] (.slice none (R.map zU)) [(d,zy l j)]:=by
 have c1:=yV l i (n+1) h oo oo
 have h1:=yu (n+1) h
 have h2:=y7 l i (n+1) oo
 clear h
 generalize yl l i (n+1)=X at *
 obtain ⟨f0,j0⟩:=X
 simp only at *
 rw [show ((n+1:Nat):Int)=(n:Int)+1 by omega] at c1
 refine Bd func40 ntmps40 fun σ N hp hpn hk hkn hfree=>?_
 obtain ⟨hd,hdn⟩:=HD0 hp hpn;clear hp hpn
 have hcs:=And.intro (c1 d) True.intro
 clear c1
 refine Wk ?_
 clear hcs
 refine ALoop.nilrow 7 138 6 (by simp (disch:=omega) [go_sem, *,-List.reduceReplicate]) ?_
 refine yn (N) zi (by kernel_rfl) [7,8,13,14,15,16,17,18,19,20,21,22] [d] (fun m_ s_ σ_ n_=>∃ (f:Nat) (q:Nat) (acc:List Pr) (j':Nat),m_=f∧s_ 8=.lit (.int .i64 f)∧s_ 7=.slice (some q) (acc.map zU)∧σ_ (d)=zy l j'∧σ_ (q)=.row 138 6 acc.length∧(N≤q)∧(q < n_)∧(acc.length+f≤1000)∧(Dk l j')∧(zlO l r f j' acc (R,j))) ⟨_,f0,_,[],j0,rfl,WF,WF,WF,WF,WC,WC,WC,WC,WC⟩ ?_
 intro m_1 s_1 σ_1 n_1 hs_1 hf_1 hn_1 hI_1
 obtain ⟨f,q,acc,j',hm_1,h1_8,h1_7,e1_0,e1_1,hq,hqn,hal,hj,hrun⟩:=hI_1
 have h1_0:=KS hs_1 0
 have h1_2:=KS hs_1 2
 have h1_6:=KS hs_1 6
 have hlow:=KD (N:=N) (d:=d) (σ:=σ) hf_1
 clear hR
 cases f with
 | zero=>
  have hrun:(R,j)=(acc,j'):=hrun
  simp only [Prod.mk.injEq] at hrun
  obtain ⟨rfl,rfl⟩:=hrun
  clear hj
  refine Wk ?_
  exact RV (d) (zy l j)
 | succ f=>
  obtain ⟨p,j1,⟨p1,p2,p3,p4,p5⟩,hrun⟩:=hrun
  have hcs:=And.intro (p5 d) True.intro
  clear p5 p1 p2 p3 hj
  refine Wk ?_
  exact ⟨WS,WG,WN,_,(show (f) < m_1 by omega),f,q,acc++[p],j1,rfl,WF,WF,WF,WF,WC,WC,WC,WC,WC⟩
theorem zbI (l:List Int) (i:Nat) (h:Dk l i) (n:Nat) (hn:n≤1000) (r:Bool):∃ (R:List Pr) (j:Nat),R.length≤n∧(∀ p∈R,PrOk p∧yc p=true)∧Dk l j∧∀ d k,ACall prog 40 [.ptr d [] 0,.lit (.int .i64 n),.lit (.bool r)] k [(d,zy l i)] (.slice none (R.map zU)) [(d,zy l j)]:=by
 obtain ⟨⟨R,j⟩,hR,h1,h2,h3⟩:=zcs (r:=r) (yl l i (n+1)).1 (yl l i (n+1)).2 [] (yu _ h) (fun p hp=>by cases hp)
 have:=y7 l i (n+1) oo
 exact ⟨R,j,by simp only [List.length_nil] at h3;omega,h2,h1,fun d k=>zaV l i h n hn r R j hR d k⟩
attribute [local irreducible] yE
def zfZ:Nat→List Pa→List Pa
 | 0,l=>l
 | f+1,l=>zfZ f (l++[⟨0,l.length,[],zeroTag⟩])
def tkD (n:Nat):List UInt8:=[UInt8.ofNat (n % 256),77]
def zfY:Nat→List Di→List Di
 | 0,l=>l
 | f+1,l=>zfY f (l++[⟨tkD l.length,[],zeroTag⟩])
theorem kM {Q:Pa→Prop} (hq:∀ s,Q ⟨0,s,[],zeroTag⟩):∀ (f:Nat) (l:List Pa),(∀ p∈l,Q p)→(∀ p∈zfZ f l,Q p)∧(zfZ f l).length=l.length+f
 | 0,l,h=>⟨h,rfl⟩
 | f+1,l,h=>by
  obtain ⟨h1,h2⟩:=kM hq f (l++[⟨0,l.length,[],zeroTag⟩]) (fun p hp=>by
   rcases List.mem_append.1 hp with hp | hp
   ·exact h p hp
   ·rw [List.mem_singleton.1 hp];exact hq _)
  exact ⟨h1,by rw [zfZ,h2,List.length_append,List.length_singleton];omega⟩
theorem kL {Q:Di→Prop} (hq:∀ n,Q ⟨tkD n,[],zeroTag⟩):∀ (f:Nat) (l:List Di),(∀ p∈l,Q p)→(∀ p∈zfY f l,Q p)∧(zfY f l).length=l.length+f
 | 0,l,h=>⟨h,rfl⟩
 | f+1,l,h=>by
  obtain ⟨h1,h2⟩:=kL hq f (l++[⟨tkD l.length,[],zeroTag⟩]) (fun p hp=>by
   rcases List.mem_append.1 hp with hp | hp
   ·exact h p hp
   ·rw [List.mem_singleton.1 hp];exact hq _)
  exact ⟨h1,by rw [zfY,h2,List.length_append,List.length_singleton];omega⟩
def zcl (w:Wa) (n:Nat):Wa:=⟨zfZ (n - w.ps.length) w.ps,zfY (n - w.ds.length) w.ds⟩
section
variable [W:W32]
structure NarG (a:Alg) (m:Nat) (p:Pa) (l:List Pr) (R:Alg × Pa × Nat):Prop where
 e0:R.2.2=0
 ain:AlgIn R.1 (m+2 * l.length)
 ok:AlgOk R.1
 fr:R.1.free=a.free
 bx:R.1.boxes=a.boxes
 fs:R.1.fresh=a.fresh
 sub:∀ e∈a.macs,e∈R.1.macs
 cv:R.2.1.cavs=p.cavs++l.map zR
 ep:R.2.1.epoch=p.epoch
 se:R.2.1.serial=p.serial
 pt:∀ k M,pathIn a.macs k M p.tag→pathIn R.1.macs k (M++l.map (fun x=>y9 (zR x))) R.2.1.tag
theorem jP:∀ {l:List Pr} {a:Alg} {m:Nat} {p:Pa},AlgIn a m→AlgOk a→m+2 * l.length≤60000→p.cavs.length+l.length≤64→(∀ x∈l,yc x=true)→NarG a m p l (yT a p l)
 | [],a,m,p,h,ok,_,_,_=>by
  rw [show yT a p []=(a,p,0) from rfl]
  exact ⟨rfl,by simpa using h,ok,rfl,rfl,rfl,fun e he=>he,by simp,rfl,rfl,fun k M hp=>by simpa using hp⟩
 | x::r,a,m,p,h,ok,hm,hl,hv=>by
  simp only [List.length_cons] at hm hl
  have hcv:xz (zR x)=true:=(CV.first x (hv x (List.mem_cons_self ..))).ok
  have ha:=zds h oo (p:=p) (c:=zR x) hcv oo (fun hh=>by cases hh)
  have hk:=kV h oo p.tag (msg:=y9 (zR x)) (by have:=xP (zR x);omega)
  have hin:=zcN h p.tag (y9 (zR x))
  have hok:=ok.node h oo p.tag (msg:=y9 (zR x)) (by have:=xP (zR x);omega)
  obtain ⟨z1,z2⟩:=zcr h oo p.tag (msg:=y9 (zR x)) (by have:=xP (zR x);omega)
  have hn:yT a p (x::r)=yT (xS a p.tag (y9 (zR x))).1 ⟨p.epoch,p.serial,p.cavs++[zR x],(xS a p.tag (y9 (zR x))).2.1⟩ r:=by
   rw [yT,ha]
   exact if_pos rfl
  rw [hn]
  have g:=jP (l:=r) (p:=⟨p.epoch,p.serial,p.cavs++[zR x],(xS a p.tag (y9 (zR x))).2.1⟩) hin hok oo (by simp only [List.length_append,List.length_singleton];omega) (fun y hy=>hv y (List.mem_cons_of_mem _ hy))
  refine ⟨g.e0,by rw [List.length_cons,show m+2 * (r.length+1)=m+2+2 * r.length by omega];exact g.ain,g.ok,g.fr.trans hk.2.1,g.bx.trans hk.2.2.2,g.fs.trans hk.2.2.1,fun e he=>g.sub e (z2 e he),by rw [g.cv];simp,g.ep,g.se,fun k M hp=>?_⟩
  have:=g.pt k (M++[y9 (zR x)]) ((hp.sub z2).snoc z1)
  rw [List.map_cons,List.append_cons M]
  exact this
def jv (X:Alg × Wa × Nat) (P:List Pr) (j:Nat):Alg × Wa × Nat:=
 if (zbK X.1 X.2.1 0 P).2.2=0 then ((zbK X.1 X.2.1 0 P).1,(zbK X.1 X.2.1 0 P).2.1,j) else (X.1,X.2.1,j)
def PDS (l:List Int) (i:Nat) (P:List Pr) (j:Nat):Prop:=P.length≤2∧(∀ p∈P,PrOk p∧yc p=true)∧Dk l j∧∀ d k,ACall prog 40 [.ptr d [] 0,.lit (.int .i64 2),.lit (.bool true)] k [(d,zy l i)] (.slice none (P.map zU)) [(d,zy l j)]
def zo6 (l:List Int):Nat→(Alg × Wa × Nat)→(Alg × Wa × Nat)→Prop
 | 0,X,R=>R=X
 | n+1,X,R=>∃ P j,PDS l X.2.2 P j∧zo6 l n (jv X P j) R
structure WB (s:Sc) (A:Alg) (w:Wa) (i:Nat):Prop where
 ain:AlgIn A (1000+4 * i)
 ok:AlgOk A
 fr:A.free=s.alg.free
 bx:A.boxes=s.alg.boxes
 sub:∀ e∈s.alg.macs,e∈A.macs
 wc:WaC w
 p0:∃ r,w.ps=s.pass::r
 dd:w.ds=s.grants
 pl:w.ps.length≤1+i
 pk:∀ p∈w.ps,p.cavs.length≤5+2 * i∧∀ c∈p.cavs,PrOk c.first∧wY c
theorem WB.att {s:Sc} {A:Alg} {w:Wa} {i:Nat} (h:WB s A w i) (hi:i≤10) {P:List Pr} (hP:P.length≤2) (hpk:∀ p∈P,PrOk p∧yc p=true):
  NarG A (1000+4 * i) s.pass P (yT A s.pass P)∧zbK A w 0 P=((yT A s.pass P).1,⟨w.ps++[(yT A s.pass P).2.1],w.ds⟩,0):=by
 obtain ⟨r,hr⟩:=h.p0
 have hz:yf w 0=(s.pass,true):=by unfold yf;rw [hr];simp
 have hsp:=h.pk s.pass (by rw [hr];exact List.mem_cons_self ..)
 have g:=jP h.ain h.ok (l:=P) (p:=s.pass) oo oo (fun x hx=>(hpk x hx).2)
 have ha:wW w (yT A s.pass P).2.1=(⟨w.ps++[(yT A s.pass P).2.1],w.ds⟩,0):=by unfold wW;rw [if_pos (by have:=h.pl;omega)]
 refine ⟨g,?_⟩
 unfold zbK
 rw [hz,if_pos rfl]
 simp only
 rw [if_pos g.e0,ha]
 rfl
theorem WB.step {s:Sc} {A:Alg} {w:Wa} {i j0:Nat} (h:WB s A w i) (hi:i≤10) {P:List Pr} (hP:P.length≤2) (hpk:∀ p∈P,PrOk p∧yc p=true) (j:Nat):
  WB s (jv (A,w,j0) P j).1 (jv (A,w,j0) P j).2.1 (i+1):=by
 obtain ⟨g,ha⟩:=h.att hi hP hpk
 have hsp:=h.pk s.pass (by obtain ⟨r,hr⟩:=h.p0;rw [hr];exact List.mem_cons_self ..)
 unfold jv
 simp only
 rw [ha]
 simp only [↓reduceIte]
 have hcv:=g.cv
 have hcl:(yT A s.pass P).2.1.cavs.length≤5+2 * (i+1):=by rw [hcv,List.length_append,List.length_map];omega
 have hcc:∀ c∈(yT A s.pass P).2.1.cavs,PrOk c.first∧wY c:=fun c hc=>by
  rw [hcv] at hc
  rcases List.mem_append.1 hc with hc | hc
  ·exact hsp.2 c hc
  ·obtain ⟨x,hx,rfl⟩:=List.mem_map.1 hc
   exact ⟨(hpk x hx).1,by simp [zR],by simp [zR]⟩
 refine ⟨g.ain.more oo,g.ok,g.fr.trans h.fr,g.bx.trans h.bx,fun e he=>g.sub e (h.sub e he),⟨?_,fun p hp=>?_,h.wc.dl,h.wc.dc⟩,?_,h.dd,?_,fun p hp=>?_⟩
 ·have:=h.pl;simp only [List.length_append,List.length_singleton];omega
 ·rcases List.mem_append.1 hp with hp | hp
  ·exact h.wc.pc p hp
  ·rw [List.mem_singleton.1 hp];exact ⟨by omega,fun c hc=>(hcc c hc).2⟩
 ·obtain ⟨r,hr⟩:=h.p0
  exact ⟨r++[(yT A s.pass P).2.1],by rw [hr];rfl⟩
 ·have:=h.pl;simp only [List.length_append,List.length_singleton];omega
 ·rcases List.mem_append.1 hp with hp | hp
  ·have:=h.pk p hp;exact ⟨by omega,this.2⟩
  ·rw [List.mem_singleton.1 hp];exact ⟨hcl,hcc⟩
theorem zet {l:List Int}:∀ (n:Nat) (X:Alg × Wa × Nat),Dk l X.2.2→∃ R,zo6 l n X R
 | 0,X,_=>⟨X,rfl⟩
 | n+1,X,h=>by
  obtain ⟨P,j,h1,h2,h3,h4⟩:=zbI l X.2.2 h 2 oo true
  have hd:Dk l (jv X P j).2.2:=by
   unfold jv
   split
   ·exact h3
   ·exact h3
  obtain ⟨R,hR⟩:=zet n (jv X P j) hd
  exact ⟨R,P,j,⟨h1,h2,h3,h4⟩,hR⟩
theorem zcL {s:Sc} {l:List Int}:∀ (n:Nat) (X R:Alg × Wa × Nat) (i:Nat),zo6 l n X R→WB s X.1 X.2.1 i→i+n≤10→Dk l X.2.2→WB s R.1 R.2.1 (i+n)∧Dk l R.2.2
 | 0,X,R,i,h,hw,_,hd=>by
  have h:R=X:=h
  subst h
  exact ⟨hw,hd⟩
 | n+1,⟨A,w,j0⟩,R,i,h,hw,hi,hd=>by
  obtain ⟨P,j,⟨h1,h2,h3,h4⟩,hR⟩:=h
  have:=zcL n _ R (i+1) hR (hw.step oo h1 h2 j) oo (by
   unfold jv
   split
   ·exact h3
   ·exact h3)
  rw [show i+(n+1)=i+1+n by omega]
  exact this
theorem WB.first {s:Sc} (hs:ScV s):WB s s.alg ⟨[s.pass],s.grants⟩ 0:=by
 obtain ⟨hp,hd,hgl⟩:=yW hs
 obtain ⟨⟨se,hG,_⟩,_⟩:=hs
 have hcl:=hG.cl
 have hcv:=hG.cv
 simp only at hcl hcv
 exact ⟨hG.ain,hG.ok,rfl,rfl,fun e he=>he,⟨by simp,fun x hx=>by rw [List.mem_singleton.1 hx];exact hp,by simp only;omega,hd⟩,⟨[],rfl⟩,rfl,by simp,fun p hq=>by
  rw [List.mem_singleton.1 hq]
  exact ⟨by omega,fun c hc=>⟨(hcv c hc).2.1,hp.2 c hc⟩⟩⟩
set_option maxHeartbeats 16000000 in
theorem zeu (l:List Int) (hl:l.length≤9223372036854775807):∃ (s:Sc) (A:Alg) (w:Wa) (i j:Nat),ScV s∧WB s A w i∧i≤2∧Dk l j ∧
  ∀ k,ACall prog 11 [.slice none (l.map jI)] k [] (.tup [zbS { s with alg:=A },yp w,.ptr k [] 0]) [(k,zy l j)]:=by
 obtain ⟨s,j0,hs,d0,c2⟩:=zeS l 0 ⟨hl,Nat.zero_le _⟩
 have c1:=zeR l
 have c4:=yV l j0 3 d0 oo oo
 have b4:=y7 l j0 3 oo
 have d4:=yu 3 d0
 generalize yl l j0 3=X at *
 obtain ⟨b,j4⟩:=X
 simp only at c4 b4 d4
 have hK0:=WB.first hs
 obtain ⟨⟨Af,wf,jf⟩,hrun⟩:=zet (l:=l) b (s.alg,⟨[s.pass],s.grants⟩,j4) d4
 have hall:=zcL b _ _ 0 hrun hK0 oo d4
 simp only at hall
 refine ⟨s,Af,wf,0+b,jf,hs,hall.1,by omega,hall.2,fun k=>?_⟩
 clear hall
 have hsA:∀ A:Alg,zbS { s with alg:=A }=.agg [zA A,zbF s.ring,xW s.con,zG s.pass,.slice none (s.grants.map zw),yD s.req,.lit (.string ⟨s.holder.toArray⟩),.lit (.int .i64 s.minute)]:=fun A=>rfl
 have hs0:zbS s=.agg [zA s.alg,zbF s.ring,xW s.con,zG s.pass,.slice none (s.grants.map zw),yD s.req,.lit (.string ⟨s.holder.toArray⟩),.lit (.int .i64 s.minute)]:=rfl
 rw [hs0] at c2
 rw [hsA]
 have hwA:yp ⟨[s.pass],s.grants⟩=.agg [.slice none [zG s.pass],.slice none (s.grants.map zw)]:=rfl
 clear hs0 hsA
 refine Bd func11 ntmps11 fun σ N hp hpn hk hkn hfree=>?_
 have hcs:=And.intro c1 (And.intro (c2 (N+3+1)) (And.intro (c4 (N+3+1)) True.intro))
 clear c1 c2 c4
 refine Wk ?_
 clear hcs
 refine wl (bt:=25) (N+10+6) [0] (.slice none [zG s.pass]) (c:=.agg [.slice (some (N+10+2)) [zG s.pass],.slice none (s.grants.map zw)]) (by simp (disch:=omega) [go_sem, *,-List.reduceReplicate];try first | done | rfl | exact ⟨rfl,rfl⟩) (by rfl) (AV.le_own _ _) (by rfl) (by rfl) ?_
 refine ze zi (by kernel_rfl) [8,9,10,11,24,25,26,27,28,29,30,31,32,33,34,35,36,37,38,39,40,41,42] [N+3+1,N+6+2,N+10+6] (fun m_ s_ σ_ n_=>∃ (n:Nat) (i:Nat) (A:Alg) (w:Wa) (j:Nat),m_=n∧s_ 8=.lit (.int .i64 n)∧σ_ (N+3+1)=zy l j∧σ_ (N+6+2)=.box 51 (.agg [zA A,zbF s.ring,xW s.con,zG s.pass,.slice none (s.grants.map zw),yD s.req,.lit (.string ⟨s.holder.toArray⟩),.lit (.int .i64 s.minute)])∧σ_ (N+10+6)=.box 25 (yp w)∧(n≤4)∧(i+n≤4)∧(WB s A w i)∧(Dk l j)∧(zo6 l n (A,w,j) (Af,wf,jf))) ⟨_,b,0,s.alg,⟨[s.pass],s.grants⟩,j4,rfl,WF,WF,WF,WF,WC,WC,WC,WC,WC⟩ ?_
 intro m_3 s_3 σ_3 n_3 hs_3 hf_3 hn_3 hI_3
 obtain ⟨n,i,A,w,j,hm_3,h3_8,e3_0,e3_1,e3_2,hn,hi,hK,hj,hrun⟩:=hI_3
 have h3_2:=KS hs_3 2
 have h3_3:=KS hs_3 3
 have h3_4:=KS hs_3 4
 have h3_5:=KS hs_3 5
 have h3_6:=KS hs_3 6
 have h3_7:=KS hs_3 7
 have k3_0:=KE hf_3 (N)
 have k3_1:=KE hf_3 (N+1)
 have hlow:=KL (N:=N) (σ:=σ) hf_3
 cases n with
 | zero=>
  have hrun:(Af,wf,jf)=(A,w,j):=hrun
  simp only [Prod.mk.injEq] at hrun
  obtain ⟨rfl,rfl,rfl⟩:=hrun
  clear hK hs hK0
  refine Wk ?_
  refine zQ (r0:=N+3+1) (by simp (disch:=omega) [go_sem, *,-List.reduceReplicate];rfl) oo (by simp (disch:=omega) [go_sem];try rfl) (fun id hid=>by simp (disch:=omega) only [zg];try exact hlow id hid) (by simp (disch:=omega) [go_sem, *,-List.reduceReplicate];rfl) (by simp (disch:=omega) [go_sem])
 | succ n=>
  have h0n:(0:Int) < ((n+1:Nat):Int):=by omega
  have hnm:((n+1:Nat):Int) - 1=(n:Int):=by omega
  obtain ⟨P,j5,⟨p1,p2,p3,p4⟩,hrun⟩:=hrun
  have hst:=hK.step (j0:=j) oo p1 p2 j5
  have c6:=zbY A (1000+4 * i) hK.ain w (by have:=hK.pl;omega) (fun p hp=>by have:=(hK.pk p hp).1;omega) 0 P oo oo (fun x hx=>(p2 x hx).1)
  have he0:(zbK A w 0 P).2.2=0:=by rw [(hK.att oo p1 p2).2]
  unfold jv at hst hrun
  simp only at hst hrun
  unfold ze9 at c6
  generalize zbK A w 0 P=Z at *
  obtain ⟨A2,w2,e2⟩:=Z
  simp only at c6 hst hrun he0
  subst he0
  simp only [↓reduceIte] at hst hrun
  clear hs hK hK0
  have hcs:=And.intro (p4 (N+3+1)) (And.intro c6 True.intro)
  clear p4 c6
  refine Wk ?_
  clear hcs
  exact ⟨WS,WG,WN,_,(show (n) < m_3 by omega),n,i+1,A2,w2,j5,rfl,WF,WF,WF,WF,WC,WC,WC,WC,WC⟩
end
end Go.Proofs.YtglmjglbobhbbaaGreatDoor
namespace Go.Ab
open Go
theorem zjo {P:Program} {o:Oper} {s:Slots} {id:Nat} {t e:TypeId} {x:Operand} {len:Nat} {xs:List AV} (ho:o.op=.sliceToArrayPointer t x) (ht:zie P t=some (len,e)) (hx:zl s x=.slice none xs) (hl:xs.length=len) (h0:0 < len):OpHolds P o s id [] (.view (.agg xs)) []:=
 yj fun g w a hr=>by
  have h1:=hr x (by simp [ho,Op.operands])
  rw [hx] at h1
  generalize hv:a.eval x=v at h1
  cases h1 with
  | slice _ _ vs A c size hl' hc hm h hsv hcell hown=>
   rcases hcell with h1 | ⟨b,o',hA,hG⟩
   ·omega
   ·refine ⟨.pointer A,?_,?_⟩
    ·simp [execOp,ho,hv,Instr.arrayAt,run_underlying (wP ht),hl]
    ·rw [hA]
     exact .view (.agg xs) (.agg (yG vs).toArray) b o' (.agg xs vs hl' h) fun j u hu=>hG j u (by simpa [vY] using hu)
theorem zq9 {P:Program} {ops:Array Oper} {m i n:Nat} {T:Trace} {k:Cfg→Trace→Prop} {ty:TypeId} {pos:String} {after:Array Edge} {r:List Oper} {s:Slots} {σ:Nat→Ent} {t:Tmp} {x:Operand} {t' e:TypeId} {len size:Nat} {xs:List AV} {y:AV}
  (he:zl s x=.slice none xs) (ht:w7 P t'=some (len,e,size)) (hl:xs.length=len) (h0:0 < len) (hy:AV.agg xs=y) (h:aops P ops m r (i+1) (addT i ⟨[],.view y,[]⟩ T) k ⟨upd s t (.view y),σ,n⟩):
  aops P ops m (⟨some t,.sliceToArrayPointer t' x,ty,pos,after,none⟩::r) i T k ⟨s,σ,n⟩:=by
 subst hy
 exact
 kS (st:=⟨[],.view (.agg xs),[]⟩) (fun o ho=>.mk0 (zjo ho (vH ht).1 he hl h0)) h
end Go.Ab
namespace Go.Proofs.YtglmjglbobhbbaaGreatDoor
open _root_.Go.Proofs.Tryz
open Go.Ab
attribute [local irreducible] Go.Ab.tyAV Go.Ab.aw Go.Ab.aops Go.Ab.kReg Go.Ab.aThen Go.Ab.aBlk Go.Ab.acond Go.Ab.aguard Go.Ab.astep Go.Ab.AStepX Go.Ab.aRet
attribute [local irreducible] yE
theorem zhJ (p:Pr) (hp0:PrOk p) (d k:Nat):ACall prog 226 [zU p] k [(d,zS)] (zbu (zaZ p)) []:=by
 unfold zaZ
 split
 ·rename_i h;exact zcD p hp0 h d k
 ·rename_i h
  exact (znH p hp0 (by simpa using h) d k).result (AV.sub_tup (.cons AV.le_nils0 (.cons (AV.le_refl _) .nil)))
section
variable [W:W32]
end
theorem zcF (w b:List UInt8) (r:Rq) (hw:w.length≤1000) (hb:b.length≤1000):∃ R:List UInt8,R.length≤100000∧∀ k,ACall prog 171 [.lit (.string ⟨w.toArray⟩),.slice none (b.map za),yD r] k [] (.slice none (R.map za)) []:=by
 have c1:=yH w b oo oo
 have hwb:(w++b).length≤2000:=by rw [List.length_append];omega
 obtain ⟨rg,rn⟩:=r
 have hrA:yD ⟨rg,rn⟩=.agg [.lit (.int .i64 rg),.lit (.int .i64 rn)]:=rfl
 rw [hrA]
 clear hrA
 generalize w++b=R1 at *
 obtain ⟨X,hX,c2⟩:∃ (X:List UInt8 × Nat),X.1.length≤3000∧∀ k,ACall prog 214 [.slice none (R1.map za),.lit (.int .i64 rg)] k [] (zbu X) []:=by
  by_cases h:rg < 0∨281474976710656 < rg
  ·exact ⟨([],1),by simp,fun k=>(jY R1 rg h k).result (AV.sub_tup (.cons AV.le_nils0 (.cons (AV.le_refl _) .nil)))⟩
  ·obtain ⟨n,rfl⟩:=Int.eq_ofNat_of_zero_le (show 0≤rg by omega)
   have hl:=zh n 7 oo
   exact ⟨(R1++leb n,0),by simp only [List.length_append];omega,fun k=>yU R1 oo n oo k⟩
 obtain ⟨R2,E2⟩:=X
 simp only at hX
 obtain ⟨Y,hY,c3⟩:∃ (X:List UInt8 × Nat),X.1.length≤4000∧∀ k,ACall prog 214 [.slice none (R2.map za),.lit (.int .i64 rn)] k [] (zbu X) []:=by
  by_cases h:rn < 0∨281474976710656 < rn
  ·exact ⟨([],1),by simp,fun k=>(jY R2 rn h k).result (AV.sub_tup (.cons AV.le_nils0 (.cons (AV.le_refl _) .nil)))⟩
  ·obtain ⟨n,rfl⟩:=Int.eq_ofNat_of_zero_le (show 0≤rn by omega)
   have hl:=zh n 7 oo
   exact ⟨(R2++leb n,0),by simp only [List.length_append];omega,fun k=>yU R2 oo n oo k⟩
 obtain ⟨R3,E3⟩:=Y
 simp only at hY
 refine ⟨R3,by omega,fun k=>?_⟩
 unfold zbu at c2 c3
 simp only at c2 c3
 clear hX hY hwb
 refine Bd func171 ntmps171 fun σ N hp hpn hk hkn hfree=>?_
 have hcs:=And.intro c1 (And.intro c2 (And.intro c3 True.intro))
 clear c1 c2 c3
 exact WM
section
variable [W:W32]
def zs2 (a:Alg) (tag leaf:Tg) (r:Rq):Option Tg:=if rqB r=true then vq a tag (y8 leaf r.gate.toNat r.nonce.toNat) else none
set_option maxHeartbeats 2000000 in
theorem zfC (a:Alg) (m:Nat) (ha:AlgIn a m) (hm:m≤60000) (tag leaf:Tg) (r:Rq) (g k:Nat):
  ACall prog 186 [zA a,zd tag,zd leaf,yD r] k [(g,yE)] (vR (zs2 a tag leaf r)) []:=by
 have c1:=wg r
 unfold zs2
 have hlA:zd leaf=.agg (leaf.1.map za):=rfl
 have ps1:=zB leaf
 have ps2:=zj leaf
 cases hr:rqB r with
 | false=>
  rw [hr] at c1
  rw [if_neg (by simp)]
  unfold vR
  simp only [Option.getD_none,Option.isSome_none]
  obtain ⟨rg,rn⟩:=r
  have hrA:yD ⟨rg,rn⟩=.agg [.lit (.int .i64 rg),.lit (.int .i64 rn)]:=rfl
  rw [hrA] at c1 ⊢
  clear ha hlA ps1 ps2 hrA hr
  refine Bd func186 ntmps186 fun σ N hp hpn hk hkn hfree=>?_
  obtain ⟨hd,hdn⟩:=HD0 hp hpn;clear hp hpn
  have hcs:=And.intro c1 True.intro
  clear c1
  exact W0
 | true=>
  rw [hr] at c1
  rw [if_pos rfl]
  obtain ⟨⟨q1,q2⟩,q3,q4⟩:=rqB_iff.1 hr
  have c4:=vZ [98,105,110,100] leaf.1 r.gate.toNat r.nonce.toNat (by decide) (by rw [leaf.2];decide) oo oo
  have hml:=zbc leaf (g:=r.gate.toNat) (n:=r.nonce.toNat) oo oo
  have hmp:0 < (y8 leaf r.gate.toNat r.nonce.toNat).length:=by simp [y8]
  have hbm:[98,105,110,100]++(leaf.1++(leb r.gate.toNat++leb r.nonce.toNat))=y8 leaf r.gate.toNat r.nonce.toNat:=rfl
  rw [hbm] at c4
  have c5:=wk a tag (y8 leaf r.gate.toNat r.nonce.toNat) (by have:=ha.ml;omega) ha.mm hmp oo g
  generalize vq a tag (y8 leaf r.gate.toNat r.nonce.toNat)=o at *
  unfold vR at *
  generalize o.getD zeroTag=t1 at *
  generalize o.isSome=ok1 at *
  obtain ⟨rg,rn⟩:=r
  simp only at *
  rw [show ((rg.toNat:Nat):Int)=rg by omega,show ((rn.toNat:Nat):Int)=rn by omega] at c4
  generalize y8 leaf rg.toNat rn.toNat=bm at *
  have hrA:yD ⟨rg,rn⟩=.agg [.lit (.int .i64 rg),.lit (.int .i64 rn)]:=rfl
  obtain ⟨K,hK⟩:=leaf
  rw [hlA] at ps1 ps2 ⊢
  rw [hrA] at c1 ⊢
  simp only at *
  clear ha hlA hrA hbm hml hmp hr
  have htk:(K.map za).take 32=K.map za:=List.take_of_length_le (by rw [List.length_map];omega)
  refine Bd func186 ntmps186 fun σ N hp hpn hk hkn hfree=>?_
  obtain ⟨hd,hdn⟩:=HD0 hp hpn;clear hp hpn
  have hcs:=And.intro c1 (And.intro c4 (And.intro c5 True.intro))
  clear c1 c4 c5
  exact W0
def zcd (a:Alg):Tg→List Pr→Option Tg
 | t,[]=>some t
 | t,p::r=>if yc p=true∧p.kind≠7 then (match vq a t (qy p) with
   | none=>none
   | some t'=>zcd a t' r) else none
def zhl (a:Alg) (key:Tg) (t:List UInt8) (l:List Pr):Option Tg:=match vq a key (vy t) with
 | none=>none
 | some x=>zcd a x l
end
def zeU:Bu:=⟨⟨0,0⟩,0,0,[],zeroTag,[]⟩
section
variable [W:W32]
set_option maxHeartbeats 4000000 in
theorem zef (a:Alg) (m:Nat) (ha:AlgIn a m) (hm:m≤60000) (e:Nat) (he:e≠0) (d:Di) (leaf:Tg) (r:Rq) (ht:d.ticket.length≤100000) (hc:d.conds.length≤100000) (q r1 r2 g k:Nat):
  ACall prog 172 [.ptr q [] 0,zw d,zd leaf,yD r] k (vA a e q r1 r2++[(g,yE)]) (zC (zu d)) [(q,zcM a e r1 r2),(r1,zfk a.macs.length)]:=by
 have c1:=wg r
 have cf:=xN a e 1 q r1 r2
 rw [if_neg he] at cf
 have c2:=yC d.ticket oo
 have c3:=vS d.conds hc
 obtain ⟨R,hRl,c4⟩:=zcF [98,105,110,100] leaf.1 r (by decide) (by rw [leaf.2];decide)
 have c5:=vD a e d.tag R (by have:=ha.ml;omega) ha.mm (fun h=>absurd h he) hRl q r1 r2 g
 rw [jO he] at c5
 simp only at c5
 obtain ⟨rg,rn⟩:=r
 obtain ⟨ti,cs,dt⟩:=d
 simp only at *
 have hrA:yD ⟨rg,rn⟩=.agg [.lit (.int .i64 rg),.lit (.int .i64 rn)]:=rfl
 have hdA:zw ⟨ti,cs,dt⟩=.agg [.slice none (ti.map za),.slice none (cs.map zU),zd dt]:=rfl
 have hoA:zC (zu ⟨ti,cs,dt⟩)=.agg [.slice none (ti.map za),.slice none (cs.map zU),zd zeroTag]:=rfl
 have hlA:zd leaf=.agg (leaf.1.map za):=rfl
 have ps1:=zB leaf
 have ps2:=zj leaf
 obtain ⟨K,hK⟩:=leaf
 rw [hlA] at ps1 ps2 ⊢
 rw [hrA] at c1 c4 ⊢
 rw [hdA,hoA]
 simp only at *
 clear hrA hdA hoA hlA ha hRl he
 have htk:(K.map za).take 32=K.map za:=List.take_of_length_le (by rw [List.length_map];omega)
 have e01:((1:Nat):Int)=1:=rfl
 unfold vA at *
 simp only [List.cons_append,List.nil_append] at *
 simp only [zW,zP,zO,e01] at *
 clear e01
 cases hr:rqB ⟨rg,rn⟩ with
 | false=>
  rw [hr] at c1
  clear hr
  refine Bd func172 ntmps172 fun σ N hp hpn hk hkn hfree=>?_
  simp only [List.mem_cons,List.not_mem_nil,or_false,forall_eq_or_imp,forall_eq] at hp hpn;obtain ⟨hd1,hd2,hd3,hd4⟩:=hp;obtain ⟨hdn1,hdn2,hdn3,hdn4⟩:=hpn
  have hne:q≠r1:=by rintro rfl;rw [hd1] at hd2;cases hd2
  have hne3:q≠r2:=by rintro rfl;rw [hd1] at hd3;cases hd3
  have hneg:g≠q:=by rintro rfl;rw [hd4] at hd1;exact ya hd1
  have hneg1:g≠r1:=by rintro rfl;rw [hd4] at hd2;exact yb hd2
  have hne23:r1≠r2:=by rintro rfl;rw [hd2] at hd3;simp at hd3
  have hcs:=And.intro c1 (And.intro cf (And.intro c2 (And.intro c3 (And.intro c4 (And.intro c5 True.intro)))))
  clear c1 cf c2 c3 c4 c5
  refine Wk ?_
  refine yd [(q,(.box 249 (.agg [.agg [.lit (.bool a.free),zd a.seed,.lit (.int .i64 a.fresh),.slice (some r1) (a.macs.map zJ),.slice (some r2) (a.boxes.map zo)],.lit (.int .i64 (e:Int))]))),(r1,(.row 190 65 a.macs.length))] (by simp (disch:=omega) [go_sem, *,-List.reduceReplicate];rfl) (by first | rfl | (simp (disch:=omega) [go_sem];done) | (simp (disch:=omega) [go_sem, *];done) | simp (disch:=omega) [go_sem]) (fun id hid=>by simp only [zF,yi];(by_cases hdd:id=q;(· (subst hdd;simp (disch:=omega) [go_sem, *]));(· (by_cases hdd2:id=r1;(· (subst hdd2;simp (disch:=omega) [go_sem, *]));(· (simp (disch:=omega) only [zg];try (first | exact hlow id hid hdd hdd2 | exact hlow id hid))))))) (by simp) (by simp (disch:=omega) [go_sem, *])
 | true=>
  rw [hr] at c1
  clear hr
  refine Bd func172 ntmps172 fun σ N hp hpn hk hkn hfree=>?_
  simp only [List.mem_cons,List.not_mem_nil,or_false,forall_eq_or_imp,forall_eq] at hp hpn;obtain ⟨hd1,hd2,hd3,hd4⟩:=hp;obtain ⟨hdn1,hdn2,hdn3,hdn4⟩:=hpn
  have hne:q≠r1:=by rintro rfl;rw [hd1] at hd2;cases hd2
  have hne3:q≠r2:=by rintro rfl;rw [hd1] at hd3;cases hd3
  have hneg:g≠q:=by rintro rfl;rw [hd4] at hd1;exact ya hd1
  have hneg1:g≠r1:=by rintro rfl;rw [hd4] at hd2;exact yb hd2
  have hne23:r1≠r2:=by rintro rfl;rw [hd2] at hd3;simp at hd3
  have hcs:=And.intro c1 (And.intro c2 (And.intro c3 (And.intro c4 (And.intro c5 True.intro))))
  clear c1 cf c2 c3 c4 c5
  refine Wk ?_
  refine yd [(q,(.box 249 (.agg [.agg [.lit (.bool a.free),zd a.seed,.lit (.int .i64 a.fresh),.slice (some r1) (a.macs.map zJ),.slice (some r2) (a.boxes.map zo)],.lit (.int .i64 (e:Int))]))),(r1,(.row 190 65 a.macs.length))] (by simp (disch:=omega) [go_sem, *,-List.reduceReplicate];rfl) (by first | rfl | (simp (disch:=omega) [go_sem];done) | (simp (disch:=omega) [go_sem, *];done) | simp (disch:=omega) [go_sem]) (fun id hid=>by simp only [zF,yi];(by_cases hdd:id=q;(· (subst hdd;simp (disch:=omega) [go_sem, *]));(· (by_cases hdd2:id=r1;(· (subst hdd2;simp (disch:=omega) [go_sem, *]));(· (simp (disch:=omega) only [zg];try (first | exact hlow id hid hdd hdd2 | exact hlow id hid))))))) (by simp) (by simp (disch:=omega) [go_sem, *])
set_option maxHeartbeats 16000000 in
theorem zc3 (a:Alg) (m:Nat) (ha:AlgIn a m) (p:Pa) (gs:List Di) (r:Rq) (hg:gs.length≤100) (hm:m≤50000) (hb:BuIn (zE p gs r)) (e0 e:Nat) (hE:(if e0=0 then yZ (zE p gs r) else e0)=e) (he:e≠0) (hpl:p.cavs.length≤1000) (hcm:∀ c∈p.cavs,wY c) (hgm:∀ d∈gs,d.ticket.length≤100000∧d.conds.length≤100000) (q r1 r2 g h k:Nat):
  ACall prog 105 [.ptr q [] 0,zG p,.slice none (gs.map zw),yD r] k (vA a e0 q r1 r2++[(g,yE),(h,zS)]) (ye (zE p gs r)) [(q,zcM a e r1 r2),(r1,zfk a.macs.length)]:=by
 have c0:=vB p.cavs oo hcm
 have hc:=wo (zE p gs r) hb 1 0
 obtain ⟨ec,hec⟩:∃ ec,yZ (zE p gs r)=ec:=⟨_,rfl⟩
 rw [hec] at hc hE
 have c1:=xN a e0 ec q r1 r2
 rw [hE] at c1
 clear hec
 obtain ⟨rm,hrml,c2⟩:=zcF [114,101,113,117,101,115,116] [] r (by decide) (by decide)
 have c3:=vD a e p.tag rm (by have:=ha.ml;omega) ha.mm (fun h=>absurd h he) hrml q r1 r2 g
 rw [jO he] at c3
 simp only at c3
 clear hE hb hrml
 obtain ⟨ep,se,L,tg⟩:=p
 obtain ⟨rg,rn⟩:=r
 simp only at *
 have hpA:zG ⟨ep,se,L,tg⟩=.agg [.lit (.int .i64 ep),.lit (.int .i64 se),.slice none (L.map z8),zd tg]:=rfl
 have hrA:yD ⟨rg,rn⟩=.agg [.lit (.int .i64 rg),.lit (.int .i64 rn)]:=rfl
 have hsA:ye (zE ⟨ep,se,L,tg⟩ gs ⟨rg,rn⟩)=.agg [.agg [.lit (.int .i64 rg),.lit (.int .i64 rn)],.lit (.int .i64 ep),.lit (.int .i64 se),.slice none (L.map z8),zd zeroTag,.slice none ((gs.map zu).map zC)]:=rfl
 rw [hsA] at hc ⊢
 rw [hrA] at c2
 rw [hpA,hrA]
 clear hpA hsA
 have hb24:gs.length * 80≤140737488355328:=by omega
 have hb25:gs.length≤140737488355327:=by omega
 unfold vA at *
 simp only [List.cons_append,List.nil_append,List.map_nil] at *
 simp only [zW,zP,zO] at *
 obtain ⟨D0,hD00⟩:∃ D0,gs.map zu=D0:=⟨_,rfl⟩
 have hD0:D0.length=gs.length:=by rw [← hD00];exact List.length_map ..
 have hDv:∀ (v:Nat) (z:Di),gs[v]?=some z→D0[v]?=some (zu z)∧(D0.map zC).set v (zC (zu z))=D0.map zC:=fun v z hz=>by
  have h1:D0[v]?=some (zu z):=by rw [← hD00,List.getElem?_map,hz];rfl
  refine ⟨h1,?_⟩
  have h2:(D0.map zC)[v]?=some (zC (zu z)):=by rw [List.getElem?_map,h1];rfl
  obtain ⟨h3,h4⟩:=List.getElem?_eq_some_iff.1 h2
  rw [← h4,List.set_getElem_self]
 rw [hD00]
 refine Bd func105 ntmps105 fun σ N hp hpn hk hkn hfree=>?_
 simp only [List.mem_cons,List.not_mem_nil,or_false,forall_eq_or_imp,forall_eq] at hp hpn
 obtain ⟨hd1,hd2,hd3,hd4,hd5⟩:=hp
 obtain ⟨hdn1,hdn2,hdn3,hdn4,hdn5⟩:=hpn
 have hne:q≠r1:=by rintro rfl;rw [hd1] at hd2;cases hd2
 have hne3:q≠r2:=by rintro rfl;rw [hd1] at hd3;cases hd3
 have hneg:g≠q:=by rintro rfl;rw [hd4] at hd1;exact ya hd1
 have hneg1:g≠r1:=by rintro rfl;rw [hd4] at hd2;exact yb hd2
 have hneh:h≠q:=by rintro rfl;rw [hd5] at hd1;exact v8 hd1
 have hneh1:h≠r1:=by rintro rfl;rw [hd5] at hd2;exact v9 hd2
 have hne23:r1≠r2:=by rintro rfl;rw [hd2] at hd3;simp at hd3
 rw [jM] at hd5 hc
 have hcs:=And.intro c0 True.intro
 clear c0
 refine Wk ?_
 clear hcs
 refine vM (N+12) [5] 168 34 (bt:=75) (c:=.agg [.agg [.lit (.int .i64 rg),.lit (.int .i64 rn)],.lit (.int .i64 ep),.lit (.int .i64 se),.slice none (L.map z8),zd zeroTag,.nils]) (by simp (disch:=omega) [go_sem, *,-List.reduceReplicate];try rfl) rfl ?_
 refine ze zi (by kernel_rfl) [11,25,26,27,28,29,30,31,32,33,34,35,36,37,38,39] [N+12,N+17] (fun m_ s_ σ_ n_=>∃ (u:Nat),m_=gs.length - u∧s_ 25=.lit (.int .i64 u)∧σ_ (N+12)=.box 75 (.agg [.agg [.lit (.int .i64 rg),.lit (.int .i64 rn)],.lit (.int .i64 ep),.lit (.int .i64 se),.slice none (L.map z8),zd zeroTag,.ms (N+17) u 34 0 u])∧σ_ (N+17)=.mrow u 168 34 (shX gs u)∧(u≤gs.length)) ⟨_,0,rfl,WF,WF,WF,WC⟩ ?_
 intro m_1 s_1 σ_1 n_1 hs_1 hf_1 hn_1 hI_1
 obtain ⟨u,hm_1,h1_25,e1_0,e1_1,hu⟩:=hI_1
 have h1_0:=KS hs_1 0
 have h1_2:=KS hs_1 2
 have h1_5:=KS hs_1 5
 have h1_7:=KS hs_1 7
 have h1_8:=KS hs_1 8
 have h1_9:=KS hs_1 9
 have h1_23:=KS hs_1 23
 have h1_24:=KS hs_1 24
 have k1_0:=KE hf_1 (N)
 have k1_1:=KE hf_1 (N+1)
 have k1_2:=KE hf_1 (N+2)
 have k1_3:=KE hf_1 (q)
 have k1_4:=KE hf_1 (r1)
 have k1_5:=KE hf_1 (r2)
 have k1_6:=KE hf_1 (g)
 have k1_7:=KE hf_1 (h)
 have hlow:=KL (N:=N) (σ:=σ) hf_1
 by_cases hul:u=gs.length
 ·subst hul
  rw [kj,hD00] at e1_1
  clear hu
  rw [hD00] at hc
  clear hD00
  iterate 2 refine Wz ?_
  (apply xI;· (simp only [List.length_cons,List.length_nil,Nat.reduceAdd,Nat.add_assoc];rfl))
  refine Wm ?_
  refine vT (d:=h) (pre:=[(N+17,.mrow gs.length 168 34 (D0.map zC)),(h,.glob 0 (.agg bitsL))]) hc w8 (by simp) (by simp (disch:=omega) [go_sem, *,-List.reduceReplicate]) rfl (by simp) (by
   simp (disch:=omega) [go_sem, *,-List.reduceReplicate]
   exact .cons (.agg (.cons (.shut (AV.le_refl _) rfl) (.cons (.shut (AV.le_refl _) rfl) (.cons (.shut (AV.le_refl _) rfl) (.cons (.shut (AV.le_refl _) (qW L)) (.cons (.shut (AV.le_refl _) (vQ _)) (.cons (.ms (List.mem_cons_self ..) (by simp [hD0]) (qT D0)) .nil))))))) .nil) (by simp (disch:=omega) [go_sem, *,-List.reduceReplicate]) ?_
  have hcs:=And.intro c1 True.intro
  refine Wm ?_
  have hcs:=And.intro c2 (And.intro c3 True.intro)
  clear c1 c2 c3 hc
  refine Wk ?_
  clear hcs
  refine ze zi (by kernel_rfl) [12,13,53,54,55,56,57,58,59,60,61,62,63,64,65,66,67,68] [q,r1,N+12,N+17] (fun m_ s_ σ_ n_=>∃ (v:Nat),m_=gs.length - v∧s_ 53=.lit (.int .i64 v)∧σ_ (q)=.box 249 (.agg [.agg [.lit (.bool a.free),zd a.seed,.lit (.int .i64 a.fresh),.slice (some r1) (a.macs.map zJ),.slice (some r2) (a.boxes.map zo)],.lit (.int .i64 (e:Int))])∧σ_ (r1)=.row 190 65 a.macs.length∧σ_ (N+12)=.box 75 (.agg [.agg [.lit (.int .i64 rg),.lit (.int .i64 rn)],.lit (.int .i64 ep),.lit (.int .i64 se),.slice none (L.map z8),zd zeroTag,.ms (N+17) gs.length 34 0 gs.length])∧σ_ (N+17)=.mrow gs.length 168 34 (D0.map zC)∧(v≤gs.length)) ⟨_,0,rfl,WF,WF,WF,WF,WF,WC⟩ ?_
  intro m_2 s_2 σ_2 n_2 hs_2 hf_2 hn_2 hI_2
  obtain ⟨v,hm_2,h2_53,e2_0,e2_1,e2_2,e2_3,hv⟩:=hI_2
  have h2_0:=KS hs_2 0
  have h2_5:=KS hs_2 5
  have h2_7:=KS hs_2 7
  have h2_8:=KS hs_2 8
  have h2_9:=KS hs_2 9
  have h2_51:=KS hs_2 51
  have h2_52:=KS hs_2 52
  have k2_0:=KE hf_2 (N)
  have k2_1:=KE hf_2 (N+1)
  have k2_2:=KE hf_2 (N+2)
  have k2_3:=KE hf_2 (r2)
  have k2_4:=KE hf_2 (g)
  have hlow:∀ id,id < N→id≠q→id≠r1→σ_2 id=σ id:=fun id hid hdd0 hdd1=>(hf_2.at id oo (by simp [hdd0,hdd1];try omega)).trans (by simp (disch:=omega) only [zg,zF,yi];try first | exact hlow id hid hdd0 hdd1 | exact hlow id hid)
  by_cases hvl:v=gs.length
  ·subst hvl
   clear hv hDv
   iterate 2 refine Wz ?_
   refine yM (N+12) [5] (r:=N+17) (ver:=gs.length) (size:=34) (e:=168) (xs:=D0.map zC) (k:=gs.length) (by simp (disch:=omega) [go_sem, *,-List.reduceReplicate];try exact ⟨rfl,rfl⟩) (by simp (disch:=omega) [go_sem, *,-List.reduceReplicate]) (by simp (disch:=omega) [go_sem, *,-List.reduceReplicate]) (by simp [hD0]) ?_
   refine Wk ?_
   refine yd [(q,(.box 249 (.agg [.agg [.lit (.bool a.free),zd a.seed,.lit (.int .i64 a.fresh),.slice (some r1) (a.macs.map zJ),.slice (some r2) (a.boxes.map zo)],.lit (.int .i64 (e:Int))]))),(r1,(.row 190 65 a.macs.length))] (by simp (disch:=omega) [go_sem, *,-List.reduceReplicate];rfl) (by first | rfl | (simp (disch:=omega) [go_sem];done) | (simp (disch:=omega) [go_sem, *];done) | simp (disch:=omega) [go_sem]) (fun id hid=>by simp only [zF,yi];(by_cases hdd:id=q;(· (subst hdd;simp (disch:=omega) [go_sem, *]));(· (by_cases hdd2:id=r1;(· (subst hdd2;simp (disch:=omega) [go_sem, *]));(· (simp (disch:=omega) only [zg];try (first | exact hlow id hid hdd hdd2 | exact hlow id hid))))))) (by simp) (by simp (disch:=omega) [go_sem, *])
  ·have hv1:v < gs.length:=by omega
   have hv1i:(v:Int) < (gs.length:Int):=by omega
   obtain ⟨z,hz⟩:∃ z,gs[v]=z:=⟨_,rfl⟩
   have hz0:gs[v]?=some z:=by rw [List.getElem?_eq_getElem hv1,hz]
   have hzm:(gs.map zw)[v]?=some (zw z):=by rw [List.getElem?_map,hz0];rfl
   obtain ⟨hgt,hgc⟩:=hgm z (by rw [← hz];exact List.getElem_mem _)
   have c3:=zef a m ha oo e he z tg ⟨rg,rn⟩ hgt hgc q r1 r2 g
   obtain ⟨hy0,hset⟩:=hDv v z hz0
   rw [hrA] at c3
   unfold vA at c3
   simp only [List.cons_append,List.nil_append] at c3
   simp only [zW,zP,zO] at c3
   generalize zu z=y at *
   have hv2:v < D0.length:=by omega
   have hym:(D0.map zC)[v]?=some (zC y):=by rw [List.getElem?_map,hy0];rfl
   have hysz:AV.szl ((D0.map zC).take v)=v * 34:=by
    rw [← List.map_take,AV.szl_uniform _ 34 (fun x hx=>by obtain ⟨c,_,rfl⟩:=List.mem_map.1 hx;exact kG c),List.length_map,List.length_take,Nat.min_eq_left oo]
   have hyo:(AV.agg (D0.map zC)).offs [v]=v * 34:=by simp only [AV.offs,hym,hysz];rfl
   clear hDv hgt hgc hgm ha
   have hcs:=And.intro c3 True.intro
   clear c3
   refine Wk ?_
   clear hcs
   exact ⟨WS,WG,WN,_,(show gs.length - (v+1) < m_2 by omega),v+1,rfl,WF,WF,WF,WF,WF,WC⟩
 ·have hu1:u < gs.length:=by omega
  have hu1i:(u:Int) < (gs.length:Int):=by omega
  obtain ⟨z,hz⟩:∃ z,gs[u]=z:=⟨_,rfl⟩
  have hzm:(gs.map zw)[u]?=some (.agg [.slice none (z.ticket.map za),.slice none (z.conds.map zU),zd z.tag]):=by rw [List.getElem?_map,List.getElem?_eq_getElem hu1,hz];rfl
  have htk:=wH hu1 hz
  have htk2:(shX gs u).take u++[.agg [.slice none (z.ticket.map za),.slice none (z.conds.map zU),zd zeroTag]]=shX gs (u+1):=by rw [List.take_of_length_le (by rw [ve hu];exact Nat.le_refl _)];exact htk
  have hXl:=ve hu
  have hb26:(u+1) * 80≤140737488355328:=by omega
  have hb27:u≤140737488355327:=by omega
  clear c1 c2 c3 hc hDv
  refine Wk ?_
  exact ⟨WS,WG,WN,_,(show gs.length - (u+1) < m_1 by omega),u+1,rfl,WF,WF,WF,WC⟩
theorem ziP (a:Alg) (m:Nat) (ha:AlgIn a m) (p:Pa) (gs:List Di) (r:Rq) (hg:gs.length≤100) (hm:m≤50000) (hb:BuIn (zE p gs r)) (e:Nat) (hE:yZ (zE p gs r)=e) (he:e≠0) (hpl:p.cavs.length≤1000) (hcm:∀ c∈p.cavs,wY c) (hgm:∀ d∈gs,d.ticket.length≤100000∧d.conds.length≤100000) (q r1 r2 g h k:Nat):
  ACall prog 105 [.ptr q [] 0,zG p,.slice none (gs.map zw),yD r] k (vA a 0 q r1 r2++[(g,yE),(h,zS)]) (ye (zE p gs r)) [(q,zcM a e r1 r2),(r1,zfk a.macs.length)]:=
 zc3 a m ha p gs r hg hm hb 0 e (by rw [if_pos rfl];exact hE) he hpl hcm hgm q r1 r2 g h k
set_option maxHeartbeats 4000000 in
theorem zfq (a:Alg) (m:Nat) (ha:AlgIn a m) (p:Pa) (gs:List Di) (r:Rq) (hg:gs.length≤100) (hm:m≤50000) (hb:BuIn (zE p gs r)) (e:Nat) (hE:yZ (zE p gs r)=e) (he:e≠0) (hpl:p.cavs.length≤1000) (hcm:∀ c∈p.cavs,wY c) (hgm:∀ d∈gs,d.ticket.length≤100000∧d.conds.length≤100000) (g h k:Nat) (hgh:g≠h):
  ACall prog 103 [zA a,zG p,.slice none (gs.map zw),yD r] k [(g,yE),(h,zS)] (.tup [zA wZ,ye zeU,.lit (.int .i64 (e:Int))]) []:=by
 have cb:=wK a (by have:=ha.ml;omega) (by have:=ha.bl;omega)
 have c1:=fun q r1 r2=>ziP a m ha p gs r hg hm hb e hE he hpl hcm hgm q r1 r2 g h
 have cd:=qP a e he
 have h1i:((e:Int) != 0)=true:=by rw [bne_iff_ne];omega
 generalize zE p gs r=b1 at *
 clear ha hb hE hcm hgm
 have hz:ye zeU=.agg [.agg [.lit (.int .i64 0),.lit (.int .i64 0)],.lit (.int .i64 0),.lit (.int .i64 0),.slice none [],zd zeroTag,.slice none []]:=rfl
 rw [hz]
 unfold zbN at cb
 unfold vA at c1 cd
 simp only [List.cons_append,List.nil_append] at *
 simp only [zW,zP,zO,zZ] at *
 clear hz
 refine Bd func103 ntmps103 fun σ N hp hpn hk hkn hfree=>?_
 simp only [List.mem_cons,List.not_mem_nil,or_false,forall_eq_or_imp,forall_eq] at hp hpn;obtain ⟨hd1,hd2⟩:=hp;obtain ⟨hdn1,hdn2⟩:=hpn
 have hcs:=And.intro cb True.intro
 refine Wm ?_
 iterate 2 refine Wz ?_
 clear hcs
 refine zL (N+6+1) [0,3] 190 65 (bt:=249) (c:=.agg [.agg [.lit (.bool a.free),zd a.seed,.lit (.int .i64 a.fresh),.clip (a.macs.map zJ),.clip (a.boxes.map zo)],.lit (.int .i64 ((0:Nat):Int))]) (xs:=a.macs.map zJ) (by simp (disch:=omega) [go_sem, *,-List.reduceReplicate]) rfl (vg _) ?_;refine zL (N+6+1) [0,4] 192 35 (bt:=249) (c:=.agg [.agg [.lit (.bool a.free),zd a.seed,.lit (.int .i64 a.fresh),.slice (some (N+6+3)) (a.macs.map zJ),.clip (a.boxes.map zo)],.lit (.int .i64 ((0:Nat):Int))]) (xs:=a.boxes.map zo) (by simp (disch:=omega) [go_sem, *,-List.reduceReplicate]) rfl (xC _) ?_
 have hcs:=And.intro (c1 (N+6+1) (N+6+3) (N+6+3+1)) (And.intro (cd (N+6+1) (N+6+3) (N+6+3+1)) True.intro)
 clear cb c1 cd
 refine Wk ?_
 exact WD
omit W in
set_option maxHeartbeats 8000000 in
theorem zf2 (a:Alg) (p:Pa) (gs:List Di) (r:Rq) (hg:gs.length≤100) (hb:BuIn (zE p gs r)) (e:Nat) (hE:yZ (zE p gs r)=e) (he:e≠0) (k:Nat):
  ACall prog 78 [zA a,zG p,.slice none (gs.map zw),yD r] k [] (.tup [zA wZ,ye zeU,.lit (.int .i64 (e:Int))]) []:=by
 have hc:=wT (zE p gs r) hb 0
 rw [hE] at hc
 have h1i:((e:Int) != 0)=true:=by rw [bne_iff_ne];omega
 clear hb hE he
 obtain ⟨ep,se,L,tg⟩:=p
 obtain ⟨rg,rn⟩:=r
 have hpA:zG ⟨ep,se,L,tg⟩=.agg [.lit (.int .i64 ep),.lit (.int .i64 se),.slice none (L.map z8),zd tg]:=rfl
 have hrA:yD ⟨rg,rn⟩=.agg [.lit (.int .i64 rg),.lit (.int .i64 rn)]:=rfl
 have hsA:ye (zE ⟨ep,se,L,tg⟩ gs ⟨rg,rn⟩)=.agg [.agg [.lit (.int .i64 rg),.lit (.int .i64 rn)],.lit (.int .i64 ep),.lit (.int .i64 se),.slice none (L.map z8),zd zeroTag,.slice none ((gs.map zu).map zC)]:=rfl
 have hz:ye zeU=.agg [.agg [.lit (.int .i64 0),.lit (.int .i64 0)],.lit (.int .i64 0),.lit (.int .i64 0),.slice none [],zd zeroTag,.slice none []]:=rfl
 rw [hsA] at hc
 rw [hpA,hrA,hz,zZ]
 clear hpA hsA hz hrA
 have hb24:gs.length * 80≤140737488355328:=by omega
 have hb25:gs.length≤140737488355327:=by omega
 refine Bd func78 ntmps78 fun σ N hp hpn hk hkn hfree=>?_
 refine Wk ?_
 refine vM (N+14) [5] 168 34 (bt:=75) (c:=.agg [.agg [.lit (.int .i64 rg),.lit (.int .i64 rn)],.lit (.int .i64 ep),.lit (.int .i64 se),.slice none (L.map z8),zd zeroTag,.nils]) (by simp (disch:=omega) [go_sem, *,-List.reduceReplicate];try rfl) rfl ?_
 refine ze zi (by kernel_rfl) [12,25,26,27,28,29,30,31,32,33,34,35,36,37,38,39,40,41,42,43,44,45,46] [N+14,N+17] (fun m_ s_ σ_ n_=>∃ (u:Nat),m_=gs.length - u∧s_ 12=.lit (.int .i64 u)∧σ_ (N+14)=.box 75 (.agg [.agg [.lit (.int .i64 rg),.lit (.int .i64 rn)],.lit (.int .i64 ep),.lit (.int .i64 se),.slice none (L.map z8),zd zeroTag,.ms (N+17) u 34 0 u])∧σ_ (N+17)=.mrow u 168 34 (shX gs u)∧(u≤gs.length)) ⟨_,0,rfl,WF,WF,WF,WC⟩ ?_
 intro m_3 s_3 σ_3 n_3 hs_3 hf_3 hn_3 hI_3
 obtain ⟨u,hm_3,h3_12,e3_0,e3_1,hu⟩:=hI_3
 have h3_2:=KS hs_3 2
 have h3_4:=KS hs_3 4
 have h3_5:=KS hs_3 5
 have h3_7:=KS hs_3 7
 have h3_8:=KS hs_3 8
 have h3_9:=KS hs_3 9
 have h3_10:=KS hs_3 10
 have h3_11:=KS hs_3 11
 have k3_0:=KE hf_3 (N)
 have k3_1:=KE hf_3 (N+1)
 have k3_2:=KE hf_3 (N+2)
 have k3_3:=KE hf_3 (N+3)
 have k3_4:=KE hf_3 (N+4)
 have hlow:=KL (N:=N) (σ:=σ) hf_3
 by_cases hul:u=gs.length
 ·subst hul
  rw [kj] at e3_1
  have hD0:(gs.map zu).length=gs.length:=List.length_map ..
  clear hu
  generalize gs.map zu=D0 at *
  iterate 2 refine Wz ?_
  (apply xI;· (simp only [List.length_cons,List.length_nil,Nat.reduceAdd,Nat.add_assoc];rfl))
  refine Wm ?_
  refine wS (pre:=[(N+17,.mrow gs.length 168 34 (D0.map zC))]) hc (by simp (disch:=omega) [go_sem, *,-List.reduceReplicate]) rfl (by simp) (by
   simp (disch:=omega) [go_sem, *,-List.reduceReplicate]
   exact .cons (.agg (.cons (.shut (AV.le_refl _) rfl) (.cons (.shut (AV.le_refl _) rfl) (.cons (.shut (AV.le_refl _) rfl) (.cons (.shut (AV.le_refl _) (qW L)) (.cons (.shut (AV.le_refl _) (vQ _)) (.cons (.ms (List.mem_singleton.2 rfl) (by simp [hD0]) (qT D0)) .nil))))))) .nil) (by simp (disch:=omega) [go_sem, *,-List.reduceReplicate]) ?_
  clear hc
  refine Wk ?_
  exact WD
 ·have hu1:u < gs.length:=by omega
  have hu1i:(u:Int) < (gs.length:Int):=by omega
  obtain ⟨z,hz⟩:∃ z,gs[u]=z:=⟨_,rfl⟩
  have hzm:(gs.map zw)[u]?=some (.agg [.slice none (z.ticket.map za),.slice none (z.conds.map zU),zd z.tag]):=by rw [List.getElem?_map,List.getElem?_eq_getElem hu1,hz];rfl
  have htk:=wH hu1 hz
  have htk2:(shX gs u).take u++[.agg [.slice none (z.ticket.map za),.slice none (z.conds.map zU),zd zeroTag]]=shX gs (u+1):=by rw [List.take_of_length_le (by rw [ve hu];exact Nat.le_refl _)];exact htk
  have hXl:=ve hu
  have hb26:(u+1) * 80≤140737488355328:=by omega
  have hb27:u≤140737488355327:=by omega
  refine Wk ?_
  exact ⟨WS,WG,WN,_,(show gs.length - (u+1) < m_3 by omega),u+1,rfl,WF,WF,WF,WC⟩
def zlR (a:Alg) (tag:Tg) (r:Rq):Option Tg:=if rqB r=true then vq a tag (kI r.gate.toNat r.nonce.toNat) else none
set_option maxHeartbeats 2000000 in
theorem zfx (a:Alg) (m:Nat) (ha:AlgIn a m) (hm:m≤60000) (tag:Tg) (r:Rq) (g k:Nat):
  ACall prog 111 [zA a,zd tag,yD r] k [(g,yE)] (vR (zlR a tag r)) []:=by
 have c1:=wg r
 unfold zlR
 cases hr:rqB r with
 | false=>
  rw [hr] at c1
  rw [if_neg (by simp)]
  unfold vR
  simp only [Option.getD_none,Option.isSome_none]
  obtain ⟨rg,rn⟩:=r
  have hrA:yD ⟨rg,rn⟩=.agg [.lit (.int .i64 rg),.lit (.int .i64 rn)]:=rfl
  rw [hrA] at c1 ⊢
  clear ha hrA hr
  refine Bd func111 ntmps111 fun σ N hp hpn hk hkn hfree=>?_
  obtain ⟨hd,hdn⟩:=HD0 hp hpn;clear hp hpn
  have hcs:=And.intro c1 True.intro
  clear c1
  exact W0
 | true=>
  rw [hr] at c1
  rw [if_pos rfl]
  obtain ⟨⟨q1,q2⟩,q3,q4⟩:=rqB_iff.1 hr
  have c4:=vZ [114,101,113,117,101,115,116] [] r.gate.toNat r.nonce.toNat (by decide) (by decide) oo oo
  have hml:=zcP (g:=r.gate.toNat) (n:=r.nonce.toNat) oo oo
  have hmp:0 < (kI r.gate.toNat r.nonce.toNat).length:=by simp [kI]
  have hbm:[114,101,113,117,101,115,116]++([]++(leb r.gate.toNat++leb r.nonce.toNat))=kI r.gate.toNat r.nonce.toNat:=rfl
  rw [hbm] at c4
  simp only [List.map_nil] at c4
  have c5:=wk a tag (kI r.gate.toNat r.nonce.toNat) (by have:=ha.ml;omega) ha.mm hmp oo g
  generalize vq a tag (kI r.gate.toNat r.nonce.toNat)=o at *
  unfold vR at *
  generalize o.getD zeroTag=t1 at *
  generalize o.isSome=ok1 at *
  obtain ⟨rg,rn⟩:=r
  simp only at *
  rw [show ((rg.toNat:Nat):Int)=rg by omega,show ((rn.toNat:Nat):Int)=rn by omega] at c4
  generalize kI rg.toNat rn.toNat=bm at *
  have hrA:yD ⟨rg,rn⟩=.agg [.lit (.int .i64 rg),.lit (.int .i64 rn)]:=rfl
  rw [hrA] at c1 ⊢
  clear ha hrA hbm hml hmp hr
  refine Bd func111 ntmps111 fun σ N hp hpn hk hkn hfree=>?_
  obtain ⟨hd,hdn⟩:=HD0 hp hpn;clear hp hpn
  have hcs:=And.intro c1 (And.intro c4 (And.intro c5 True.intro))
  clear c1 c4 c5
  exact W0
end
section
variable [W:W32]
def cO (a:Alg):Option Tg→List Pr→Option Tg
 | none,_=>none
 | some x,l=>zcd a x l
theorem zqS (a:Alg) (o:Option Tg):cO a o []=o:=by cases o <;> rfl
theorem znW (a:Alg) (x:Tg) (p:Pr) (r:List Pr):cO a (some x) (p::r)=if yc p=true∧p.kind≠7 then cO a (vq a x (qy p)) r else none:=by
 show zcd a x (p::r)=_
 rw [zcd]
 split
 ·cases vq a x (qy p) <;> rfl
 ·rfl
theorem zn2 (a:Alg) (key:Tg) (t:List UInt8) (l:List Pr):zhl a key t l=cO a (vq a key (vy t)) l:=by
 unfold zhl
 cases vq a key (vy t) <;> rfl
set_option maxHeartbeats 8000000 in
theorem ziV (a:Alg) (m:Nat) (ha:AlgIn a m) (hm:m≤60000) (key:Tg) (t:List UInt8) (ht:t.length≤100000) (l:List Pr) (hl:l.length≤100000) (hpr:∀ p∈l,PrOk p) (g h k:Nat):
  ACall prog 185 [zA a,zd key,.slice none (t.map za),.slice none (l.map zU)] k [(g,yE),(h,zS)] (vR (zhl a key t l)) []:=by
 have c1:=yH [103,114,97,110,116] t (by decide) oo
 have hgm:[103,114,97,110,116]++t=vy t:=rfl
 rw [hgm] at c1
 have c2:=wk a key (vy t) (by have:=ha.ml;omega) ha.mm (by simp [vy]) (by simp [vy];omega) g
 rw [zn2]
 clear hgm
 generalize vq a key (vy t)=o0 at *
 generalize vy t=gm at *
 obtain ⟨R,hR⟩:∃ R,cO a o0 l=R:=⟨_,rfl⟩
 rw [hR]
 unfold vR at *
 refine Bd func185 ntmps185 fun σ N hp hpn hk hkn hfree=>?_
 simp only [List.mem_cons,List.not_mem_nil,or_false,forall_eq_or_imp,forall_eq] at hp hpn;obtain ⟨hd1,hd2⟩:=hp;obtain ⟨hdn1,hdn2⟩:=hpn
 have hcs:=And.intro c1 (And.intro c2 True.intro)
 clear c1 c2
 refine Wk ?_
 clear hcs
 refine ze zi (by kernel_rfl) [9,11,13,14,15,26,27,28,29,30,31,32,33,34,35,36,37,38,39,40,41,42,43,44,45,46,47,48,49,50,51,52,53,54,55] [N+4+8] (fun m_ s_ σ_ n_=>∃ (u:Nat) (o:Option Tg),m_=l.length - u∧s_ 26=.lit (.int .i64 u)∧s_ 11=.lit (.bool o.isSome)∧σ_ (N+4+8)=.box 28 (zd (o.getD zeroTag))∧(u≤l.length)∧(cO a o (l.drop u)=R)) ⟨_,0,o0,rfl,WF,WF,WF,WC,WC⟩ ?_
 intro m_1 s_1 σ_1 n_1 hs_1 hf_1 hn_1 hI_1
 obtain ⟨u,o,hm_1,h1_26,h1_11,e1_0,hu,hO⟩:=hI_1
 have h1_4:=KS hs_1 4
 have h1_8:=KS hs_1 8
 have h1_10:=KS hs_1 10
 have h1_24:=KS hs_1 24
 have h1_25:=KS hs_1 25
 have k1_0:=KE hf_1 (N)
 have k1_1:=KE hf_1 (N+2)
 have k1_2:=KE hf_1 (g)
 have k1_3:=KE hf_1 (h)
 have hlow:=KL (N:=N) (σ:=σ) hf_1
 by_cases hul:u=l.length
 ·subst hul
  rw [List.drop_length,zqS] at hO
  subst hO
  have hcs:=True.intro
  exact W0
 ·have hu1:u < l.length:=by omega
  obtain ⟨p,hz⟩:∃ p,l[u]=p:=⟨_,rfl⟩
  have hzm:(l.map zU)[u]?=some (zU p):=by rw [List.getElem?_map,List.getElem?_eq_getElem hu1,hz];rfl
  have hpo:=hpr p (by rw [← hz];exact List.getElem_mem _)
  rw [List.drop_eq_getElem_cons hu1,hz] at hO
  have c3:=zhJ p hpo h
  have hEl:=zgo p
  have c4:=yH [99,111,110,100,105,116,105,111,110] (zaZ p).1 (by decide) oo
  have hM:[99,111,110,100,105,116,105,111,110]++(zaZ p).1=qy p:=rfl
  rw [hM] at c4
  have hMl:=ziU p
  have c5:=fun x=>wk a x (qy p) (by have:=ha.ml;omega) ha.mm (by simp [qy]) oo g
  have he:yc p=false→(zaZ p).2=5:=fun hq=>by unfold zaZ;rw [hq];rfl
  have he0:yc p=true→(zaZ p).2=0:=fun hq=>by unfold zaZ;rw [hq];rfl
  clear hM hpr hz hMl
  cases o with
  | none=>
   have hO:none=R:=hO
   subst hO
   simp only [Option.getD_none,Option.isSome_none] at *
   obtain ⟨pk,pm,pf,pt,pn,px⟩:=p
   have hpA:zU ⟨pk,pm,pf,pt,pn,px⟩=.agg [.lit (.int .i64 pk),.lit (.int .u64 pm),.lit (.int .i64 pf),.lit (.int .i64 pt),.lit (.string ⟨pn.toArray⟩),.lit (.int .i64 px)]:=rfl
   rw [hpA] at hzm c3
   unfold zbu at c3
   clear c4 c5 he he0 hpA hpo ha
   have hcs:=And.intro c3 True.intro
   clear c3
   exact W0
  | some x=>
   rw [znW] at hO
   have c5:=c5 x
   generalize vq a x (qy p)=o1 at *
   generalize qy p=cm at *
   unfold vR at c5
   obtain ⟨pk,pm,pf,pt,pn,px⟩:=p
   have hpA:zU ⟨pk,pm,pf,pt,pn,px⟩=.agg [.lit (.int .i64 pk),.lit (.int .u64 pm),.lit (.int .i64 pf),.lit (.int .i64 pt),.lit (.string ⟨pn.toArray⟩),.lit (.int .i64 px)]:=rfl
   rw [hpA] at hzm c3
   unfold zbu at c3
   simp only [Option.getD_some,Option.isSome_some] at *
   cases hpb:yc ⟨pk,pm,pf,pt,pn,px⟩ with
   | false=>
    rw [he hpb] at c3
    rw [hpb] at hO
    rw [if_neg (by simp)] at hO
    subst hO
    simp only [Option.getD_none,Option.isSome_none] at *
    generalize (zaZ ⟨pk,pm,pf,pt,pn,px⟩).1=E at *
    clear c4 c5 he he0 hpA hpo ha hpb
    have e05:((5:Nat):Int)=5:=rfl
    rw [e05] at c3
    have hcs:=And.intro c3 True.intro
    clear c3
    exact W0
   | true=>
    rw [he0 hpb] at c3
    rw [hpb] at hO
    have e00:((0:Nat):Int)=0:=rfl
    rw [e00] at c3
    generalize (zaZ ⟨pk,pm,pf,pt,pn,px⟩).1=E at *
    by_cases hk7:pk=7
    ·rw [if_neg (by simp [hk7])] at hO
     subst hO
     simp only [Option.getD_none,Option.isSome_none] at *
     clear c4 c5 he he0 hpA hpo hpb ha
     have hcs:=And.intro c3 True.intro
     clear c3
     exact W0
    ·rw [if_pos ⟨rfl,hk7⟩] at hO
     clear hpA he he0 hpo hpb
     have hcs:=And.intro c3 (And.intro c4 (And.intro c5 True.intro))
     clear c3 c4 c5
     refine Wk ?_
     exact ⟨WS,WG,WN,_,(show l.length - (u+1) < m_1 by omega),u+1,o1,rfl,WF,WF,WF,WC,WC⟩
end
end Go.Proofs.YtglmjglbobhbbaaGreatDoor
namespace Go.Ab
open Go.RowKit
section
variable {W0:World} {N:Nat} {P:Program} {ops:Array Oper} {m:Nat} {out:Nat→Step}
end
end Go.Ab
namespace Go.Proofs.YtglmjglbobhbbaaGreatDoor
open _root_.Go.Proofs.Tryz
open Go.Ab
attribute [local irreducible] Go.Ab.tyAV Go.Ab.aw Go.Ab.aops Go.Ab.kReg Go.Ab.aThen Go.Ab.aBlk Go.Ab.acond Go.Ab.aguard Go.Ab.astep Go.Ab.AStepX Go.Ab.aRet
attribute [local irreducible] yE
theorem jV (m:Int) (k:Nat):
  ACall prog 210 [.lit (.int .i64 m)] k [] (.slice (some k) ((yh m).map za)) [(k,.row 5 1 8)]:=by
 have e7:=z9 m 56
 have e6:=z9 m 48
 have e5:=z9 m 40
 have e4:=z9 m 32
 have e3:=z9 m 24
 have e2:=z9 m 16
 have e1:=z9 m 8
 have e0:=z9 m 0
 simp only [Int.reducePow,Int.pow_zero,Int.fdiv_one] at e7 e6 e5 e4 e3 e2 e1 e0
 unfold yh
 generalize sh8 m 56=b7 at *
 generalize sh8 m 48=b6 at *
 generalize sh8 m 40=b5 at *
 generalize sh8 m 32=b4 at *
 generalize sh8 m 24=b3 at *
 generalize sh8 m 16=b2 at *
 generalize sh8 m 8=b1 at *
 generalize sh8 m 0=b0 at *
 refine Bd func210 ntmps210 fun σ N hp hpn hk hkn hfree=>?_
 refine Wk ?_
 refine ALoop.nilrow 3 5 1 (by simp (disch:=omega) [go_sem, *,-List.reduceReplicate]) ?_
 refine yn (N) zi (by kernel_rfl) [3,4,5,6,7,8,9,10,11,12,13,14,15] [] (fun m_ s_ σ_ n_=>∃ (u:Nat) (q:Nat) (acc:List UInt8),m_=8 - u∧s_ 4=.lit (.int .i64 (56 - 8 * (u:Int)))∧s_ 3=.slice (some q) (acc.map za)∧σ_ (q)=.row 5 1 acc.length∧(u≤8)∧(N≤q)∧(q < n_)∧(acc=[b7,b6,b5,b4,b3,b2,b1,b0].take u)) ⟨_,0,_,[],rfl,WF,WF,WF,WC,WC,WC,WC⟩ ?_
 intro m_1 s_1 σ_1 n_1 hs_1 hf_1 hn_1 hI_1
 obtain ⟨u,q,acc,hm_1,h1_4,h1_3,e1_0,hu,hq,hqn,hacc⟩:=hI_1
 have h1_0:=KS hs_1 0
 have h1_2:=KS hs_1 2
 have hlow:=KL (N:=N) (σ:=σ) hf_1
 have hb7:za b7=.lit (.int .u8 b7.toNat):=rfl
 have hb6:za b6=.lit (.int .u8 b6.toNat):=rfl
 have hb5:za b5=.lit (.int .u8 b5.toNat):=rfl
 have hb4:za b4=.lit (.int .u8 b4.toNat):=rfl
 have hb3:za b3=.lit (.int .u8 b3.toNat):=rfl
 have hb2:za b2=.lit (.int .u8 b2.toNat):=rfl
 have hb1:za b1=.lit (.int .u8 b1.toNat):=rfl
 have hb0:za b0=.lit (.int .u8 b0.toNat):=rfl
 have hcase:u=0∨u=1∨u=2∨u=3∨u=4∨u=5∨u=6∨u=7∨u=8:=by omega
 rcases hcase with rfl | hcase
 ·simp only [List.take_zero] at hacc
  subst hacc
  refine Wk ?_
  exact ⟨WS,WG,WN,_,(show 8 - (1) < m_1 by omega),1,q,[b7],rfl,WF,WF,WF,WC,WC,WC,WC⟩
 rcases hcase with rfl | hcase
 ·simp only [List.take_succ_cons,List.take_zero] at hacc
  subst hacc
  refine Wk ?_
  exact ⟨WS,WG,WN,_,(show 8 - (2) < m_1 by omega),2,q,[b7,b6],rfl,WF,WF,WF,WC,WC,WC,WC⟩
 rcases hcase with rfl | hcase
 ·simp only [List.take_succ_cons,List.take_zero] at hacc
  subst hacc
  refine Wk ?_
  exact ⟨WS,WG,WN,_,(show 8 - (3) < m_1 by omega),3,q,[b7,b6,b5],rfl,WF,WF,WF,WC,WC,WC,WC⟩
 rcases hcase with rfl | hcase
 ·simp only [List.take_succ_cons,List.take_zero] at hacc
  subst hacc
  refine Wk ?_
  exact ⟨WS,WG,WN,_,(show 8 - (4) < m_1 by omega),4,q,[b7,b6,b5,b4],rfl,WF,WF,WF,WC,WC,WC,WC⟩
 rcases hcase with rfl | hcase
 ·simp only [List.take_succ_cons,List.take_zero] at hacc
  subst hacc
  refine Wk ?_
  exact ⟨WS,WG,WN,_,(show 8 - (5) < m_1 by omega),5,q,[b7,b6,b5,b4,b3],rfl,WF,WF,WF,WC,WC,WC,WC⟩
 rcases hcase with rfl | hcase
 ·simp only [List.take_succ_cons,List.take_zero] at hacc
  subst hacc
  refine Wk ?_
  exact ⟨WS,WG,WN,_,(show 8 - (6) < m_1 by omega),6,q,[b7,b6,b5,b4,b3,b2],rfl,WF,WF,WF,WC,WC,WC,WC⟩
 rcases hcase with rfl | hcase
 ·simp only [List.take_succ_cons,List.take_zero] at hacc
  subst hacc
  refine Wk ?_
  exact ⟨WS,WG,WN,_,(show 8 - (7) < m_1 by omega),7,q,[b7,b6,b5,b4,b3,b2,b1],rfl,WF,WF,WF,WC,WC,WC,WC⟩
 rcases hcase with rfl | hcase
 ·simp only [List.take_succ_cons,List.take_zero] at hacc
  subst hacc
  refine Wk ?_
  exact ⟨WS,WG,WN,_,(show 8 - (8) < m_1 by omega),8,q,[b7,b6,b5,b4,b3,b2,b1,b0],rfl,WF,WF,WF,WC,WC,WC,WC⟩
 subst hcase
 simp only [List.take_succ_cons,List.take_zero] at hacc
 subst hacc
 clear hb7 hb6 hb5 hb4 hb3 hb2 hb1 hb0
 refine Wk ?_
 refine zQ (r0:=q) (by simp (disch:=omega) [go_sem, *,-List.reduceReplicate];rfl) oo (by simp (disch:=omega) [go_sem];try rfl) (fun id hid=>by simp (disch:=omega) only;try exact hlow id hid) (by simp (disch:=omega) [go_sem, *,-List.reduceReplicate];rfl) (by simp (disch:=omega) [go_sem])
section
variable [W:W32]
theorem zaX (key:Tg) (b:List UInt8) (hb:b.length≤90000) (g k:Nat):
  ACall prog 212 [zd key,.slice none (b.map za)] k [(g,yE)] (zd (qC key.1 ([98,111,120]++b))) []:=by
 have c1:=qA key.1 ([98,111,120]++b) (by rw [key.2];decide) (by simp) (by simp;omega) g
 generalize qC key.1 ([98,111,120]++b)=T at *
 have h98:za 98=.lit (.int .u8 98):=rfl
 have h111:za 111=.lit (.int .u8 111):=rfl
 have h120:za 120=.lit (.int .u8 120):=rfl
 have hs1:=zB key
 have hs2:=zj key
 obtain ⟨K,hK⟩:=key
 have hkA:zd ⟨K,hK⟩=.agg (K.map za):=rfl
 simp only [hkA] at hs1 hs2 c1 ⊢
 clear hkA
 have htk:(K.map za).take 32=K.map za:=List.take_of_length_le (by rw [List.length_map];omega)
 refine Bd func212 ntmps212 fun σ N hp hpn hk hkn hfree=>?_
 have M:Mut (N+2+1):=⟨⟩
 obtain ⟨hd,hdn⟩:=HD0 hp hpn;clear hp hpn
 have hcs:=And.intro c1 True.intro
 clear c1
 exact W0
omit W in
theorem zbb (key:Tg) (nonce:List UInt8) (k:Nat):
  ACall prog 244 [zd key,.slice none (nonce.map za)] k [] (.fn 259 [.view (.slice none (nonce.map za)),.view (zd key)]) []:=by
 refine Bd func244 ntmps244 fun σ N hp hpn hk hkn hfree=>?_
 refine Wm ?_
 refine Wz ?_
 refine yz 2 (id:=N) (bt:=28) (x:=zd key) (by simp (disch:=omega) [go_sem, *,-List.reduceReplicate]) (by simp (disch:=omega) [go_sem, *,-List.reduceReplicate]) ?_
 refine yz 3 (id:=N+1) (bt:=31) (x:=.slice none (nonce.map za)) (by simp (disch:=omega) [go_sem, *,-List.reduceReplicate]) (by simp (disch:=omega) [go_sem, *,-List.reduceReplicate]) ?_
 exact W0
set_option maxHeartbeats 1000000 in
theorem zav (key:Tg) (nn:Int) (R:Nat) (hR:R≤1000000) (l Nt:Nat) (r r':Loop) (s:Slots) (E:Ent) (Rw:Nat→Ent) (g x q j k:Nat) (h1:g < q) (h2:q < x) (h3:x < j)
  (hE0:E≠.none) (hR0:Rw 0≠.none) (hRr:∀ u n0 kk,j < n0→(Rw u).ren (rn n0 kk none)=Rw u) (hsr:∀ n0 kk,j < n0→(fun t=>(s t).ren (rn n0 kk none))=s)
  (hY:∀ u,u < R→∀ kk,AYield prog l [.lit (.int .i64 ((u:Int) * 32)),zd (kst key.1 nn u)] kk [(j,.loop l Nt r s),(x,E),(q,Rw u)] (.lit (.bool true)) [(j,.loop l Nt r s),(q,Rw (u+1))])
  (hZ:∀ kk,AYield prog l [.lit (.int .i64 ((R:Int) * 32)),zd (kst key.1 nn R)] kk [(j,.loop l Nt r s),(x,E),(q,Rw R)] (.lit (.bool false)) [(j,.loop l Nt r' s),(q,Rw R)]):
  ACall prog 259 [.lit (.func (.yield l) #[] #[]),.view (.slice none ((yh nn).map za)),.view (zd key)] k [(j,.loop l Nt r s),(x,E),(q,Rw 0),(g,yE)] (.tup []) [(j,.loop l Nt r' s),(q,Rw R)]:=by
 have h115:za 115=.lit (.int .u8 115):=rfl
 have h116:za 116=.lit (.int .u8 116):=rfl
 have h114:za 114=.lit (.int .u8 114):=rfl
 have h101:za 101=.lit (.int .u8 101):=rfl
 have h97:za 97=.lit (.int .u8 97):=rfl
 have h109:za 109=.lit (.int .u8 109):=rfl
 obtain ⟨E1,hE1⟩:∃ e,yh nn=e:=⟨_,rfl⟩
 have hE1l:E1.length=8:=by rw [← hE1];rfl
 have hst:∀ u:Nat,kst key.1 nn u=qC key.1 ([115,116,114,101,97,109]++(E1++yh (u:Int))):=fun u=>by rw [← hE1];rfl
 rw [hE1]
 have hs1:=zB key
 have hs2:=zj key
 obtain ⟨K,hK⟩:=key
 have hkA:zd ⟨K,hK⟩=.agg (K.map za):=rfl
 simp only [hkA] at hs1 hs2 ⊢
 simp only at hY hZ hst
 clear hkA hE1
 have htk:(K.map za).take 32=K.map za:=List.take_of_length_le (by rw [List.length_map];omega)
 refine Bd (hpre:=by simp [hE0,hR0]) func259 ntmps259 fun σ N hp hpn hk hkn hfree=>?_
 simp only [List.mem_cons,List.not_mem_nil,or_false,forall_eq_or_imp,forall_eq] at hp hpn
 obtain ⟨hd1,hd2,hd3,hd4⟩:=hp
 obtain ⟨hn1,hn2,hn3,hn4⟩:=hpn
 refine Wk ?_
 refine yn (N) zi (by kernel_rfl) [4,5,6,7,8,9,10,11,12,13,14,15,16,17,18,19,20,21,22] [j,q] (fun m_ s_ σ_ n_=>∃ (u:Nat),m_=R+1 - u∧s_ 4=.lit (.int .i64 u)∧σ_ (j)=.loop l Nt r s∧σ_ (q)=Rw u∧(u≤R)) ⟨_,0,rfl,WF,WF,WF,WC⟩ ?_
 intro m_2 s_2 σ_2 n_2 hs_2 hf_2 hn_2 hI_2
 obtain ⟨u,hm_2,h2_4,e2_0,e2_1,hu⟩:=hI_2
 have h2_0:=KS hs_2 0
 have h2_1:=KS hs_2 1
 have h2_2:=KS hs_2 2
 have k2_0:=KE hf_2 (x)
 have k2_1:=KE hf_2 (g)
 have hlow:∀ id,id < N→id≠j→id≠q→σ_2 id=σ id:=fun id hid hdd0 hdd1=>(hf_2.at id oo (by simp [hdd0,hdd1];try omega)).trans (by simp (disch:=omega) only;try first | exact hlow id hid hdd0 hdd1 | exact hlow id hid)
 have c1:=jV (u:Int)
 have c2:=qA K ([115,116,114,101,97,109]++(E1++yh (u:Int))) oo (by simp) (by rw [List.length_append,List.length_append,hE1l,xD];decide) g
 rw [← hst u] at c2
 have hE2l:=xD (u:Int)
 generalize yh (u:Int)=E2 at *
 clear hst
 have M:Mut n_2:=⟨⟩
 by_cases huR:u=R
 ·subst huR
  have c3:=hZ
  generalize kst K nn u=T at *
  have hcs:=And.intro c1 (And.intro c2 (And.intro c3 True.intro))
  clear c1 c2 c3 hY hZ
  refine Wk ?_
  refine yd [(j,.loop l Nt r' s),(q,Rw u)] (by simp (disch:=omega) [go_sem, *,-List.reduceReplicate];rfl) rfl (fun id hid=>?_) (by simp) (by simp only [zfj,List.map_cons,List.map_nil,hRr _ _ _ hn1];rw [show Ent.ren (rn N k none) (.loop l Nt r' s)=.loop l Nt r' (fun t=>(s t).ren (rn N k none)) from rfl,hsr _ _ hn1])
  simp only [zF,yi]
  by_cases i1:id=j
  ·subst i1;simp (disch:=omega) [go_sem, *]
  by_cases i2:id=q
  ·subst i2;simp (disch:=omega) [go_sem, *]
  simp (disch:=omega) only [zg]
  exact hlow id hid i1 i2
 ·have c3:=hY u oo
  generalize kst K nn u=T at *
  have hcs:=And.intro c1 (And.intro c2 (And.intro c3 True.intro))
  clear c1 c2 c3 hY hZ
  refine Wk ?_
  exact ⟨WS,WG,WN,_,(show R+1 - (u+1) < m_2 by omega),u+1,rfl,WF,WF,WF,WC⟩
end
section
variable [W:W32]
theorem zmA {key:Tg} {nn:Int} {b P:List UInt8} (hP:P.length=b.length) (hAt:∀ i (hi:i < b.length),P[i]'oo=x8 b[i] ((kst key.1 nn (i / 32)).1[i % 32]'(by rw [(kst key.1 nn (i / 32)).2];omega))) {u:Nat}:
  ∀ i (hi:i < b.length),u * 32≤i→i < u * 32+32→∃ y,(kst key.1 nn u).1[i - u * 32]?=some y∧P[i]?=some (x8 b[i] y):=fun i hi h1 h2=>by
 have hq:i / 32=u:=by omega
 have hr:i % 32=i - u * 32:=by omega
 have h:=hAt i hi
 simp only [hq,hr] at h
 exact ⟨_,List.getElem?_eq_getElem (by rw [(kst key.1 nn u).2];omega),by rw [List.getElem?_eq_getElem oo,h]⟩
end
section
variable [W:W32]
def zgm (N L:Nat):Ent:=.box 31 (.ms (N+2+1) 1 1 0 L)
def zab (P b:List UInt8) (u:Nat):Ent:=.mrow 1 5 1 ((zio P b (min b.length (u * 32))).map za)
omit W in
theorem zaz (P b:List UInt8) (u:Nat) (f:Nat→Option Nat):(zab P b u).ren f=zab P b u:=by
 simp only [zab,zeg,xr]
omit W in
theorem zce (N L:Nat):zgm N L≠.none:=by simp [zgm]
omit W in
theorem zcf (P b:List UInt8) (u:Nat):zab P b u≠.none:=by simp [zab]
def zee (N f:Nat) (key:Tg) (E1 b:List UInt8):Slots:=upd (upd (upd (upd (upd (upd (upd (upd (zcB [zd key,.slice none (E1.map za),.slice none (b.map za)]) 3 (.ptr N [] 0)) 6 .nils) 11 (.slice none (b.map za))) 12 (.ms (N+2+(0+1)) 1 1 0 b.length)) 7 (.ptr (N+2+2) [] 0)) 13 (zd key)) 14 (.slice none (E1.map za))) 15 (.fn f [.view (.slice none (E1.map za)),.view (zd key)])
omit W in
theorem zgn (N f:Nat) (key:Tg) (E1 b:List UInt8) (n0 kk:Nat) (h:N+9 < n0):(fun t=>(zee N f key E1 b t).ren (rn n0 kk none))=zee N f key E1 b:=by
 unfold zee
 have r0:rn n0 kk none N=some N:=zkB oo
 have r1:rn n0 kk none (N+2+(0+1))=some (N+2+(0+1)):=zkB oo
 have r2:rn n0 kk none (N+2+2)=some (N+2+2):=zkB oo
 refine wm _ _ (wm _ _ (wm _ _ (wm _ _ (wm _ _ (wm _ _ (wm _ _ (wm _ _ (zgX ?_) ?_) ?_) ?_) ?_) ?_) ?_) ?_) ?_
 ·simp only [AV.renl,AV.ren,xr,Option.bind_none,xR]
 ·simp only [AV.ren,r0]
 ·rfl
 ·simp only [AV.ren,xr,Option.bind_none]
 ·simp only [AV.ren,r1]
 ·simp only [AV.ren,r2]
 ·simp only [xR]
 ·simp only [AV.ren,xr,Option.bind_none]
 ·simp only [AV.ren,AV.renl,xr,Option.bind_none,xR]
set_option maxHeartbeats 4000000 in
theorem zaY (key:Tg) (nn:Int) (b:List UInt8) (hb:b.length≤100000) (g k:Nat):
  ACall prog 211 [zd key,.slice none ((yh nn).map za),.slice none (b.map za)] k [(g,yE)] (.slice none ((jz key.1 nn b).map za)) []:=by
 have c1:=zb5 b oo
 have c2:=zbb key (yh nn)
 have hP:=qL key.1 nn b
 have hat:=ze5 key.1 nn b
 generalize hPP:jz key.1 nn b=P at *
 have hAt:∀ i (hi:i < b.length),P[i]'oo=x8 b[i] ((kst key.1 nn (i / 32)).1[i % 32]'(by rw [(kst key.1 nn (i / 32)).2];omega)):=fun i hi=>hat i hi _ _
 clear hat hPP
 have hm0:zab P b 0=.mrow 1 5 1 (b.map za):=by simp [zab,zpa]
 have hmR:zab P b ((b.length+31) / 32)=.mrow 1 5 1 (P.map za):=by
  unfold zab
  rw [Nat.min_eq_left oo,ziy hP]
 obtain ⟨R,hRd⟩:∃ R,(b.length+31) / 32=R:=⟨_,rfl⟩
 rw [hRd] at hmR
 refine Bd func211 ntmps211 fun σ N hp hpn hk hkn hfree=>?_
 obtain ⟨hd,hdn⟩:=HD0 hp hpn;clear hp hpn
 have hcs:=And.intro c1 (And.intro c2 True.intro)
 clear c1 c2
 refine Wk ?_
 clear hcs
 change aw _ _ _ _ ⟨zee N 259 key (yh nn) b,_,_⟩
 refine zbf (.exit 0) (f:=259) (caps:=[.view (.slice none ((yh nn).map za)),.view (zd key)]) (pre:=[(N+2+2,zgm N b.length),(N+2+1,zab P b 0),(g,yE)])
  (post:=[(N+2+1,zab P b R)]) (res:=.tup []) (by unfold zee;simp (disch:=omega) [go_sem, *,-List.reduceReplicate]) (by rw [hm0];unfold zgm;intro p hp;simp at hp;rcases hp with rfl | rfl | rfl <;> (simp (disch:=omega) [go_sem, *,-List.reduceReplicate])) (by simp;omega) (by simp) ?_ ?_
 ·intro l r hst hpe hps hA hB
  refine ⟨.done,by simp,?_⟩
  refine zav key nn R oo l 47 r { r with state:=.done,pending:=ww (.exit 0) } (zee N 259 key (yh nn) b) (zgm N b.length) (fun u=>zab P b u) g (N+2+2) (N+2+1) (N+9+1) (N+9+2) oo oo oo (zce _ _) (zcf _ _ _) (fun u n0 kk h=>zaz _ _ _ _) (fun n0 kk h=>zgn _ _ _ _ _ _ _ oo) ?_ ?_
  ·intro u hu kk
   have hu32:u * 32 < b.length:=by omega
   have hyl:=AYield.of_body (P:=prog) (l:=l) (N:=47) (r:=r) (s:=zee N 259 key (yh nn) b) (j:=N+9+1) (k:=kk) (args:=[.lit (.int .i64 ((u:Int) * 32)),zd (kst key.1 nn u)]) (pre:=[(N+2+2,zgm N b.length),(N+2+1,zab P b u)]) (ws:=[(N+2+1,zab P b (u+1))]) (post:=[(N+2+1,zab P b (u+1))])
    .normal zi hst (ps:=[16,17]) (by rw [hps]) hA hB rfl (by simp) (by kernel_rfl) (by kernel_rfl) (by kernel_rfl) (by kernel_rfl) (by simp [zce,zcf]) (by simp) (by simp) (by simp) ?_
   ·rw [zaA hst hpe] at hyl
    exact hyl
   ·clear hA hB hm0 hmR hd hdn hk hkn hfree
    obtain ⟨N0,hN0⟩:∃ N0,N0=N:=⟨N,rfl⟩
    subst hN0
    intro σ N hp hpn hj hjn hk hkn hfree
    simp only [List.mem_cons,List.not_mem_nil,or_false,forall_eq_or_imp,forall_eq] at hp hpn
    obtain ⟨e1,e2⟩:=hp
    obtain ⟨n1,n2⟩:=hpn
    refine ⟨by simp only [zfj,List.map_cons,List.map_nil,zaz],?_⟩
    have hT:=zmA hP hAt (u:=u)
    have hTl:=(kst key.1 nn u).2
    generalize kst key.1 nn u=T at *
    obtain ⟨T,hT32⟩:=T
    simp only at hT hTl
    have hTA:zd ⟨T,hT32⟩=.agg (T.map za):=rfl
    have hs1:=zB ⟨T,hT32⟩
    have hs2:=zj ⟨T,hT32⟩
    rw [hTA] at hs1 hs2 ⊢
    clear hTA hAt
    have ha:(u:Int) * 32=((u * 32:Nat):Int):=by omega
    rw [ha]
    clear ha
    unfold zgm zab at *
    rw [Nat.min_eq_right (Nat.le_of_lt hu32)] at e2
    obtain ⟨e,he⟩:∃ e,min b.length ((u+1) * 32)=e:=⟨_,rfl⟩
    rw [he]
    have he1:u * 32≤e:=by omega
    have he2:e≤b.length:=by omega
    have he3:e≤u * 32+32:=by omega
    have he4:e < b.length→e=u * 32+32:=by omega
    clear he
    generalize u * 32=a at *
    have hage:¬ ((b.length:Int)≤(a:Int)):=by omega
    unfold zee zcC zcC zcC at *
    refine Wk ?_
    refine ⟨rfl,by simp (disch:=omega) [go_sem, *,-List.reduceReplicate],?_⟩
    refine Wk ?_
    obtain ⟨C0,hC0⟩:∃ c,zio P b a=c:=⟨_,rfl⟩
    rw [hC0] at e2
    refine yn (N+3) zi (by kernel_rfl) [10,23,24,25,26,27,28,29,30,31,32,33,34,35,36,37,38,39,40,41,42,43,44,45] [N0+2+1] (fun m_ s_ σ_ n_=>∃ (i:Nat) (cur:List UInt8),m_=e - i∧s_ 10=.lit (.int .i64 i)∧σ_ (N0+2+1)=.mrow 1 5 1 (cur.map za)∧(a≤i)∧(i≤e)∧(zio P b i=cur)) ⟨_,a,C0,rfl,WF,WF,WC,WC,WC⟩ ?_
    intro m_1 s_1 σ_1 n_1 hs_1 hf_1 hn_1 hI_1
    obtain ⟨i,cur,hm_1,h1_10,e1_0,hi1,hi2,hc⟩:=hI_1
    have h1_6:=KS hs_1 6
    have h1_7:=KS hs_1 7
    have h1_8:=KS hs_1 8
    have h1_9:=KS hs_1 9
    have k1_0:=KE hf_1 (N0+2+2)
    have k1_1:=KE hf_1 (N0+9+1)
    have k1_2:=KE hf_1 (N+1+0)
    have hlow:∀ id,id < N→id≠N0+2+1→id≠N0+9+1→σ_1 id=σ id:=fun id hid hdd0 hdd1=>(hf_1.at id oo (by simp [hdd0];try omega)).trans (by simp (disch:=omega) only [zg];try first | exact hlow id hid hdd0 hdd1 | exact hlow id hid)
    by_cases hie:i=e
    ·subst hie
     rw [hc]
     have hend:(i:Int) < (b.length:Int)→¬ ((i:Int) < (a:Int)+32):=fun h=>by have:=he4 oo;omega
     by_cases hib:i=b.length
     ·have hib1:¬ ((i:Int) < (b.length:Int)):=by omega
      clear hT hend
      refine Wk ?_
      refine ⟨rfl,fun id hid=>?_⟩
      simp only [zF,yi]
      by_cases i1:id=N0+2+1
      ·subst i1;simp (disch:=omega) [go_sem, *]
      by_cases i2:id=N0+9+1
      ·subst i2;simp (disch:=omega) [go_sem, *]
      simp (disch:=omega) only [zg]
      exact hlow id hid i1 i2
     ·have hib1:((i:Int) < (b.length:Int)):=by omega
      have hib2:=hend hib1
      clear hT hend
      refine Wk ?_
      refine ⟨rfl,fun id hid=>?_⟩
      simp only [zF,yi]
      by_cases i1:id=N0+2+1
      ·subst i1;simp (disch:=omega) [go_sem, *]
      by_cases i2:id=N0+9+1
      ·subst i2;simp (disch:=omega) [go_sem, *]
      simp (disch:=omega) only [zg]
      exact hlow id hid i1 i2
    ·have hil:i < b.length:=by omega
     have hib1:((i:Int) < (b.length:Int)):=by omega
     have hib2:((i:Int) < (a:Int)+32):=by omega
     obtain ⟨y,hy,hPy⟩:=hT i hil hi1 oo
     have hcl:=ziz hP i oo
     have ha0:=zlM hP i hil
     have hset0:=ziA hP i oo
     rw [hc] at hcl ha0 hset0
     have hPi:P[i]'oo=x8 b[i] y:=by
      rw [List.getElem?_eq_getElem oo] at hPy
      exact Option.some.inj hPy
     rw [hPi] at hset0
     obtain ⟨z,hz⟩:∃ z,b[i]=z:=⟨_,rfl⟩
     rw [List.getElem?_eq_getElem hil,hz] at ha0
     rw [hz] at hset0
     have hset:=zbn cur i (x8 z y)
     rw [hset0] at hset
     have hx:=znA z y
     generalize x8 z y=v at *
     have hyb:za y=.lit (.int .u8 y.toNat):=rfl
     have hzb:za z=.lit (.int .u8 z.toNat):=rfl
     have hvb:za v=.lit (.int .u8 v.toNat):=rfl
     rw [hvb] at hset
     generalize hc':zio P b (i+1)=cn at *
     have hic:i < cur.length:=by omega
     have hci:cur[i]=z:=by rw [List.getElem?_eq_getElem hic] at ha0;exact Option.some.inj ha0
     obtain ⟨dd,hdd⟩:∃ dd:Nat,i - a=dd:=⟨_,rfl⟩
     rw [hdd] at hy
     have hsub:(i:Int) - (a:Int)=(dd:Int):=by omega
     have hdd32:dd < 32:=by omega
     have hyT:T[dd]'oo=y:=by rw [List.getElem?_eq_getElem oo] at hy;exact Option.some.inj hy
     clear hy ha0
     clear hT hPi hPy hdd hset0 hz hc
     refine Wk ?_
     exact ⟨WS,WG,WN,_,(show e - (i+1) < m_1 by omega),i+1,cn,rfl,WF,WF,WC,WC,WC⟩
  ·intro kk
   have hR32:b.length≤R * 32:=by omega
   have hyl:=AYield.of_body (P:=prog) (l:=l) (N:=47) (r:=r) (s:=zee N 259 key (yh nn) b) (j:=N+9+1) (k:=kk) (args:=[.lit (.int .i64 ((R:Int) * 32)),zd (kst key.1 nn R)]) (pre:=[(N+2+2,zgm N b.length),(N+2+1,zab P b R)]) (ws:=[(N+2+1,zab P b R)]) (post:=[(N+2+1,zab P b R)])
    (.exit 0) zi hst (ps:=[16,17]) (by rw [hps]) hA hB rfl (by simp) (by kernel_rfl) (by kernel_rfl) (by kernel_rfl) (by kernel_rfl) (by simp [zce,zcf]) (by simp) (by simp) (by simp) ?_
   ·exact hyl
   ·clear hA hB hm0 hmR hd hdn hk hkn hfree
    obtain ⟨N0,hN0⟩:∃ N0,N0=N:=⟨N,rfl⟩
    subst hN0
    intro σ N hp hpn hj hjn hk hkn hfree
    simp only [List.mem_cons,List.not_mem_nil,or_false,forall_eq_or_imp,forall_eq] at hp hpn
    obtain ⟨e1,e2⟩:=hp
    obtain ⟨n1,n2⟩:=hpn
    refine ⟨by simp only [zfj,List.map_cons,List.map_nil,zaz],?_⟩
    generalize kst key.1 nn R=T at *
    have ha:(R:Int) * 32=((R * 32:Nat):Int):=by omega
    rw [ha]
    clear ha
    unfold zgm zab at *
    rw [Nat.min_eq_left hR32] at e2 ⊢
    generalize R * 32=a at *
    have hage:(b.length:Int)≤(a:Int):=by omega
    unfold zee zcC zcC zcC at *
    refine Wk ?_
    refine ⟨rfl,by simp (disch:=omega) [go_sem, *,-List.reduceReplicate],?_⟩
    refine Wk ?_
    refine ⟨rfl,fun id hid=>?_⟩
    simp only [zF,yi]
    by_cases i1:id=N0+2+1
    ·subst i1;simp (disch:=omega) [go_sem, *]
    by_cases i2:id=N0+9+1
    ·subst i2;simp (disch:=omega) [go_sem, *]
    simp (disch:=omega) only [zg]
 ·intro l r
  rw [hmR]
  unfold zee
  apply kP
  apply zek
  refine yM (N+2+2) [] (r:=N+2+1) (ver:=1) (size:=1) (e:=5) (bt:=31) (c:=.ms (N+2+1) 1 1 0 b.length) (xs:=P.map za) (k:=b.length) (by simp (disch:=omega) [go_sem, *,-List.reduceReplicate]) (by simp (disch:=omega) [go_sem, *,-List.reduceReplicate]) rfl (by rw [List.length_map,hP]) ?_
  exact WM
end
section
variable [W:W32]
end
def bI (key:Tg) (nonce:Int) (plain:List UInt8):List BoxE→Nat→Int
 | [],_=>-1
 | e::r,u=>if e.key=key∧e.nonce=nonce∧e.plain=plain then u else bI key nonce plain r (u+1)
theorem ziN {key:Tg} {nonce:Int} {plain:List UInt8}:∀ (L:List BoxE) (u:Nat),zhV key nonce plain L=none→bI key nonce plain L u=-1
 | [],_,_=>rfl
 | e::r,u,h=>by
  rw [zhV] at h
  split at h
  ·cases h
  ·rename_i hn
   rw [bI,if_neg hn]
   exact ziN r _ h
theorem ziO {key:Tg} {nonce:Int} {plain t:List UInt8}:∀ (L:List BoxE) (u:Nat),zhV key nonce plain L=some t→∃ (i:Nat) (h:i < L.length),bI key nonce plain L u=((u+i:Nat):Int)∧(L[i]).box=t
 | [],_,h=>by cases h
 | e::r,u,h=>by
  rw [zhV] at h
  split at h
  ·rename_i hc
   injection h with h
   exact ⟨0,by simp,by rw [bI,if_pos hc,Nat.add_zero],h⟩
  ·rename_i hn
   obtain ⟨i,hi,h1,h2⟩:=ziO r (u+1) h
   exact ⟨i+1,by simp;omega,by rw [bI,if_neg hn,h1];congr 1;omega,h2⟩
theorem ziS (e:BoxE) (key:Tg) (nonce:Int) (plain:List UInt8) (he:e.plain.length≤100000) (hm:plain.length≤1000000) (k:Nat):
  ACall prog 243 [zo e,.view (zd key),.view (.lit (.int .i64 nonce)),.view (.slice none (plain.map za))] k [] (.lit (.bool (decide (e.key=key∧e.nonce=nonce∧e.plain=plain)))) []:=by
 obtain ⟨zk,zn,zp,zb⟩:=e
 simp only at he ⊢
 have c1:=xB zp plain oo oo
 have hzd:zo ⟨zk,zn,zp,zb⟩=.agg [zd zk,.lit (.int .i64 zn),bAV zp,bAV zb]:=rfl
 have hzb:=qS zp
 by_cases h1:zk=key
 ·have d1:decide (zk=key)=true:=decide_eq_true h1
  by_cases h3:zn=nonce
  ·have d3:decide (zn=nonce)=true:=decide_eq_true h3
   have d3':(zn == nonce)=true:=by simp [h3]
   by_cases h2:zp=plain
   ·have d2:decide (zp=plain)=true:=decide_eq_true h2
    rw [decide_eq_true (show zk=key∧zn=nonce∧zp=plain from ⟨h1,h3,h2⟩)]
    rw [d2] at c1
    refine Bd func243 ntmps243 fun σ N hp hpn hk hkn hfree=>?_
    have hcs:=And.intro c1 True.intro
    clear c1 h1 h2 d2 h3
    exact W0
   ·have d2:decide (zp=plain)=false:=decide_eq_false h2
    rw [decide_eq_false (show ¬ (zk=key∧zn=nonce∧zp=plain) from fun h=>h2 h.2.2)]
    rw [d2] at c1
    refine Bd func243 ntmps243 fun σ N hp hpn hk hkn hfree=>?_
    have hcs:=And.intro c1 True.intro
    clear c1 h1 h2 d2 h3
    exact W0
  ·have d3:decide (zn=nonce)=false:=decide_eq_false h3
   have d3':(zn == nonce)=false:=by simp [h3]
   rw [decide_eq_false (show ¬ (zk=key∧zn=nonce∧zp=plain) from fun h=>h3 h.2.1)]
   refine Bd func243 ntmps243 fun σ N hp hpn hk hkn hfree=>?_
   clear c1 h1 h3
   exact W0
 ·have d1:decide (zk=key)=false:=decide_eq_false h1
  rw [decide_eq_false (show ¬ (zk=key∧zn=nonce∧zp=plain) from fun h=>h1 h.1)]
  refine Bd func243 ntmps243 fun σ N hp hpn hk hkn hfree=>?_
  clear c1 h1
  exact W0
theorem zfo (L:List BoxE) (key:Tg) (nonce:Int) (plain:List UInt8) (hl:L.length≤1000000) (hm:∀ e∈L,e.plain.length≤100000∧e.box.length≤100000) (hp0:plain.length≤1000000) (k:Nat):
  ACall prog 242 [.slice none (L.map zo),.fn 243 [.view (zd key),.view (.lit (.int .i64 nonce)),.view (.slice none (plain.map za))]] k [] (.lit (.int .i64 (bI key nonce plain L 0))) []:=by
 obtain ⟨R,hR⟩:∃ R,bI key nonce plain L 0=R:=⟨_,rfl⟩
 rw [hR]
 have hdr:L.drop 0=L:=rfl
 refine Bd func242 ntmps242 fun σ N hp hpn hk hkn hfree=>?_
 refine Wk ?_
 refine ze zi (by kernel_rfl) [4,5,8,9,10,11,12,13,14,15,16,17,18] [] (fun m_ s_ σ_ n_=>∃ (u:Nat),m_=L.length - u∧s_ 8=.lit (.int .i64 u)∧(u≤L.length)∧(bI key nonce plain (L.drop u) u=R)) ⟨_,0,rfl,WF,WC,WC⟩ ?_
 intro m_1 s_1 σ_1 n_1 hs_1 hf_1 hn_1 hI_1
 obtain ⟨u,hm_1,h1_8,hu,hno⟩:=hI_1
 have h1_0:=KS hs_1 0
 have h1_1:=KS hs_1 1
 have h1_7:=KS hs_1 7
 have hlow:=KL (N:=N) (σ:=σ) hf_1
 clear hR hdr
 by_cases hul:u=L.length
 ·subst hul
  rw [List.drop_length] at hno
  simp only [bI] at hno
  subst hno
  clear hm
  exact W0
 ·have hu1:u < L.length:=by omega
  rw [List.drop_eq_getElem_cons hu1,bI] at hno
  have hmz:=(hm _ (List.getElem_mem hu1)).1
  obtain ⟨z,hz⟩:∃ z,L[u]=z:=⟨_,rfl⟩
  rw [hz] at hno hmz
  have c1:=ziS z key nonce plain hmz hp0
  by_cases hc:z.key=key∧z.nonce=nonce∧z.plain=plain
  ·rw [if_pos hc] at hno
   subst hno
   rw [decide_eq_true hc] at c1
   have hcs:=And.intro c1 True.intro
   clear c1 hm hc hmz
   exact W0
  ·rw [if_neg hc] at hno
   rw [decide_eq_false hc] at c1
   have hcs:=And.intro c1 True.intro
   clear c1 hm hc hmz
   refine Wk ?_
   exact ⟨WS,WG,WN,_,(show L.length - (u+1) < m_1 by omega),u+1,rfl,WF,WC,WC⟩
section
variable [W:W32]
theorem zfw (key:Tg) (nn:Int) (plain:List UInt8) (hp0:plain.length≤10000) (g k:Nat):
  ACall prog 209 [.view (.lit (.int .i64 nn)),.view (zd key),.view (.slice none (plain.map za))] k [(g,yE)] (.slice none ((zcw key.1 nn plain).map za)) []:=by
 have c1:=jV nn
 have c2:=zaY key nn plain oo g
 have hE:=xD nn
 have hS:=qL key.1 nn plain
 have c3:=zaX key (yh nn++jz key.1 nn plain) (by rw [List.length_append,hE,hS];omega) g
 unfold zcw
 generalize qC key.1 ([98,111,120]++(yh nn++jz key.1 nn plain))=T at *
 generalize yh nn=E at *
 generalize jz key.1 nn plain=S at *
 have hbm:E.map za++S.map za=(E++S).map za:=by rw [List.map_append]
 have hbl:E.length+S.length=(E++S).length:=by rw [List.length_append]
 have hbs:(E++S).length≤20000:=by rw [List.length_append];omega
 generalize E++S=b0 at *
 have ht1:=zB T
 have ht2:=zj T
 obtain ⟨T,hT⟩:=T
 have htA:zd ⟨T,hT⟩=.agg (T.map za):=rfl
 simp only [htA] at c3 ht1 ht2 ⊢
 clear htA
 have htk2:(T.map za).take 32=T.map za:=List.take_of_length_le (by rw [List.length_map];omega)
 have hbbm:b0.map za++T.map za=(b0++T).map za:=by rw [List.map_append]
 generalize b0++T=bb at *
 refine Bd func209 ntmps209 fun σ N hp hpn hk hkn hfree=>?_
 obtain ⟨hd,hdn⟩:=HD0 hp hpn;clear hp hpn
 have hcs:=And.intro c1 (And.intro c2 (And.intro c3 True.intro))
 clear c1 c2 c3
 exact WM
end
theorem RV2 {P:Program} {rs:List ResultVar} {k:Nat} {σ0:Nat→Ent} {n0:Nat} {pre post:Foot} {r r0:AV} {c:Cfg} (d1:Nat) (E1:Ent) (d2:Nat) (E2:Ent) (h1:kJ P c rs=some r0:=by simp (disch:=omega) [go_sem, *,-List.reduceReplicate];rfl) (hle:AV.le r0 r:=by first | exact AV.le_refl _ | ((first | apply AV.le_slices | apply AV.le_nilsE | apply AV.le_clipE);first | rfl | (simp (disch:=omega) [go_sem, *,-List.reduceReplicate];done)) | (apply AV.sub_tup;repeat' first | exact ALe.nil | exact AV.le_refl _ | apply ALe.cons | ((first | apply AV.le_slices | apply AV.le_nilsE | apply AV.le_clipE);first | rfl | (simp (disch:=omega) [go_sem, *,-List.reduceReplicate];done)))) (h2:r.ren (rn n0 k none)=r:=by first | rfl | (simp (disch:=omega) [go_sem];done) | (simp (disch:=omega) [go_sem, *];done) | simp (disch:=omega) [go_sem])
  (ha:c.σ d1=E1:=by simp (disch:=omega) [go_sem, *]) (hb:c.σ d2=E2:=by simp (disch:=omega) [go_sem, *]) (h3:∀ id,id < n0→id≠d1→id≠d2→c.σ id=σ0 id:=by intro id hid hdd hdd2;simp (disch:=omega) only [zg,zF,yi];try (first | exact hlow id hid hdd hdd2 | exact hlow id hid)) (h4:∃ p∈pre,p.1=d1:=by simp) (h6:∃ p∈pre,p.1=d2:=by simp) (h5:zfj (rn n0 k none) [(d1,E1),(d2,E2)]=post:=by simp (disch:=omega) [go_sem, *]):aRet P rs k σ0 n0 pre r post .ret c:=
 zfK [(d1,E1),(d2,E2)] h1 hle h2 (fun id hid=>by
  rw [zF,zF,yi]
  by_cases hdd:id=d2
  ·subst hdd;rw [zr,hb]
  ·rw [zg _ _ _ _ hdd]
   by_cases hde:id=d1
   ·subst hde;rw [zr,ha]
   ·rw [zg _ _ _ _ hde];exact h3 id hid hde hdd) (fun q hq=>by
  simp only [List.mem_cons,List.not_mem_nil,or_false] at hq
  rcases hq with rfl | rfl
  ·exact h4
  ·exact h6) h5
section
variable [W:W32]
def zcp (a:Alg) (e:Nat) (key:Tg) (nn:Int) (plain:List UInt8):Alg × Nat × List UInt8:=
 if e≠0 then (a,e,[]) else match zhV key nn plain a.boxes with
  | some b=>(a,0,b)
  | none=>if 65536≤a.boxes.length then (a,2,[]) else ({ a with boxes:=a.boxes++[⟨key,nn,plain,zg0 a key nn plain⟩] },0,zg0 a key nn plain)
set_option maxHeartbeats 4000000 in
theorem zaF (a:Alg) (e:Nat) (key:Tg) (nn:Int) (plain:List UInt8) (hl:a.boxes.length≤1000000) (hm:∀ x∈a.boxes,x.plain.length≤100000∧x.box.length≤100000) (hp0:plain.length≤10000) (d r1 r2 g k:Nat):
  ACall prog 208 [.ptr d [] 0,zd key,.lit (.int .i64 nn),.slice none (plain.map za),.fn 209 [.view (.lit (.int .i64 nn)),.view (zd key),.view (.slice none (plain.map za))]] k (vA a e d r1 r2++[(g,yE)])
   (.slice none ((zcp a e key nn plain).2.2.map za)) [(d,zcM (zcp a e key nn plain).1 (zcp a e key nn plain).2.1 r1 r2),(r2,ztS (zcp a e key nn plain).1.boxes.length)]:=by
 obtain ⟨fr,sd,fs,L,B⟩:=a
 simp only at hl hm
 unfold vA
 simp only [List.cons_append,List.nil_append]
 by_cases he0:e=0
 ·subst he0
  have c2:=zfo B key nn plain hl hm oo
  cases he:zhV key nn plain B with
  | some t=>
   have hmb:zcp ⟨fr,sd,fs,L,B⟩ 0 key nn plain=(⟨fr,sd,fs,L,B⟩,0,t):=by unfold zcp;simp only [he];rfl
   rw [hmb]
   obtain ⟨i,hi,hfi,hti⟩:=ziO B 0 he
   rw [hfi,Nat.zero_add] at c2
   have hbt:t.length≤100000:=by rw [← hti];exact (hm _ (List.getElem_mem hi)).2
   obtain ⟨z,hz⟩:∃ z,B[i]=z:=⟨_,rfl⟩
   rw [hz] at hti
   have hzm:(B.map zo)[i]?=some (zo z):=by rw [List.getElem?_map,List.getElem?_eq_getElem hi,hz];rfl
   obtain ⟨zk,zn,zp,zb⟩:=z
   simp only at hti
   subst hti
   have hzd:zo ⟨zk,zn,zp,zb⟩=.agg [zd zk,.lit (.int .i64 zn),bAV zp,bAV zb]:=rfl
   have hzb:=qS zb
   have c3:=yC zb oo
   simp only [qr,zP,zO] at *
   refine Bd func208 ntmps208 fun σ N hp hpn hk hkn hfree=>?_
   simp only [List.mem_cons,List.not_mem_nil,or_false,forall_eq_or_imp,forall_eq] at hp hpn;obtain ⟨hd1,hd2,hd3,hd4⟩:=hp;obtain ⟨hdn1,hdn2,hdn3,hdn4⟩:=hpn
   have hne:d≠r1:=by rintro rfl;rw [hd1] at hd2;cases hd2
   have hne3:d≠r2:=by rintro rfl;rw [hd1] at hd3;cases hd3
   have hneg:g≠d:=by rintro rfl;rw [hd4] at hd1;exact ya hd1
   have hneg1:g≠r2:=by rintro rfl;rw [hd4] at hd3;exact yb hd3
   refine Wm ?_
   refine Wz ?_
   refine yz 6 (id:=N) (bt:=28) (x:=zd key) (by simp (disch:=omega) [go_sem, *,-List.reduceReplicate]) (by simp (disch:=omega) [go_sem, *,-List.reduceReplicate]) ?_
   refine yz 7 (id:=N+1) (bt:=3) (x:=.lit (.int .i64 nn)) (by simp (disch:=omega) [go_sem, *,-List.reduceReplicate]) (by simp (disch:=omega) [go_sem, *,-List.reduceReplicate]) ?_
   refine yz 8 (id:=N+2) (bt:=31) (x:=.slice none (plain.map za)) (by simp (disch:=omega) [go_sem, *,-List.reduceReplicate]) (by simp (disch:=omega) [go_sem, *,-List.reduceReplicate]) ?_
   have hcs:=And.intro c2 (And.intro c3 True.intro)
   clear c2 c3 hm he hfi hmb
   refine Wk ?_
   exact RV2 (d) ((.box 249 (.agg [.agg [.lit (.bool fr),zd sd,.lit (.int .i64 fs),.slice (some r1) (L.map zJ),.slice (some r2) (B.map zo)],.lit (.int .i64 0)]))) (r2) ((.row 192 35 B.length))
  | none=>
   rw [ziN B 0 he] at c2
   have c3:=zeA 98 (B.length+1) oo
   have e98:((98:UInt8).toNat:Int)=98:=rfl
   have hn1:((B.length+1:Nat):Int)=(B.length:Int)+1:=by omega
   rw [e98,hn1] at c3
   by_cases hf:65536≤B.length
   ·have hmb:zcp ⟨fr,sd,fs,L,B⟩ 0 key nn plain=(⟨fr,sd,fs,L,B⟩,2,[]):=by unfold zcp;simp only [he,if_pos hf];rfl
    rw [hmb]
    have hfi:(65536:Int) < (B.length:Int)+1:=by omega
    have c1:=xN ⟨fr,sd,fs,L,B⟩ 0 2
    rw [if_pos rfl] at c1
    unfold vA at c1
    have e02:((2:Nat):Int)=2:=rfl
    clear c3 e98 hn1
    simp only [qr,zP,zO,e02] at *
    refine Bd func208 ntmps208 fun σ N hp hpn hk hkn hfree=>?_
    simp only [List.mem_cons,List.not_mem_nil,or_false,forall_eq_or_imp,forall_eq] at hp hpn;obtain ⟨hd1,hd2,hd3,hd4⟩:=hp;obtain ⟨hdn1,hdn2,hdn3,hdn4⟩:=hpn
    have hne:d≠r1:=by rintro rfl;rw [hd1] at hd2;cases hd2
    have hne3:d≠r2:=by rintro rfl;rw [hd1] at hd3;cases hd3
    have hneg:g≠d:=by rintro rfl;rw [hd4] at hd1;exact ya hd1
    have hneg1:g≠r2:=by rintro rfl;rw [hd4] at hd3;exact yb hd3
    refine Wm ?_
    refine Wz ?_
    refine yz 6 (id:=N) (bt:=28) (x:=zd key) (by simp (disch:=omega) [go_sem, *,-List.reduceReplicate]) (by simp (disch:=omega) [go_sem, *,-List.reduceReplicate]) ?_
    refine yz 7 (id:=N+1) (bt:=3) (x:=.lit (.int .i64 nn)) (by simp (disch:=omega) [go_sem, *,-List.reduceReplicate]) (by simp (disch:=omega) [go_sem, *,-List.reduceReplicate]) ?_
    refine yz 8 (id:=N+2) (bt:=31) (x:=.slice none (plain.map za)) (by simp (disch:=omega) [go_sem, *,-List.reduceReplicate]) (by simp (disch:=omega) [go_sem, *,-List.reduceReplicate]) ?_
    have hcs:=And.intro c2 (And.intro (c1 d r1 r2) True.intro)
    clear c1 c2 hm he hmb
    refine Wk ?_
    exact RV2 (d) ((.box 249 (.agg [.agg [.lit (.bool fr),zd sd,.lit (.int .i64 fs),.slice (some r1) (L.map zJ),.slice (some r2) (B.map zo)],.lit (.int .i64 2)]))) (r2) ((.row 192 35 B.length))
   ·have hfi:¬ (65536:Int) < (B.length:Int)+1:=by omega
    have hb:(B.length+1) * 88≤140737488355328:=by omega
    have hb0:B.length * 88≤140737488355328:=by omega
    have hb1:B.length≤140737488355327:=by omega
    have hsl:=zeJ ⟨fr,sd,fs,L,B⟩ key nn plain
    obtain ⟨bb,hbb⟩:∃ bb,zg0 ⟨fr,sd,fs,L,B⟩ key nn plain=bb:=⟨_,rfl⟩
    have hmb:zcp ⟨fr,sd,fs,L,B⟩ 0 key nn plain=(⟨fr,sd,fs,L,B++[⟨key,nn,plain,bb⟩]⟩,0,bb):=by unfold zcp;simp only [he,if_neg hf,hbb];rfl
    rw [hbb] at hsl
    rw [hmb]
    have hL2:(B++[(⟨key,nn,plain,bb⟩:BoxE)]).map zo=B.map zo++[.agg [zd key,.lit (.int .i64 nn),.slice none (plain.map za),.slice none (bb.map za)]]:=by rw [List.map_append];rfl
    have hL3:(B++[(⟨key,nn,plain,bb⟩:BoxE)]).length=B.length+1:=by simp
    have c4:=zfw key nn plain oo g
    have c5:=yC plain oo
    have c6:=yC bb oo
    have hbbT:fr=true→bb=(vW 98 ((B.length:Int)+1)).1++List.replicate (plain.length+8) 0:=fun h=>by subst h;rw [← hbb];rfl
    have hbbF:fr=false→bb=zcw key.1 nn plain:=fun h=>by subst h;rw [← hbb];rfl
    clear hbb
    generalize vW 98 ((B.length:Int)+1)=T at *
    have ht1:=zB T
    have ht2:=zj T
    obtain ⟨pz,hpz⟩:∃ pz,T.1++List.replicate (plain.length+8) 0=pz:=⟨_,rfl⟩
    have hpzm:T.1.map za++List.replicate ((plain.length:Int)+8).toNat (AV.lit (.int .u8 0))=pz.map za:=by
     rw [← hpz,List.map_append,List.map_replicate,show ((plain.length:Int)+8).toNat=plain.length+8 by omega];rfl
    have hpzl:32+((plain.length:Int)+8).toNat=pz.length:=by rw [← hpz,List.length_append,List.length_replicate,T.2];omega
    have hpz2:pz.length≤20000:=by omega
    cases fr with
    | true=>
     have hbz:bb=pz:=(hbbT rfl).trans hpz
     subst hbz
     clear hbbT hbbF hpz
     obtain ⟨T,hT⟩:=T
     have htA:zd ⟨T,hT⟩=.agg (T.map za):=rfl
     simp only [htA] at c3 ht1 ht2 hpzm
     clear htA
     simp only [qr,zP,zO,hL2,hL3] at *
     refine Bd func208 ntmps208 fun σ N hp hpn hk hkn hfree=>?_
     simp only [List.mem_cons,List.not_mem_nil,or_false,forall_eq_or_imp,forall_eq] at hp hpn;obtain ⟨hd1,hd2,hd3,hd4⟩:=hp;obtain ⟨hdn1,hdn2,hdn3,hdn4⟩:=hpn
     have hne:d≠r1:=by rintro rfl;rw [hd1] at hd2;cases hd2
     have hne3:d≠r2:=by rintro rfl;rw [hd1] at hd3;cases hd3
     have hneg:g≠d:=by rintro rfl;rw [hd4] at hd1;exact ya hd1
     have hneg1:g≠r2:=by rintro rfl;rw [hd4] at hd3;exact yb hd3
     refine Wm ?_
     refine Wz ?_
     refine yz 6 (id:=N) (bt:=28) (x:=zd key) (by simp (disch:=omega) [go_sem, *,-List.reduceReplicate]) (by simp (disch:=omega) [go_sem, *,-List.reduceReplicate]) ?_
     refine yz 7 (id:=N+1) (bt:=3) (x:=.lit (.int .i64 nn)) (by simp (disch:=omega) [go_sem, *,-List.reduceReplicate]) (by simp (disch:=omega) [go_sem, *,-List.reduceReplicate]) ?_
     refine yz 8 (id:=N+2) (bt:=31) (x:=.slice none (plain.map za)) (by simp (disch:=omega) [go_sem, *,-List.reduceReplicate]) (by simp (disch:=omega) [go_sem, *,-List.reduceReplicate]) ?_
     have hcs:=And.intro c2 (And.intro c3 True.intro)
     iterate 6 refine Wz ?_
     clear hcs
     (apply xI;· (simp only [List.length_cons,List.length_nil,Nat.reduceAdd,Nat.add_assoc];rfl))
     refine zaC (id:=N+29+2) (path:=[]) (off:=0) (bt:=28) (c:=.agg (T.map za)) (ys:=T.map za) (by simp (disch:=omega) [go_sem, *,-List.reduceReplicate]) (by simp (disch:=omega) [go_sem, *,-List.reduceReplicate]) zwu rfl rfl (by rw [List.length_map];exact hT) (qI T) (by unfold maxLen;omega) ?_
     refine Wm ?_
     refine zcm (xs:=T.map za) (q:=(plain.length:Int)+8) (by simp (disch:=omega) [go_sem, *,-List.reduceReplicate]) zwE it3 rfl (by simp) (by simp (disch:=omega) [go_sem, *,-List.reduceReplicate];try rfl) oo (qI T) (by rw [List.length_map,hT,hpzl];omega) (by rw [List.length_map,hT,hpzl];omega) ?_
     rw [hpzm,List.length_map,hT,hpzl]
     have hcs:=And.intro c5 (And.intro c6 True.intro)
     clear c2 c3 c4 c5 c6 hm he hmb hL2 hL3 hpzm
     refine Wk ?_
     exact RV2 (d) ((.box 249 (.agg [.agg [.lit (.bool true),zd sd,.lit (.int .i64 fs),.slice (some r1) (L.map zJ),.slice (some r2) (B.map zo++[.agg [zd key,.lit (.int .i64 nn),.slice none (plain.map za),.slice none (bb.map za)]])],.lit (.int .i64 0)]))) (r2) ((.row 192 35 (B.length+1)))
    | false=>
     rw [← hbbF rfl] at c4
     clear hbbT hbbF hpz
     obtain ⟨T,hT⟩:=T
     have htA:zd ⟨T,hT⟩=.agg (T.map za):=rfl
     simp only [htA] at c3 ht1 ht2 hpzm
     clear htA
     simp only [qr,zP,zO,hL2,hL3] at *
     refine Bd func208 ntmps208 fun σ N hp hpn hk hkn hfree=>?_
     simp only [List.mem_cons,List.not_mem_nil,or_false,forall_eq_or_imp,forall_eq] at hp hpn;obtain ⟨hd1,hd2,hd3,hd4⟩:=hp;obtain ⟨hdn1,hdn2,hdn3,hdn4⟩:=hpn
     have hne:d≠r1:=by rintro rfl;rw [hd1] at hd2;cases hd2
     have hne3:d≠r2:=by rintro rfl;rw [hd1] at hd3;cases hd3
     have hneg:g≠d:=by rintro rfl;rw [hd4] at hd1;exact ya hd1
     have hneg1:g≠r2:=by rintro rfl;rw [hd4] at hd3;exact yb hd3
     refine Wm ?_
     refine Wz ?_
     refine yz 6 (id:=N) (bt:=28) (x:=zd key) (by simp (disch:=omega) [go_sem, *,-List.reduceReplicate]) (by simp (disch:=omega) [go_sem, *,-List.reduceReplicate]) ?_
     refine yz 7 (id:=N+1) (bt:=3) (x:=.lit (.int .i64 nn)) (by simp (disch:=omega) [go_sem, *,-List.reduceReplicate]) (by simp (disch:=omega) [go_sem, *,-List.reduceReplicate]) ?_
     refine yz 8 (id:=N+2) (bt:=31) (x:=.slice none (plain.map za)) (by simp (disch:=omega) [go_sem, *,-List.reduceReplicate]) (by simp (disch:=omega) [go_sem, *,-List.reduceReplicate]) ?_
     have hcs:=And.intro c2 (And.intro c3 True.intro)
     iterate 6 refine Wz ?_
     clear hcs
     (apply xI;· (simp only [List.length_cons,List.length_nil,Nat.reduceAdd,Nat.add_assoc];rfl))
     refine zaC (id:=N+29+2) (path:=[]) (off:=0) (bt:=28) (c:=.agg (T.map za)) (ys:=T.map za) (by simp (disch:=omega) [go_sem, *,-List.reduceReplicate]) (by simp (disch:=omega) [go_sem, *,-List.reduceReplicate]) zwu rfl rfl (by rw [List.length_map];exact hT) (qI T) (by unfold maxLen;omega) ?_
     refine Wm ?_
     refine zcm (xs:=T.map za) (q:=(plain.length:Int)+8) (by simp (disch:=omega) [go_sem, *,-List.reduceReplicate]) zwE it3 rfl (by simp) (by simp (disch:=omega) [go_sem, *,-List.reduceReplicate];try rfl) oo (qI T) (by rw [List.length_map,hT,hpzl];omega) (by rw [List.length_map,hT,hpzl];omega) ?_
     rw [hpzm,List.length_map,hT,hpzl]
     have hcs:=And.intro (c4) (And.intro c5 (And.intro c6 True.intro))
     clear c2 c3 c4 c5 c6 hm he hmb hL2 hL3 hpzm
     refine Wk ?_
     exact RV2 (d) ((.box 249 (.agg [.agg [.lit (.bool false),zd sd,.lit (.int .i64 fs),.slice (some r1) (L.map zJ),.slice (some r2) (B.map zo++[.agg [zd key,.lit (.int .i64 nn),.slice none (plain.map za),.slice none (bb.map za)]])],.lit (.int .i64 0)]))) (r2) ((.row 192 35 (B.length+1)))
 ·have hmb:zcp ⟨fr,sd,fs,L,B⟩ e key nn plain=(⟨fr,sd,fs,L,B⟩,e,[]):=by unfold zcp;rw [if_pos he0]
  rw [hmb]
  have hei:((e:Int) != 0)=true:=by simp;omega
  simp only [qr,zP,zO] at *
  refine Bd func208 ntmps208 fun σ N hp hpn hk hkn hfree=>?_
  simp only [List.mem_cons,List.not_mem_nil,or_false,forall_eq_or_imp,forall_eq] at hp hpn;obtain ⟨hd1,hd2,hd3,hd4⟩:=hp;obtain ⟨hdn1,hdn2,hdn3,hdn4⟩:=hpn
  have hne:d≠r1:=by rintro rfl;rw [hd1] at hd2;cases hd2
  have hne3:d≠r2:=by rintro rfl;rw [hd1] at hd3;cases hd3
  have hneg:g≠d:=by rintro rfl;rw [hd4] at hd1;exact ya hd1
  have hneg1:g≠r2:=by rintro rfl;rw [hd4] at hd3;exact yb hd3
  clear hm hmb
  refine Wk ?_
  exact RV2 (d) ((.box 249 (.agg [.agg [.lit (.bool fr),zd sd,.lit (.int .i64 fs),.slice (some r1) (L.map zJ),.slice (some r2) (B.map zo)],.lit (.int .i64 e)]))) (r2) ((.row 192 35 B.length))
end
section
variable [W:W32]
theorem kU (a:Alg) (e:Nat) (key:Tg) (nn:Int) (plain:List UInt8):(zcp a e key nn plain).1.macs=a.macs:=by
 unfold zcp
 split
 ·rfl
 ·split
  ·rfl
  ·split <;> rfl
def bxE (e:Nat) (nn:Int) (plain:List UInt8):Nat:=if e=0 then (if nn < 0∨281474976710656 < nn then 1 else if 256 < plain.length then 2 else 0) else e
def xV (a:Alg) (e:Nat) (key:Tg) (nn:Int) (plain:List UInt8):Alg × Nat × List UInt8:=zcp a (bxE e nn plain) key nn plain
theorem zcc (a:Alg) (key:Tg) (nn:Int) (plain:List UInt8):vm a key nn plain=if (xV a 0 key nn plain).2.1=0 then ((xV a 0 key nn plain).1,(xV a 0 key nn plain).2.2,0) else (wZ,[],(xV a 0 key nn plain).2.1):=by
 unfold vm xV bxE zcp
 rw [if_pos rfl]
 by_cases h1:nn < 0∨281474976710656 < nn
 ·rw [if_pos h1,if_pos h1];rfl
 ·rw [if_neg h1,if_neg h1]
  by_cases h2:256 < plain.length
  ·rw [if_pos h2,if_pos h2];rfl
  ·rw [if_neg h2,if_neg h2]
   simp only [ne_eq,not_true_eq_false,if_false]
   cases zhV key nn plain a.boxes with
   | some b=>rfl
   | none=>
    by_cases h3:65536≤a.boxes.length
    ·simp only [if_pos h3];rfl
    ·simp only [if_neg h3];rfl
set_option maxHeartbeats 2000000 in
theorem zfz (a:Alg) (e:Nat) (key:Tg) (nn:Int) (plain:List UInt8) (hl:a.boxes.length≤1000000) (hm:∀ x∈a.boxes,x.plain.length≤100000∧x.box.length≤100000) (hp0:plain.length≤10000) (d r1 r2 g k:Nat):
  ACall prog 167 [.ptr d [] 0,zd key,.lit (.int .i64 nn),.slice none (plain.map za)] k (vA a e d r1 r2++[(g,yE)])
   (.slice none ((xV a e key nn plain).2.2.map za)) [(d,zcM (xV a e key nn plain).1 (xV a e key nn plain).2.1 r1 r2),(r2,ztS (xV a e key nn plain).1.boxes.length)]:=by
 unfold xV bxE
 by_cases h1:nn < 0
 ·rw [if_pos (show nn < 0∨281474976710656 < nn from .inl h1)]
  have c1:=xN a e 1 d r1 r2
  have c2:=zaF a (if e=0 then 1 else e) key nn plain hl hm hp0 d r1 r2 g
  have hmx:=kU a (if e=0 then 1 else e) key nn plain
  generalize (if e=0 then 1 else e)=e1 at *
  generalize zcp a e1 key nn plain=X at *
  obtain ⟨a2,e2,b2⟩:=X
  simp only at c2 hmx ⊢
  unfold vA at *
  simp only [List.cons_append,List.nil_append] at *
  have e01:((1:Nat):Int)=1:=rfl
  simp only [zW,zP,zO,hmx,e01] at *
  clear hm hmx e01
  refine Bd func167 ntmps167 fun σ N hp hpn hk hkn hfree=>?_
  simp only [List.mem_cons,List.not_mem_nil,or_false,forall_eq_or_imp,forall_eq] at hp hpn;obtain ⟨hd1,hd2,hd3,hd4⟩:=hp;obtain ⟨hdn1,hdn2,hdn3,hdn4⟩:=hpn
  have hne:d≠r1:=by rintro rfl;rw [hd1] at hd2;cases hd2
  have hne3:d≠r2:=by rintro rfl;rw [hd1] at hd3;cases hd3
  have hneg:g≠d:=by rintro rfl;rw [hd4] at hd1;exact ya hd1
  have hneg1:g≠r2:=by rintro rfl;rw [hd4] at hd3;exact yb hd3
  refine Wm ?_
  refine Wz ?_
  refine yz 5 (id:=N) (bt:=28) (x:=zd key) (by simp (disch:=omega) [go_sem, *,-List.reduceReplicate]) (by simp (disch:=omega) [go_sem, *,-List.reduceReplicate]) ?_
  refine yz 6 (id:=N+1) (bt:=3) (x:=.lit (.int .i64 nn)) (by simp (disch:=omega) [go_sem, *,-List.reduceReplicate]) (by simp (disch:=omega) [go_sem, *,-List.reduceReplicate]) ?_
  refine yz 7 (id:=N+2) (bt:=31) (x:=.slice none (plain.map za)) (by simp (disch:=omega) [go_sem, *,-List.reduceReplicate]) (by simp (disch:=omega) [go_sem, *,-List.reduceReplicate]) ?_
  have hcs:=And.intro c1 (And.intro c2 True.intro)
  clear c1 c2
  refine Wk ?_
  exact RV2 (d) ((.box 249 (.agg [.agg [.lit (.bool a2.free),zd a2.seed,.lit (.int .i64 a2.fresh),.slice (some r1) (a.macs.map zJ),.slice (some r2) (a2.boxes.map zo)],.lit (.int .i64 (e2:Int))]))) (r2) ((.row 192 35 a2.boxes.length))
 by_cases h2:281474976710656 < nn
 ·rw [if_pos (show nn < 0∨281474976710656 < nn from .inr h2)]
  have c1:=xN a e 1 d r1 r2
  have c2:=zaF a (if e=0 then 1 else e) key nn plain hl hm hp0 d r1 r2 g
  have hmx:=kU a (if e=0 then 1 else e) key nn plain
  generalize (if e=0 then 1 else e)=e1 at *
  generalize zcp a e1 key nn plain=X at *
  obtain ⟨a2,e2,b2⟩:=X
  simp only at c2 hmx ⊢
  unfold vA at *
  simp only [List.cons_append,List.nil_append] at *
  have e01:((1:Nat):Int)=1:=rfl
  simp only [zW,zP,zO,hmx,e01] at *
  clear hm hmx e01
  refine Bd func167 ntmps167 fun σ N hp hpn hk hkn hfree=>?_
  simp only [List.mem_cons,List.not_mem_nil,or_false,forall_eq_or_imp,forall_eq] at hp hpn;obtain ⟨hd1,hd2,hd3,hd4⟩:=hp;obtain ⟨hdn1,hdn2,hdn3,hdn4⟩:=hpn
  have hne:d≠r1:=by rintro rfl;rw [hd1] at hd2;cases hd2
  have hne3:d≠r2:=by rintro rfl;rw [hd1] at hd3;cases hd3
  have hneg:g≠d:=by rintro rfl;rw [hd4] at hd1;exact ya hd1
  have hneg1:g≠r2:=by rintro rfl;rw [hd4] at hd3;exact yb hd3
  refine Wm ?_
  refine Wz ?_
  refine yz 5 (id:=N) (bt:=28) (x:=zd key) (by simp (disch:=omega) [go_sem, *,-List.reduceReplicate]) (by simp (disch:=omega) [go_sem, *,-List.reduceReplicate]) ?_
  refine yz 6 (id:=N+1) (bt:=3) (x:=.lit (.int .i64 nn)) (by simp (disch:=omega) [go_sem, *,-List.reduceReplicate]) (by simp (disch:=omega) [go_sem, *,-List.reduceReplicate]) ?_
  refine yz 7 (id:=N+2) (bt:=31) (x:=.slice none (plain.map za)) (by simp (disch:=omega) [go_sem, *,-List.reduceReplicate]) (by simp (disch:=omega) [go_sem, *,-List.reduceReplicate]) ?_
  have hcs:=And.intro c1 (And.intro c2 True.intro)
  clear c1 c2
  refine Wk ?_
  exact RV2 (d) ((.box 249 (.agg [.agg [.lit (.bool a2.free),zd a2.seed,.lit (.int .i64 a2.fresh),.slice (some r1) (a.macs.map zJ),.slice (some r2) (a2.boxes.map zo)],.lit (.int .i64 (e2:Int))]))) (r2) ((.row 192 35 a2.boxes.length))
 rw [if_neg (show ¬ (nn < 0∨281474976710656 < nn) by omega)]
 by_cases h3:256 < plain.length
 ·rw [if_pos h3]
  have h3i:(256:Int) < (plain.length:Int):=by omega
  have c1:=xN a e 2 d r1 r2
  have c2:=zaF a (if e=0 then 2 else e) key nn plain hl hm hp0 d r1 r2 g
  have hmx:=kU a (if e=0 then 2 else e) key nn plain
  generalize (if e=0 then 2 else e)=e1 at *
  generalize zcp a e1 key nn plain=X at *
  obtain ⟨a2,e2,b2⟩:=X
  simp only at c2 hmx ⊢
  unfold vA at *
  simp only [List.cons_append,List.nil_append] at *
  have e02:((2:Nat):Int)=2:=rfl
  simp only [zW,zP,zO,hmx,e02] at *
  clear hm hmx e02
  refine Bd func167 ntmps167 fun σ N hp hpn hk hkn hfree=>?_
  simp only [List.mem_cons,List.not_mem_nil,or_false,forall_eq_or_imp,forall_eq] at hp hpn;obtain ⟨hd1,hd2,hd3,hd4⟩:=hp;obtain ⟨hdn1,hdn2,hdn3,hdn4⟩:=hpn
  have hne:d≠r1:=by rintro rfl;rw [hd1] at hd2;cases hd2
  have hne3:d≠r2:=by rintro rfl;rw [hd1] at hd3;cases hd3
  have hneg:g≠d:=by rintro rfl;rw [hd4] at hd1;exact ya hd1
  have hneg1:g≠r2:=by rintro rfl;rw [hd4] at hd3;exact yb hd3
  refine Wm ?_
  refine Wz ?_
  refine yz 5 (id:=N) (bt:=28) (x:=zd key) (by simp (disch:=omega) [go_sem, *,-List.reduceReplicate]) (by simp (disch:=omega) [go_sem, *,-List.reduceReplicate]) ?_
  refine yz 6 (id:=N+1) (bt:=3) (x:=.lit (.int .i64 nn)) (by simp (disch:=omega) [go_sem, *,-List.reduceReplicate]) (by simp (disch:=omega) [go_sem, *,-List.reduceReplicate]) ?_
  refine yz 7 (id:=N+2) (bt:=31) (x:=.slice none (plain.map za)) (by simp (disch:=omega) [go_sem, *,-List.reduceReplicate]) (by simp (disch:=omega) [go_sem, *,-List.reduceReplicate]) ?_
  have hcs:=And.intro c1 (And.intro c2 True.intro)
  clear c1 c2
  refine Wk ?_
  exact RV2 (d) ((.box 249 (.agg [.agg [.lit (.bool a2.free),zd a2.seed,.lit (.int .i64 a2.fresh),.slice (some r1) (a.macs.map zJ),.slice (some r2) (a2.boxes.map zo)],.lit (.int .i64 (e2:Int))]))) (r2) ((.row 192 35 a2.boxes.length))
 ·rw [if_neg h3]
  have h3i:¬ (256:Int) < (plain.length:Int):=by omega
  rw [show (if e=0 then 0 else e)=e by split <;> omega]
  have c1:=True.intro
  have c2:=zaF a e key nn plain hl hm hp0 d r1 r2 g
  have hmx:=kU a e key nn plain
  generalize zcp a e key nn plain=X at *
  obtain ⟨a2,e2,b2⟩:=X
  simp only at c2 hmx ⊢
  unfold vA at *
  simp only [List.cons_append,List.nil_append] at *
  simp only [zW,zP,zO,hmx] at *
  clear hm hmx
  refine Bd func167 ntmps167 fun σ N hp hpn hk hkn hfree=>?_
  simp only [List.mem_cons,List.not_mem_nil,or_false,forall_eq_or_imp,forall_eq] at hp hpn;obtain ⟨hd1,hd2,hd3,hd4⟩:=hp;obtain ⟨hdn1,hdn2,hdn3,hdn4⟩:=hpn
  have hne:d≠r1:=by rintro rfl;rw [hd1] at hd2;cases hd2
  have hne3:d≠r2:=by rintro rfl;rw [hd1] at hd3;cases hd3
  have hneg:g≠d:=by rintro rfl;rw [hd4] at hd1;exact ya hd1
  have hneg1:g≠r2:=by rintro rfl;rw [hd4] at hd3;exact yb hd3
  refine Wm ?_
  refine Wz ?_
  refine yz 5 (id:=N) (bt:=28) (x:=zd key) (by simp (disch:=omega) [go_sem, *,-List.reduceReplicate]) (by simp (disch:=omega) [go_sem, *,-List.reduceReplicate]) ?_
  refine yz 6 (id:=N+1) (bt:=3) (x:=.lit (.int .i64 nn)) (by simp (disch:=omega) [go_sem, *,-List.reduceReplicate]) (by simp (disch:=omega) [go_sem, *,-List.reduceReplicate]) ?_
  refine yz 7 (id:=N+2) (bt:=31) (x:=.slice none (plain.map za)) (by simp (disch:=omega) [go_sem, *,-List.reduceReplicate]) (by simp (disch:=omega) [go_sem, *,-List.reduceReplicate]) ?_
  have hcs:=And.intro c2 True.intro
  clear c1 c2
  refine Wk ?_
  exact RV2 (d) ((.box 249 (.agg [.agg [.lit (.bool a2.free),zd a2.seed,.lit (.int .i64 a2.fresh),.slice (some r1) (a.macs.map zJ),.slice (some r2) (a2.boxes.map zo)],.lit (.int .i64 (e2:Int))]))) (r2) ((.row 192 35 a2.boxes.length))
end
def o8 (a b:UInt8):UInt8:=a ||| b
theorem zuL (a b:UInt8):bits .or .u8 (a.toNat:Int) (b.toNat:Int)=((o8 a b).toNat:Int):=by
 have ha:=a.toNat_lt
 have hb:=b.toNat_lt
 have h2:=(a ||| b).toNat_lt
 have h3:(BitVec.ofInt 8 (a.toNat:Int) ||| BitVec.ofInt 8 (b.toNat:Int)).toNat=(a ||| b).toNat:=by
  rw [UInt8.toNat_or,BitVec.toNat_or]
  congr 1
  ·rw [BitVec.ofInt_natCast,BitVec.toNat_ofNat];exact Nat.mod_eq_of_lt ha
  ·rw [BitVec.ofInt_natCast,BitVec.toNat_ofNat];exact Nat.mod_eq_of_lt hb
 show IntKind.u8.wrap (((BitVec.ofInt 8 (a.toNat:Int) ||| BitVec.ofInt 8 (b.toNat:Int)).toNat:Nat):Int)=_
 rw [h3,IntKind.wrap_u8]
 unfold o8
 omega
theorem zoT {a b:UInt8}:x8 a b=0↔a=b:=by
 rw [zpx];exact UInt8.xor_eq_zero_iff
theorem zop {a b:UInt8}:o8 a b=0↔a=0∧b=0:=by
 unfold o8;exact UInt8.or_eq_zero_iff
theorem zfL (a b:List UInt8) (ha:a.length≤100000) (_hb:b.length≤100000) (k:Nat):
  ACall prog 227 [.slice none (a.map za),.slice none (b.map za)] k [] (.lit (.bool (decide (a=b)))) []:=by
 by_cases hl:a.length=b.length
 ·refine Bd func227 ntmps227 fun σ N hp hpn hk hkn hfree=>?_
  refine Wk ?_
  refine ze zi (by kernel_rfl) [5,6,14,15,16,17,18,19,20,21,22,23,24,25,26,27,28] [] (fun m_ s_ σ_ n_=>∃ (u:Nat) (d:UInt8),m_=a.length - u∧s_ 14=.lit (.int .i64 u)∧s_ 5=.lit (.int .u8 d.toNat)∧(u≤a.length)∧(d=0↔a.take u=b.take u)) ⟨_,0,0,rfl,WF,WF,WC,WC⟩ ?_
  intro m_1 s_1 σ_1 n_1 hs_1 hf_1 hn_1 hI_1
  obtain ⟨u,d,hm_1,h1_14,h1_5,hu,hd⟩:=hI_1
  have h1_0:=KS hs_1 0
  have h1_1:=KS hs_1 1
  have h1_4:=KS hs_1 4
  have h1_13:=KS hs_1 13
  have hlow:=KL (N:=N) (σ:=σ) hf_1
  by_cases hul:u=a.length
  ·have hr:decide (d=0)=decide (a=b):=by
    have:(d=0)↔a=b:=by
     rw [hd,hul,List.take_length,hl,List.take_length]
    simp only [this]
   have hr2:((d.toNat:Int) == 0)=decide (a=b):=by
    rw [← hr]
    by_cases h0:d=0
    ·subst h0;rfl
    ·rw [decide_eq_false h0,beq_eq_false_iff_ne]
     intro h1
     exact h0 (UInt8.toNat_inj.1 (by simpa using h1))
   have hr3:decide ((d.toNat:Int)=0)=decide (a=b):=hr2
   generalize decide (a=b)=R at *
   subst hul
   clear hd hr
   exact W0
  ·have hua:u < a.length:=by omega
   have hub:u < b.length:=by omega
   obtain ⟨x,hx⟩:∃ x,a[u]=x:=⟨_,rfl⟩
   obtain ⟨y,hy⟩:∃ y,b[u]=y:=⟨_,rfl⟩
   have hxx:za x=.lit (.int .u8 x.toNat):=rfl
   have hyy:za y=.lit (.int .u8 y.toNat):=rfl
   have h1:=znA x y
   have h2:=zuL d (x8 x y)
   have h3:o8 d (x8 x y)=0↔a.take (u+1)=b.take (u+1):=by
    rw [zop,zoT,hd,List.take_succ_eq_append_getElem hua,List.take_succ_eq_append_getElem hub,hx,hy]
    constructor
    ·rintro ⟨e1,e2⟩;rw [e1,e2]
    ·intro e
     have:=List.append_inj e (by rw [List.length_take,List.length_take];omega)
     exact ⟨this.1,by simpa using this.2⟩
   clear hd
   generalize x8 x y=v at *
   generalize o8 d v=w at *
   refine Wk ?_
   exact ⟨WS,WG,WN,_,(show a.length - (u+1) < m_1 by omega),u+1,w,rfl,WF,WF,WC,WC⟩
 ·rw [decide_eq_false (fun h=>hl (by rw [h]))]
  have hl2:((a.length:Int) != (b.length:Int))=true:=by simp;omega
  refine Bd func227 ntmps227 fun σ N hp hpn hk hkn hfree=>?_
  exact W0
section
variable [W:W32]
set_option maxHeartbeats 1000000 in
theorem zhK (sd:Tg) (fs:Int) (L:List MacE) (B:List BoxE) (key:Tg) (b:List UInt8) (hl:B.length≤1000000) (hm:∀ e∈B,e.plain.length≤100000∧e.box.length≤100000) (hb:b.length≤100000) (g k:Nat):
  ACall prog 183 [zA ⟨true,sd,fs,L,B⟩,zd key,.slice none (b.map za)] k [(g,yE)] (zkC (x6 ⟨true,sd,fs,L,B⟩ key b)) []:=by
 unfold x6
 rw [if_pos rfl]
 simp only
 generalize hR:zbP key b B=R
 refine Bd func183 ntmps183 fun σ N hp hpn hk hkn hfree=>?_
 obtain ⟨hd,hdn⟩:=HD0 hp hpn;clear hp hpn
 have haA:zA ⟨true,sd,fs,L,B⟩=.agg [.lit (.bool true),zd sd,.lit (.int .i64 fs),.slice none (L.map zJ),.slice none (B.map zo)]:=rfl
 refine Wk ?_
 refine ze zi (by kernel_rfl) [6,7,9,17,18,19,20,21,22,23,24,25,26,27,28,29,30,31,32,33,34] [N,N+1] (fun m_ s_ σ_ n_=>∃ (u:Nat),m_=B.length - u∧s_ 17=.lit (.int .i64 u)∧σ_ (N)=.box 41 (.agg [.lit (.bool true),zd sd,.lit (.int .i64 fs),.slice none (L.map zJ),.slice none (B.map zo)])∧σ_ (N+1)=.box 28 (zd key)∧(u≤B.length)∧(zbP key b (B.drop u)=R)) ⟨_,0,rfl,WF,WF,WF,WC,WC⟩ ?_
 intro m_2 s_2 σ_2 n_2 hs_2 hf_2 hn_2 hI_2
 obtain ⟨u,hm_2,h2_17,e2_0,e2_1,hu,hd⟩:=hI_2
 have h2_2:=KS hs_2 2
 have h2_4:=KS hs_2 4
 have h2_15:=KS hs_2 15
 have h2_16:=KS hs_2 16
 have k2_0:=KE hf_2 (g)
 have hlow:=KL (N:=N) (σ:=σ) hf_2
 clear haA
 by_cases hul:u=B.length
 ·subst hul
  rw [List.drop_length] at hd
  simp only [zbP] at hd
  subst hd
  clear hR hm
  unfold zkC
  simp only [List.map_nil]
  exact WL
 ·have hu1:u < B.length:=by omega
  rw [List.drop_eq_getElem_cons hu1,zbP] at hd
  have hmz:=hm _ (List.getElem_mem hu1)
  obtain ⟨z,hz⟩:∃ z,B[u]=z:=⟨_,rfl⟩
  rw [hz] at hd hmz
  obtain ⟨zk,zn,zp,zb⟩:=z
  simp only at hd hmz
  have hzd:zo ⟨zk,zn,zp,zb⟩=.agg [zd zk,.lit (.int .i64 zn),bAV zp,bAV zb]:=rfl
  have hzb:=qS zp
  have hzb2:=qS zb
  obtain ⟨hmz1,hmz2⟩:=hmz
  have c1:=xB zb b oo oo
  have c2:=yC zp oo
  clear hR hm
  by_cases h1:zk=key
  ·by_cases h3:zb=b
   ·rw [if_pos ⟨h1,h3⟩] at hd
    subst hd
    rw [decide_eq_true h3] at c1
    have hcs:=And.intro c1 (And.intro c2 True.intro)
    clear c1 c2
    subst h1
    subst h3
    unfold zkC
    simp only
    exact WL
   ·rw [if_neg (fun h=>h3 h.2)] at hd
    rw [decide_eq_false h3] at c1
    have hcs:=And.intro c1 True.intro
    clear c1 c2
    subst h1
    refine Wk ?_
    exact ⟨WS,WG,WN,_,(show B.length - (u+1) < m_2 by omega),u+1,rfl,WF,WF,WF,WC,WC⟩
  ·rw [if_neg (fun h=>h1 h.1)] at hd
   have d1:decide (zk=key)=false:=decide_eq_false h1
   clear c1 c2
   refine Wk ?_
   exact ⟨WS,WG,WN,_,(show B.length - (u+1) < m_2 by omega),u+1,rfl,WF,WF,WF,WC,WC⟩
set_option maxHeartbeats 1000000 in
theorem zhL (sd:Tg) (fs:Int) (L:List MacE) (B:List BoxE) (key:Tg) (b:List UInt8) (hb:b.length≤100000) (g k:Nat):
  ACall prog 183 [zA ⟨false,sd,fs,L,B⟩,zd key,.slice none (b.map za)] k [(g,yE)] (zkC (x6 ⟨false,sd,fs,L,B⟩ key b)) []:=by
 unfold x6
 rw [if_neg (by simp)]
 have haA:zA ⟨false,sd,fs,L,B⟩=.agg [.lit (.bool false),zd sd,.lit (.int .i64 fs),.slice none (L.map zJ),.slice none (B.map zo)]:=rfl
 unfold zkC
 by_cases h1:b.length < 40
 ·rw [if_pos (.inl h1)]
  have h1i:(b.length:Int) < 40:=by omega
  simp only [List.map_nil]
  refine Bd func183 ntmps183 fun σ N hp hpn hk hkn hfree=>?_
  obtain ⟨hd,hdn⟩:=HD0 hp hpn;clear hp hpn
  exact WL
 have h1i:¬ (b.length:Int) < 40:=by omega
 by_cases h2:296 < b.length
 ·rw [if_pos (.inr h2)]
  have h2i:(296:Int) < (b.length:Int):=by omega
  simp only [List.map_nil]
  refine Bd func183 ntmps183 fun σ N hp hpn hk hkn hfree=>?_
  obtain ⟨hd,hdn⟩:=HD0 hp hpn;clear hp hpn
  exact WL
 have h2i:¬ (296:Int) < (b.length:Int):=by omega
 rw [if_neg oo]
 have hn32:((b.length:Int) - 32).toNat=b.length - 32:=by omega
 have hn32i:(0:Int)≤(b.length:Int) - 32:=by omega
 have hA1:(b.map za).take (b.length - 32)=(b.take (b.length - 32)).map za:=by rw [List.map_take]
 have hD1:(b.map za).drop (b.length - 32)=(b.drop (b.length - 32)).map za:=by rw [List.map_drop]
 have hD2:((b.take (b.length - 32)).map za).drop 8=((b.take (b.length - 32)).drop 8).map za:=by rw [List.map_drop]
 have hl1:(b.take (b.length - 32)).length=b.length - 32:=by rw [List.length_take];omega
 have hl2:(b.drop (b.length - 32)).length=32:=by rw [List.length_drop];omega
 have hL8:(b.take 8).length=8:=by rw [List.length_take];omega
 have hT8:(b.take (b.length - 32)).take 8=b.take 8:=by rw [List.take_take,Nat.min_eq_left oo]
 have hE8:=ziW (b.take 8) hL8
 have c1:=zaX key (b.take (b.length - 32)) oo g
 have c3:=zaY key (be8 (b.take 8):Int) ((b.take (b.length - 32)).drop 8) (by rw [List.length_drop];omega) g
 rw [hE8] at c3
 have hD3:((b.take (b.length - 32)).map za).take 8=(b.take 8).map za:=by rw [← List.map_take,hT8]
 generalize qC key.1 ([98,111,120]++b.take (b.length - 32))=T at *
 have c2:=zfL T.1 (b.drop (b.length - 32)) (by rw [T.2];decide) oo
 have ht1:=zB T
 have ht2:=zj T
 obtain ⟨T,hT⟩:=T
 have htA:zd ⟨T,hT⟩=.agg (T.map za):=rfl
 simp only [htA] at ht1 ht2 c1 c2 ⊢
 clear htA hE8 hT8
 have htk2:(T.map za).take 32=T.map za:=List.take_of_length_le (by rw [List.length_map];omega)
 generalize b.take 8=N8 at *
 by_cases h3:T=b.drop (b.length - 32)
 ·rw [if_pos h3]
  rw [decide_eq_true h3] at c2
  simp only
  generalize jz key.1 (be8 N8:Int) ((b.take (b.length - 32)).drop 8)=St at *
  clear h3
  generalize (b.take (b.length - 32)).drop 8=Bq at *
  generalize b.drop (b.length - 32)=Dr at *
  generalize b.take (b.length - 32)=Tk at *
  have hTk:(Tk.map za).take (b.length - 32)=Tk.map za:=List.take_of_length_le (by rw [List.length_map];omega)
  refine Bd func183 ntmps183 fun σ N hp hpn hk hkn hfree=>?_
  obtain ⟨hd,hdn⟩:=HD0 hp hpn;clear hp hpn
  have hcs:=And.intro c1 (And.intro c2 (And.intro c3 True.intro))
  clear c1 c2 c3
  exact WL
 ·rw [if_neg h3]
  rw [decide_eq_false h3] at c2
  simp only [List.map_nil]
  clear h3 c3
  generalize b.drop (b.length - 32)=Dr at *
  generalize b.take (b.length - 32)=Tk at *
  refine Bd func183 ntmps183 fun σ N hp hpn hk hkn hfree=>?_
  obtain ⟨hd,hdn⟩:=HD0 hp hpn;clear hp hpn
  have hcs:=And.intro c1 (And.intro c2 True.intro)
  clear c1 c2
  exact WL
theorem zhM (a:Alg) (m:Nat) (ha:AlgIn a m) (hm:m≤900000) (key:Tg) (b:List UInt8) (hb:b.length≤100000) (g k:Nat):
  ACall prog 183 [zA a,zd key,.slice none (b.map za)] k [(g,yE)] (zkC (x6 a key b)) []:=by
 obtain ⟨fr,sd,fs,L,B⟩:=a
 cases fr with
 | true=>exact zhK sd fs L B key b (by have:=ha.bl;simp only at this;omega) ha.bm hb g k
 | false=>exact zhL sd fs L B key b hb g k
end
theorem zhb (l:List Ep) (q:Ep→Bool) (f:FuncId) (a:Nat) (E:Ent) (hE:E≠.none) (hf:∀ x∈l,∀ k,ACall prog f [zi0 x,.ptr a [] 0] k [(a,E)] (.lit (.bool (q x))) []) (hl:l.length≤9223372036854775807) (k:Nat):
  ACall prog 108 [.slice none (l.map zi0),.fn f [.ptr a [] 0]] k [(a,E)] (.lit (.int .i64 (ixF q l 0))) []:=by
 obtain ⟨R,hR⟩:∃ R,ixF q l 0=R:=⟨_,rfl⟩
 rw [hR]
 have hdr:l.drop 0=l:=rfl
 refine Bd (hpre:=by simp [hE]) func108 ntmps108 fun σ N hp hpn hk hkn hfree=>?_
 obtain ⟨hd,hdn⟩:=HD0 hp hpn;clear hp hpn
 refine Wk ?_
 refine ze zi (by kernel_rfl) [4,5,8,9,10,11,12,13,14,15,16,17,18] [] (fun m_ s_ σ_ n_=>∃ (u:Nat),m_=l.length - u∧s_ 8=.lit (.int .i64 u)∧(u≤l.length)∧(ixF q (l.drop u) u=R)) ⟨_,0,rfl,WF,WC,WC⟩ ?_
 intro m_1 s_1 σ_1 n_1 hs_1 hf_1 hn_1 hI_1
 obtain ⟨u,hm_1,h1_8,hu,hno⟩:=hI_1
 have h1_0:=KS hs_1 0
 have h1_1:=KS hs_1 1
 have h1_7:=KS hs_1 7
 have k1_0:=KE hf_1 (a)
 have hlow:=KL (N:=N) (σ:=σ) hf_1
 clear hR hdr
 by_cases hul:u=l.length
 ·subst hul
  rw [List.drop_length] at hno
  simp only [ixF] at hno
  subst hno
  clear hf
  exact W0
 ·have hu1:u < l.length:=by omega
  rw [List.drop_eq_getElem_cons hu1,ixF] at hno
  have c1:=hf _ (List.getElem_mem hu1)
  obtain ⟨z,hz⟩:∃ z,l[u]=z:=⟨_,rfl⟩
  rw [hz] at hno c1
  cases hc:q z with
  | true=>
   rw [if_pos hc] at hno
   subst hno
   rw [hc] at c1
   have hcs:=And.intro c1 True.intro
   clear c1 hf hc
   exact W0
  | false=>
   rw [if_neg (by rw [hc];simp)] at hno
   rw [hc] at c1
   have hcs:=And.intro c1 True.intro
   clear c1 hf hc
   refine Wk ?_
   exact ⟨WS,WG,WN,_,(show l.length - (u+1) < m_1 by omega),u+1,rfl,WF,WC,WC⟩
theorem zd7 (b:Bu) (x:Ep) (a k:Nat):ACall prog 109 [zi0 x,.ptr a [] 0] k [(a,.box 75 (ye b))] (.lit (.bool (x.num == b.epoch))) []:=by
 obtain ⟨n,ky⟩:=x
 obtain ⟨rq,ep,se,ca,pf,di⟩:=b
 have hbA:ye ⟨rq,ep,se,ca,pf,di⟩=.agg [yD rq,.lit (.int .i64 ep),.lit (.int .i64 se),.slice none (ca.map z8),zd pf,.slice none (di.map zC)]:=rfl
 have heA:zi0 ⟨n,ky⟩=.agg [.lit (.int .i64 n),zd ky]:=rfl
 rw [hbA,heA]
 refine Bd func109 ntmps109 fun σ N hp hpn hk hkn hfree=>?_
 obtain ⟨hd,hdn⟩:=HD0 hp hpn;clear hp hpn
 exact W0
theorem zbs (c:Ca) (hc:c.ticket.length≤140737488351232) (x:Bo) (hx:x.ticket.length≤140737488351232) (a k:Nat):ACall prog 184 [zC x,.ptr a [] 0] k [(a,.box 140 (z8 c))] (.lit (.bool (decide (x.ticket=c.ticket)))) []:=by
 have c1:=xB x.ticket c.ticket hx hc
 obtain ⟨ti,co,pf⟩:=x
 obtain ⟨th,fi,pa,tk,bx⟩:=c
 have hbA:zC ⟨ti,co,pf⟩=.agg [.slice none (ti.map za),.slice none (co.map zU),zd pf]:=rfl
 have hcA:z8 ⟨th,fi,pa,tk,bx⟩=.agg [.lit (.bool th),zU fi,.lit (.int .i64 pa),.slice none (tk.map za),.slice none (bx.map za)]:=rfl
 rw [hbA,hcA]
 simp only at c1 ⊢
 refine Bd func184 ntmps184 fun σ N hp hpn hk hkn hfree=>?_
 obtain ⟨hd,hdn⟩:=HD0 hp hpn;clear hp hpn
 have hcs:=And.intro c1 True.intro
 clear c1
 exact W0
theorem zcz (t u:Tg) (ok:Bool) (k:Nat):ACall prog 113 [zd t,.lit (.bool ok),zd u] k [] (.lit (.bool (ok && decide (t=u)))) []:=by
 cases ok with
 | false=>
  rw [Bool.false_and]
  refine Bd func113 ntmps113 fun σ N hp hpn hk hkn hfree=>?_
  exact W0
 | true=>
  rw [Bool.true_and]
  refine Bd func113 ntmps113 fun σ N hp hpn hk hkn hfree=>?_
  exact W0
theorem zhr (b:Bu) (hcl:b.cavs.length≤1000000) (hdl:b.dis.length≤1000000) (hc:∀ c∈b.cavs,c.ticket.length≤140737488351232) (hd:∀ d∈b.dis,d.ticket.length≤140737488351232) (hex:∀ d∈b.dis,∃ c∈b.cavs,c.third=true∧c.ticket=d.ticket) (k:Nat):
  ACall prog 115 [ye b] k [] (.lit (.bool false)) []:=by
 obtain ⟨rq,ep,se,C,pf,D⟩:=b
 have hbA:ye ⟨rq,ep,se,C,pf,D⟩=.agg [yD rq,.lit (.int .i64 ep),.lit (.int .i64 se),.slice none (C.map z8),zd pf,.slice none (D.map zC)]:=rfl
 rw [hbA]
 clear hbA
 simp only at *
 refine Bd func115 ntmps115 fun σ N hp hpn hk hkn hfree=>?_
 refine Wk ?_
 refine ze zi (by kernel_rfl) [2,4,6,10,11,12,13,14,15,16,17,18,19,20,21,22,23,24,25,26,27,28,29,30,31] [] (fun m_ s_ σ_ n_=>∃ (u:Nat),m_=D.length - u∧s_ 10=.lit (.int .i64 u)∧(u≤D.length)) ⟨_,0,rfl,WF,WC⟩ ?_
 intro m_2 s_2 σ_2 n_2 hs_2 hf_2 hn_2 hI_2
 obtain ⟨u,hm_2,h2_10,hu⟩:=hI_2
 have h2_1:=KS hs_2 1
 have h2_8:=KS hs_2 8
 have h2_9:=KS hs_2 9
 have k2_0:=KE hf_2 (N)
 have hlow:=KL (N:=N) (σ:=σ) hf_2
 by_cases hul:u=D.length
 ·subst hul
  clear hc hd hex
  exact W0
 ·have hu1:u < D.length:=by omega
  obtain ⟨z,hz⟩:∃ z,D[u]=z:=⟨_,rfl⟩
  have hzD:z∈D:=by rw [← hz];exact List.getElem_mem _
  have hzd:=hd z hzD
  obtain ⟨c0,hc0,hc1,hc2⟩:=hex z hzD
  have hzm:(D.map zC)[u]?=some (.agg [.slice none (z.ticket.map za),.slice none (z.conds.map zU),zd z.proof]):=by rw [List.getElem?_map,List.getElem?_eq_getElem hu1,hz];rfl
  refine Wk ?_
  refine ze zi (by kernel_rfl) [6,17,18,19,20,21,22,23,24,25,26,27,28,29,30] [] (fun m_ s_ σ_ n_=>∃ (v:Nat),m_=C.length - v∧s_ 17=.lit (.int .i64 v)∧(v≤C.length)∧(∀ c∈C.take v,¬ (c.third=true∧c.ticket=z.ticket))) ⟨_,0,rfl,WF,WC,WC⟩ ?_
  intro m_3 s_3 σ_3 n_3 hs_3 hf_3 hn_3 hI_3
  obtain ⟨v,hm_3,h3_17,hv,hno⟩:=hI_3
  have h3_1:=KS hs_3 1
  have h3_2:=KS hs_3 2
  have h3_4:=KS hs_3 4
  have h3_8:=KS hs_3 8
  have h3_9:=KS hs_3 9
  have h3_10:=KS hs_3 10
  have h3_11:=KS hs_3 11
  have h3_12:=KS hs_3 12
  have h3_13:=KS hs_3 13
  have h3_14:=KS hs_3 14
  have h3_15:=KS hs_3 15
  have h3_16:=KS hs_3 16
  have k3_0:=KE hf_3 (N)
  have k3_1:=KE hf_3 (n_2+1+2)
  have hlow:=KL (N:=N) (σ:=σ) hf_3
  by_cases hvl:v=C.length
  ·subst hvl
   rw [List.take_length] at hno
   exact absurd ⟨hc1,hc2⟩ (hno c0 hc0)
  ·have hv1:v < C.length:=by omega
   obtain ⟨c,hce⟩:∃ c,C[v]=c:=⟨_,rfl⟩
   have hcd:=hc c (by rw [← hce];exact List.getElem_mem _)
   have hcm:(C.map z8)[v]?=some (.agg [.lit (.bool c.third),zU c.first,.lit (.int .i64 c.party),.slice none (c.ticket.map za),.slice none (c.box.map za)]):=by rw [List.getElem?_map,List.getElem?_eq_getElem hv1,hce];rfl
   have c1:=xB c.ticket z.ticket hcd hzd
   by_cases hy:c.third=true∧c.ticket=z.ticket
   ·rw [decide_eq_true hy.2] at c1
    rw [hy.1] at hcm
    clear hno hc hd hex hy
    have hcs:=And.intro c1 True.intro
    clear c1
    refine Wk ?_
    clear hcs
    exact ⟨WS,WG,WN,_,(show D.length - (u+1) < m_2 by omega),u+1,rfl,WF,WC⟩
   ·have hno2:∀ c∈C.take (v+1),¬ (c.third=true∧c.ticket=z.ticket):=fun x hx=>by
     rw [List.take_add_one,List.getElem?_eq_getElem hv1,hce] at hx
     rcases List.mem_append.1 hx with hx | hx
     ·exact hno x hx
     ·have hx2:x=c:=by simpa using hx
      rw [hx2];exact hy
    cases h3:c.third with
    | false=>
     rw [h3] at hcm
     clear hno hc hd hex hy c1
     refine Wk ?_
     exact ⟨WS,WG,WN,_,(show C.length - (v+1) < m_3 by omega),v+1,rfl,WF,WC,WC⟩
    | true=>
     have h4:¬ c.ticket=z.ticket:=fun h=>hy ⟨h3,h⟩
     rw [decide_eq_false h4] at c1
     rw [h3] at hcm
     clear hno hc hd hex hy h4
     have hcs:=And.intro c1 True.intro
     clear c1
     refine Wk ?_
     clear hcs
     exact ⟨WS,WG,WN,_,(show C.length - (v+1) < m_3 by omega),v+1,rfl,WF,WC,WC⟩
section
variable [W:W32]
structure ThF (a:Alg) (b:Bu) (leaf:Tg) (c:Ca) (t:Tg) (sk dk:Tg) (d:Bo) (j:Nat) (ft:Tg):Prop where
 lk:vq a t (xw c.ticket)=some sk
 op:x6 a sk c.box=(dk.1,0)
 ix:ixF (fun d=>decide (d.ticket=c.ticket)) b.dis 0=(j:Int)
 at_:b.dis[j]?=some d
 dt:zhl a dk d.ticket d.conds=some ft
 pf:zs2 a ft leaf b.req=some d.proof
set_option maxHeartbeats 8000000 in
theorem zdx (a:Alg) (m:Nat) (ha:AlgIn a m) (hm:m≤60000) (b:Bu) (hdl:b.dis.length≤1000000) (hdt:∀ d∈b.dis,d.ticket.length≤100000∧d.conds.length≤100000∧∀ p∈d.conds,PrOk p)
  (c:Ca) (hct:c.ticket.length≤100000) (hcb:c.box.length≤100000) (t leaf sk dk:Tg) (d:Bo) (j:Nat) (ft:Tg) (hF:ThF a b leaf c t sk dk d j ft) (g h k:Nat) (_hgh:g≠h):
  ACall prog 114 [zA a,ye b,z8 c,zd t,zd leaf] k [(g,yE),(h,zS)] (.lit (.int .i64 0)) []:=by
 have c1:=yH [115,101,97,108] c.ticket (by decide) oo
 have hM:[115,101,97,108]++c.ticket=xw c.ticket:=rfl
 rw [hM] at c1
 have c2:=wk a t (xw c.ticket) (by have:=ha.ml;omega) ha.mm (by simp [xw]) (by simp [xw];omega) g
 rw [hF.lk] at c2
 have c3:=zhM a m ha oo sk c.box hcb g
 rw [hF.op] at c3
 have c4:=fun q=>qG b.dis (fun x=>decide (x.ticket=c.ticket)) 184 q (.box 140 (z8 c)) (by simp) (fun x hx k=>zbs c oo x (by have:=(hdt x hx).1;omega) q k) oo
 rw [hF.ix] at c4
 have hjl:j < b.dis.length:=(List.getElem?_eq_some_iff.1 hF.at_).1
 have hdm:d∈b.dis:=List.mem_of_getElem? hF.at_
 have hjm:(b.dis.map zC)[j]?=some (.agg [.slice none (d.ticket.map za),.slice none (d.conds.map zU),zd d.proof]):=by rw [List.getElem?_map,hF.at_];rfl
 obtain ⟨hd1,hd2,hd3⟩:=hdt d hdm
 have c5:=ziV a m ha hm dk d.ticket hd1 d.conds hd2 hd3 g h
 rw [hF.dt] at c5
 have c6:=zfC a m ha hm ft leaf b.req g
 rw [hF.pf] at c6
 have c7:=zcz d.proof d.proof true
 rw [decide_eq_true rfl,Bool.and_self] at c7
 unfold vR at c2 c5 c6
 unfold zkC at c3
 simp only [Option.getD_some,Option.isSome_some] at c2 c5 c6 c3
 have hdkl:(dk.1.map za).length=32:=by rw [List.length_map];exact dk.2
 have hdl2:=dk.2
 have hdkA:AV.agg (dk.1.map za)=zd dk:=rfl
 clear ha hdt hF hdm hd3 hd1 hd2 hM
 obtain ⟨rq,ep,se,C,pf,D⟩:=b
 obtain ⟨th,fi,pa,tk,bx⟩:=c
 have hbA:ye ⟨rq,ep,se,C,pf,D⟩=.agg [yD rq,.lit (.int .i64 ep),.lit (.int .i64 se),.slice none (C.map z8),zd pf,.slice none (D.map zC)]:=rfl
 have hcA:z8 ⟨th,fi,pa,tk,bx⟩=.agg [.lit (.bool th),zU fi,.lit (.int .i64 pa),.slice none (tk.map za),.slice none (bx.map za)]:=rfl
 rw [hcA] at c4
 rw [hbA,hcA]
 simp only at *
 clear hbA hcA
 have e00:((0:Nat):Int)=0:=rfl
 rw [e00] at c3
 clear e00
 refine Bd func114 ntmps114 fun σ N hp hpn hk hkn hfree=>?_
 simp only [List.mem_cons,List.not_mem_nil,or_false,forall_eq_or_imp,forall_eq] at hp hpn;obtain ⟨hd1,hd2⟩:=hp;obtain ⟨hdn1,hdn2⟩:=hpn
 have hcs:=And.intro c1 (And.intro c2 (And.intro c3 (And.intro (c4 (N+2)) True.intro)))
 clear c1 c2 c3 c4
 refine Wk ?_
 clear hcs
 refine zq9 (xs:=dk.1.map za) (len:=32) (by simp (disch:=omega) [go_sem, *,-List.reduceReplicate];try rfl) (by simp (disch:=omega) [go_sem, *,-List.reduceReplicate];exact ⟨rfl,rfl⟩) hdkl (by decide) hdkA ?_
 have hcs:=And.intro c5 (And.intro c6 (And.intro c7 True.intro))
 clear c5 c6 c7
 exact W0
def zbT (ids:List Tg) (leaf:Tg):AV:=.agg [.slice none (ids.map zd),zd leaf]
set_option maxHeartbeats 16000000 in
theorem ziH (a:Alg) (m:Nat) (ha:AlgIn a m) (hm:m≤60000) (root:Tg) (last:Int) (b:Bu) (hb:BuIn b) (hck:yZ b=0) (hcl:b.cavs.length≤1000) (hct:∀ c∈b.cavs,c.ticket.length≤100000∧c.box.length≤100000)
  (hdl:b.dis.length≤1000) (hdt:∀ d∈b.dis,d.ticket.length≤100000∧d.conds.length≤100000∧∀ p∈d.conds,PrOk p) (ts ids:List Tg) (leaf:Tg) (hts:zfe a b.epoch root b.serial b.cavs=(ts,0)) (htl:ts.length=b.cavs.length+1) (hlf:ts[b.cavs.length]?=some leaf) (hid:zgP a ts=(ids,0))
  (hpf:zlR a leaf b.req=some b.proof) (hth:∀ (i:Nat) (c:Ca) (t:Tg),b.cavs[i]?=some c→c.third=true→ts[i]?=some t→∃ sk dk d j ft,ThF a b leaf c t sk dk d j ft)
  (hex:∀ d∈b.dis,∃ c∈b.cavs,c.third=true∧c.ticket=d.ticket) (g h k:Nat) (hgh:g≠h):
  ACall prog 50 [zA a,zbF ⟨[⟨b.epoch,root⟩],last⟩,ye b] k [(g,yE),(h,zS)] (.tup [zbT ids leaf,.lit (.int .i64 0)]) []:=by
 have c1:=wo b hb h
 rw [hck] at c1
 have c2:=fun q=>zhb [⟨b.epoch,root⟩] (fun x=>x.num == b.epoch) 109 q (.box 75 (ye b)) (by simp) (fun x hx k=>zd7 b x q k) (by simp)
 have hix:ixF (fun x:Ep=>x.num == b.epoch) [⟨b.epoch,root⟩] 0=0:=by simp [ixF]
 simp only [hix] at c2
 have c3:=zeV a m ha oo b.epoch root b.serial b.cavs oo hb.ok g h
 simp only [hts] at c3
 have c4:=zfx a m ha hm leaf b.req g
 rw [hpf] at c4
 have c5:=zfA a m ha oo ts oo g
 rw [hid] at c5
 have c6:=zcz b.proof b.proof true
 rw [decide_eq_true rfl,Bool.and_self] at c6
 have c7:=zhr b oo oo (fun c hc=>by have:=(hct c hc).1;omega) (fun d hd=>by have:=(hdt d hd).1;omega) hex
 have c8:∀ (i:Nat) (c:Ca) (t:Tg),b.cavs[i]?=some c→c.third=true→ts[i]?=some t→∀ k,ACall prog 114 [zA a,ye b,z8 c,zd t,zd leaf] k [(g,yE),(h,zS)] (.lit (.int .i64 0)) []:=fun i c t h1 h3 h2 k=>by
  obtain ⟨sk,dk,d,j,ft,hF⟩:=hth i c t h1 h3 h2
  have hcm:=hct c (List.mem_of_getElem? h1)
  exact zdx a m ha hm b oo hdt c hcm.1 hcm.2 t leaf sk dk d j ft hF g h k hgh
 unfold zf5 at c3 c5
 unfold vR at c4
 unfold zbT
 simp only [Option.getD_some,Option.isSome_some] at c3 c4 c5
 have hlm:(ts.map zd)[b.cavs.length]?=some (zd leaf):=by rw [List.getElem?_map,hlf];rfl
 have hrA:zbF ⟨[⟨b.epoch,root⟩],last⟩=.agg [.slice none [.agg [.lit (.int .i64 b.epoch),zd root]],.lit (.int .i64 last)]:=rfl
 have heA:[(⟨b.epoch,root⟩:Ep)].map zi0=[.agg [.lit (.int .i64 b.epoch),zd root]]:=rfl
 rw [heA] at c2
 rw [hrA]
 have hcl2:((b.cavs.length+1:Nat):Int) - 1=(b.cavs.length:Int):=by omega
 clear hth hb ha hck hts hid hpf hex hdt hct hix hrA heA hlf
 obtain ⟨rq,ep,se,C,pf,D⟩:=b
 have hbA:ye ⟨rq,ep,se,C,pf,D⟩=.agg [yD rq,.lit (.int .i64 ep),.lit (.int .i64 se),.slice none (C.map z8),zd pf,.slice none (D.map zC)]:=rfl
 simp only at *
 rw [hbA] at c1 c2 c7 ⊢
 simp only [hbA] at c8
 clear hbA
 have e00:((0:Nat):Int)=0:=rfl
 simp only [e00] at c1 c3 c5
 clear e00
 refine Bd func50 ntmps50 fun σ N hp hpn hk hkn hfree=>?_
 simp only [List.mem_cons,List.not_mem_nil,or_false,forall_eq_or_imp,forall_eq] at hp hpn;obtain ⟨hd1,hd2⟩:=hp;obtain ⟨hdn1,hdn2⟩:=hpn
 have hcs:=And.intro c1 (And.intro (c2 (N+2)) (And.intro (fun k=>c3 k hgh) (And.intro c4 (And.intro c5 (And.intro c6 True.intro)))))
 clear c1 c2 c3 c4 c5 c6
 refine Wk ?_
 clear hcs
 refine ze zi (by kernel_rfl) [7,16,17,18,83,84,85,86,87,88,89,90,91,92,93,94,95,96,97,98,99,100,101,102,103,104] [] (fun m_ s_ σ_ n_=>∃ (u:Nat),m_=C.length - u∧s_ 83=.lit (.int .i64 u)∧(u≤C.length)) ⟨_,0,rfl,WF,WC⟩ ?_
 intro m_1 s_1 σ_1 n_1 hs_1 hf_1 hn_1 hI_1
 obtain ⟨u,hm_1,h1_83,hu⟩:=hI_1
 have h1_3:=KS hs_1 3
 have h1_5:=KS hs_1 5
 have h1_6:=KS hs_1 6
 have h1_10:=KS hs_1 10
 have h1_12:=KS hs_1 12
 have h1_15:=KS hs_1 15
 have h1_81:=KS hs_1 81
 have h1_82:=KS hs_1 82
 have k1_0:=KE hf_1 (N)
 have k1_1:=KE hf_1 (N+1)
 have k1_2:=KE hf_1 (N+2)
 have k1_3:=KE hf_1 (N+3)
 have k1_4:=KE hf_1 (N+35+6)
 have k1_5:=KE hf_1 (N+43+8)
 have k1_6:=KE hf_1 (g)
 have k1_7:=KE hf_1 (h)
 have hlow:=KL (N:=N) (σ:=σ) hf_1
 by_cases hul:u=C.length
 ·subst hul
  have hcs:=And.intro c7 True.intro
  clear c7 c8
  exact W0
 ·have hu1:u < C.length:=by omega
  obtain ⟨c,hce⟩:∃ c,C[u]=c:=⟨_,rfl⟩
  have hcg:C[u]?=some c:=by rw [List.getElem?_eq_getElem hu1,hce]
  have htu:u < ts.length:=by omega
  obtain ⟨t,hte⟩:∃ t,ts[u]=t:=⟨_,rfl⟩
  have htg:ts[u]?=some t:=by rw [List.getElem?_eq_getElem htu,hte]
  have htm:(ts.map zd)[u]?=some (zd t):=by rw [List.getElem?_map,htg];rfl
  have hcm:(C.map z8)[u]?=some (.agg [.lit (.bool c.third),zU c.first,.lit (.int .i64 c.party),.slice none (c.ticket.map za),.slice none (c.box.map za)]):=by rw [List.getElem?_map,hcg];rfl
  have hcA:z8 c=.agg [.lit (.bool c.third),zU c.first,.lit (.int .i64 c.party),.slice none (c.ticket.map za),.slice none (c.box.map za)]:=rfl
  cases h3:c.third with
  | false=>
   rw [h3] at hcm
   clear c8 c7 hcA
   refine Wk ?_
   exact ⟨WS,WG,WN,_,(show C.length - (u+1) < m_1 by omega),u+1,rfl,WF,WC⟩
  | true=>
   have c9:=c8 u c t hcg h3 htg
   rw [hcA,h3] at c9
   rw [h3] at hcm
   clear c8 c7 hcA
   have hcs:=And.intro c9 True.intro
   clear c9
   refine Wk ?_
   clear hcs
   exact ⟨WS,WG,WN,_,(show C.length - (u+1) < m_1 by omega),u+1,rfl,WF,WC⟩
end
section
variable [W:W32]
theorem zgR {a:Alg} (ok:AlgOk a):∀ {M:List (List UInt8)} {k t t':Tg},pathIn a.macs k M t→pathIn a.macs k M t'→t=t'
 | [],k,t,t',h,h'=>by
  have h:k=t:=h
  have h':k=t':=h'
  rw [← h,← h']
 | m::r,k,t,t',h,h'=>by
  obtain ⟨x,⟨h1,_⟩,h2⟩:=h
  obtain ⟨y,⟨h1',_⟩,h2'⟩:=h'
  have e1:=q7 ok h1
  have e2:=q7 ok h1'
  simp only at e1 e2
  rw [e1] at e2
  injection e2 with e2
  subst e2
  exact zgR ok h2 h2'
end
end Go.Proofs.YtglmjglbobhbbaaGreatDoor
