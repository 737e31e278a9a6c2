/- Texts U10, U9, Y8, joined. -/
import Derived.Test.YtglmjglbobhbbaaGreatDoorM30
namespace Go.Proofs.YtglmjglbobhbbaaGreatDoor
open _root_.Go.Proofs.Tryz
open Go.Ab
attribute [local irreducible] Go.Ab.tyAV Go.Ab.aw Go.Ab.aops Go.Ab.kReg Go.Ab.aThen Go.Ab.aBlk Go.Ab.acond Go.Ab.aguard Go.Ab.astep Go.Ab.AStepX Go.Ab.aRet
attribute [local irreducible] yE
def zR (p:Pr):Ca:=⟨false,p,0,[],[]⟩
section
variable [W:W32]
def yT (a:Alg) (p:Pa):List Pr→Alg × Pa × Nat
 | []=>(a,p,0)
 | x::r=>if (zba a p (zR x)).2.2=0 then yT (zba a p (zR x)).1 (zba a p (zR x)).2.1 r else (wZ,pa0,(zba a p (zR x)).2.2)
theorem zbJ {a:Alg} {p:Pa} {c:Ca}:(zba a p c).2.1.cavs.length≤p.cavs.length+1:=by
 unfold zba
 split
 ·simp [pa0]
 ·split
  ·simp [pa0]
  ·split
   ·simp
   ·simp [pa0]
theorem zsn {a:Alg} {p:Pa} {c:Ca} (h:(zba a p c).2.2≠0):zba a p c=(wZ,pa0,(zba a p c).2.2):=by
 unfold zba at h ⊢
 split
 ·rfl
 ·split
  ·rfl
  ·rename_i h1 h2
   rw [if_neg h1,if_neg h2] at h
   split
   ·rename_i h3;rw [if_pos h3] at h;exact absurd rfl h
   ·rfl
set_option maxHeartbeats 2000000 in
theorem zdq (a:Alg) (m:Nat) (ha:AlgIn a m) (p:Pa) (l:List Pr) (hm:m+2 * l.length≤800000) (hpl:p.cavs.length+l.length≤10000) (hpk:∀ x∈l,PrOk x) (k:Nat):
  ACall prog 72 [zA a,zG p,.slice none (l.map zU)] k [] (zdZ (yT a p l)) []:=by
 obtain ⟨R,hR⟩:∃ R,yT a p l=R:=⟨_,rfl⟩
 rw [hR]
 obtain ⟨R1,R2,R3⟩:=R
 have hdr:l.drop 0=l:=rfl
 unfold zdZ
 simp only
 have g0:(0:Nat)=0→yT a p (l.drop 0)=(R1,R2,R3):=fun _=>hR
 have g1:(0:Nat)≠0→(R1,R2,R3)=((wZ,pa0,(0:Nat)):Alg × Pa × Nat)∧a=wZ∧p=pa0:=fun h=>absurd rfl h
 refine Bd func72 ntmps72 fun σ N hp hpn hk hkn hfree=>?_
 refine Wk ?_
 refine ze zi (by kernel_rfl) [9,10,11,12,13,14,15,16,17,18,19,20,21,22,23,24,25,26,27,28,29,30,31,32] [N,N+1,N+2,N+3] (fun m_ s_ σ_ n_=>∃ (u:Nat) (A:Alg) (Q:Pa) (e:Nat),m_=l.length - u∧s_ 10=.lit (.int .i64 u)∧s_ 9=.lit (.int .i64 (e:Nat))∧σ_ (N)=.box 41 (zA A)∧σ_ (N+1)=.box 30 (zG Q)∧σ_ (N+2)=.box 41 (.agg [.lit (.bool false),zd zeroTag,.lit (.int .i64 0),.nils,.nils])∧σ_ (N+3)=.box 30 (.agg [.lit (.int .i64 0),.lit (.int .i64 0),.nils,zd zeroTag])∧(u≤l.length)∧(AlgIn A (m+2 * u))∧(Q.cavs.length≤p.cavs.length+u)∧(e=0→yT A Q (l.drop u)=(R1,R2,R3))∧(e≠0→(R1,R2,R3)=(wZ,pa0,e)∧A=wZ∧Q=pa0)) ⟨_,0,a,p,0,rfl,WF,WF,WF,WF,WF,WF,WC,WC,WC,WC,WC⟩ ?_
 intro m_1 s_1 σ_1 n_1 hs_1 hf_1 hn_1 hI_1
 obtain ⟨u,A,Q,e,hm_1,h1_10,h1_9,e1_0,e1_1,e1_2,e1_3,hu,hA,hQ,hg,hg2⟩:=hI_1
 have h1_2:=KS hs_1 2
 have h1_3:=KS hs_1 3
 have h1_4:=KS hs_1 4
 have h1_6:=KS hs_1 6
 have h1_7:=KS hs_1 7
 have h1_8:=KS hs_1 8
 have hlow:=KL (N:=N) (σ:=σ) hf_1
 clear hR hdr g0 g1
 by_cases he:e=0
 ·subst he
  have hg:=hg rfl
  clear hg2
  by_cases hul:u=l.length
  ·subst hul
   rw [List.drop_length] at hg
   simp only [yT,Prod.mk.injEq] at hg
   obtain ⟨rfl,rfl,rfl⟩:=hg
   clear hpk hA
   refine Wk ?_
   exact WD
  ·have hu1:u < l.length:=by omega
   rw [List.drop_eq_getElem_cons hu1,yT] at hg
   have hz1:=hpk _ (List.getElem_mem hu1)
   obtain ⟨z,hz⟩:∃ z,l[u]=z:=⟨_,rfl⟩
   rw [hz] at hg hz1
   have c1:=zjP A (m+2 * u) hA oo Q oo (zR z) hz1
   have hin:=zhi hA Q (zR z)
   have hln:=zbJ (a:=A) (p:=Q) (c:=zR z)
   have hbd:=zsn (a:=A) (p:=Q) (c:=zR z)
   generalize zba A Q (zR z)=X at *
   obtain ⟨a1,p1,e1'⟩:=X
   simp only at hg hin hln hbd
   unfold zdZ zR z8 at c1
   simp only [List.map_nil] at c1
   have hin2:AlgIn a1 (m+2 * (u+1)):=hin.more oo
   have hq1:e1'=0→yT a1 p1 (l.drop (u+1))=(R1,R2,R3):=fun h=>by rw [if_pos h] at hg;exact hg
   have hq2:e1'≠0→(R1,R2,R3)=(wZ,pa0,e1')∧a1=wZ∧p1=pa0:=fun h=>by
    rw [if_neg h] at hg
    have:=hbd h
    simp only [Prod.mk.injEq] at this
    exact ⟨hg.symm,this.1,this.2.1⟩
   have hln2:p1.cavs.length≤p.cavs.length+(u+1):=by omega
   have hcs:=And.intro c1 True.intro
   clear c1 hpk hg hin hbd hA hln
   refine Wk ?_
   exact ⟨WS,WG,WN,_,(show l.length - (u+1) < m_1 by omega),u+1,a1,p1,e1',rfl,WF,WF,WF,WF,WF,WF,WC,WC,WC,WC,WC⟩
 ·obtain ⟨h1,rfl,rfl⟩:=hg2 he
  simp only [Prod.mk.injEq] at h1
  obtain ⟨rfl,rfl,rfl⟩:=h1
  have hei:((R3:Int) == 0)=false:=by rw [beq_eq_false_iff_ne];omega
  have hei2:((R3:Int) != 0)=true:=by simp;omega
  clear hg hg2 hA hpk
  simp only [zZ,zm3] at *
  by_cases hul:u < l.length
  ·have huli:(u:Int) < (l.length:Int):=by omega
   refine Wk ?_
   exact WD
  ·have huli:¬ (u:Int) < (l.length:Int):=by omega
   refine Wk ?_
   exact WD
end
end Go.Proofs.YtglmjglbobhbbaaGreatDoor
namespace Go.Proofs.YtglmjglbobhbbaaGreatDoor
open _root_.Go.Proofs.Tryz
open Go.Ab
attribute [local irreducible] Go.Ab.tyAV Go.Ab.aw Go.Ab.aops Go.Ab.kReg Go.Ab.aThen Go.Ab.aBlk Go.Ab.acond Go.Ab.aguard Go.Ab.astep Go.Ab.AStepX Go.Ab.aRet
structure BuSm (z:Bu):Prop where
 cl:z.cavs.length≤100000
 dl:z.dis.length≤100000
 cs:∀ c∈z.cavs,wY c
 ds:∀ d∈z.dis,d.ticket.length≤100000000∧d.conds.length≤100000
end Go.Proofs.YtglmjglbobhbbaaGreatDoor
