/- Texts D9, Q1, Q2, O0, joined. -/
import Derived.Test.YtglmjglbobhbbaaGreatDoorM20
namespace Go.Proofs.YtglmjglbobhbbaaGreatDoor
open _root_.Go.Proofs.Tryz
open Go.Ab
attribute [local irreducible] Go.Ab.tyAV Go.Ab.aw Go.Ab.aops Go.Ab.kReg Go.Ab.aThen Go.Ab.aBlk Go.Ab.acond Go.Ab.aguard Go.Ab.astep Go.Ab.AStepX Go.Ab.aRet
def zkH (b m:Int):Prop:=m < 0∨67108864 < m∨b < -67108864∨67108864 < b∨m < b
instance (b m:Int):Decidable (zkH b m):=by unfold zkH;infer_instance
def ztE (b m:Int):Int:=if zkH b m then 0 else if (m - b) / 525600 < 150 then (m - b) / 525600 else 150
theorem zs5 (n:List UInt8) (b m:Int) (h1:m < 0) (k:Nat):
  ACall prog 137 [jK ⟨n,b⟩,.lit (.int .i64 m)] k [] (.lit (.int .i64 0)) []:=by
 refine Bd func137 ntmps137 fun σ N hp hpn hk hkn hfree=>?_
 exact W0
theorem zs6 (n:List UInt8) (b m:Int) (h1:¬ m < 0) (h2:67108864 < m) (k:Nat):
  ACall prog 137 [jK ⟨n,b⟩,.lit (.int .i64 m)] k [] (.lit (.int .i64 0)) []:=by
 refine Bd func137 ntmps137 fun σ N hp hpn hk hkn hfree=>?_
 exact W0
theorem zs7 (n:List UInt8) (b m:Int) (h1:¬ m < 0) (h2:¬ 67108864 < m) (h3:b < -67108864) (k:Nat):
  ACall prog 137 [jK ⟨n,b⟩,.lit (.int .i64 m)] k [] (.lit (.int .i64 0)) []:=by
 refine Bd func137 ntmps137 fun σ N hp hpn hk hkn hfree=>?_
 exact W0
theorem zs8 (n:List UInt8) (b m:Int) (h1:¬ m < 0) (h2:¬ 67108864 < m) (h3:¬ b < -67108864) (h4:67108864 < b) (k:Nat):
  ACall prog 137 [jK ⟨n,b⟩,.lit (.int .i64 m)] k [] (.lit (.int .i64 0)) []:=by
 refine Bd func137 ntmps137 fun σ N hp hpn hk hkn hfree=>?_
 exact W0
theorem zs9 (n:List UInt8) (b m:Int) (h1:¬ m < 0) (h2:¬ 67108864 < m) (h3:¬ b < -67108864) (h4:¬ 67108864 < b) (h5:m < b) (k:Nat):
  ACall prog 137 [jK ⟨n,b⟩,.lit (.int .i64 m)] k [] (.lit (.int .i64 0)) []:=by
 refine Bd func137 ntmps137 fun σ N hp hpn hk hkn hfree=>?_
 exact W0
theorem zta (n:List UInt8) (b m r:Int) (h1:¬ m < 0) (h2:¬ 67108864 < m) (h3:¬ b < -67108864) (h4:¬ 67108864 < b) (h5:¬ m < b)
  (hr:(if (150:Int) < (m - b).tdiv 525600 then (150:Int) else (m - b).tdiv 525600)=r) (k:Nat):
  ACall prog 137 [jK ⟨n,b⟩,.lit (.int .i64 m)] k [] (.lit (.int .i64 r)) []:=by
 have hwr:IntKind.i64.wrap (m - b)=m - b:=wrap_i64 oo oo
 have hq:(m - b).tdiv 525600=(m - b) / 525600:=Int.tdiv_eq_ediv_of_nonneg oo
 rw [hq] at hr
 refine Bd func137 ntmps137 fun σ N hp hpn hk hkn hfree=>?_
 exact W0
theorem zoy (n:List UInt8) (b m:Int) (k:Nat):
  ACall prog 137 [jK ⟨n,b⟩,.lit (.int .i64 m)] k [] (.lit (.int .i64 (ztE b m))) []:=by
 unfold ztE
 by_cases h:zkH b m
 ·rw [if_pos h]
  by_cases h1:m < 0
  ·exact zs5 n b m h1 k
  ·by_cases h2:67108864 < m
   ·exact zs6 n b m h1 h2 k
   ·by_cases h3:b < -67108864
    ·exact zs7 n b m h1 h2 h3 k
    ·by_cases h4:67108864 < b
     ·exact zs8 n b m h1 h2 h3 h4 k
     ·unfold zkH at h
      exact zs9 n b m h1 h2 h3 h4 oo k
 ·rw [if_neg h]
  unfold zkH at h
  refine zta n b m _ oo oo oo oo oo ?_ k
  rw [Int.tdiv_eq_ediv_of_nonneg oo]
  split <;> split <;> omega
def zhu (l:List Pe) (nm:List UInt8):Pe × Bool:=match l.find? (fun p=>decide (p.name=nm)) with
 | some p=>(p,true)
 | none=>(⟨[],0⟩,false)
theorem zsE {l:List Pe} {nm:List UInt8} {u:Nat} {p:Pe} (h:u < l.length) (hx:l[u]=p) (hm:p.name=nm) (hno:∀ y∈l.take u,¬ y.name=nm):zhu l nm=(p,true):=by
 have:l.find? (fun p=>decide (p.name=nm))=some p:=by
  rw [List.find?_eq_some_iff_getElem]
  refine ⟨by simp [hm],u,h,hx,fun j hj=>?_⟩
  have:=hno l[j] (by rw [List.mem_iff_getElem];exact ⟨j,by rw [List.length_take];omega,by rw [List.getElem_take]⟩)
  simp [this]
 simp only [zhu,this]
theorem zpY {l:List Pe} {nm:List UInt8} (hno:∀ y∈l,¬ y.name=nm):zhu l nm=(⟨[],0⟩,false):=by
 have:l.find? (fun p=>decide (p.name=nm))=none:=by
  rw [List.find?_eq_none];intro x hx;simp [hno x hx]
 simp only [zhu,this]
theorem zs1 {l:List Pe} {nm:List UInt8} {u:Nat} {p:Pe} (h:u < l.length) (hx:l[u]=p) (hm:¬ p.name=nm) (hno:∀ y∈l.take u,¬ y.name=nm):∀ y∈l.take (u+1),¬ y.name=nm:=by
 intro y hy
 rw [List.take_add_one,List.getElem?_eq_getElem h,hx] at hy
 simp only [Option.toList,List.mem_append,List.mem_singleton] at hy
 rcases hy with hy | rfl
 ·exact hno y hy
 ·exact hm
theorem znc (p:Int) (t:Tg) (l:List Pe) (nm:List UInt8) (hl:l.length≤1000000) (k:Nat):
  ACall prog 136 [xW ⟨p,t,l⟩,zbo nm] k [] (.tup [jK (zhu l nm).1,.lit (.bool (zhu l nm).2)]) []:=by
 have hnmv:zbo nm=.lit (.string ⟨nm.toArray⟩):=rfl
 refine Bd func136 ntmps136 fun σ N hp hpn hk hkn hfree=>?_
 refine Wk ?_
 refine za0 (zhh zi (by kernel_rfl) (fun c=>∃ (u:Nat),c.s 1=zbo nm∧c.s 2=.ptr N [] 0∧c.σ N=.box 47 (xW ⟨p,t,l⟩)∧c.s 4=.ptr (N+1) [] 0∧c.σ (N+1)=.box 147 (jK ⟨[],0⟩)∧c.s 6=.lit (.int .i64 u)∧u≤l.length∧N+1 < c.n∧(∀ id,id < N→c.σ id=σ id)∧∀ y∈l.take u,¬ y.name=nm)
  (fun c=>match c.s 6 with | .lit (.int _ m)=>l.length - m.toNat | _=>0) ⟨0,by simp (disch:=omega) [go_sem, *,-List.reduceReplicate],by simp (disch:=omega) [go_sem, *,-List.reduceReplicate],by simp (disch:=omega) [go_sem, *,-List.reduceReplicate],by simp (disch:=omega) [go_sem, *,-List.reduceReplicate],by simp (disch:=omega) [go_sem, *,-List.reduceReplicate];try rfl,by simp (disch:=omega) [go_sem, *,-List.reduceReplicate],by omega,by simp only;omega,(fun id hid=>by simp (disch:=omega) only [zg];try exact hlow id hid),by simp⟩ ?_)
 rintro ⟨s,σ',n'⟩ ⟨u,h1,h2,hN,h4,hN1,h6,hu,hn',hlow,hno⟩
 simp only at h1 h2 hN h4 hN1 h6 hn' hlow
 by_cases hul:u=l.length
 ·rw [zpY (by rw [hul,List.take_length] at hno;exact hno)]
  clear hno
  exact W0
 ·have hu2:u < l.length:=by omega
  obtain ⟨x,hx⟩:∃ x,l[u]=x:=⟨_,rfl⟩
  by_cases hm:x.name=nm
  ·rw [zsE hu2 hx hm hno]
   clear hno
   obtain ⟨xn,xb⟩:=x
   simp only at hm
   subst hm
   exact W0
  ·have hno2:=zs1 hu2 hx hm hno
   clear hno
   obtain ⟨xn,xb⟩:=x
   simp only at hm
   refine Wk ?_
   refine ⟨⟨u+1,by simp (disch:=omega) [go_sem, *,-List.reduceReplicate],by simp (disch:=omega) [go_sem, *,-List.reduceReplicate],by simp (disch:=omega) [go_sem, *,-List.reduceReplicate],by simp (disch:=omega) [go_sem, *,-List.reduceReplicate],by simp (disch:=omega) [go_sem, *,-List.reduceReplicate],by simp (disch:=omega) [go_sem, *,-List.reduceReplicate],by omega,by simp only;omega,(fun id hid=>by simp (disch:=omega) only;try exact hlow id hid),hno2⟩,?_⟩
   simp (disch:=omega) [go_sem, *,-List.reduceReplicate]
   omega
theorem zeA (kind:UInt8) (n:Nat) (_hn:n≤1000000000) (k:Nat):
  ACall prog 206 [.lit (.int .u8 kind.toNat),.lit (.int .i64 n)] k [] (zd (vW kind n)) []:=by
 have e7:=z9 (n:Int) 56
 have e6:=z9 (n:Int) 48
 have e5:=z9 (n:Int) 40
 have e4:=z9 (n:Int) 32
 have e3:=z9 (n:Int) 24
 have e2:=z9 (n:Int) 16
 have e1:=z9 (n:Int) 8
 have e0:=z9 (n:Int) 0
 simp only [Int.reducePow,Int.pow_zero,Int.fdiv_one] at e7 e6 e5 e4 e3 e2 e1 e0
 have hT:(vW kind n).1=[115,121,109,98,111,108,kind]++yh n++List.replicate 17 0:=rfl
 generalize vW kind n=TT at *
 obtain ⟨TT,hTl⟩:=TT
 simp only [zd,yh] at hT ⊢
 generalize sh8 (n:Int) 56=b7 at *
 generalize sh8 (n:Int) 48=b6 at *
 generalize sh8 (n:Int) 40=b5 at *
 generalize sh8 (n:Int) 32=b4 at *
 generalize sh8 (n:Int) 24=b3 at *
 generalize sh8 (n:Int) 16=b2 at *
 generalize sh8 (n:Int) 8=b1 at *
 generalize sh8 (n:Int) 0=b0 at *
 have hbk:za kind=.lit (.int .u8 kind.toNat):=rfl
 have hs1:(AV.agg (TT.map za)).sz=32:=by simp only [AV.sz,zcx];exact hTl
 have hs2:(AV.agg (TT.map za)).cell=true:=zX TT
 have hz6:List.drop 6 (List.map za zeroTag.val)=[.lit (.int .u8 0),.lit (.int .u8 0),.lit (.int .u8 0),.lit (.int .u8 0),.lit (.int .u8 0),.lit (.int .u8 0),.lit (.int .u8 0),.lit (.int .u8 0),.lit (.int .u8 0),.lit (.int .u8 0),.lit (.int .u8 0),.lit (.int .u8 0),.lit (.int .u8 0),.lit (.int .u8 0),.lit (.int .u8 0),.lit (.int .u8 0),.lit (.int .u8 0),.lit (.int .u8 0),.lit (.int .u8 0),.lit (.int .u8 0),.lit (.int .u8 0),.lit (.int .u8 0),.lit (.int .u8 0),.lit (.int .u8 0),.lit (.int .u8 0),.lit (.int .u8 0)]:=rfl
 have h115:za 115=.lit (.int .u8 115):=rfl
 have h121:za 121=.lit (.int .u8 121):=rfl
 have h109:za 109=.lit (.int .u8 109):=rfl
 have h98:za 98=.lit (.int .u8 98):=rfl
 have h111:za 111=.lit (.int .u8 111):=rfl
 have h108:za 108=.lit (.int .u8 108):=rfl
 refine Bd func206 ntmps206 fun σ N hp hpn hk hkn hfree=>?_
 have M:Mut (N+2):=⟨⟩
 refine Wk ?_
 refine ze zi (by kernel_rfl) [6,11,12,13,14,15,16,17,18,19,20,21,22,23] [N+1] (fun m_ s_ σ_ n_=>∃ (u:Nat) (T:List AV),m_=8 - u∧s_ 11=.lit (.int .i64 u)∧σ_ (N+1)=.box 28 (.agg T)∧(u≤8)∧(T=[.lit (.int .u8 115),.lit (.int .u8 121),.lit (.int .u8 109),.lit (.int .u8 98),.lit (.int .u8 111),.lit (.int .u8 108),za kind]++([b7,b6,b5,b4,b3,b2,b1,b0].map za).take u++([.lit (.int .u8 0),.lit (.int .u8 0),.lit (.int .u8 0),.lit (.int .u8 0),.lit (.int .u8 0),.lit (.int .u8 0),.lit (.int .u8 0),.lit (.int .u8 0),.lit (.int .u8 0),.lit (.int .u8 0),.lit (.int .u8 0),.lit (.int .u8 0),.lit (.int .u8 0),.lit (.int .u8 0),.lit (.int .u8 0),.lit (.int .u8 0),.lit (.int .u8 0),.lit (.int .u8 0),.lit (.int .u8 0),.lit (.int .u8 0),.lit (.int .u8 0),.lit (.int .u8 0),.lit (.int .u8 0),.lit (.int .u8 0),.lit (.int .u8 0)]:List AV).drop u)) ⟨_,0,_,rfl,WF,WF,WC,WC⟩ ?_
 intro m_1 s_1 σ_1 n_1 hs_1 hf_1 hn_1 hI_1
 obtain ⟨u,T,hm_1,h1_11,e1_0,hu,hT0⟩:=hI_1
 have h1_1:=KS hs_1 1
 have h1_4:=KS hs_1 4
 have h1_5:=KS hs_1 5
 have k1_0:=KE hf_1 (N)
 have hlow:=KL (N:=N) (σ:=σ) hf_1
 clear hz6 h115 h121 h109 h98 h111 h108
 have hb7:za b7=.lit (.int .u8 b7.toNat):=rfl
 have hb6:za b6=.lit (.int .u8 b6.toNat):=rfl
 have hb5:za b5=.lit (.int .u8 b5.toNat):=rfl
 have hb4:za b4=.lit (.int .u8 b4.toNat):=rfl
 have hb3:za b3=.lit (.int .u8 b3.toNat):=rfl
 have hb2:za b2=.lit (.int .u8 b2.toNat):=rfl
 have hb1:za b1=.lit (.int .u8 b1.toNat):=rfl
 have hb0:za b0=.lit (.int .u8 b0.toNat):=rfl
 have hcase:u=0∨u=1∨u=2∨u=3∨u=4∨u=5∨u=6∨u=7∨u=8:=by omega
 rcases hcase with rfl | hcase
 ·simp only [List.take_zero,List.map_cons,List.map_nil,List.cons_append,List.nil_append,List.drop_zero] at hT0
  subst hT0
  clear hT
  refine Wk ?_
  exact ⟨WS,WG,WN,_,(show 8 - (1) < m_1 by omega),1,_,rfl,WF,WF,WC,WC⟩
 rcases hcase with rfl | hcase
 ·simp only [List.take_succ_cons,List.take_zero,List.map_cons,List.map_nil,List.cons_append,List.nil_append,List.drop_zero,List.drop_succ_cons] at hT0
  subst hT0
  clear hT
  refine Wk ?_
  exact ⟨WS,WG,WN,_,(show 8 - (2) < m_1 by omega),2,_,rfl,WF,WF,WC,WC⟩
 rcases hcase with rfl | hcase
 ·simp only [List.take_succ_cons,List.take_zero,List.map_cons,List.map_nil,List.cons_append,List.nil_append,List.drop_zero,List.drop_succ_cons] at hT0
  subst hT0
  clear hT
  refine Wk ?_
  exact ⟨WS,WG,WN,_,(show 8 - (3) < m_1 by omega),3,_,rfl,WF,WF,WC,WC⟩
 rcases hcase with rfl | hcase
 ·simp only [List.take_succ_cons,List.take_zero,List.map_cons,List.map_nil,List.cons_append,List.nil_append,List.drop_zero,List.drop_succ_cons] at hT0
  subst hT0
  clear hT
  refine Wk ?_
  exact ⟨WS,WG,WN,_,(show 8 - (4) < m_1 by omega),4,_,rfl,WF,WF,WC,WC⟩
 rcases hcase with rfl | hcase
 ·simp only [List.take_succ_cons,List.take_zero,List.map_cons,List.map_nil,List.cons_append,List.nil_append,List.drop_zero,List.drop_succ_cons] at hT0
  subst hT0
  clear hT
  refine Wk ?_
  exact ⟨WS,WG,WN,_,(show 8 - (5) < m_1 by omega),5,_,rfl,WF,WF,WC,WC⟩
 rcases hcase with rfl | hcase
 ·simp only [List.take_succ_cons,List.take_zero,List.map_cons,List.map_nil,List.cons_append,List.nil_append,List.drop_zero,List.drop_succ_cons] at hT0
  subst hT0
  clear hT
  refine Wk ?_
  exact ⟨WS,WG,WN,_,(show 8 - (6) < m_1 by omega),6,_,rfl,WF,WF,WC,WC⟩
 rcases hcase with rfl | hcase
 ·simp only [List.take_succ_cons,List.take_zero,List.map_cons,List.map_nil,List.cons_append,List.nil_append,List.drop_zero,List.drop_succ_cons] at hT0
  subst hT0
  clear hT
  refine Wk ?_
  exact ⟨WS,WG,WN,_,(show 8 - (7) < m_1 by omega),7,_,rfl,WF,WF,WC,WC⟩
 rcases hcase with rfl | hcase
 ·simp only [List.take_succ_cons,List.take_zero,List.map_cons,List.map_nil,List.cons_append,List.nil_append,List.drop_zero,List.drop_succ_cons] at hT0
  subst hT0
  clear hT
  refine Wk ?_
  exact ⟨WS,WG,WN,_,(show 8 - (8) < m_1 by omega),8,_,rfl,WF,WF,WC,WC⟩
 subst hcase
 have hT1:T=TT.map za:=by rw [hT,hT0];rfl
 rw [hT1] at e1_0
 clear hT hT0 hT1 hb7 hb6 hb5 hb4 hb3 hb2 hb1 hb0
 exact W0
attribute [local irreducible] yE
theorem zpA (l:List MacE) (_hl:l.length≤1000000) (k:Nat):
  ACall prog 162 [.slice none (l.map zJ)] k [] (.clip (l.map zJ)) []:=by
 refine Bd func162 ntmps162 fun σ N hp hpn hk hkn hfree=>?_
 exact W0
theorem zpy (l:List BoxE) (_hl:l.length≤1000000) (k:Nat):
  ACall prog 163 [.slice none (l.map zo)] k [] (.clip (l.map zo)) []:=by
 refine Bd func163 ntmps163 fun σ N hp hpn hk hkn hfree=>?_
 exact W0
def zbN (a:Alg) (e:Nat) (mx bx:AV):AV:=.agg [.agg [.lit (.bool a.free),zd a.seed,.lit (.int .i64 a.fresh),mx,bx],.lit (.int .i64 (e:Int))]
theorem wK (a:Alg) (hl:a.macs.length≤1000000) (hb:a.boxes.length≤1000000) (k:Nat):
  ACall prog 99 [zA a] k [] (.ptr k [] 0) [(k,.box 249 (zbN a 0 (.clip (a.macs.map zJ)) (.clip (a.boxes.map zo))))]:=by
 obtain ⟨fr,sd,fs,L,B⟩:=a
 simp only at hl hb
 have c1:=zpA L hl
 have c2:=zpy B hb
 unfold zbN
 simp only [zA] at *
 refine Bd func99 ntmps99 fun σ N hp hpn hk hkn hfree=>?_
 have hcs:=And.intro c1 (And.intro c2 True.intro)
 clear c1 c2
 refine Wk ?_
 refine zQ (r0:=N+12+2) (by simp (disch:=omega) [go_sem, *,-List.reduceReplicate];rfl) oo (by simp (disch:=omega) [go_sem];try rfl) (fun id hid=>by simp (disch:=omega) only [zg,yi];try exact hlow id hid) (by simp (disch:=omega) [go_sem, *,-List.reduceReplicate];rfl) (by simp (disch:=omega) [go_sem])
def zfk (n:Nat):Ent:=.row 190 65 n
def ztS (n:Nat):Ent:=.row 192 35 n
@[go_sem] theorem zP (n:Nat):zfk n=.row 190 65 n:=rfl
@[go_sem] theorem zO (n:Nat):ztS n=.row 192 35 n:=rfl
def zcM (a:Alg) (e r1 r2:Nat):Ent:=.box 249 (zbN a e (.slice (some r1) (a.macs.map zJ)) (.slice (some r2) (a.boxes.map zo)))
def vA (a:Alg) (e d r1 r2:Nat):List (Nat × Ent):=[(d,zcM a e r1 r2),(r1,zfk a.macs.length),(r2,ztS a.boxes.length)]
theorem xN (a:Alg) (e:Nat) (f d r1 r2 k:Nat):
  ACall prog 170 [.ptr d [] 0,.lit (.int .i64 (f:Nat))] k (vA a e d r1 r2) (.tup []) [(d,zcM a (if e=0 then f else e) r1 r2)]:=by
 obtain ⟨fr,sd,fs,L,B⟩:=a
 unfold vA zcM zbN
 by_cases h:e=0
 ·subst h
  rw [if_pos rfl]
  refine Bd (hpre:=by simp [zP,zO]) func170 ntmps170 fun σ N hp hpn hk hkn hfree=>?_
  simp only [List.mem_cons,List.not_mem_nil,or_false,forall_eq_or_imp,forall_eq] at hp hpn;obtain ⟨hd1,hd2,hd3⟩:=hp;obtain ⟨hdn1,hdn2,hdn3⟩:=hpn
  refine Wk ?_
  refine zly ?_
  exact RW (d) ((.box 249 (.agg [.agg [.lit (.bool fr),zd sd,.lit (.int .i64 fs),.slice (some r1) (L.map zJ),.slice (some r2) (B.map zo)],.lit (.int .i64 (f:Int))])))
 ·rw [if_neg h]
  have h1:decide ((e:Int)=0)=false:=decide_eq_false oo
  have h2:((e:Int) == 0)=false:=h1
  refine Bd (hpre:=by simp [zP,zO]) func170 ntmps170 fun σ N hp hpn hk hkn hfree=>?_
  simp only [List.mem_cons,List.not_mem_nil,or_false,forall_eq_or_imp,forall_eq] at hp hpn;obtain ⟨hd1,hd2,hd3⟩:=hp;obtain ⟨hdn1,hdn2,hdn3⟩:=hpn
  refine Wk ?_
  refine zly ?_
  exact RW (d) ((.box 249 (.agg [.agg [.lit (.bool fr),zd sd,.lit (.int .i64 fs),.slice (some r1) (L.map zJ),.slice (some r2) (B.map zo)],.lit (.int .i64 (e:Int))])))
theorem kF (a:Alg) (d r1 r2 k:Nat):
  ACall prog 101 [.ptr d [] 0] k (vA a 0 d r1 r2) (.tup [zA a,.lit (.int .i64 0)]) []:=by
 obtain ⟨fr,sd,fs,L,B⟩:=a
 unfold vA zcM zbN
 simp only [zA]
 refine Bd (hpre:=by simp [zP,zO]) func101 ntmps101 fun σ N hp hpn hk hkn hfree=>?_
 simp only [List.mem_cons,List.not_mem_nil,or_false,forall_eq_or_imp,forall_eq] at hp hpn;obtain ⟨hd1,hd2,hd3⟩:=hp;obtain ⟨hdn1,hdn2,hdn3⟩:=hpn
 refine Wk ?_
 refine vn (by simp (disch:=omega) [go_sem, *,-List.reduceReplicate];rfl) (by exact AV.sub_tup (.cons (AV.sub_agg (by repeat' first | exact ALe.nil | exact AV.le_refl _ | apply ALe.cons | ((first | apply AV.le_slices | apply AV.le_nilsE | apply AV.le_clipE);first | rfl | (simp (disch:=omega) [go_sem, *,-List.reduceReplicate];done)))) (by repeat' first | exact ALe.nil | exact AV.le_refl _ | apply ALe.cons | ((first | apply AV.le_slices | apply AV.le_nilsE | apply AV.le_clipE);first | rfl | (simp (disch:=omega) [go_sem, *,-List.reduceReplicate];done))))) (by simp (disch:=omega) [go_sem];try rfl) (fun id hid=>by simp (disch:=omega) only [zg];try exact hlow id hid)
def fI (key:Tg) (msg:List UInt8):List MacE→Nat→Int
 | [],_=>-1
 | e::r,u=>if e.key=key∧e.msg=msg then u else fI key msg r (u+1)
theorem zjb {key:Tg} {msg:List UInt8}:∀ (L:List MacE) (u:Nat),zcG key msg L=none→fI key msg L u=-1
 | [],_,_=>rfl
 | e::r,u,h=>by
  rw [zcG] at h
  split at h
  ·cases h
  ·rename_i hn
   rw [fI,if_neg hn]
   exact zjb r _ h
theorem zjc {key:Tg} {msg:List UInt8} {t:Tg}:∀ (L:List MacE) (u:Nat),zcG key msg L=some t→∃ (i:Nat) (h:i < L.length),fI key msg L u=((u+i:Nat):Int)∧(L[i]).tag=t
 | [],_,h=>by cases h
 | e::r,u,h=>by
  rw [zcG] at h
  split at h
  ·rename_i hc
   injection h with h
   exact ⟨0,by simp,by rw [fI,if_pos hc,Nat.add_zero],h⟩
  ·rename_i hn
   obtain ⟨i,hi,h1,h2⟩:=zjc r (u+1) h
   exact ⟨i+1,by simp;omega,by rw [fI,if_neg hn,h1];congr 1;omega,h2⟩
theorem zpX (e:MacE) (key:Tg) (msg:List UInt8) (he:e.msg.length≤100000) (hm:msg.length≤1000000) (a b k:Nat) (_hab:a≠b):
  ACall prog 236 [zJ e,.ptr a [] 0,.ptr b [] 0] k [(a,.box 28 (zd key)),(b,.box 31 (.slice none (msg.map za)))] (.lit (.bool (decide (e.key=key∧e.msg=msg)))) []:=by
 obtain ⟨zk,zm,zt⟩:=e
 simp only at he ⊢
 have c1:=xB zm msg oo oo
 have hzd:zJ ⟨zk,zm,zt⟩=.agg [zd zk,bAV zm,zd zt]:=rfl
 have hzb:=qS zm
 by_cases h1:zk=key
 ·have d1:decide (zk=key)=true:=decide_eq_true h1
  by_cases h2:zm=msg
  ·have d2:decide (zm=msg)=true:=decide_eq_true h2
   rw [decide_eq_true (show zk=key∧zm=msg from ⟨h1,h2⟩)]
   rw [d2] at c1
   refine Bd func236 ntmps236 fun σ N hp hpn hk hkn hfree=>?_
   simp only [List.mem_cons,List.not_mem_nil,or_false,forall_eq_or_imp,forall_eq] at hp hpn;obtain ⟨hd1,hd2⟩:=hp;obtain ⟨hdn1,hdn2⟩:=hpn
   have hcs:=And.intro c1 True.intro
   clear c1 h1 h2 d2
   exact W0
  ·have d2:decide (zm=msg)=false:=decide_eq_false h2
   rw [decide_eq_false (show ¬ (zk=key∧zm=msg) from fun h=>h2 h.2)]
   rw [d2] at c1
   refine Bd func236 ntmps236 fun σ N hp hpn hk hkn hfree=>?_
   simp only [List.mem_cons,List.not_mem_nil,or_false,forall_eq_or_imp,forall_eq] at hp hpn;obtain ⟨hd1,hd2⟩:=hp;obtain ⟨hdn1,hdn2⟩:=hpn
   have hcs:=And.intro c1 True.intro
   clear c1 h1 h2 d2
   exact W0
 ·have d1:decide (zk=key)=false:=decide_eq_false h1
  rw [decide_eq_false (show ¬ (zk=key∧zm=msg) from fun h=>h1 h.1)]
  refine Bd func236 ntmps236 fun σ N hp hpn hk hkn hfree=>?_
  simp only [List.mem_cons,List.not_mem_nil,or_false,forall_eq_or_imp,forall_eq] at hp hpn;obtain ⟨hd1,hd2⟩:=hp;obtain ⟨hdn1,hdn2⟩:=hpn
  clear c1 h1
  exact W0
theorem znI (L:List MacE) (key:Tg) (msg:List UInt8) (hl:L.length≤1000000) (hm:∀ e∈L,e.msg.length≤100000) (hmsg:msg.length≤1000000) (a b k:Nat) (hab:a≠b):
  ACall prog 235 [.slice none (L.map zJ),.fn 236 [.ptr a [] 0,.ptr b [] 0]] k [(a,.box 28 (zd key)),(b,.box 31 (.slice none (msg.map za)))] (.lit (.int .i64 (fI key msg L 0))) []:=by
 obtain ⟨R,hR⟩:∃ R,fI key msg L 0=R:=⟨_,rfl⟩
 rw [hR]
 have hdr:L.drop 0=L:=rfl
 refine Bd func235 ntmps235 fun σ N hp hpn hk hkn hfree=>?_
 simp only [List.mem_cons,List.not_mem_nil,or_false,forall_eq_or_imp,forall_eq] at hp hpn;obtain ⟨hd1,hd2⟩:=hp;obtain ⟨hdn1,hdn2⟩:=hpn
 refine Wk ?_
 refine ze zi (by kernel_rfl) [4,5,8,9,10,11,12,13,14,15,16,17,18] [] (fun m_ s_ σ_ n_=>∃ (u:Nat),m_=L.length - u∧s_ 8=.lit (.int .i64 u)∧(u≤L.length)∧(fI key msg (L.drop u) u=R)) ⟨_,0,rfl,WF,WC,WC⟩ ?_
 intro m_1 s_1 σ_1 n_1 hs_1 hf_1 hn_1 hI_1
 obtain ⟨u,hm_1,h1_8,hu,hno⟩:=hI_1
 have h1_0:=KS hs_1 0
 have h1_1:=KS hs_1 1
 have h1_7:=KS hs_1 7
 have k1_0:=KE hf_1 (a)
 have k1_1:=KE hf_1 (b)
 have hlow:=KL (N:=N) (σ:=σ) hf_1
 clear hR hdr
 by_cases hul:u=L.length
 ·subst hul
  rw [List.drop_length] at hno
  simp only [fI] at hno
  subst hno
  clear hm
  exact W0
 ·have hu1:u < L.length:=by omega
  rw [List.drop_eq_getElem_cons hu1,fI] at hno
  have hmz:=hm _ (List.getElem_mem hu1)
  obtain ⟨z,hz⟩:∃ z,L[u]=z:=⟨_,rfl⟩
  rw [hz] at hno hmz
  have c1:=zpX z key msg hmz hmsg a b
  by_cases hc:z.key=key∧z.msg=msg
  ·rw [if_pos hc] at hno
   subst hno
   rw [decide_eq_true hc] at c1
   have hcs:=And.intro (fun k=>c1 k hab) True.intro
   clear c1 hm hc hmz
   exact W0
  ·rw [if_neg hc] at hno
   rw [decide_eq_false hc] at c1
   have hcs:=And.intro (fun k=>c1 k hab) True.intro
   clear c1 hm hc hmz
   refine Wk ?_
   exact ⟨WS,WG,WN,_,(show L.length - (u+1) < m_1 by omega),u+1,rfl,WF,WC,WC⟩
theorem zgu (L:List MacE) (key:Tg) (msg:List UInt8) (hl:L.length≤1000000) (hm:∀ e∈L,e.msg.length≤100000) (hmsg:msg.length≤1000000) (k:Nat):
  ACall prog 205 [.slice none (L.map zJ),zd key,.slice none (msg.map za)] k [] (.lit (.int .i64 (fI key msg L 0))) []:=by
 refine Bd func205 ntmps205 fun σ N hp hpn hk hkn hfree=>?_
 have hcs:=And.intro (fun k=>znI L key msg hl hm hmsg N (N+1) k oo) True.intro
 clear hm
 exact W0
end Go.Proofs.YtglmjglbobhbbaaGreatDoor
namespace Go.Proofs.YtglmjglbobhbbaaGreatDoor
open _root_.Go.Proofs.Tryz
open Go.Ab
attribute [local irreducible] Go.Ab.tyAV Go.Ab.aw Go.Ab.aops Go.Ab.kReg Go.Ab.aThen Go.Ab.aBlk Go.Ab.acond Go.Ab.aguard Go.Ab.astep Go.Ab.AStepX Go.Ab.aRet
end Go.Proofs.YtglmjglbobhbbaaGreatDoor
