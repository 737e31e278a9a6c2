/- Texts P24, P17, P25, P29, P34, joined. -/
import Derived.Test.YtglmjglbobhbbaaGreatDoorMD2
namespace Go.Proofs.YtglmjglbobhbbaaGreatDoor
open _root_.Go.Proofs.Tryz
open Go.Ab
attribute [local irreducible] Go.Ab.tyAV Go.Ab.aw Go.Ab.aops Go.Ab.kReg Go.Ab.aThen Go.Ab.aBlk Go.Ab.acond Go.Ab.aguard Go.Ab.astep Go.Ab.AStepX Go.Ab.aRet
attribute [local irreducible] yE
def zfZ:Nat→List Pa→List Pa
 | 0,l=>l
 | f+1,l=>zfZ f (l++[⟨0,l.length,[],zeroTag⟩])
def tkD (n:Nat):List UInt8:=[UInt8.ofNat (n % 256),77]
theorem zuY (n:Nat):(Value.int .u8 (IntKind.u8.wrap (n:Int)))=.int .u8 ((UInt8.ofNat (n % 256)).toNat:Int):=by
 have h1:(UInt8.ofNat (n % 256)).toNat=n % 256:=by rw [UInt8.toNat_ofNat'];omega
 rw [IntKind.wrap_u8,h1]
 congr 1
def zfY:Nat→List Di→List Di
 | 0,l=>l
 | f+1,l=>zfY f (l++[⟨tkD l.length,[],zeroTag⟩])
theorem kM {Q:Pa→Prop} (hq:∀ s,Q ⟨0,s,[],zeroTag⟩):∀ (f:Nat) (l:List Pa),(∀ p∈l,Q p)→(∀ p∈zfZ f l,Q p)∧(zfZ f l).length=l.length+f
 | 0,l,h=>⟨h,rfl⟩
 | f+1,l,h=>by
  obtain ⟨h1,h2⟩:=kM hq f (l++[⟨0,l.length,[],zeroTag⟩]) (fun p hp=>by
   rcases List.mem_append.1 hp with hp | hp
   ·exact h p hp
   ·rw [List.mem_singleton.1 hp];exact hq _)
  exact ⟨h1,by rw [zfZ,h2,List.length_append,List.length_singleton];omega⟩
theorem kL {Q:Di→Prop} (hq:∀ n,Q ⟨tkD n,[],zeroTag⟩):∀ (f:Nat) (l:List Di),(∀ p∈l,Q p)→(∀ p∈zfY f l,Q p)∧(zfY f l).length=l.length+f
 | 0,l,h=>⟨h,rfl⟩
 | f+1,l,h=>by
  obtain ⟨h1,h2⟩:=kL hq f (l++[⟨tkD l.length,[],zeroTag⟩]) (fun p hp=>by
   rcases List.mem_append.1 hp with hp | hp
   ·exact h p hp
   ·rw [List.mem_singleton.1 hp];exact hq _)
  exact ⟨h1,by rw [zfY,h2,List.length_append,List.length_singleton];omega⟩
def zcl (w:Wa) (n:Nat):Wa:=⟨zfZ (n - w.ps.length) w.ps,zfY (n - w.ds.length) w.ds⟩
theorem zb0 {x y:AV} (h:AV.le x y):∀ xs:List AV,ALe (xs++[x]) (xs++[y])
 | []=>.cons h .nil
 | z::r=>.cons (AV.le_refl z) (zb0 h r)
theorem zor (P:List Pa) (s:Int) (r:Nat):AV.le (.slice (some r) (P.map zG++[.agg [.lit (.int .i64 0),.lit (.int .i64 s),.nils,zd zeroTag]])) (.slice none ((P++[(⟨0,s,[],zeroTag⟩:Pa)]).map zG)):=by
 rw [List.map_append]
 intro g0 v0 hv0
 refine AV.le_own _ _ g0 v0 (AV.le_sliceS (some r) (zb0 ?_ _) g0 v0 hv0)
 exact AV.sub_agg (.cons (AV.le_refl _) (.cons (AV.le_refl _) (.cons AV.le_nils0 (.cons (AV.le_refl _) .nil))))
theorem zoq (P:List Di) (n:Nat) (r x:Nat):AV.le (.slice (some r) (P.map zw++[.agg [.slice (some x) [.lit (.int .u8 (IntKind.u8.wrap (n:Int))),.lit (.int .u8 77)],.nils,zd zeroTag]])) (.slice none ((P++[(⟨tkD n,[],zeroTag⟩:Di)]).map zw)):=by
 rw [List.map_append]
 intro g0 v0 hv0
 refine AV.le_own _ _ g0 v0 (AV.le_sliceS (some r) (zb0 ?_ _) g0 v0 hv0)
 rw [zuY]
 exact AV.sub_agg (.cons (AV.le_own _ _) (.cons AV.le_nils0 (.cons (AV.le_refl _) .nil)))
set_option maxHeartbeats 4000000 in
theorem zfG (w:Wa) (h1:w.ps.length≤100000) (h2:w.ds.length≤100000) (n:Nat) (hn:n≤100000) (k:Nat):
  ACall prog 12 [yp w,.lit (.int .i64 n)] k [] (yp (zcl w n)) []:=by
 obtain ⟨P0,D0⟩:=w
 unfold zcl yp
 simp only at *
 obtain ⟨RP,hRP⟩:∃ R,zfZ (n - P0.length) P0=R:=⟨_,rfl⟩
 obtain ⟨RD,hRD⟩:∃ R,zfY (n - D0.length) D0=R:=⟨_,rfl⟩
 rw [hRP,hRD]
 have hC0:AV.le (.slice none (P0.map zG)) (.slice none (P0.map zG)):=AV.le_refl _
 have hC1:(AV.slice none (P0.map zG)).sz=1:=rfl
 have hE0:AV.le (.slice none (D0.map zw)) (.slice none (D0.map zw)):=AV.le_refl _
 have hE1:(AV.slice none (D0.map zw)).sz=1:=rfl
 refine Bd func12 ntmps12 fun σ N hp hpn hk hkn hfree=>?_
 refine Wk ?_
 refine ze zi (by kernel_rfl) [5,6,7,8,9,10,11,12,13,14,15,16,17,18,19,20] [N] (fun m_ s_ σ_ n_=>∃ (f:Nat) (P:List Pa) (C:AV),m_=f∧σ_ (N)=.box 25 (.agg [C,.slice none (D0.map zw)])∧(P.length+f=n∨(f=0∧n≤P.length))∧(zfZ f P=RP)∧(P.length≤200000)∧(AV.le C (.slice none (P.map zG)))∧(C.sz=1)) ⟨_,n - P0.length,P0,.slice none (P0.map zG),rfl,WF,WC,WC,WC,WC,WC⟩ ?_
 intro m_1 s_1 σ_1 n_1 hs_1 hf_1 hn_1 hI_1
 obtain ⟨f,P,C,hm_1,e1_0,hf,hP,hl,hC,hS⟩:=hI_1
 have h1_1:=KS hs_1 1
 have h1_2:=KS hs_1 2
 have h1_4:=KS hs_1 4
 have k1_0:=KE hf_1 (N+1)
 have hlow:=KL (N:=N) (σ:=σ) hf_1
 clear hRP hC0 hC1
 refine wl (bt:=25) N [0] (.slice none (P.map zG)) (c:=.agg [C,.slice none (D0.map zw)]) (by simp (disch:=omega) [go_sem, *,-List.reduceReplicate];try first | done | rfl | exact ⟨rfl,rfl⟩) (by rfl) hC hS (by rfl) ?_
 clear hC hS
 cases f with
 | zero=>
  have hi:¬ (P.length:Int) < (n:Int):=by omega
  rw [zfZ] at hP
  subst hP
  clear hf
  refine Wk ?_
  refine ze zi (by kernel_rfl) [21,22,23,24,25,26,27,28,29,30,31,32,33,34,35,36,37,38] [N] (fun m_ s_ σ_ n_=>∃ (f:Nat) (D:List Di) (C:AV),m_=f∧σ_ (N)=.box 25 (.agg [.slice none (P.map zG),C])∧(D.length+f=n∨(f=0∧n≤D.length))∧(zfY f D=RD)∧(D.length≤200000)∧(AV.le C (.slice none (D.map zw)))∧(C.sz=1)) ⟨_,n - D0.length,D0,.slice none (D0.map zw),rfl,WF,WC,WC,WC,WC,WC⟩ ?_
  intro m_2 s_2 σ_2 n_2 hs_2 hf_2 hn_2 hI_2
  obtain ⟨f,D,C,hm_2,e2_0,hf,hD,hl,hC,hS⟩:=hI_2
  have h2_1:=KS hs_2 1
  have h2_2:=KS hs_2 2
  have h2_4:=KS hs_2 4
  have k2_0:=KE hf_2 (N+1)
  have hlow:=KL (N:=N) (σ:=σ) hf_2
  clear hRD hE0 hE1
  refine wl (bt:=25) N [1] (.slice none (D.map zw)) (c:=.agg [.slice none (P.map zG),C]) (by simp (disch:=omega) [go_sem, *,-List.reduceReplicate];try first | done | rfl | exact ⟨rfl,rfl⟩) (by rfl) hC hS (by rfl) ?_
  clear hC hS
  cases f with
  | zero=>
   have hi:¬ (D.length:Int) < (n:Int):=by omega
   rw [zfY] at hD
   subst hD
   clear hf
   exact WA
  | succ f=>
   have hi:(D.length:Int) < (n:Int):=by omega
   have hf2:(D++[(⟨tkD D.length,[],zeroTag⟩:Di)]).length+f=n∨(f=0∧n≤(D++[(⟨tkD D.length,[],zeroTag⟩:Di)]).length):=by rw [List.length_append,List.length_singleton];omega
   have hl2:(D++[(⟨tkD D.length,[],zeroTag⟩:Di)]).length≤200000:=by rw [List.length_append,List.length_singleton];omega
   rw [zfY] at hD
   have hC:=zoq D D.length (n_2+5) (n_2+5+8)
   have hS:(AV.slice (some (n_2+5)) (D.map zw++[.agg [.slice (some (n_2+5+8)) [.lit (.int .u8 (IntKind.u8.wrap (D.length:Int))),.lit (.int .u8 77)],.nils,zd zeroTag]])).sz=1:=rfl
   generalize hD2:D++[(⟨tkD D.length,[],zeroTag⟩:Di)]=D2 at *
   clear hD2 hf
   have hb80:(D.length+1) * 80≤140737488355328:=by omega
   refine Wk ?_
   exact ⟨WS,WG,WN,_,(show (f) < m_2 by omega),f,D2,.slice (some (n_2+5)) (D.map zw++[.agg [.slice (some (n_2+5+8)) [.lit (.int .u8 (IntKind.u8.wrap (D.length:Int))),.lit (.int .u8 77)],.nils,zd zeroTag]]),rfl,WF,WC,WC,WC,WC,WC⟩
 | succ f=>
  have hi:(P.length:Int) < (n:Int):=by omega
  have hf2:(P++[(⟨0,P.length,[],zeroTag⟩:Pa)]).length+f=n∨(f=0∧n≤(P++[(⟨0,P.length,[],zeroTag⟩:Pa)]).length):=by rw [List.length_append,List.length_singleton];omega
  have hl2:(P++[(⟨0,P.length,[],zeroTag⟩:Pa)]).length≤200000:=by rw [List.length_append,List.length_singleton];omega
  rw [zfZ] at hP
  have hC:=zor P P.length (n_1+5)
  have hS:(AV.slice (some (n_1+5)) (P.map zG++[.agg [.lit (.int .i64 0),.lit (.int .i64 (P.length:Int)),.nils,zd zeroTag]])).sz=1:=rfl
  generalize hP2:P++[(⟨0,P.length,[],zeroTag⟩:Pa)]=P2 at *
  clear hP2 hf
  have hb72:(P.length+1) * 72≤140737488355328:=by omega
  refine Wk ?_
  exact ⟨WS,WG,WN,_,(show (f) < m_1 by omega),f,P2,.slice (some (n_1+5)) (P.map zG++[.agg [.lit (.int .i64 0),.lit (.int .i64 (P.length:Int)),.nils,zd zeroTag]]),rfl,WF,WC,WC,WC,WC,WC⟩
section
variable [W:W32]
structure NarG (a:Alg) (m:Nat) (p:Pa) (l:List Pr) (R:Alg × Pa × Nat):Prop where
 e0:R.2.2=0
 ain:AlgIn R.1 (m+2 * l.length)
 ok:AlgOk R.1
 fr:R.1.free=a.free
 bx:R.1.boxes=a.boxes
 fs:R.1.fresh=a.fresh
 sub:∀ e∈a.macs,e∈R.1.macs
 cv:R.2.1.cavs=p.cavs++l.map zR
 ep:R.2.1.epoch=p.epoch
 se:R.2.1.serial=p.serial
 pt:∀ k M,pathIn a.macs k M p.tag→pathIn R.1.macs k (M++l.map (fun x=>y9 (zR x))) R.2.1.tag
theorem jP:∀ {l:List Pr} {a:Alg} {m:Nat} {p:Pa},AlgIn a m→AlgOk a→m+2 * l.length≤60000→p.cavs.length+l.length≤64→(∀ x∈l,yc x=true)→NarG a m p l (yT a p l)
 | [],a,m,p,h,ok,_,_,_=>by
  rw [show yT a p []=(a,p,0) from rfl]
  exact ⟨rfl,by simpa using h,ok,rfl,rfl,rfl,fun e he=>he,by simp,rfl,rfl,fun k M hp=>by simpa using hp⟩
 | x::r,a,m,p,h,ok,hm,hl,hv=>by
  simp only [List.length_cons] at hm hl
  have hcv:xz (zR x)=true:=(CV.first x (hv x (List.mem_cons_self ..))).ok
  have ha:=zds h oo (p:=p) (c:=zR x) hcv oo (fun hh=>by cases hh)
  have hk:=kV h oo p.tag (msg:=y9 (zR x)) (by have:=xP (zR x);omega)
  have hin:=zcN h p.tag (y9 (zR x))
  have hok:=ok.node h oo p.tag (msg:=y9 (zR x)) (by have:=xP (zR x);omega)
  obtain ⟨z1,z2⟩:=zcr h oo p.tag (msg:=y9 (zR x)) (by have:=xP (zR x);omega)
  have hn:yT a p (x::r)=yT (xS a p.tag (y9 (zR x))).1 ⟨p.epoch,p.serial,p.cavs++[zR x],(xS a p.tag (y9 (zR x))).2.1⟩ r:=by
   rw [yT,ha]
   exact if_pos rfl
  rw [hn]
  have g:=jP (l:=r) (p:=⟨p.epoch,p.serial,p.cavs++[zR x],(xS a p.tag (y9 (zR x))).2.1⟩) hin hok oo (by simp only [List.length_append,List.length_singleton];omega) (fun y hy=>hv y (List.mem_cons_of_mem _ hy))
  refine ⟨g.e0,by rw [List.length_cons,show m+2 * (r.length+1)=m+2+2 * r.length by omega];exact g.ain,g.ok,g.fr.trans hk.2.1,g.bx.trans hk.2.2.2,g.fs.trans hk.2.2.1,fun e he=>g.sub e (z2 e he),by rw [g.cv];simp,g.ep,g.se,fun k M hp=>?_⟩
  have:=g.pt k (M++[y9 (zR x)]) ((hp.sub z2).snoc z1)
  rw [List.map_cons,List.append_cons M]
  exact this
def jv (X:Alg × Wa × Nat) (P:List Pr) (j:Nat):Alg × Wa × Nat:=
 if (zbK X.1 X.2.1 0 P).2.2=0 then ((zbK X.1 X.2.1 0 P).1,(zbK X.1 X.2.1 0 P).2.1,j) else (X.1,X.2.1,j)
def PDS (l:List Int) (i:Nat) (P:List Pr) (j:Nat):Prop:=P.length≤2∧(∀ p∈P,PrOk p∧yc p=true)∧Dk l j∧∀ d k,ACall prog 40 [.ptr d [] 0,.lit (.int .i64 2),.lit (.bool true)] k [(d,zy l i)] (.slice none (P.map zU)) [(d,zy l j)]
def zo6 (l:List Int):Nat→(Alg × Wa × Nat)→(Alg × Wa × Nat)→Prop
 | 0,X,R=>R=X
 | n+1,X,R=>∃ P j,PDS l X.2.2 P j∧zo6 l n (jv X P j) R
structure WB (s:Sc) (A:Alg) (w:Wa) (i:Nat):Prop where
 ain:AlgIn A (1000+4 * i)
 ok:AlgOk A
 fr:A.free=s.alg.free
 bx:A.boxes=s.alg.boxes
 sub:∀ e∈s.alg.macs,e∈A.macs
 wc:WaC w
 p0:∃ r,w.ps=s.pass::r
 dd:w.ds=s.grants
 pl:w.ps.length≤1+i
 pk:∀ p∈w.ps,p.cavs.length≤5+2 * i∧∀ c∈p.cavs,PrOk c.first∧wY c
theorem WB.att {s:Sc} {A:Alg} {w:Wa} {i:Nat} (h:WB s A w i) (hi:i≤10) {P:List Pr} (hP:P.length≤2) (hpk:∀ p∈P,PrOk p∧yc p=true):
  NarG A (1000+4 * i) s.pass P (yT A s.pass P)∧zbK A w 0 P=((yT A s.pass P).1,⟨w.ps++[(yT A s.pass P).2.1],w.ds⟩,0):=by
 obtain ⟨r,hr⟩:=h.p0
 have hz:yf w 0=(s.pass,true):=by unfold yf;rw [hr];simp
 have hsp:=h.pk s.pass (by rw [hr];exact List.mem_cons_self ..)
 have g:=jP h.ain h.ok (l:=P) (p:=s.pass) oo oo (fun x hx=>(hpk x hx).2)
 have ha:wW w (yT A s.pass P).2.1=(⟨w.ps++[(yT A s.pass P).2.1],w.ds⟩,0):=by unfold wW;rw [if_pos (by have:=h.pl;omega)]
 refine ⟨g,?_⟩
 unfold zbK
 rw [hz,if_pos rfl]
 simp only
 rw [if_pos g.e0,ha]
 rfl
theorem WB.step {s:Sc} {A:Alg} {w:Wa} {i j0:Nat} (h:WB s A w i) (hi:i≤10) {P:List Pr} (hP:P.length≤2) (hpk:∀ p∈P,PrOk p∧yc p=true) (j:Nat):
  WB s (jv (A,w,j0) P j).1 (jv (A,w,j0) P j).2.1 (i+1):=by
 obtain ⟨g,ha⟩:=h.att hi hP hpk
 have hsp:=h.pk s.pass (by obtain ⟨r,hr⟩:=h.p0;rw [hr];exact List.mem_cons_self ..)
 unfold jv
 simp only
 rw [ha]
 simp only [↓reduceIte]
 have hcv:=g.cv
 have hcl:(yT A s.pass P).2.1.cavs.length≤5+2 * (i+1):=by rw [hcv,List.length_append,List.length_map];omega
 have hcc:∀ c∈(yT A s.pass P).2.1.cavs,PrOk c.first∧wY c:=fun c hc=>by
  rw [hcv] at hc
  rcases List.mem_append.1 hc with hc | hc
  ·exact hsp.2 c hc
  ·obtain ⟨x,hx,rfl⟩:=List.mem_map.1 hc
   exact ⟨(hpk x hx).1,by simp [zR],by simp [zR]⟩
 refine ⟨g.ain.more oo,g.ok,g.fr.trans h.fr,g.bx.trans h.bx,fun e he=>g.sub e (h.sub e he),⟨?_,fun p hp=>?_,h.wc.dl,h.wc.dc⟩,?_,h.dd,?_,fun p hp=>?_⟩
 ·have:=h.pl;simp only [List.length_append,List.length_singleton];omega
 ·rcases List.mem_append.1 hp with hp | hp
  ·exact h.wc.pc p hp
  ·rw [List.mem_singleton.1 hp];exact ⟨by omega,fun c hc=>(hcc c hc).2⟩
 ·obtain ⟨r,hr⟩:=h.p0
  exact ⟨r++[(yT A s.pass P).2.1],by rw [hr];rfl⟩
 ·have:=h.pl;simp only [List.length_append,List.length_singleton];omega
 ·rcases List.mem_append.1 hp with hp | hp
  ·have:=h.pk p hp;exact ⟨by omega,this.2⟩
  ·rw [List.mem_singleton.1 hp];exact ⟨hcl,hcc⟩
theorem zet {l:List Int}:∀ (n:Nat) (X:Alg × Wa × Nat),Dk l X.2.2→∃ R,zo6 l n X R
 | 0,X,_=>⟨X,rfl⟩
 | n+1,X,h=>by
  obtain ⟨P,j,h1,h2,h3,h4⟩:=zbI l X.2.2 h 2 oo true
  have hd:Dk l (jv X P j).2.2:=by
   unfold jv
   split
   ·exact h3
   ·exact h3
  obtain ⟨R,hR⟩:=zet n (jv X P j) hd
  exact ⟨R,P,j,⟨h1,h2,h3,h4⟩,hR⟩
theorem zcL {s:Sc} {l:List Int}:∀ (n:Nat) (X R:Alg × Wa × Nat) (i:Nat),zo6 l n X R→WB s X.1 X.2.1 i→i+n≤10→Dk l X.2.2→WB s R.1 R.2.1 (i+n)∧Dk l R.2.2
 | 0,X,R,i,h,hw,_,hd=>by
  have h:R=X:=h
  subst h
  exact ⟨hw,hd⟩
 | n+1,⟨A,w,j0⟩,R,i,h,hw,hi,hd=>by
  obtain ⟨P,j,⟨h1,h2,h3,h4⟩,hR⟩:=h
  have:=zcL n _ R (i+1) hR (hw.step oo h1 h2 j) oo (by
   unfold jv
   split
   ·exact h3
   ·exact h3)
  rw [show i+(n+1)=i+1+n by omega]
  exact this
theorem WB.first {s:Sc} (hs:ScV s):WB s s.alg ⟨[s.pass],s.grants⟩ 0:=by
 obtain ⟨hp,hd,hgl⟩:=yW hs
 obtain ⟨⟨se,hG,_⟩,_⟩:=hs
 have hcl:=hG.cl
 have hcv:=hG.cv
 simp only at hcl hcv
 exact ⟨hG.ain,hG.ok,rfl,rfl,fun e he=>he,⟨by simp,fun x hx=>by rw [List.mem_singleton.1 hx];exact hp,by simp only;omega,hd⟩,⟨[],rfl⟩,rfl,by simp,fun p hq=>by
  rw [List.mem_singleton.1 hq]
  exact ⟨by omega,fun c hc=>⟨(hcv c hc).2.1,hp.2 c hc⟩⟩⟩
set_option maxHeartbeats 16000000 in
theorem zeu (l:List Int) (hl:l.length≤9223372036854775807):∃ (s:Sc) (A:Alg) (w:Wa) (i j:Nat),ScV s∧WB s A w i∧i≤2∧Dk l j ∧
  ∀ k,ACall prog 11 [.slice none (l.map jI)] k [] (.tup [zbS { s with alg:=A },yp w,.ptr k [] 0]) [(k,zy l j)]:=by
 obtain ⟨s,j0,hs,d0,c2⟩:=zeS l 0 ⟨hl,Nat.zero_le _⟩
 have c1:=zeR l
 have c4:=yV l j0 3 d0 oo oo
 have b4:=y7 l j0 3 oo
 have d4:=yu 3 d0
 generalize yl l j0 3=X at *
 obtain ⟨b,j4⟩:=X
 simp only at c4 b4 d4
 have hK0:=WB.first hs
 obtain ⟨⟨Af,wf,jf⟩,hrun⟩:=zet (l:=l) b (s.alg,⟨[s.pass],s.grants⟩,j4) d4
 have hall:=zcL b _ _ 0 hrun hK0 oo d4
 simp only at hall
 refine ⟨s,Af,wf,0+b,jf,hs,hall.1,by omega,hall.2,fun k=>?_⟩
 clear hall
 have hsA:∀ A:Alg,zbS { s with alg:=A }=.agg [zA A,zbF s.ring,xW s.con,zG s.pass,.slice none (s.grants.map zw),yD s.req,.lit (.string ⟨s.holder.toArray⟩),.lit (.int .i64 s.minute)]:=fun A=>rfl
 have hs0:zbS s=.agg [zA s.alg,zbF s.ring,xW s.con,zG s.pass,.slice none (s.grants.map zw),yD s.req,.lit (.string ⟨s.holder.toArray⟩),.lit (.int .i64 s.minute)]:=rfl
 rw [hs0] at c2
 rw [hsA]
 have hwA:yp ⟨[s.pass],s.grants⟩=.agg [.slice none [zG s.pass],.slice none (s.grants.map zw)]:=rfl
 clear hs0 hsA
 refine Bd func11 ntmps11 fun σ N hp hpn hk hkn hfree=>?_
 have hcs:=And.intro c1 (And.intro (c2 (N+3+1)) (And.intro (c4 (N+3+1)) True.intro))
 clear c1 c2 c4
 refine Wk ?_
 clear hcs
 refine wl (bt:=25) (N+10+6) [0] (.slice none [zG s.pass]) (c:=.agg [.slice (some (N+10+2)) [zG s.pass],.slice none (s.grants.map zw)]) (by simp (disch:=omega) [go_sem, *,-List.reduceReplicate];try first | done | rfl | exact ⟨rfl,rfl⟩) (by rfl) (AV.le_own _ _) (by rfl) (by rfl) ?_
 refine ze zi (by kernel_rfl) [8,9,10,11,24,25,26,27,28,29,30,31,32,33,34,35,36,37,38,39,40,41,42] [N+3+1,N+6+2,N+10+6] (fun m_ s_ σ_ n_=>∃ (n:Nat) (i:Nat) (A:Alg) (w:Wa) (j:Nat),m_=n∧s_ 8=.lit (.int .i64 n)∧σ_ (N+3+1)=zy l j∧σ_ (N+6+2)=.box 51 (.agg [zA A,zbF s.ring,xW s.con,zG s.pass,.slice none (s.grants.map zw),yD s.req,.lit (.string ⟨s.holder.toArray⟩),.lit (.int .i64 s.minute)])∧σ_ (N+10+6)=.box 25 (yp w)∧(n≤4)∧(i+n≤4)∧(WB s A w i)∧(Dk l j)∧(zo6 l n (A,w,j) (Af,wf,jf))) ⟨_,b,0,s.alg,⟨[s.pass],s.grants⟩,j4,rfl,WF,WF,WF,WF,WC,WC,WC,WC,WC⟩ ?_
 intro m_3 s_3 σ_3 n_3 hs_3 hf_3 hn_3 hI_3
 obtain ⟨n,i,A,w,j,hm_3,h3_8,e3_0,e3_1,e3_2,hn,hi,hK,hj,hrun⟩:=hI_3
 have h3_2:=KS hs_3 2
 have h3_3:=KS hs_3 3
 have h3_4:=KS hs_3 4
 have h3_5:=KS hs_3 5
 have h3_6:=KS hs_3 6
 have h3_7:=KS hs_3 7
 have k3_0:=KE hf_3 (N)
 have k3_1:=KE hf_3 (N+1)
 have hlow:=KL (N:=N) (σ:=σ) hf_3
 cases n with
 | zero=>
  have hrun:(Af,wf,jf)=(A,w,j):=hrun
  simp only [Prod.mk.injEq] at hrun
  obtain ⟨rfl,rfl,rfl⟩:=hrun
  clear hK hs hK0
  refine Wk ?_
  refine zQ (r0:=N+3+1) (by simp (disch:=omega) [go_sem, *,-List.reduceReplicate];rfl) oo (by simp (disch:=omega) [go_sem];try rfl) (fun id hid=>by simp (disch:=omega) only [zg];try exact hlow id hid) (by simp (disch:=omega) [go_sem, *,-List.reduceReplicate];rfl) (by simp (disch:=omega) [go_sem])
 | succ n=>
  have h0n:(0:Int) < ((n+1:Nat):Int):=by omega
  have hnm:((n+1:Nat):Int) - 1=(n:Int):=by omega
  obtain ⟨P,j5,⟨p1,p2,p3,p4⟩,hrun⟩:=hrun
  have hst:=hK.step (j0:=j) oo p1 p2 j5
  have c6:=zbY A (1000+4 * i) hK.ain w (by have:=hK.pl;omega) (fun p hp=>by have:=(hK.pk p hp).1;omega) 0 P oo oo (fun x hx=>(p2 x hx).1)
  have he0:(zbK A w 0 P).2.2=0:=by rw [(hK.att oo p1 p2).2]
  unfold jv at hst hrun
  simp only at hst hrun
  unfold ze9 at c6
  generalize zbK A w 0 P=Z at *
  obtain ⟨A2,w2,e2⟩:=Z
  simp only at c6 hst hrun he0
  subst he0
  simp only [↓reduceIte] at hst hrun
  clear hs hK hK0
  have hcs:=And.intro (p4 (N+3+1)) (And.intro c6 True.intro)
  clear p4 c6
  refine Wk ?_
  clear hcs
  exact ⟨WS,WG,WN,_,(show (n) < m_3 by omega),n,i+1,A2,w2,j5,rfl,WF,WF,WF,WF,WC,WC,WC,WC,WC⟩
end
end Go.Proofs.YtglmjglbobhbbaaGreatDoor
namespace Go.Proofs.YtglmjglbobhbbaaGreatDoor
open _root_.Go.Proofs.Tryz
open Go.Ab
attribute [local irreducible] Go.Ab.tyAV Go.Ab.aw Go.Ab.aops Go.Ab.kReg Go.Ab.aThen Go.Ab.aBlk Go.Ab.acond Go.Ab.aguard Go.Ab.astep Go.Ab.AStepX Go.Ab.aRet
structure BuWd (b:Bu):Prop where
 cl:b.cavs.length≤9223372036854775807
 cs:∀ c∈b.cavs,CaW c
 dl:b.dis.length≤9223372036854775807
 ds:∀ d∈b.dis,WdT d.ticket d.conds∧∀ p∈d.conds,PrOk p
structure KnW (q:Kn):Prop where
 pl:q.ps.length≤9223372036854775807
 ps:∀ p∈q.ps,PaW p
 dl:q.ds.length≤9223372036854775807
 ds:∀ d∈q.ds,WdT d.ticket d.conds∧∀ p∈d.conds,PrOk p
 bl:q.bs.length≤9223372036854775807
 bs:∀ b∈q.bs,BuWd b
 il:q.its.length≤9223372036854775807
 its:∀ x∈q.its,x.box.length≤140737488351232
attribute [local irreducible] yE
structure WaW (w:Wa):Prop where
 pl:w.ps.length≤9223372036854775807
 ps:∀ p∈w.ps,PaW p
 dl:w.ds.length≤9223372036854775807
 ds:∀ d∈w.ds,WdT d.ticket d.conds∧∀ p∈d.conds,PrOk p
theorem WaW.c {w:Wa} (h:WaW w) (f:FewW w):WaC w:=⟨by have:=f.pl;omega,fun p hp=>⟨by have:=f.p p hp;omega,fun c hc=>((h.ps p hp).ok c hc).2⟩,by have:=f.dl;omega,fun d hd=>(h.ds d hd).1⟩
theorem zfH {w:Wa} (h:WaC w) {n:Nat} (hn:n≤1000):WaC (zcl w n):=by
 obtain ⟨a1,a2⟩:=kM (Q:=PaC) (fun s=>⟨by simp,fun c hc=>by cases hc⟩) (n - w.ps.length) w.ps h.pc
 obtain ⟨b1,b2⟩:=kL (Q:=fun d=>WdT d.ticket d.conds) (fun s=>⟨by simp [tkD],by simp⟩) (n - w.ds.length) w.ds h.dc
 have h1:=h.pl
 have h2:=h.dl
 unfold zcl
 exact ⟨by simp only;rw [a2];omega,a1,by simp only;rw [b2];omega,b1⟩
section
variable [W:W32]
end
theorem ztX:WaC w0:=⟨by simp [w0],fun x hx=>by simp [w0] at hx,by simp [w0],fun x hx=>by simp [w0] at hx⟩
def zqy (L:List Pr):AV:=.slice none (L.map zU)
@[go_sem] theorem zrM (L:List Pr):(zqy L).sz=1:=rfl
@[go_sem] theorem zkU (L:List Pr):(zqy L).isAgg=false:=rfl
theorem zuo (c:Nat) (b:List Pr):∃ (m:Nat) (t:List Pr),(if (c:Int) < (b.length:Int) then (c:Int) else (b.length:Int))=(m:Int)∧m≤b.length∧m≤c∧t.length=m∧(b.map zU).take m=t.map zU∧∀ x∈t,x∈b:=by
 refine ⟨min c b.length,b.take c,?_,Nat.min_le_right ..,Nat.min_le_left ..,by simp,?_,fun x hx=>List.mem_of_mem_take hx⟩
 ·split <;> omega
 ·rw [← List.map_take]
  congr 1
  by_cases h:c≤b.length
  ·rw [Nat.min_eq_left h]
  ·rw [Nat.min_eq_right oo,List.take_length,List.take_of_length_le oo]
section
variable [W:W32]
theorem zug {a:Alg} {m:Nat} (ha:AlgIn a m) (w:Wa) (i:Int) (l:List Pr):AlgIn (zbK a w i l).1 (m+2 * l.length):=by
 unfold zbK
 split
 ·split
  ·split
   ·exact zbz ha _
   ·exact xE _
  ·exact xE _
 ·exact xE _
theorem zuJ {a:Alg} {p:Pa} {l:List Pr} (hp:PaC p) (hl:p.cavs.length+l.length≤100000) (h:(yT a p l).2.2=0):PaC (yT a p l).2.1:=by
 rw [jR] at h ⊢
 split
 ·exact ze2 hp hl
 ·rename_i hh
  rw [if_neg hh] at h
  exact absurd h hh
theorem zvY {a:Alg} {w:Wa} (hw:WaC w) (hpz:∀ p∈w.ps,p.cavs.length≤1000) {i:Int} {l:List Pr} (hl:l.length≤1000):WaC (zbK a w i l).2.1:=by
 have hpl:(yf w i).1.cavs.length≤1000:=by
  rcases vE (w:=w) (i:=i) with h1 | h1
  ·rw [h1];simp [pa0]
  ·exact hpz _ h1
 unfold zbK
 split
 ·split
  ·rename_i h0
   split
   ·exact zff hw (zuJ (wA hw.pc i) oo h0)
   ·exact ztX
  ·exact ztX
 ·exact ztX
theorem zsx {a:Alg} {m:Nat} (ha:AlgIn a m) (w:Wa) (i:Int) (b:Bl):AlgIn (zif a w i b).1 (m+4):=by
 unfold zif
 split
 ·split
  ·split
   ·exact zhf ha _ _
   ·exact xE _
  ·exact xE _
 ·exact xE _
theorem zun {a:Alg} {m:Nat} (ha:AlgIn a m) {w:Wa} (hw:WaC w) (hpz:∀ p∈w.ps,p.cavs.length≤1000) {i:Int} {b:Bl} (hb:b.ticket.length≤90000):WaC (zif a w i b).2.1:=by
 have hpl:(yf w i).1.cavs.length≤1000:=by
  rcases vE (w:=w) (i:=i) with h1 | h1
  ·rw [h1];simp [pa0]
  ·exact hpz _ h1
 unfold zif
 split
 ·split
  ·split
   ·exact zff hw (zir ha (wA hw.pc i) hpl hb)
   ·exact ztX
  ·exact ztX
 ·exact ztX
def AwQ (a:Alg) (z:Wa) (t:Int) (y:List Pr) (g h:Nat):Prop:=∃ R:Alg × Wa × Nat,
 (∀ k,ACall prog 41 [zA a,yp z,.lit (.int .i64 t),.slice none (y.map zU)] k [(g,yE),(h,zS)] (ze9 R) []) ∧
 (∀ k,ACall prog 42 [zA a,yp z,.lit (.int .i64 t),.slice none (y.map zU)] k [] (ze9 R) []) ∧
 (∀ k,ACall prog 43 [zA R.1,zA R.1] k [] (.lit (.bool true)) []) ∧
 (∀ k,ACall prog 16 [yp R.2.1,yp R.2.1] k [] (.lit (.bool true)) [])
def CoQ (a:Alg) (z:Wa) (t:Int) (y:Bl) (g h:Nat):Prop:=∃ R:Alg × Wa × Nat,
 (∀ k,ACall prog 44 [zA a,yp z,.lit (.int .i64 t),zeb y] k [(g,yE),(h,zS)] (ze9 R) []) ∧
 (∀ k,ACall prog 45 [zA a,yp z,.lit (.int .i64 t),zeb y] k [] (ze9 R) []) ∧
 (∀ k,ACall prog 43 [zA R.1,zA R.1] k [] (.lit (.bool true)) []) ∧
 (∀ k,ACall prog 16 [yp R.2.1,yp R.2.1] k [] (.lit (.bool true)) [])
def PwQ (a:Alg) (z:Wa) (t:Int) (y:Rq) (g h:Nat):Prop:=∃ R:Alg × Bu × Nat,
 (∀ k,ACall prog 46 [zA a,yp z,.lit (.int .i64 t),yD y] k [(g,yE),(h,zS)] (zby R) []) ∧
 (∀ k,ACall prog 47 [zA a,yp z,.lit (.int .i64 t),yD y] k [] (zby R) []) ∧
 (∀ k,ACall prog 43 [zA R.1,zA R.1] k [] (.lit (.bool true)) []) ∧
 (∀ k,ACall prog 48 [ye R.2.1,ye R.2.1] k [] (.lit (.bool true)) [])
theorem zvE {a:Alg} (ha:AlgIn a 1100) {z:Wa} (hz:WaP z) (t:Int) {y:List Pr} (hy:y.length≤100∧∀ x∈y,PrOk x) {g h:Nat} (hgh:g≠h):AwQ a z t y g h:=
 ⟨zbK a z t y,fun k=>zb1 a 1100 ha (by decide) z hz.wc (fun p hp=>(hz.pk p hp).1) t y oo hy.2 g h k hgh,zbY a 1100 ha z (by have:=hz.wc.pl;omega) (fun p hp=>(hz.pk p hp).1) t y oo oo hy.2,
  zd6 _ 2000 ((zug ha z t y).more oo) (by decide),jU _ (zvY hz.wc (fun p hp=>(hz.pk p hp).1) oo)⟩
theorem zvG {a:Alg} (ha:AlgIn a 1100) {z:Wa} (hz:WaP z) (t:Int) {y:Bl} (hy:y.ticket.length≤90000) {g h:Nat}:CoQ a z t y g h:=
 ⟨zif a z t y,fun k=>zkF a 1100 ha (by decide) z hz.wc (fun p hp=>(hz.pk p hp).1) t y hy g h k,zot a 1100 ha (by decide) z (by have:=hz.wc.pl;omega) (fun p hp=>(hz.pk p hp).1) t y hy,
  zd6 _ 2000 ((zsx ha z t y).more oo) (by decide),jU _ (zun ha hz.wc (fun p hp=>(hz.pk p hp).1) hy)⟩
theorem zvJ {a:Alg} (ha:AlgIn a 1100) {z:Wa} (hz:WaP z) (t:Int) (y:Rq) {g h:Nat} (hgh:g≠h):PwQ a z t y g h:=by
 obtain ⟨k1,k2,k3,k4⟩:=ziF ha (by decide) hz t y hgh
 exact ⟨zpj a z t y,k1,k2,zd6 _ 2000 (k3.more oo) (by decide),znL _ k4⟩
theorem WB.wp {s:Sc} (hs:ScV s) {A:Alg} {w:Wa} {i:Nat} (h:WB s A w i) (hi:i≤10):WaP w:=by
 obtain ⟨⟨se,hG,_⟩,_⟩:=hs
 have hgl:=hG.gl
 have hgv:=hG.gv
 simp only at hgl hgv
 refine ⟨h.wc,fun p hp=>⟨by have:=(h.pk p hp).1;omega,(h.pk p hp).2⟩,by rw [h.dd];omega,fun d hd=>?_⟩
 rw [h.dd] at hd
 have hv:=hgv d hd
 exact ⟨Nat.le_trans hv.t2 (by decide),Nat.le_trans hv.cl (by decide),fun q hq=>(hv.cv q hq).2.1⟩
omit W in
theorem WaP.full {w:Wa} (h:WaP w) (h2:w.ds.length≤50) {n:Nat} (hn:n≤100):WaP (zcl w n):=by
 obtain ⟨a1,a2⟩:=kM (Q:=fun p=>p.cavs.length≤1000∧∀ c∈p.cavs,PrOk c.first∧wY c) (fun s=>⟨by simp,fun c hc=>by cases hc⟩) (n - w.ps.length) w.ps h.pk
 obtain ⟨b1,b2⟩:=kL (Q:=DiP) (fun s=>⟨by simp [tkD],by simp,fun q hq=>by cases hq⟩) (n - w.ds.length) w.ds h.dk
 exact ⟨zfH h.wc oo,a1,by unfold zcl;simp only;rw [b2];omega,b1⟩
end
section
variable [W:W32]
set_option maxRecDepth 100000 in
set_option maxHeartbeats 32000000 in
theorem zib (xs:List Int) (hxs:xs.length≤9223372036854775807) (i:Int) (l:List Pr) (hl:l.length≤9223372036854775807∧∀ p∈l,PrOk p) (raw:Bl) (hraw:raw.ticket.length≤140737488351232) (q:Rq) (n:Nat) (hn:n < 256) (g h:Nat) (hgh:g≠h) (k:Nat):
  ACall prog 6 [.slice none (xs.map jI),.lit (.int .i64 i),.slice none (l.map zU),zeb raw,yD q,.lit (.int .u8 n)] k [(g,yE),(h,zS)] (.lit (.bool true)) []:=by
 have c9:=jZ g h hgh
 obtain ⟨s,A,w,i0,j,hs,hK,hi0,hj,c2⟩:=zeu xs hxs
 have hwp:=hK.wp hs oo
 have hwl:=hK.pl
 have hdl:w.ds.length≤5:=by rw [hK.dd];exact (yW hs).2.2
 obtain ⟨hp0,hp7⟩:=hs.cp
 obtain ⟨hk0,hb2,hB⟩:=ziR hK.ain oo (c:=s.con) (t:=⟨0,9⟩) rfl hp0 hp7
 have okk:=hK.ok.key
 have in1:=zc4 hK.ain s.con ⟨0,9⟩
 have hpl:=zdl (zai A).2.1 ⟨0,9⟩ rfl
 have htl:=zeK okk hb2
 have c5:=zgU A _ hK.ain oo s.con ⟨0,9⟩
 have htk:(zax A s.con ⟨0,9⟩).2.1.ticket.length≤90000:=by rw [hB];simp only;omega
 have hbe:(zax A s.con ⟨0,9⟩).2.2=0:=by rw [hB]
 generalize zax A s.con ⟨0,9⟩=BB at *
 obtain ⟨a,b,be⟩:=BB
 unfold zxC at c5
 simp only at in1 c5 htk hbe
 subst hbe
 have ain:AlgIn a 1100:=in1.more oo
 clear hB hb2 hk0 okk hpl htl in1
 have hteA:zhS ⟨0,9⟩=.agg [.lit (.int .i64 0),.lit (.int .i64 9)]:=rfl
 rw [hteA] at c5
 clear hteA
 have hsA:zbS { s with alg:=A }=.agg [zA A,zbF s.ring,xW s.con,zG s.pass,.slice none (s.grants.map zw),yD s.req,.lit (.string ⟨s.holder.toArray⟩),.lit (.int .i64 s.minute)]:=rfl
 rw [hsA] at c2
 clear hsA
 have hwm:(n:Int).tmod 4=((n % 4:Nat):Int):=by rw [Int.tmod_eq_emod_of_nonneg oo];omega
 have hwn:IntKind.i64.wrap (n:Int)=n:=wrap_i64 oo oo
 have hn4:n % 4 < 4:=Nat.mod_lt _ (by decide)
 generalize hm:n % 4=m at *
 clear hm
 have c3:=zfG w hwp.wc.pl hwp.wc.dl (30+m) oo
 have hfp:=hwp.full (n:=30+m) oo oo
 generalize zcl w (30+m)=F at *
 have hmc:((30+m:Nat):Int)=30+(m:Int):=by omega
 rw [hmc] at c3
 have hw30:IntKind.i64.wrap (30+(m:Int))=30+(m:Int):=wrap_i64 oo oo
 have c4:=yV xs j 5 hj oo oo
 have d4:=yu 5 hj
 generalize yl xs j 5=X at *
 obtain ⟨b5,j4⟩:=X
 simp only at c4 d4
 obtain ⟨m1,l1,q1,q2,q3,q4,q5,q6⟩:=zuo 70 l
 have q1:(if (70:Int) < (l.length:Int) then (70:Int) else (l.length:Int))=(m1:Int):=q1
 have hl1:l1.length≤100∧∀ x∈l1,PrOk x:=⟨by omega,fun x hx=>hl.2 x (q6 x hx)⟩
 obtain ⟨rp,rk,rt⟩:=raw
 simp only at hraw
 obtain ⟨m2,t2,r1,r2,r3,r4,r5⟩:=cutW 1100 rt
 have r1:(if (1100:Int) < (rt.length:Int) then (1100:Int) else (rt.length:Int))=(m2:Int):=r1
 have ht2:t2.length≤90000:=by omega
 have hrA:zeb ⟨rp,rk,rt⟩=.agg [.lit (.int .i64 rp),zd rk,.slice none (rt.map za)]:=rfl
 obtain ⟨L2,hL2⟩:∃ L2:List Wa,L2=[w,F]:=⟨_,rfl⟩
 have hl2:L2.length=2:=by rw [hL2];rfl
 have hle:∀ r,AV.le (.slice (some r) [yp w,yp F]) (.slice none (L2.map yp)):=fun r=>by rw [hL2];exact AV.le_own _ _
 have hall:∀ z∈L2,WaP z:=fun z hz=>by
  rw [hL2] at hz
  simp only [List.mem_cons,List.not_mem_nil,or_false] at hz
  rcases hz with rfl | rfl
  ·exact hwp
  ·exact hfp
 obtain ⟨JL,hJL⟩:∃ JL:List Int,JL=[i,(b5:Int)]:=⟨_,rfl⟩
 have hlj:JL.length=2:=by rw [hJL];rfl
 have hleJ:∀ r,AV.le (.slice (some r) [.lit (.int .i64 i),.lit (.int .i64 b5)]) (.slice none (JL.map jI)):=fun r=>by rw [hJL];exact AV.le_own _ _
 obtain ⟨BL,hBL⟩:∃ BL:List Bl,BL=[⟨rp,rk,t2⟩,b]:=⟨_,rfl⟩
 have hlb:BL.length=2:=by rw [hBL];rfl
 have hleB:∀ r,AV.le (.slice (some r) [.agg [.lit (.int .i64 rp),zd rk,.slice none (t2.map za)],zeb b]) (.slice none (BL.map zeb)):=fun r=>by rw [hBL];exact AV.le_own _ _
 have hallB:∀ z∈BL,z.ticket.length≤90000:=fun z hz=>by
  rw [hBL] at hz
  simp only [List.mem_cons,List.not_mem_nil,or_false] at hz
  rcases hz with rfl | rfl
  ·exact ht2
  ·exact htk
 obtain ⟨QL,hQL⟩:∃ QL:List Rq,QL=[q,s.req]:=⟨_,rfl⟩
 have hlq:QL.length=2:=by rw [hQL];rfl
 have hleQ:∀ r,AV.le (.slice (some r) [yD q,yD s.req]) (.slice none (QL.map yD)):=fun r=>by rw [hQL];exact AV.le_own _ _
 clear hs hK hj hp0 hp7 hL2 hJL hBL hQL hwp hfp hn hn4 q3 q4 q6 hl r3 r4 ht2 htk
 rw [hrA]
 clear hrA
 have e00:((0:Nat):Int)=0:=rfl
 rw [e00] at c5
 clear e00
 refine Bd func6 ntmps6 fun σ N hp hpn hk hkn hfree=>?_
 simp only [List.mem_cons,List.not_mem_nil,or_false,forall_eq_or_imp,forall_eq] at hp hpn;obtain ⟨hd1,hd2⟩:=hp;obtain ⟨hdn1,hdn2⟩:=hpn
 have hcs:=And.intro c2 (And.intro (c4 (N+18+1)) (And.intro c5 (And.intro c3 True.intro)))
 clear c2 c3 c4 c5
 refine Wk ?_
 clear hcs
 refine jB 86 (by simp (disch:=omega) [go_sem, *];try rfl) (hle _) ?_
 clear hle q1 q2 q5 r1 r2 r5 hwm hwn
 refine ze zi (by kernel_rfl) (12::21::23::25::26::27::28::29::30::31::33::34::35::36::37::38::39::41::42::43::44::45::46::47::88::89::90::91::92::93::94::95::96::97::98::99::100::101::102::103::104::105::106::107::108::109::110::111::112::113::114::115::116::117::118::119::120::121::122::123::124::125::126::127::128::129::130::131::132::133::134::135::136::137::138::139::140::141::142::143::144::145::146::147::148::149::150::151::152::153::154::155::156::157::158::159::160::161::162::163::164::165::166::167::168::169::170::171::172::173::174::175::176::177::178::179::180::181::182::183::184::185::186::187::188::189::190::191::192::193::194::195::196::197::198::199::200::201::202::203::204::205::206::207::208::209::210::211::212::213::214::215::216::217::218::219::220::221::222::223::224::225::226::227::228::229::[]) [N+18+1] (fun m_ s_ σ_ n_=>∃ (v:Nat) (jd:Nat),m_=2 - v∧s_ 88=.lit (.int .i64 v)∧σ_ (N+18+1)=zy xs jd∧(v≤2)∧(Dk xs jd)) ⟨_,0,j4,rfl,WF,WF,WC,WC⟩ ?_
 intro m_1 s_1 σ_1 n_1 hs_1 hf_1 hn_1 hI_1
 obtain ⟨v,jd,hm_1,h1_88,e1_0,hv,hjd⟩:=hI_1
 have h1_1:=KS hs_1 1
 have h1_2:=KS hs_1 2
 have h1_9:=KS hs_1 9
 have h1_10:=KS hs_1 10
 have h1_13:=KS hs_1 13
 have h1_15:=KS hs_1 15
 have h1_16:=KS hs_1 16
 have h1_17:=KS hs_1 17
 have h1_18:=KS hs_1 18
 have h1_86:=KS hs_1 86
 have h1_87:=KS hs_1 87
 have k1_0:=KE hf_1 (N)
 have k1_1:=KE hf_1 (N+1)
 have k1_2:=KE hf_1 (N+18+6)
 have k1_3:=KE hf_1 (N+18+7)
 have k1_4:=KE hf_1 (N+32+10)
 have k1_5:=KE hf_1 (N+32+11)
 have k1_6:=KE hf_1 (g)
 have k1_7:=KE hf_1 (h)
 have hlow:=KL (N:=N) (σ:=σ) hf_1
 by_cases hvl:v=2
 ·subst hvl
  clear hall hleJ hleB hleQ hallB hl1
  have hcs:=And.intro c9 True.intro
  clear c9
  exact W0
 ·have hv1:v < L2.length:=by omega
  obtain ⟨z,hz⟩:∃ z,L2[v]=z:=⟨_,rfl⟩
  have hzp:=hall z (by rw [← hz];exact List.getElem_mem _)
  have hzm:(L2.map yp)[v]?=some (yp z):=by rw [List.getElem?_map,List.getElem?_eq_getElem hv1,hz];rfl
  clear hall c9 hz d4
  refine Wk ?_
  refine jB 94 (by simp (disch:=omega) [go_sem, *];try rfl) (hleJ _) ?_
  clear hleJ hzm
  refine ze zi (by kernel_rfl) (12::23::25::26::27::28::29::30::31::33::34::35::36::37::38::39::41::42::43::44::45::46::47::96::97::98::99::100::101::102::103::104::105::106::107::108::109::110::111::112::113::114::115::116::117::118::119::120::121::122::123::124::125::126::127::128::129::130::131::132::133::134::135::136::137::138::139::140::141::142::143::144::145::146::147::148::149::150::151::152::153::154::155::156::157::158::159::160::161::162::163::164::165::166::167::168::169::170::171::172::173::174::175::176::177::178::179::180::181::182::183::184::185::186::187::188::189::190::191::192::193::194::195::196::197::198::199::200::201::202::203::204::205::206::207::208::209::210::211::212::213::214::215::216::217::218::219::220::221::222::223::224::225::226::227::228::[]) [N+18+1] (fun m_ s_ σ_ n_=>∃ (u:Nat) (je:Nat),m_=2 - u∧s_ 96=.lit (.int .i64 u)∧σ_ (N+18+1)=zy xs je∧(u≤2)∧(Dk xs je)) ⟨_,0,jd,rfl,WF,WF,WC,WC⟩ ?_
  intro m_2 s_2 σ_2 n_2 hs_2 hf_2 hn_2 hI_2
  obtain ⟨u,je,hm_2,h2_96,e2_0,hu,hje⟩:=hI_2
  have h2_1:=KS hs_2 1
  have h2_2:=KS hs_2 2
  have h2_9:=KS hs_2 9
  have h2_10:=KS hs_2 10
  have h2_13:=KS hs_2 13
  have h2_15:=KS hs_2 15
  have h2_16:=KS hs_2 16
  have h2_17:=KS hs_2 17
  have h2_18:=KS hs_2 18
  have h2_21:=KS hs_2 21
  have h2_86:=KS hs_2 86
  have h2_87:=KS hs_2 87
  have h2_88:=KS hs_2 88
  have h2_89:=KS hs_2 89
  have h2_90:=KS hs_2 90
  have h2_91:=KS hs_2 91
  have h2_92:=KS hs_2 92
  have h2_93:=KS hs_2 93
  have h2_94:=KS hs_2 94
  have h2_95:=KS hs_2 95
  have k2_0:=KE hf_2 (N)
  have k2_1:=KE hf_2 (N+1)
  have k2_2:=KE hf_2 (N+18+6)
  have k2_3:=KE hf_2 (N+18+7)
  have k2_4:=KE hf_2 (N+32+10)
  have k2_5:=KE hf_2 (N+32+11)
  have k2_6:=KE hf_2 (n_1+1+2)
  have k2_7:=KE hf_2 (g)
  have k2_8:=KE hf_2 (h)
  have hlow:=KL (N:=N) (σ:=σ) hf_2
  by_cases hul:u=2
  ·subst hul
   clear hzp hleB hleQ hallB hl1 ain
   refine Wk ?_
   exact ⟨WS,WG,WN,_,(show 2 - (v+1) < m_1 by omega),v+1,je,rfl,WF,WF,WC,WC⟩
  ·have hu1:u < JL.length:=by omega
   obtain ⟨t,ht⟩:∃ t,JL[u]=t:=⟨_,rfl⟩
   have htm:(JL.map jI)[u]?=some (.lit (.int .i64 t)):=by rw [List.getElem?_map,List.getElem?_eq_getElem hu1,ht];rfl
   obtain ⟨P,j6,p1,p2,p3,p4⟩:=zbI xs je hje 3 oo true
   have c6:∀ d k,ACall prog 40 [.ptr d [] 0,.lit (.int .i64 3),.lit (.bool true)] k [(d,zy xs je)] (.slice none (P.map zU)) [(d,zy xs j6)]:=p4
   obtain ⟨YL,hYL⟩:∃ YL:List (List Pr),YL=[l1,P]:=⟨_,rfl⟩
   have hly:YL.length=2:=by rw [hYL];rfl
   have hleY:∀ r,AV.le (.slice (some r) [.slice none (l1.map zU),.slice none (P.map zU)]) (.slice none (YL.map zqy)):=fun r=>by rw [hYL];exact AV.le_own _ _
   have hallY:∀ y∈YL,y.length≤100∧∀ x∈y,PrOk x:=fun y hy=>by
    rw [hYL] at hy
    simp only [List.mem_cons,List.not_mem_nil,or_false] at hy
    rcases hy with rfl | rfl
    ·exact hl1
    ·exact ⟨by omega,fun x hx=>(p2 x hx).1⟩
   clear hYL p1 p2 p4 ht hjd hje
   have hcs:=And.intro (c6 (N+18+1)) True.intro
   clear c6
   refine Wk ?_
   clear hcs
   refine jB 103 (by simp (disch:=omega) [go_sem, *];try rfl) (hleY _) ?_
   clear hleY htm
   refine ze zi (by kernel_rfl) [12,25,26,27,28,29,30,31,105,106,107,108,109,110,111,112,113,114,115,116,117,118,119,120,121,122,123,124,125,126,127,128,129,130,131,132,133,134,135,136,137,138,139,140,141,142] [] (fun m_ s_ σ_ n_=>∃ (e:Nat),m_=2 - e∧s_ 105=.lit (.int .i64 e)∧(e≤2)) ⟨_,0,rfl,WF,WC⟩ ?_
   intro m_3 s_3 σ_3 n_3 hs_3 hf_3 hn_3 hI_3
   obtain ⟨e,hm_3,h3_105,he⟩:=hI_3
   have h3_9:=KS hs_3 9
   have h3_10:=KS hs_3 10
   have h3_13:=KS hs_3 13
   have h3_17:=KS hs_3 17
   have h3_18:=KS hs_3 18
   have h3_21:=KS hs_3 21
   have h3_23:=KS hs_3 23
   have h3_96:=KS hs_3 96
   have h3_103:=KS hs_3 103
   have h3_104:=KS hs_3 104
   have k3_0:=KE hf_3 (N)
   have k3_1:=KE hf_3 (N+1)
   have k3_2:=KE hf_3 (N+18+1)
   have k3_3:=KE hf_3 (N+18+6)
   have k3_4:=KE hf_3 (N+18+7)
   have k3_5:=KE hf_3 (N+32+10)
   have k3_6:=KE hf_3 (N+32+11)
   have k3_7:=KE hf_3 (n_1+1+2)
   have k3_8:=KE hf_3 (g)
   have k3_9:=KE hf_3 (h)
   have hlow:=KL (N:=N) (σ:=σ) hf_3
   by_cases hel:e=2
   ·subst hel
    clear hallY
    refine Wk ?_
    refine jB 145 (by simp (disch:=omega) [go_sem, *];try rfl) (hleB _) ?_
    clear hleB
    refine ze zi (by kernel_rfl) [12,33,34,35,36,37,38,39,147,148,149,150,151,152,153,154,155,156,157,158,159,160,161,162,163,164,165,166,167,168,169,170,171,172,173,174,175,176,177,178,179,180,181,182,183,184] [] (fun m_ s_ σ_ n_=>∃ (e:Nat),m_=2 - e∧s_ 147=.lit (.int .i64 e)∧(e≤2)) ⟨_,0,rfl,WF,WC⟩ ?_
    intro m_4 s_4 σ_4 n_4 hs_4 hf_4 hn_4 hI_4
    obtain ⟨e,hm_4,h4_147,he⟩:=hI_4
    have h4_9:=KS hs_4 9
    have h4_10:=KS hs_4 10
    have h4_13:=KS hs_4 13
    have h4_17:=KS hs_4 17
    have h4_18:=KS hs_4 18
    have h4_21:=KS hs_4 21
    have h4_23:=KS hs_4 23
    have h4_96:=KS hs_4 96
    have h4_145:=KS hs_4 145
    have h4_146:=KS hs_4 146
    have k4_0:=KE hf_4 (N)
    have k4_1:=KE hf_4 (N+1)
    have k4_2:=KE hf_4 (N+18+1)
    have k4_3:=KE hf_4 (N+18+6)
    have k4_4:=KE hf_4 (N+18+7)
    have k4_5:=KE hf_4 (N+32+10)
    have k4_6:=KE hf_4 (N+32+11)
    have k4_7:=KE hf_4 (n_1+1+2)
    have k4_8:=KE hf_4 (g)
    have k4_9:=KE hf_4 (h)
    have hlow:=KL (N:=N) (σ:=σ) hf_4
    by_cases hel:e=2
    ·subst hel
     clear hallB
     refine Wk ?_
     refine jB 188 (by simp (disch:=omega) [go_sem, *];try rfl) (hleQ _) ?_
     clear hleQ
     refine ze zi (by kernel_rfl) [12,41,42,43,44,45,46,47,190,191,192,193,194,195,196,197,198,199,200,201,202,203,204,205,206,207,208,209,210,211,212,213,214,215,216,217,218,219,220,221,222,223,224,225,226,227] [] (fun m_ s_ σ_ n_=>∃ (e:Nat),m_=2 - e∧s_ 190=.lit (.int .i64 e)∧(e≤2)) ⟨_,0,rfl,WF,WC⟩ ?_
     intro m_5 s_5 σ_5 n_5 hs_5 hf_5 hn_5 hI_5
     obtain ⟨e,hm_5,h5_190,he⟩:=hI_5
     have h5_9:=KS hs_5 9
     have h5_10:=KS hs_5 10
     have h5_13:=KS hs_5 13
     have h5_17:=KS hs_5 17
     have h5_18:=KS hs_5 18
     have h5_21:=KS hs_5 21
     have h5_23:=KS hs_5 23
     have h5_96:=KS hs_5 96
     have h5_188:=KS hs_5 188
     have h5_189:=KS hs_5 189
     have k5_0:=KE hf_5 (N)
     have k5_1:=KE hf_5 (N+1)
     have k5_2:=KE hf_5 (N+18+1)
     have k5_3:=KE hf_5 (N+18+6)
     have k5_4:=KE hf_5 (N+18+7)
     have k5_5:=KE hf_5 (N+32+10)
     have k5_6:=KE hf_5 (N+32+11)
     have k5_7:=KE hf_5 (n_1+1+2)
     have k5_8:=KE hf_5 (g)
     have k5_9:=KE hf_5 (h)
     have hlow:=KL (N:=N) (σ:=σ) hf_5
     by_cases hel:e=2
     ·subst hel
      clear hzp ain hl1
      refine Wk ?_
      exact ⟨WS,WG,WN,_,(show 2 - (u+1) < m_2 by omega),u+1,j6,rfl,WF,WF,WC,WC⟩
     ·have he1:e < QL.length:=by omega
      obtain ⟨y,hy⟩:∃ y,QL[e]=y:=⟨_,rfl⟩
      have hym:(QL.map yD)[e]?=some (yD y):=by rw [List.getElem?_map,List.getElem?_eq_getElem he1,hy];rfl
      obtain ⟨⟨R1,R2,R3⟩,k1,k2,k3,k4⟩:=zvJ ain hzp t y hgh
      unfold zby at k1 k2
      simp only at k1 k2 k3 k4
      clear hzp ain hl1 hy
      have hcs:=And.intro k1 (And.intro k2 (And.intro k3 (And.intro k4 True.intro)))
      clear k1 k2 k3 k4
      refine Wk ?_
      clear hcs
      exact ⟨WS,WG,WN,_,(show 2 - (e+1) < m_5 by omega),e+1,rfl,WF,WC⟩
    ·have he1:e < BL.length:=by omega
     obtain ⟨y,hy⟩:∃ y,BL[e]=y:=⟨_,rfl⟩
     have hyt:=hallB y (by rw [← hy];exact List.getElem_mem _)
     have hym:(BL.map zeb)[e]?=some (zeb y):=by rw [List.getElem?_map,List.getElem?_eq_getElem he1,hy];rfl
     obtain ⟨⟨R1,R2,R3⟩,k1,k2,k3,k4⟩:=zvG (g:=g) (h:=h) ain hzp t hyt
     unfold ze9 at k1 k2
     simp only at k1 k2 k3 k4
     clear hzp ain hl1 hy hyt hallB hleQ
     have hcs:=And.intro k1 (And.intro k2 (And.intro k3 (And.intro k4 True.intro)))
     clear k1 k2 k3 k4
     refine Wk ?_
     clear hcs
     exact ⟨WS,WG,WN,_,(show 2 - (e+1) < m_4 by omega),e+1,rfl,WF,WC⟩
   ·have he1:e < YL.length:=by omega
    obtain ⟨y,hy⟩:∃ y,YL[e]=y:=⟨_,rfl⟩
    have hyt:=hallY y (by rw [← hy];exact List.getElem_mem _)
    have hym:(YL.map zqy)[e]?=some (.slice none (y.map zU)):=by rw [List.getElem?_map,List.getElem?_eq_getElem he1,hy];rfl
    obtain ⟨⟨R1,R2,R3⟩,k1,k2,k3,k4⟩:=zvE ain hzp t hyt hgh
    unfold ze9 at k1 k2
    simp only at k1 k2 k3 k4
    clear hzp ain hl1 hy hyt hallB hallY hleB hleQ
    have hcs:=And.intro k1 (And.intro k2 (And.intro k3 (And.intro k4 True.intro)))
    clear k1 k2 k3 k4
    refine Wk ?_
    clear hcs
    exact ⟨WS,WG,WN,_,(show 2 - (e+1) < m_3 by omega),e+1,rfl,WF,WC⟩
end
theorem zic (xs:List Int) (_:∀ n∈xs,(Lit.int .i64 n).wf=true) (hxs:xs.length≤9223372036854775807) (i:Int) (l:List Pr) (hl:l.length≤9223372036854775807∧∀ p∈l,PrOk p) (raw:Bl) (hraw:raw.ticket.length≤140737488351232) (q:Rq) (_:True) (n:Int) (w:(Lit.int .u8 n).wf=true) (g h:Nat) (hgh:g≠h) (k:Nat):
  ACall prog 6 [.slice none (xs.map jI),.lit (.int .i64 i),.slice none (l.map zU),zeb raw,yD q,.lit (.int .u8 n)] k [(g,yE),(h,zS)] (.lit (.bool true)) []:=by
 obtain ⟨c,_,rfl⟩:=kB w
 exact @zib w32 xs hxs i l hl raw hraw q c.toNat (by have:=c.toNat_lt;omega) g h hgh k
end Go.Proofs.YtglmjglbobhbbaaGreatDoor
