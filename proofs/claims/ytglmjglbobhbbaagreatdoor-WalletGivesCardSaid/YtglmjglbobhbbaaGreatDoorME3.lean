/- Texts P30, C16, X7, X8, X9, X10, X11, W17, X13, U24, Y15, P26, P17, P25, P29, P31, joined. -/
import Derived.Test.YtglmjglbobhbbaaGreatDoorME2
namespace Go.Proofs.YtglmjglbobhbbaaGreatDoor
open _root_.Go.Proofs.Tryz
open Go.Ab
attribute [local irreducible] Go.Ab.tyAV Go.Ab.aw Go.Ab.aops Go.Ab.kReg Go.Ab.aThen Go.Ab.aBlk Go.Ab.acond Go.Ab.aguard Go.Ab.astep Go.Ab.AStepX Go.Ab.aRet
attribute [local irreducible] yE
@[go_sem] theorem ztv (l:List Tg) (t:Tg):(zbT l t).sz=33:=by simp only [zbT,AV.sz,AV.szl,zB]
@[go_sem] theorem zoP (l:List Tg) (t:Tg):(zbT l t).isAgg=true:=rfl
@[go_sem] theorem zqv (l:List Tg) (t:Tg):(zbT l t).cell=true:=by simp only [zbT,AV.cell,AV.celll,Bool.and_self,zj]
@[go_sem] theorem zsa (f:Nat→Option Nat) (l:List Tg) (t:Tg):(zbT l t).ren f=zbT l t:=by simp only [zbT,AV.ren,AV.renl,Option.bind_none,znj,xR]
section
variable [W:W32]
theorem zfW {a a':Alg} (hf:a'.free=a.free) (hb:a'.boxes=a.boxes) (k:Tg) (b:List UInt8):x6 a' k b=x6 a k b:=by
 unfold x6
 rw [hf,hb]
theorem zjI {a:Alg} (ok:AlgOk a):∀ {L:List (List UInt8)} {k t:Tg} {acc ts:List Tg},pathIn a.macs k L t→wn a acc k L=some (acc++ts)→∀ i,i < L.length→∃ t',ts[i]?=some t'∧pathIn a.macs k (L.take (i+1)) t'
 | [],_,_,_,_,_,_,i,hi=>absurd hi (by simp)
 | m::r,k,t,acc,ts,h,hw,i,hi=>by
  obtain ⟨t1,hn,h3⟩:=h
  have hl:=q7 ok hn.1
  simp only at hl
  rw [wn,hl] at hw
  simp only at hw
  obtain ⟨ts2,k1,k2,_⟩:=zdo ok (acc:=acc++[t1]) h3
  have hw2:=hw
  rw [k1] at hw2
  have hts:ts=t1::ts2:=by
   simp only [Option.some.injEq,List.append_assoc,List.append_cancel_left_eq] at hw2
   exact hw2.symm
  subst hts
  cases i with
  | zero=>exact ⟨t1,rfl,t1,hn,rfl⟩
  | succ i=>
   rw [List.length_cons] at hi
   obtain ⟨t',e1,e2⟩:=zjI ok h3 k1 i oo
   exact ⟨t',by rw [List.getElem?_cons_succ];exact e1,t1,hn,e2⟩
theorem zea {leaf:Tg} {r:Rq} (hr:rqB r=true) (gs:List Di):∀ (L:List Di) (u:Nat) (a:Alg) (D:List Bo) (m:Nat),AlgIn a m→m+L.length≤60000→gs.drop u=L→D.length=gs.length →
  (∀ e∈a.macs,e∈(xj leaf r L u a D).1.macs)∧(AlgOk a→AlgOk (xj leaf r L u a D).1)∧(xj leaf r L u a D).1.free=a.free∧(∀ i,i < u→(xj leaf r L u a D).2[i]?=D[i]?) ∧
  ∀ (i:Nat) (g:Di) (d:Bo),u≤i→gs[i]?=some g→(xj leaf r L u a D).2[i]?=some d→(⟨g.tag,y8 leaf r.gate.toNat r.nonce.toNat,d.proof⟩:MacE)∈(xj leaf r L u a D).1.macs
 | [],u,a,D,m,ha,_,hL,hD=>by
  refine ⟨fun e he=>he,fun h=>h,rfl,fun _ _=>rfl,fun i g d hi hg _=>?_⟩
  have hl:=List.drop_eq_nil_iff.1 hL
  have:=(List.getElem?_eq_some_iff.1 hg).1
  omega
 | d::L,u,a,D,m,ha,hm,hL,hDl=>by
  have hu:u < gs.length:=by
   have:=congrArg List.length hL
   rw [List.length_drop,List.length_cons] at this;omega
  rw [List.drop_eq_getElem_cons hu,List.cons.injEq] at hL
  obtain ⟨hd,hL⟩:=hL
  obtain ⟨h0,hB⟩:=vw ha (by rw [List.length_cons] at hm;omega) d leaf hr
  have hin:=jk ha d leaf r
  obtain ⟨i1,i2,i3,i4,i5⟩:=zea (leaf:=leaf) hr gs L (u+1) (vJ a d leaf r).1 (D.set u (vJ a d leaf r).2.1) (m+1) hin (by rw [List.length_cons] at hm;omega) hL (by rw [List.length_set];exact hDl)
  rw [xj]
  have hs1:∀ e∈a.macs,e∈(vJ a d leaf r).1.macs:=by rw [hB];exact wi h0
  refine ⟨fun e he=>i1 e (hs1 e he),fun ok=>i2 (by rw [hB];exact ok.mac _ _),i3.trans (by rw [hB];exact (xJ h0).1),fun i hi=>?_,fun i g x hi hg hx=>?_⟩
  ·rw [i4 i oo,List.getElem?_set_ne oo]
  ·by_cases hiu:i=u
   ·subst hiu
    rw [i4 i oo,List.getElem?_set_self oo] at hx
    rw [List.getElem?_eq_getElem hu,hd] at hg
    cases hg
    cases hx
    refine i1 _ ?_
    rw [hB]
    exact za6 h0
   ·exact i5 i g x oo hg hx
theorem zgl {a:Alg} (ok:AlgOk a):∀ {l:List Pr} {x t:Tg},chIn a.macs x (l.map qy) t→(∀ p∈l,yc p=true∧p.kind≠7)→zcd a x l=some t
 | [],x,t,h,_=>by
  have h:x=t:=h
  rw [h];rfl
 | p::r,x,t,h,hv=>by
  obtain ⟨t',h1,h2⟩:=h
  have hl:=q7 ok h1
  simp only at hl
  rw [zcd,if_pos (hv p (List.mem_cons_self ..)),hl]
  exact zgl ok h2 fun y hy=>hv y (List.mem_cons_of_mem _ hy)
theorem zn3 {a:Alg} (ok:AlgOk a) {dk t:Tg} {tk:List UInt8} {l:List Pr} (h:chIn a.macs dk (vy tk::l.map qy) t) (hv:∀ p∈l,yc p=true∧p.kind≠7):zhl a dk tk l=some t:=by
 obtain ⟨x,h1,h2⟩:=h
 have hl:=q7 ok h1
 simp only at hl
 unfold zhl
 rw [hl]
 exact zgl ok h2 hv
omit W in
def zky (d:Bo):Bo:=⟨d.ticket,d.conds,zeroTag⟩
omit W in
theorem zfu (q:Bo→Bool) (hq:∀ d,q (zky d)=q d) (D:List Bo):(D.map zky).any q=D.any q:=by
 rw [List.any_map]
 congr 1
 funext d
 exact hq d
omit W in
theorem zj4 (D:List Bo) (hD:∀ i,i < D.length→True):∀ u,u≤D.length→twU (D.map zky) u=twU D u
 | 0,_=>rfl
 | u+1,hu=>by
  rw [vf,vf,zj4 D hD u oo]
  congr 1
  rw [← List.map_take,List.any_map]
  congr 1
  funext d
  simp only [Function.comp,List.getD_eq_getElem?_getD,List.getElem?_map,List.getElem?_eq_getElem (show u < D.length by omega),Option.map_some,Option.getD_some]
  rfl
omit W in
theorem znY (r:Rq) (ep se:Int) (L:List Ca) (tg tg':Tg) (D:List Bo):yZ ⟨r,ep,se,L,tg,D⟩=yZ ⟨r,ep,se,L,tg',D.map zky⟩:=by
 have h1:z7 ⟨r,ep,se,L,tg,D⟩=z7 ⟨r,ep,se,L,tg',D.map zky⟩:=by
  unfold z7 wX qE
  simp only [List.length_map]
  rw [zfu yQ (fun _=>rfl),zfu yr (fun _=>rfl),zfu qv (fun _=>rfl),zj4 D (fun _ _=>trivial) _ (Nat.le_refl _)]
 have h2:(vh ⟨r,ep,se,L,tg,D⟩).length=(vh ⟨r,ep,se,L,tg',D.map zky⟩).length:=by
  have hf:((D.map zky).flatMap yy).length=(D.flatMap yy).length:=by
   rw [List.length_flatMap,List.length_flatMap,List.map_map]
   congr 1
   refine List.map_congr_left fun d _=>?_
   simp only [Function.comp,yy,zky,List.length_append,d.proof.2,zeroTag.2]
  unfold vh zbw
  simp only [List.length_append,List.length_map,tg.2,tg'.2,hf]
 unfold yZ
 rw [h1,h2]
omit W in
theorem zgL {α:Type} {q:α→Bool}:∀ (l:List α) (u:Nat),l.any q=true→∃ (i:Nat) (x:α),ixF q l u=((u+i:Nat):Int)∧l[i]?=some x∧q x=true
 | [],u,h=>by cases h
 | e::r,u,h=>by
  rw [ixF]
  by_cases hq:q e=true
  ·rw [if_pos hq];exact ⟨0,e,rfl,rfl,hq⟩
  ·rw [if_neg hq]
   rw [List.any_cons] at h
   simp only [Bool.not_eq_true] at hq
   rw [hq,Bool.false_or] at h
   obtain ⟨i,x,h1,h2,h3⟩:=zgL r (u+1) h
   exact ⟨i+1,x,by rw [h1];congr 1;omega,by rw [List.getElem?_cons_succ];exact h2,h3⟩
theorem zf0 {s:Sc} (hs:ScV s) {A:Alg} {m:Nat} (_ha:AlgIn A m) (hm:m≤20000) (_hok:AlgOk A) (hsub:∀ e∈s.alg.macs,e∈A.macs) (hfr:A.free=s.alg.free) (hbx:A.boxes=s.alg.boxes)
  {l:List Pr} (hl:l.length≤900) (hlk:∀ x∈l,PrOk x) (hn:NarG A m s.pass l (yT A s.pass l)) (hck:yZ (zE (yT A s.pass l).2.1 s.grants s.req)=0) {g h:Nat} (hgh:g≠h):
  ∃ (ids:List Tg) (leaf:Tg),∀ k,ACall prog 50 [zA (zV (yT A s.pass l).1 (yT A s.pass l).2.1 s.grants s.req).1,zbF s.ring,ye (zV (yT A s.pass l).1 (yT A s.pass l).2.1 s.grants s.req).2] k [(g,yE),(h,zS)] (.tup [zbT ids leaf,.lit (.int .i64 0)]) []:=by
 obtain ⟨se,hG,s1,s2⟩:=hs.good
 have hrq:=hs.rq
 obtain ⟨root,hring,hpath⟩:=hs.ri
 have hV:=hs.vk root hring
 obtain ⟨sa,sr,sc,⟨pe,ps,pc,pt⟩,gs,rq,sh,sm⟩:=s
 simp only at *
 obtain rfl:pe=2:=hG.ep
 obtain rfl:ps=se:=hG.es
 have hgl:=hG.gl
 have hgv:=hG.gv
 have hgd:=hG.gd
 have hcl:=hG.cl
 have hcv:=hG.cv
 simp only at hgl hgv hgd hcl hcv
 have hpt:=hn.pt root _ (hpath.sub hsub)
 have hcav:=hn.cv
 have hep:=hn.ep
 have hse:=hn.se
 have hnin:=hn.ain
 have hnok:=hn.ok
 have hnsub:=hn.sub
 have hnfr:=hn.fr
 have hnbx:=hn.bx
 simp only at hcav hep hse
 generalize yT A (⟨2,ps,pc,pt⟩:Pa) l=R at *
 obtain ⟨A1,⟨e1,r1,C,tg⟩,er⟩:=R
 simp only at *
 subst hep hse
 clear hn
 have hP0:=ka hnin oo (⟨2,r1,C,tg⟩:Pa) hrq
 have hPin:AlgIn (qa A1 (⟨2,r1,C,tg⟩:Pa) rq).1 (m+2 * l.length+1):=yN hnin _ _
 have hPsub:∀ e∈A1.macs,e∈(qa A1 (⟨2,r1,C,tg⟩:Pa) rq).1.macs:=wi hP0
 have hPmem:(⟨tg,kI rq.gate.toNat rq.nonce.toNat,(qa A1 (⟨2,r1,C,tg⟩:Pa) rq).2.1⟩:MacE)∈(qa A1 (⟨2,r1,C,tg⟩:Pa) rq).1.macs:=za6 hP0
 have hPok:AlgOk (qa A1 (⟨2,r1,C,tg⟩:Pa) rq).1:=hnok.mac _ _
 have hPfr:(qa A1 (⟨2,r1,C,tg⟩:Pa) rq).1.free=A1.free:=(xJ hP0).1
 have hbxs:=vo hnin (⟨2,r1,C,tg⟩:Pa) gs hrq oo
 obtain ⟨b1,b2⟩:=zaw (leaf:=tg) hrq gs gs 0 _ (gs.map zu) (m+2 * l.length+1) hPin oo rfl (by simp) (fun i hi hj=>by rw [List.getElem_map];exact ⟨rfl,rfl⟩)
 obtain ⟨i1,i2,i3,_,i5⟩:=zea (leaf:=tg) hrq gs gs 0 _ (gs.map zu) (m+2 * l.length+1) hPin oo rfl (by simp)
 have hDl:=xO (leaf:=tg) (r:=rq) gs 0 (qa A1 (⟨2,r1,C,tg⟩:Pa) rq).1 (gs.map zu)
 rw [List.length_map] at hDl
 have hi2:=i2 hPok
 have hpres:zV A1 (⟨2,r1,C,tg⟩:Pa) gs rq=((xj tg rq gs 0 (qa A1 (⟨2,r1,C,tg⟩:Pa) rq).1 (gs.map zu)).1,⟨rq,2,r1,C,(qa A1 (⟨2,r1,C,tg⟩:Pa) rq).2.1,(xj tg rq gs 0 (qa A1 (⟨2,r1,C,tg⟩:Pa) rq).1 (gs.map zu)).2⟩):=rfl
 rw [hpres] at hbxs ⊢
 clear hpres i2
 generalize (qa A1 (⟨2,r1,C,tg⟩:Pa) rq).2.1=pf at *
 generalize (qa A1 (⟨2,r1,C,tg⟩:Pa) rq).1=A2 at *
 generalize xj tg rq gs 0 A2 (gs.map zu)=B at *
 obtain ⟨A3,D⟩:=B
 simp only at *
 have sub3:∀ e∈A1.macs,e∈A3.macs:=fun e he=>i1 e (hPsub e he)
 have hopen:∀ k b,x6 A3 k b=x6 sa k b:=fun k b=>zfW (by rw [i3,hPfr,hnfr,hfr]) (by rw [hbxs,hnbx,hbx]) k b
 have hDt:∀ (i:Nat) (d:Bo) (g:Di),D[i]?=some d→gs[i]?=some g→d.ticket=g.ticket∧d.conds=g.conds:=fun i d g hd hg=>by
  obtain ⟨hi,rfl⟩:=List.getElem?_eq_some_iff.1 hd
  obtain ⟨hj,rfl⟩:=List.getElem?_eq_some_iff.1 hg
  exact b2 i hj hi
 have hDm:∀ d∈D,∃ (i:Nat) (g:Di),D[i]?=some d∧gs[i]?=some g∧d.ticket=g.ticket∧d.conds=g.conds:=fun d hd=>by
  obtain ⟨i,hi,rfl⟩:=List.getElem_of_mem hd
  have hj:i < gs.length:=by omega
  exact ⟨i,gs[i],List.getElem?_eq_getElem hi,List.getElem?_eq_getElem hj,b2 i hj hi⟩
 have hoff:D.map zky=gs.map zu:=by
  refine List.ext_getElem (by simp [hDl]) fun i h1 h2=>?_
  rw [List.length_map] at h1 h2
  obtain ⟨t1,t2⟩:=b2 i h2 h1
  rw [List.getElem_map,List.getElem_map]
  unfold zky zu
  rw [t1,t2]
 have hck2:yZ ⟨rq,2,r1,C,pf,D⟩=0:=by rw [znY _ _ _ _ _ zeroTag,hoff];exact hck
 have hpkC:∀ c∈C,PrOk c.first:=fun c hc=>by
  rw [hcav] at hc
  rcases List.mem_append.1 hc with hc | hc
  ·exact (hcv c hc).2.1
  ·obtain ⟨x,hx,rfl⟩:=List.mem_map.1 hc
   exact hlk x hx
 have hCl:C.length≤1000:=by
  rw [hcav,List.length_append,List.length_map]
  omega
 have hbin:BuIn ⟨rq,2,r1,C,pf,D⟩:=by
  refine ⟨hCl,by simp only;omega,hpkC,fun d hd=>?_⟩
  obtain ⟨i,g,_,hg,h1,h2⟩:=hDm d hd
  have hv:=hgv g (List.mem_of_getElem? hg)
  exact ⟨by rw [h1];have:=hv.t2;omega,by rw [h2];have:=hv.cl;omega,fun p hp=>(hv.cv p (by rw [← h2];exact hp)).2.1⟩
 have hbv:=(vK hbin hck2).1
 have hcvB:∀ c∈C,xz c=true:=fun c hc=>(hbv.cv c hc).1
 have hL:zdV r1 C=yX r1.toNat::C.map y9:=rfl
 have hpt3:pathIn A3.macs root (zdV r1 C) tg:=by
  rw [hL,hcav,List.map_append,List.map_map]
  exact hpt.sub sub3
 obtain ⟨ts,w1,w2,w3,w4,_⟩:=zdo hi2 (acc:=[]) hpt3
 obtain ⟨ids,hids⟩:=zdk hi2 (acc:=[]) w3
 have htl:ts.length=C.length+1:=by rw [w2,hL,List.length_cons,List.length_map]
 have hlf:ts[C.length]?=some tg:=by
  rw [hL,List.length_cons,List.length_map,List.getElem?_cons_succ] at w4
  exact w4
 have hts:zfe A3 2 root r1 C=(ts,0):=by
  unfold zfe
  rw [if_neg oo,if_neg (by
   intro hh
   obtain ⟨c,hc,hc2⟩:=List.any_eq_true.1 hh
   rw [hcvB c hc] at hc2
   cases hc2),w1]
  rfl
 refine ⟨ids,tg,fun k=>?_⟩
 rw [hring]
 refine ziH A3 (m+2 * l.length+1+gs.length) b1 oo root 3 ⟨rq,2,r1,C,pf,D⟩ hbin hck2 hCl ?_ (by simp only;omega) ?_ ts ids tg hts htl hlf ?_ ?_ ?_ ?_ g h k hgh
 ·intro c hc
  simp only at hc
  rw [hcav] at hc
  rcases List.mem_append.1 hc with hc | hc
  ·have:=hcv c hc;exact ⟨by omega,by omega⟩
  ·obtain ⟨x,hx,rfl⟩:=List.mem_map.1 hc
   exact ⟨by simp [zR],by simp [zR]⟩
 ·intro d hd
  obtain ⟨i,g,_,hg,h1,h2⟩:=hDm d hd
  have hv:=hgv g (List.mem_of_getElem? hg)
  exact ⟨by rw [h1];have:=hv.t2;omega,by rw [h2];have:=hv.cl;omega,fun p hp=>(hv.cv p (by rw [← h2];exact hp)).2.1⟩
 ·unfold zgP;rw [hids];rfl
 ·unfold zlR
  rw [if_pos hrq]
  exact q7 hi2 (i1 _ hPmem)
 ·intro i c t hic h3 hit
  simp only at hic
  have hi5:i < pc.length:=by
   rcases Nat.lt_or_ge i pc.length with h4 | h4
   ·exact h4
   ·rw [hcav,List.getElem?_append_right h4,List.getElem?_map] at hic
    obtain ⟨x,_,rfl⟩:=Option.map_eq_some_iff.1 hic
    cases h3
  have hic2:pc[i]?=some c:=by rw [hcav,List.getElem?_append_left hi5] at hic;exact hic
  obtain ⟨t0,sk,dk,g0,v1,v2,v3,v4,v5,v6⟩:=hV.th i c hic2 h3
  simp only at v1 v2 v3 v4 v6
  obtain ⟨t',e1,e2⟩:=zjI hi2 hpt3 w1 i (by rw [hL,List.length_cons,List.length_map,hcav,List.length_append,List.length_map];omega)
  have hpre:(zdV r1 C).take (i+1)=yX r1.toNat::(pc.take i).map y9:=by
   rw [hL,List.take_succ_cons,← List.map_take,hcav,List.take_append_of_le_length oo]
  rw [hpre] at e2
  rw [hit] at e1
  cases e1
  obtain rfl:=zgR hi2 e2 ((v1.sub hsub).sub (fun e he=>sub3 e (hnsub e he)))
  have hgk:=List.getElem_of_mem v4
  obtain ⟨j0,hj0,hj1⟩:=hgk
  have hany:D.any (fun d=>decide (d.ticket=c.ticket))=true:=by
   rw [List.any_eq_true]
   have hj2:j0 < D.length:=by omega
   refine ⟨D[j0],List.getElem_mem hj2,?_⟩
   have:=(b2 j0 hj0 hj2).1
   rw [decide_eq_true_eq,this,hj1]
   exact v5
  obtain ⟨j,d,x1,x2,x3⟩:=zgL D 0 hany
  rw [decide_eq_true_eq] at x3
  have hjl:j < gs.length:=by have:=(List.getElem?_eq_some_iff.1 x2).1;omega
  obtain ⟨y1,y2⟩:=hDt j d gs[j] x2 (List.getElem?_eq_getElem hjl)
  have hjj:j=j0:=hgd j j0 hjl hj0 (by rw [← y1,x3,hj1,v5])
  subst hjj
  rw [hj1] at y1 y2
  refine ⟨sk,dk,d,j,g0.tag,q7 hi2 (sub3 _ (hnsub _ (hsub _ v2))),by rw [hopen];exact v3,by rw [Nat.zero_add] at x1;exact x1,x2,?_,?_⟩
  ·rw [y1,y2]
   exact zn3 hi2 (((v6.sub hsub).sub hnsub).sub sub3) (fun p hp=>by have:=(hgv g0 v4).cv p hp;exact ⟨this.1,this.2.2⟩)
  ·unfold zs2
   rw [if_pos hrq]
   exact q7 hi2 (i5 j g0 d (Nat.zero_le _) (by rw [List.getElem?_eq_getElem hjl,hj1]) x2)
 ·intro d hd
  obtain ⟨i,g,_,hg,h1,h2⟩:=hDm d hd
  obtain ⟨c,hc,k1,k2⟩:=hV.ex g (List.mem_of_getElem? hg)
  exact ⟨c,by simp only;rw [hcav];exact List.mem_append_left _ hc,k1,by rw [k2,h1]⟩
end
end Go.Proofs.YtglmjglbobhbbaaGreatDoor
namespace Go.Ab
open Go.RowKit
def LQP (W0:World) (g:Ghost) (N:Nat) (D:List Deferred) (Q:AExit→Cfg→Prop) (QP:List PanicEntry→Cfg→Prop):Exit→Act→World→Prop:=fun e a w=>
 ∃ c g',g.le g'∧SimA W0 g' N c a w∧a.defers=D∧match e with
  | .normal=>Q .normal c
  | .exit id=>Q (.exit id) c
  | .ret=>Q .ret c
  | .panic ch=>QP ch c
  | _=>False
theorem LQP.mono {W0:World} {g g':Ghost} {N:Nat} {D D':List Deferred} {Q:AExit→Cfg→Prop} {QP:List PanicEntry→Cfg→Prop} (hg:g.le g') (hD:D'=D) {e:Exit} {a:Act} {w:World} (h:LQP W0 g' N D' Q QP e a w):LQP W0 g N D Q QP e a w:=
 let ⟨c,g'',hle,hs,hm,hq⟩:=h
 ⟨c,g'',hg.trans hle,hs,hm.trans hD,hq⟩
def awP (P:Program) (N:Nat) (b:Code) (Q:AExit→Cfg→Prop) (QP:List PanicEntry→Cfg→Prop) (c:Cfg):Prop:=
 wJ N b=true→P.follows .mixedOrders=true→∀ W0 g a w,SimA W0 g N c a w→b.wpIn (wideAt none) 0 P (LQP W0 g N a.defers Q QP) a w
section
variable {P:Program} {N:Nat} {Q:AExit→Cfg→Prop} {QP:List PanicEntry→Cfg→Prop} {c:Cfg}
def APanic (P:Program) (f:FuncId) (args:List AV) (k:Nat) (ch:List PanicEntry):Prop:=
 qV P f=true∧∀ (W0:World) (g:Ghost) (σ:Nat→Ent) (n:Nat) (w:World) (vals:List Value),Sim W0 g σ n w→vals.length=args.length→(∀ (i:Nat) (x:AV) (v:Value),args[i]?=some x→vals[i]?=some v→Rep g x v) →
  σ k=.none→k < n→Calls P f vals.toArray w fun e w'=>e=.panicked ch∧∃ g',g.le g'∧Sim W0 g' σ n w'
end
theorem SimA.init {W0:World} {g:Ghost} {σ:Nat→Ent} {n:Nat} {w:World} {args:List AV} {vals:List Value} {N:Nat} (hS:Sim W0 g σ n w) (hl:vals.length=args.length) (hv:∀ (i:Nat) (x:AV) (v:Value),args[i]?=some x→vals[i]?=some v→Rep g x v) (hargs:args.length≤N):
  SimA W0 g N ⟨zcB args,σ,n⟩ { tmps:=vals.toArray++Array.replicate (N - vals.toArray.size) undef,defers:=[] } w:=by
 refine ⟨hS,by simp;omega,fun t=>?_⟩
 show Rep g (args.getD t (.tup [])) ((vals.toArray++Array.replicate (N - vals.toArray.size) undef).getD t undef)
 by_cases ht:t < args.length
 ·have ht':t < vals.length:=by omega
  have:=hv t args[t] vals[t] (List.getElem?_eq_getElem ht) (List.getElem?_eq_getElem ht')
  have e1:args.getD t (.tup [])=args[t]:=by simp [List.getD,List.getElem?_eq_getElem ht]
  have e2:(vals.toArray++Array.replicate (N - vals.toArray.size) undef).getD t undef=vals[t]:=by simp [Array.getElem?_append,ht']
  rw [e1,e2];exact this
 ·have e1:args.getD t (.tup [])=.tup []:=by simp [List.getD,List.getElem?_eq_none (Nat.not_lt.1 ht)]
  have e2:(vals.toArray++Array.replicate (N - vals.toArray.size) undef).getD t undef=undef:=by
   rw [Array.getD_eq_getD_getElem?,Array.getElem?_append]
   rw [if_neg (by simp;omega),Array.getElem?_replicate]
   split <;> rfl
  rw [e1,e2]
  exact .tup [] [] rfl fun i x v h _=>by simp at h
theorem APanic.of_body {P:Program} {f:FuncId} {fn:Func} {body:Code} {args:List AV} {k:Nat} {ch:List PanicEntry} (hmix:P.follows .mixedOrders=true) (hf:P.funcs[f]?=some fn) (hb:fn.body=some body)
  (hname : (fn.name == "runtime.NumGoroutine") = false) {N : Nat} (hN : fn.ntmps = N) (hok : wJ N body = true) (hargs : args.length ≤ N)
  (h:∀ (σ:Nat→Ent) (n:Nat),σ k=.none→k < n→(∀ id,n≤id→σ id=.none)→awP P N body (fun _ _=>False) (fun ch' c'=>ch'=ch∧∀ id,id < n→c'.σ id=σ id) ⟨zcB args,σ,n⟩):APanic P f args k ch:=by
 refine ⟨by simp [qV,hf,hb,hname],fun W0 g σ n w vals hS hl hv hk hkn=>?_⟩
 subst hN
 refine callsIn_wide.1 (callsIn_of_wp_marks (n:=0) hf hb trivial (wpIn_mono (h σ n hk hkn hS.bound hok hmix W0 g _ w (SimA.init hS hl hv hargs)) fun e a' w' hq=>?_))
 obtain ⟨c',g',hle,hS',hD,hq⟩:=hq
 cases e with
 | panic ch'=>
  obtain ⟨rfl,h3⟩:=hq
  obtain ⟨g2,hle2,hS2,_⟩:=hS.leave hS'.sim hle hk hkn (ws:=[]) (post:=[]) (fresh:=none) h3 (fun q hq=>by cases hq) rfl
  show LeavesInM Fence.wide 0 P fn a'.tmps _ a'.defers (.panicking ch') w'
  rw [hD]
  exact ⟨rfl,g2,hle2,hS2⟩
 | normal=>exact hq.elim
 | ret=>exact hq.elim
 | exit id=>exact hq.elim
 | goto=>exact hq.elim
 | outgrown=>exact hq.elim
theorem ARet.of {P:Program} {rs:List ResultVar} {k:Nat} {σ0:Nat→Ent} {n0:Nat} {pre:Foot} {r:AV} {post:Foot} {c:Cfg} (h:aRet P rs k σ0 n0 pre r post .ret c):ARet P rs k σ0 n0 pre r post c:=h
end Go.Ab
namespace Go.Proofs.YtglmjglbobhbbaaGreatDoor
open _root_.Go.Proofs.Tryz
open Go.Ab
attribute [local irreducible] Go.Ab.tyAV Go.Ab.aw Go.Ab.aops Go.Ab.kReg Go.Ab.aThen Go.Ab.aBlk Go.Ab.acond Go.Ab.aguard Go.Ab.astep Go.Ab.AStepX Go.Ab.aRet
attribute [local irreducible] yE
section
variable [W:W32]
end
section
variable [W:W32]
theorem zc5 {a:Alg} {e:Nat} (key:Tg) (nn:Int) (plain:List UInt8) (h:e≠0):xV a e key nn plain=(a,e,[]):=by
 unfold xV bxE zcp
 rw [if_neg h,if_pos h]
theorem ziT {a:Alg} {m:Nat} (h:AlgIn a m) (e:Nat) (key:Tg) (nn:Int) (plain:List UInt8):AlgIn (xV a e key nn plain).1 (m+1):=by
 by_cases he:e=0
 ·subst he
  by_cases h0:(xV a 0 key nn plain).2.1=0
  ·have hs:=zdL h key nn plain
   rw [zcc,if_pos h0] at hs
   exact hs
  ·have h1:(xV a 0 key nn plain).1=a:=by
    revert h0
    unfold xV zcp
    by_cases hx:bxE 0 nn plain=0
    ·rw [if_neg (by simpa using hx)]
     cases hb:zhV key nn plain a.boxes with
     | some b=>intro _;rfl
     | none=>
      simp only
      by_cases hf:65536≤a.boxes.length
      ·rw [if_pos hf];intro _;rfl
      ·rw [if_neg hf];intro h2;exact absurd rfl h2
    ·rw [if_pos hx];intro _;rfl
   rw [h1]
   exact h.more (Nat.le_succ _)
 ·rw [zc5 _ _ _ he]
  exact h.more (Nat.le_succ _)
theorem zc6 {a:Alg} {m:Nat} (h:AlgIn a m) (e:Nat) (key:Tg) (nn:Int) (plain:List UInt8):(xV a e key nn plain).2.2.length≤100000:=by
 unfold xV zcp
 by_cases hx:bxE e nn plain=0
 ·rw [if_neg (by simpa using hx)]
  have hp:plain.length≤256:=by
   unfold bxE at hx
   split at hx
   ·split at hx
    ·cases hx
    ·split at hx
     ·cases hx
     ·omega
   ·contradiction
  cases hb:zhV key nn plain a.boxes with
  | some b=>
   obtain ⟨x,hx1,_,_,_,rfl⟩:=zeT hb
   exact (h.bm x hx1).2
  | none=>
   simp only
   split
   ·simp
   ·have:=zeJ a key nn plain
    simp only
    omega
 ·rw [if_pos hx]
  simp
theorem zer {a:Alg} {e:Nat} (p:Pa) (c:Ca) (h:e≠0):(zY a e p c).2.1=e:=by
 have hi:inE e p c=e:=by unfold inE;rw [if_neg h,if_neg h]
 unfold zY
 rw [hi]
 unfold jW
 simp only [jO h]
def adM (a:Alg) (p:Pa) (b:Bl):Alg × Nat × Tg:=zbk a 0 p.tag (xw b.ticket)
def adX (a:Alg) (p:Pa) (b:Bl):Alg × Nat × List UInt8:=xV (adM a p b).1 (adM a p b).2.1 (adM a p b).2.2 0 b.key.1
def zhe (a:Alg) (p:Pa) (b:Bl):Alg × Nat × Pa:=zY (adX a p b).1 (adX a p b).2.1 p ⟨true,x9,b.party,b.ticket,(adX a p b).2.2⟩
theorem zmr (a:Alg) (p:Pa) (b:Bl):zbq a p b=if (zhe a p b).2.1=0 then ((zhe a p b).1,(zhe a p b).2.2,0) else (wZ,pa0,(zhe a p b).2.1):=by
 unfold zbq
 by_cases hm:(yJ a p.tag (xw b.ticket)).2.2=0
 ·have hM:adM a p b=((yJ a p.tag (xw b.ticket)).1,0,(yJ a p.tag (xw b.ticket)).2.1):=by unfold adM zbk;rw [if_neg (by simp),if_pos hm]
  rw [if_pos hm]
  have hX:adX a p b=xV (yJ a p.tag (xw b.ticket)).1 0 (yJ a p.tag (xw b.ticket)).2.1 0 b.key.1:=by unfold adX;rw [hM]
  generalize yJ a p.tag (xw b.ticket)=Y at *
  have hs:=zcc Y.1 Y.2.1 0 b.key.1
  rw [← hX] at hs
  by_cases hb:(adX a p b).2.1=0
  ·rw [if_pos hb] at hs
   rw [hs]
   simp only [if_true]
   rw [zau]
   unfold zhe
   rw [hb]
  ·rw [if_neg hb] at hs
   rw [hs]
   simp only
   rw [if_neg hb]
   have h2:(zhe a p b).2.1=(adX a p b).2.1:=by unfold zhe;exact zer _ _ hb
   rw [h2,if_neg hb]
 ·have hM:adM a p b=(a,(yJ a p.tag (xw b.ticket)).2.2,zeroTag):=by unfold adM zbk;rw [if_neg (by simp),if_neg hm]
  rw [if_neg hm]
  have hX:adX a p b=(a,(yJ a p.tag (xw b.ticket)).2.2,[]):=by unfold adX;rw [hM];exact zc5 _ _ _ hm
  have h2:(zhe a p b).2.1=(yJ a p.tag (xw b.ticket)).2.2:=by unfold zhe;rw [hX];exact zer _ _ hm
  rw [h2,if_neg hm]
end
section
variable [W:W32]
set_option maxHeartbeats 2000000 in
theorem zk2 (a:Alg) (m:Nat) (ha:AlgIn a m) (hm:m≤800000) (p:Pa) (hpl:p.cavs.length≤10000) (hpc:∀ x∈p.cavs,wY x) (b:Bl) (hb:b.ticket.length≤90000) (g h k:Nat):
  ACall prog 102 [zA a,zG p,zeb b] k [(g,yE),(h,zS)] (zdZ (zbq a p b)) []:=by
 have cb:=wK a (by have:=ha.ml;omega) (by have:=ha.bl;omega)
 have c1:=yH [115,101,97,108] b.ticket (by decide) oo
 have hM:[115,101,97,108]++b.ticket=xw b.ticket:=rfl
 rw [hM] at c1
 have c2:=fun q r1 r2=>vD a 0 p.tag (xw b.ticket) (by have:=ha.ml;omega) ha.mm (fun _=>by simp [xw]) (by simp [xw];omega) q r1 r2 g
 have i1:=zfT ha 0 p.tag (xw b.ticket)
 have x1:=zdh a 0 p.tag (xw b.ticket)
 rw [show zbk a 0 p.tag (xw b.ticket)=adM a p b from rfl] at c2 i1 x1
 have c3:=fun q r1 r2=>zfz (adM a p b).1 (adM a p b).2.1 (adM a p b).2.2 0 b.key.1 (by have:=i1.bl;omega) i1.bm (by rw [b.key.2];decide) q r1 r2 g
 have i2:=ziT i1 (adM a p b).2.1 (adM a p b).2.2 0 b.key.1
 have l2:=zc6 i1 (adM a p b).2.1 (adM a p b).2.2 0 b.key.1
 have x2:(xV (adM a p b).1 (adM a p b).2.1 (adM a p b).2.2 0 b.key.1).1.macs=(adM a p b).1.macs:=by unfold xV;exact kU _ _ _ _ _
 rw [show xV (adM a p b).1 (adM a p b).2.1 (adM a p b).2.2 0 b.key.1=adX a p b from rfl] at c3 i2 l2 x2
 have c4:=yC b.ticket oo
 have c5:=fun q r1 r2=>jl (adX a p b).1 (m+1+1) i2 oo (adX a p b).2.1 p hpl hpc ⟨true,x9,b.party,b.ticket,(adX a p b).2.2⟩ ⟨by simp only;omega,by simp only;omega⟩ zdp q r1 r2 g h
 have x3:(zhe a p b).1.boxes=(adX a p b).1.boxes:=by unfold zhe zY;simp only [wa]
 rw [show zY (adX a p b).1 (adX a p b).2.1 p ⟨true,x9,b.party,b.ticket,(adX a p b).2.2⟩=zhe a p b from rfl] at c5
 rw [zmr]
 generalize zhe a p b=Z at *
 generalize adX a p b=X at *
 generalize adM a p b=M at *
 obtain ⟨a1,e1,t1⟩:=M
 obtain ⟨a2,e2,b2⟩:=X
 obtain ⟨a3,e3,p3⟩:=Z
 generalize xw b.ticket=MS at *
 clear i1 i2 ha hpc hM
 have haA:zA a=.agg [.lit (.bool a.free),zd a.seed,.lit (.int .i64 a.fresh),.slice none (a.macs.map zJ),.slice none (a.boxes.map zo)]:=rfl
 obtain ⟨ep,se,L,tg⟩:=p
 obtain ⟨bp,bk,bt⟩:=b
 simp only at c1 c2 c3 c4 c5 hb x1 x2 x3 l2 ⊢
 have hs1:=zB bk
 have hs2:=zj bk
 obtain ⟨K,hK⟩:=bk
 have hkA:zd ⟨K,hK⟩=.agg (K.map za):=rfl
 have hs3:AV.celll (K.map za)=true:=zX K
 have htk:(K.map za).take 32=K.map za:=List.take_of_length_le (by rw [List.length_map];omega)
 have hzp:zU x9=.agg [.lit (.int .i64 0),.lit (.int .u64 0),.lit (.int .i64 0),.lit (.int .i64 0),.lit (.string ⟨#[]⟩),.lit (.int .i64 0)]:=rfl
 have hpA:zG ⟨ep,se,L,tg⟩=.agg [.lit (.int .i64 ep),.lit (.int .i64 se),.slice none (L.map z8),zd tg]:=rfl
 unfold z8 zeb at *
 simp only [hkA,hzp] at *
 clear hkA hzp
 by_cases he:e3=0
 ·subst he
  rw [if_pos rfl]
  unfold zdZ
  simp only
  have cd:=kF a3
  unfold zbN at cb
  unfold vA at c2 c3 c5 cd
  simp only [List.cons_append,List.nil_append] at *
  simp only [zW,zP,zO,x1,x2,x3] at *
  refine Bd func102 ntmps102 fun σ N hp hpn hk hkn hfree=>?_
  simp only [List.mem_cons,List.not_mem_nil,or_false,forall_eq_or_imp,forall_eq] at hp hpn;obtain ⟨hd1,hd2⟩:=hp;obtain ⟨hdn1,hdn2⟩:=hpn
  have hcs:=And.intro cb True.intro
  refine Wm ?_
  iterate 2 refine Wz ?_
  clear hcs
  refine zL (N+6+1) [0,3] 190 65 (bt:=249) (c:=.agg [.agg [.lit (.bool a.free),zd a.seed,.lit (.int .i64 a.fresh),.clip (a.macs.map zJ),.clip (a.boxes.map zo)],.lit (.int .i64 ((0:Nat):Int))]) (xs:=a.macs.map zJ) (by simp (disch:=omega) [go_sem, *,-List.reduceReplicate]) rfl (vg _) ?_;refine zL (N+6+1) [0,4] 192 35 (bt:=249) (c:=.agg [.agg [.lit (.bool a.free),zd a.seed,.lit (.int .i64 a.fresh),.slice (some (N+6+3)) (a.macs.map zJ),.clip (a.boxes.map zo)],.lit (.int .i64 ((0:Nat):Int))]) (xs:=a.boxes.map zo) (by simp (disch:=omega) [go_sem, *,-List.reduceReplicate]) rfl (xC _) ?_
  have hcs:=And.intro c1 (And.intro (c2 (N+6+1) (N+6+3) (N+6+3+1)) (And.intro (c3 (N+6+1) (N+6+3) (N+6+3+1)) (And.intro c4 (And.intro (c5 (N+6+1) (N+6+3) (N+6+3+1)) (And.intro (cd (N+6+1) (N+6+3) (N+6+3+1)) True.intro)))))
  clear cb c1 c2 c3 c4 c5 cd
  refine Wk ?_
  exact WD
 ·rw [if_neg he]
  unfold zdZ
  simp only [zZ,zm3]
  have h1i:((e3:Int) != 0)=true:=by rw [bne_iff_ne];omega
  have cd:=qP a3 e3 he
  unfold zbN at cb
  unfold vA at c2 c3 c5 cd
  simp only [List.cons_append,List.nil_append] at *
  simp only [zW,zP,zO,x1,x2,x3,zZ] at *
  refine Bd func102 ntmps102 fun σ N hp hpn hk hkn hfree=>?_
  simp only [List.mem_cons,List.not_mem_nil,or_false,forall_eq_or_imp,forall_eq] at hp hpn;obtain ⟨hd1,hd2⟩:=hp;obtain ⟨hdn1,hdn2⟩:=hpn
  have hcs:=And.intro cb True.intro
  refine Wm ?_
  iterate 2 refine Wz ?_
  clear hcs
  refine zL (N+6+1) [0,3] 190 65 (bt:=249) (c:=.agg [.agg [.lit (.bool a.free),zd a.seed,.lit (.int .i64 a.fresh),.clip (a.macs.map zJ),.clip (a.boxes.map zo)],.lit (.int .i64 ((0:Nat):Int))]) (xs:=a.macs.map zJ) (by simp (disch:=omega) [go_sem, *,-List.reduceReplicate]) rfl (vg _) ?_;refine zL (N+6+1) [0,4] 192 35 (bt:=249) (c:=.agg [.agg [.lit (.bool a.free),zd a.seed,.lit (.int .i64 a.fresh),.slice (some (N+6+3)) (a.macs.map zJ),.clip (a.boxes.map zo)],.lit (.int .i64 ((0:Nat):Int))]) (xs:=a.boxes.map zo) (by simp (disch:=omega) [go_sem, *,-List.reduceReplicate]) rfl (xC _) ?_
  have hcs:=And.intro c1 (And.intro (c2 (N+6+1) (N+6+3) (N+6+3+1)) (And.intro (c3 (N+6+1) (N+6+3) (N+6+3+1)) (And.intro c4 (And.intro (c5 (N+6+1) (N+6+3) (N+6+3+1)) (And.intro (cd (N+6+1) (N+6+3) (N+6+3+1)) True.intro)))))
  clear cb c1 c2 c3 c4 c5 cd
  refine Wk ?_
  exact WD
end
section
variable [W:W32]
end
end Go.Proofs.YtglmjglbobhbbaaGreatDoor
namespace Go.Proofs.YtglmjglbobhbbaaGreatDoor
open _root_.Go.Proofs.Tryz
open Go.Ab
attribute [local irreducible] Go.Ab.tyAV Go.Ab.aw Go.Ab.aops Go.Ab.kReg Go.Ab.aThen Go.Ab.aBlk Go.Ab.acond Go.Ab.aguard Go.Ab.astep Go.Ab.AStepX Go.Ab.aRet
structure DiW (d:Di):Prop where
 tl:d.ticket.length≤140737488351232
 cl:d.conds.length≤9223372036854775807
 ok:∀ p∈d.conds,PrOk p
def CaW (c:Ca):Prop:=PrOk c.first∧wY c
structure PaW (p:Pa):Prop where
 cl:p.cavs.length≤9223372036854775807
 ok:∀ c∈p.cavs,CaW c
attribute [local irreducible] yE
def c12:Ca:=⟨true,x9,0,[1],[2]⟩
section
variable [W:W32]
theorem ziK {a:Alg} {m:Nat} (h:AlgIn a m) (p:Pa) (b:Bl):(zbq a p b).2.1.cavs=[]∨∃ x:List UInt8,x.length≤100000∧(zbq a p b).2.1.cavs=p.cavs++[⟨true,x9,b.party,b.ticket,x⟩]:=by
 rw [zmr]
 split
 ·exact .inr ⟨(adX a p b).2.2,zc6 (zfT h 0 p.tag (xw b.ticket)) _ _ _ _,rfl⟩
 ·exact .inl rfl
end
end Go.Proofs.YtglmjglbobhbbaaGreatDoor
namespace Go.Proofs.YtglmjglbobhbbaaGreatDoor
open _root_.Go.Proofs.Tryz
open Go.Ab
attribute [local irreducible] Go.Ab.tyAV Go.Ab.aw Go.Ab.aops Go.Ab.kReg Go.Ab.aThen Go.Ab.aBlk Go.Ab.acond Go.Ab.aguard Go.Ab.astep Go.Ab.AStepX Go.Ab.aRet
attribute [local irreducible] yE
section
variable [W:W32]
def zfd (a:Alg) (p:Pa) (gs:List Di) (r:Rq):Alg × Bu × Nat:=
 if yZ (zE p gs r)=0 then ((zV a p gs r).1,(zV a p gs r).2,0) else (wZ,zeU,yZ (zE p gs r))
def zby (r:Alg × Bu × Nat):AV:=.tup [zA r.1,ye r.2.1,.lit (.int .i64 (r.2.2:Nat))]
end
section
variable [W:W32]
def zif (a:Alg) (w:Wa) (i:Int) (b:Bl):Alg × Wa × Nat:=
 if (yf w i).2=true then
  if (zbq a (yf w i).1 b).2.2=0 then
   if (wW w (zbq a (yf w i).1 b).2.1).2=0 then ((zbq a (yf w i).1 b).1,(wW w (zbq a (yf w i).1 b).2.1).1,0)
   else (wZ,w0,(wW w (zbq a (yf w i).1 b).2.1).2)
  else (wZ,w0,(zbq a (yf w i).1 b).2.2)
 else (wZ,w0,12)
theorem zir {a:Alg} {m:Nat} (ha:AlgIn a m) {p:Pa} (hp:PaC p) (hpl:p.cavs.length≤1000) {b:Bl} (hb:b.ticket.length≤90000):PaC (zbq a p b).2.1:=by
 rcases ziK ha p b with hq | ⟨y,hy,hq⟩
 ·exact ⟨by rw [hq];simp,fun c hc=>by rw [hq] at hc;cases hc⟩
 ·refine ⟨by rw [hq,List.length_append,List.length_singleton];omega,fun c hc=>?_⟩
  rw [hq] at hc
  rcases List.mem_append.1 hc with hc | hc
  ·exact hp.2 c hc
  ·rw [List.mem_singleton.1 hc];exact ⟨by simp only;omega,by simp only;omega⟩
set_option maxHeartbeats 8000000 in
theorem zkF (a:Alg) (m:Nat) (ha:AlgIn a m) (hm:m≤100000) (w:Wa) (hw:WaC w) (hpz:∀ p∈w.ps,p.cavs.length≤1000) (i:Int) (b:Bl) (hb:b.ticket.length≤90000) (g h k:Nat):
  ACall prog 44 [zA a,yp w,.lit (.int .i64 i),zeb b] k [(g,yE),(h,zS)] (ze9 (zif a w i b)) []:=by
 have cf:=vF w (by have:=hw.pl;omega) i
 have hpc:=wA hw.pc i
 have hpl:(yf w i).1.cavs.length≤1000:=by
  rcases vE (w:=w) (i:=i) with h1 | h1
  ·rw [h1];simp [pa0]
  ·exact hpz _ h1
 clear hpz
 unfold zif ze9
 generalize yf w i=Z at *
 obtain ⟨p,bo⟩:=Z
 simp only at *
 cases bo with
 | false=>
  rw [if_neg (by simp)]
  simp only
  rw [kO,zZ]
  clear hpc ha hw
  refine Bd func44 ntmps44 fun σ N hp hpn hk hkn hfree=>?_
  simp only [List.mem_cons,List.not_mem_nil,or_false,forall_eq_or_imp,forall_eq] at hp hpn;obtain ⟨hd1,hd2⟩:=hp;obtain ⟨hdn1,hdn2⟩:=hpn
  have hcs:=And.intro cf True.intro
  clear cf
  refine Wk ?_
  exact WD
 | true=>
  rw [if_pos rfl]
  have c1:=zk2 a m ha oo p oo hpc.2 b hb g h
  have hpc2:=zir ha hpc hpl hb
  generalize zbq a p b=R at *
  obtain ⟨a1,p1,e1⟩:=R
  unfold zdZ at c1
  simp only at *
  by_cases he:e1=0
  ·subst he
   simp only [↓reduceIte]
   have c3:=qc w hw p1 hpc2
   have hae:=zd8 (w:=w) (p:=p1)
   generalize wW w p1=Y at *
   obtain ⟨w2,e2⟩:=Y
   simp only at *
   clear hpc hpc2 ha hw
   rcases hae with rfl | rfl
   ·simp only [↓reduceIte]
    refine Bd func44 ntmps44 fun σ N hp hpn hk hkn hfree=>?_
    simp only [List.mem_cons,List.not_mem_nil,or_false,forall_eq_or_imp,forall_eq] at hp hpn;obtain ⟨hd1,hd2⟩:=hp;obtain ⟨hdn1,hdn2⟩:=hpn
    have hcs:=And.intro cf (And.intro c1 (And.intro c3 True.intro))
    clear cf c1 c3
    refine Wk ?_
    exact WD
   ·simp only [show ¬ (2=0) by omega,if_false]
    rw [kO,zZ]
    refine Bd func44 ntmps44 fun σ N hp hpn hk hkn hfree=>?_
    simp only [List.mem_cons,List.not_mem_nil,or_false,forall_eq_or_imp,forall_eq] at hp hpn;obtain ⟨hd1,hd2⟩:=hp;obtain ⟨hdn1,hdn2⟩:=hpn
    have hcs:=And.intro cf (And.intro c1 (And.intro c3 True.intro))
    clear cf c1 c3
    refine Wk ?_
    exact WD
  ·have he3:((e1:Int) != 0)=true:=by rw [bne_iff_ne];omega
   rw [if_neg he]
   simp only
   rw [kO,zZ]
   clear hpc hpc2 ha hw
   refine Bd func44 ntmps44 fun σ N hp hpn hk hkn hfree=>?_
   simp only [List.mem_cons,List.not_mem_nil,or_false,forall_eq_or_imp,forall_eq] at hp hpn;obtain ⟨hd1,hd2⟩:=hp;obtain ⟨hdn1,hdn2⟩:=hpn
   have hcs:=And.intro cf (And.intro c1 True.intro)
   clear cf c1
   refine Wk ?_
   exact WD
def DiP (d:Di):Prop:=d.ticket.length≤90000∧d.conds.length≤90000∧∀ q∈d.conds,PrOk q
theorem zjK {a:Alg} {m:Nat} (ha:AlgIn a m) (hm:m≤40000) {p:Pa} (hpl:p.cavs.length≤1000) (hpc:∀ c∈p.cavs,PrOk c.first∧wY c) {gs:List Di} (hgl:gs.length≤100) (hgv:∀ d∈gs,DiP d) (r:Rq) {g h:Nat} (hgh:g≠h):
  (∀ k,ACall prog 103 [zA a,zG p,.slice none (gs.map zw),yD r] k [(g,yE),(h,zS)] (zby (zfd a p gs r)) []) ∧
  (∀ k,ACall prog 78 [zA a,zG p,.slice none (gs.map zw),yD r] k [] (zby (zfd a p gs r)) []) ∧
  AlgIn (zfd a p gs r).1 (m+101)∧BuSm (zfd a p gs r).2.1:=by
 have hgm:∀ d∈gs,d.ticket.length≤100000∧d.conds.length≤100000:=fun d hd=>⟨Nat.le_trans (hgv d hd).1 (by decide),Nat.le_trans (hgv d hd).2.1 (by decide)⟩
 have hb:BuIn (zE p gs r):=by
  refine ⟨by simp only [zE];omega,by simp only [zE,List.length_map];omega,fun c hc=>(hpc c hc).1,fun d hd=>?_⟩
  simp only [zE] at hd
  obtain ⟨z,hz,rfl⟩:=List.mem_map.1 hd
  have hv:=hgv z hz
  exact ⟨Nat.le_trans hv.1 (by decide),Nat.le_trans hv.2.1 (by decide),fun q hq=>hv.2.2 q hq⟩
 have hcm:∀ c∈p.cavs,wY c:=fun c hc=>(hpc c hc).2
 unfold zfd
 by_cases h0:yZ (zE p gs r)=0
 ·rw [if_pos h0]
  have hV:=(vK hb h0).1
  have hr:rqB r=true:=hV.rq
  have hbx:=vo ha p gs hr oo
  have hin:AlgIn (qa a p r).1 (m+1):=yN ha _ _
  obtain ⟨b1,b2⟩:=zaw (leaf:=p.tag) hr gs gs 0 _ (gs.map zu) (m+1) hin oo rfl (by simp) (fun i hi hj=>by rw [List.getElem_map];exact ⟨rfl,rfl⟩)
  refine ⟨fun k=>zd5 a m ha p gs r hgl oo hb h0 hcm hgm hbx g h k hgh,fun k=>qt a m ha p gs r hgl oo hb h0 k,b1.more oo,⟨?_,?_,hcm,fun d hd=>?_⟩⟩
  ·simp only [zV];omega
  ·simp only [zV];rw [xO];simp;omega
  ·simp only [zV] at hd
   obtain ⟨i,hi,rfl⟩:=List.getElem_of_mem hd
   have hi2:i < gs.length:=by rw [xO] at hi;simpa using hi
   obtain ⟨t1,t2⟩:=b2 i hi2 hi
   obtain ⟨m1,m2⟩:=hgm _ (List.getElem_mem hi2)
   exact ⟨by rw [t1];omega,by rw [t2];omega⟩
 ·rw [if_neg h0]
  exact ⟨fun k=>zfq a m ha p gs r hgl oo hb _ rfl h0 hpl hcm hgm g h k hgh,fun k=>zf2 a p gs r hgl hb _ rfl h0 k,xE _,⟨by simp [zeU],by simp [zeU],fun c hc=>by simp [zeU] at hc,fun d hd=>by simp [zeU] at hd⟩⟩
def zpj (a:Alg) (w:Wa) (i:Int) (r:Rq):Alg × Bu × Nat:=if (yf w i).2=true then zfd a (yf w i).1 (zbr w i) r else (wZ,zeU,12)
omit W in
theorem zfy:ye zeU=.agg [.agg [.lit (.int .i64 0),.lit (.int .i64 0)],.lit (.int .i64 0),.lit (.int .i64 0),.slice none [],zd zeroTag,.slice none []]:=rfl
structure WaP (w:Wa):Prop where
 wc:WaC w
 pk:∀ p∈w.ps,p.cavs.length≤1000∧∀ c∈p.cavs,PrOk c.first∧wY c
 dl:w.ds.length≤100
 dk:∀ d∈w.ds,DiP d
set_option maxHeartbeats 4000000 in
theorem ziF {a:Alg} {m:Nat} (ha:AlgIn a m) (hm:m≤40000) {w:Wa} (hw:WaP w) (i:Int) (r:Rq) {g h:Nat} (hgh:g≠h):
  (∀ k,ACall prog 46 [zA a,yp w,.lit (.int .i64 i),yD r] k [(g,yE),(h,zS)] (zby (zpj a w i r)) []) ∧
  (∀ k,ACall prog 47 [zA a,yp w,.lit (.int .i64 i),yD r] k [] (zby (zpj a w i r)) []) ∧
  AlgIn (zpj a w i r).1 (m+101)∧BuSm (zpj a w i r).2.1:=by
 have hwc:=hw.wc
 have cf:=vF w (by have:=hwc.pl;omega) i
 have cp:=qb w (by have:=hwc.pl;omega) i
 have hpk:(yf w i).1.cavs.length≤1000∧∀ c∈(yf w i).1.cavs,PrOk c.first∧wY c:=by
  rcases vE (w:=w) (i:=i) with h1 | h1
  ·rw [h1];exact ⟨by simp [pa0],fun c hc=>by simp [pa0] at hc⟩
  ·exact hw.pk _ h1
 have c1:=we w hwc i
 have c2:=kD w hwc i
 obtain ⟨k1,k2,k3,k4⟩:=zjK ha hm hpk.1 hpk.2 (gs:=zbr w i) (by have:=kK (w:=w) i;have:=hw.dl;omega) (fun d hd=>hw.dk d (List.mem_filter.1 hd).1) r hgh
 unfold zpj
 generalize zbr w i=M at *
 generalize yf w i=Z at *
 obtain ⟨p,b⟩:=Z
 simp only at *
 cases b with
 | true=>
  rw [if_pos rfl]
  generalize zfd a p M r=R at *
  obtain ⟨R1,R2,R3⟩:=R
  unfold zby at *
  simp only at *
  refine ⟨fun k=>?_,fun k=>?_,k3,k4⟩
  ·clear k2 k3 k4 c2 cp ha hpk hw hwc
   refine Bd func46 ntmps46 fun σ N hp hpn hk hkn hfree=>?_
   simp only [List.mem_cons,List.not_mem_nil,or_false,forall_eq_or_imp,forall_eq] at hp hpn;obtain ⟨hd1,hd2⟩:=hp;obtain ⟨hdn1,hdn2⟩:=hpn
   have hcs:=And.intro cf (And.intro c1 (And.intro k1 True.intro))
   clear cf c1 k1
   refine Wk ?_
   exact WD
  ·clear k1 k3 k4 c1 cf ha hpk hw hwc
   refine Bd func47 ntmps47 fun σ N hp hpn hk hkn hfree=>?_
   have hcs:=And.intro cp (And.intro c2 (And.intro k2 True.intro))
   clear cp c2 k2
   refine Wk ?_
   exact WD
 | false=>
  rw [if_neg (by simp)]
  refine ⟨fun k=>?_,fun k=>?_,xE _,⟨by simp [zeU],by simp [zeU],fun c hc=>by simp [zeU] at hc,fun d hd=>by simp [zeU] at hd⟩⟩
  ·unfold zby
   simp only
   rw [zZ,zfy]
   clear k1 k2 k3 k4 c1 c2 cp ha hpk hw hwc
   refine Bd func46 ntmps46 fun σ N hp hpn hk hkn hfree=>?_
   simp only [List.mem_cons,List.not_mem_nil,or_false,forall_eq_or_imp,forall_eq] at hp hpn;obtain ⟨hd1,hd2⟩:=hp;obtain ⟨hdn1,hdn2⟩:=hpn
   have hcs:=And.intro cf True.intro
   clear cf
   refine Wk ?_
   exact WD
  ·unfold zby
   simp only
   rw [zZ,zfy]
   clear k1 k2 k3 k4 c1 c2 cf ha hpk hw hwc
   refine Bd func47 ntmps47 fun σ N hp hpn hk hkn hfree=>?_
   have hcs:=And.intro cp True.intro
   clear cp
   refine Wk ?_
   exact WD
end
end Go.Proofs.YtglmjglbobhbbaaGreatDoor
namespace Go.Proofs.YtglmjglbobhbbaaGreatDoor
open _root_.Go.Proofs.Tryz
open Go.Ab
attribute [local irreducible] Go.Ab.tyAV Go.Ab.aw Go.Ab.aops Go.Ab.kReg Go.Ab.aThen Go.Ab.aBlk Go.Ab.acond Go.Ab.aguard Go.Ab.astep Go.Ab.AStepX Go.Ab.aRet
structure BuWd (b:Bu):Prop where
 cl:b.cavs.length≤9223372036854775807
 cs:∀ c∈b.cavs,CaW c
 dl:b.dis.length≤9223372036854775807
 ds:∀ d∈b.dis,WdT d.ticket d.conds∧∀ p∈d.conds,PrOk p
structure KnW (q:Kn):Prop where
 pl:q.ps.length≤9223372036854775807
 ps:∀ p∈q.ps,PaW p
 dl:q.ds.length≤9223372036854775807
 ds:∀ d∈q.ds,WdT d.ticket d.conds∧∀ p∈d.conds,PrOk p
 bl:q.bs.length≤9223372036854775807
 bs:∀ b∈q.bs,BuWd b
 il:q.its.length≤9223372036854775807
 its:∀ x∈q.its,x.box.length≤140737488351232
attribute [local irreducible] yE
structure WaW (w:Wa):Prop where
 pl:w.ps.length≤9223372036854775807
 ps:∀ p∈w.ps,PaW p
 dl:w.ds.length≤9223372036854775807
 ds:∀ d∈w.ds,WdT d.ticket d.conds∧∀ p∈d.conds,PrOk p
theorem WaW.c {w:Wa} (h:WaW w) (f:FewW w):WaC w:=⟨by have:=f.pl;omega,fun p hp=>⟨by have:=f.p p hp;omega,fun c hc=>((h.ps p hp).ok c hc).2⟩,by have:=f.dl;omega,fun d hd=>(h.ds d hd).1⟩
theorem zfH {w:Wa} (h:WaC w) {n:Nat} (hn:n≤1000):WaC (zcl w n):=by
 obtain ⟨a1,a2⟩:=kM (Q:=PaC) (fun s=>⟨by simp,fun c hc=>by cases hc⟩) (n - w.ps.length) w.ps h.pc
 obtain ⟨b1,b2⟩:=kL (Q:=fun d=>WdT d.ticket d.conds) (fun s=>⟨by simp [tkD],by simp⟩) (n - w.ds.length) w.ds h.dc
 have h1:=h.pl
 have h2:=h.dl
 unfold zcl
 exact ⟨by simp only;rw [a2];omega,a1,by simp only;rw [b2];omega,b1⟩
section
variable [W:W32]
end
theorem ztX:WaC w0:=⟨by simp [w0],fun x hx=>by simp [w0] at hx,by simp [w0],fun x hx=>by simp [w0] at hx⟩
def zqy (L:List Pr):AV:=.slice none (L.map zU)
@[go_sem] theorem zrM (L:List Pr):(zqy L).sz=1:=rfl
@[go_sem] theorem zkU (L:List Pr):(zqy L).isAgg=false:=rfl
section
variable [W:W32]
theorem WB.wp {s:Sc} (hs:ScV s) {A:Alg} {w:Wa} {i:Nat} (h:WB s A w i) (hi:i≤10):WaP w:=by
 obtain ⟨⟨se,hG,_⟩,_⟩:=hs
 have hgl:=hG.gl
 have hgv:=hG.gv
 simp only at hgl hgv
 refine ⟨h.wc,fun p hp=>⟨by have:=(h.pk p hp).1;omega,(h.pk p hp).2⟩,by rw [h.dd];omega,fun d hd=>?_⟩
 rw [h.dd] at hd
 have hv:=hgv d hd
 exact ⟨Nat.le_trans hv.t2 (by decide),Nat.le_trans hv.cl (by decide),fun q hq=>(hv.cv q hq).2.1⟩
omit W in
theorem WaP.full {w:Wa} (h:WaP w) (h2:w.ds.length≤50) {n:Nat} (hn:n≤100):WaP (zcl w n):=by
 obtain ⟨a1,a2⟩:=kM (Q:=fun p=>p.cavs.length≤1000∧∀ c∈p.cavs,PrOk c.first∧wY c) (fun s=>⟨by simp,fun c hc=>by cases hc⟩) (n - w.ps.length) w.ps h.pk
 obtain ⟨b1,b2⟩:=kL (Q:=DiP) (fun s=>⟨by simp [tkD],by simp,fun q hq=>by cases hq⟩) (n - w.ds.length) w.ds h.dk
 exact ⟨zfH h.wc oo,a1,by unfold zcl;simp only;rw [b2];omega,b1⟩
end
theorem zmV:∀ (L:List Di) (w:Wa),w.ds.length+L.length≤32→(∀ d∈L,∀ x∈w.ds,x.ticket≠d.ticket)→L.Pairwise (fun a b=>a.ticket≠b.ticket)→qD (w,0) L=(⟨w.ps,w.ds++L⟩,0)
 | [],w,_,_,_=>by rw [qD,List.append_nil]
 | d::r,w,hl,hw,hp=>by
  rw [List.length_cons] at hl
  rw [List.pairwise_cons] at hp
  have he:w.ds.eraseP (isT d.ticket)=w.ds:=List.eraseP_of_forall_not (fun x hx=>by
   unfold isT
   have:=hw d (List.mem_cons_self ..) x hx
   simpa using this)
  have hk:wL w d=(⟨w.ps,w.ds++[d]⟩,0):=by
   unfold wL
   rw [he,if_pos oo]
  rw [qD,if_pos rfl,hk,zmV r ⟨w.ps,w.ds++[d]⟩ (by simp only [List.length_append,List.length_singleton];omega) (fun y hy x hx=>by
   rcases List.mem_append.1 hx with hx | hx
   ·exact hw y (List.mem_cons_of_mem _ hy) x hx
   ·rw [List.mem_singleton.1 hx];exact hp.1 y hy) hp.2]
  simp
section
variable [W:W32]
omit W in
theorem zuq {p:Pr} (h:yc p=true):(xk (zR p)).length≤41:=by
 have:=(yS p h).2
 simp only [xk,zR,if_true,List.length_cons];omega
omit W in
theorem zqr (L:List Ca) (P:List Pr):yF (L++P.map zR)=yF L:=by
 unfold yF wy
 rw [List.filter_append,List.map_append,List.length_append,List.length_append,List.length_map]
 have:(P.map zR).filter (fun c=>!c.third)=P.map zR:=List.filter_eq_self.2 (fun c hc=>by
  obtain ⟨x,_,rfl⟩:=List.mem_map.1 hc
  rfl)
 rw [this]
 simp only [List.length_map]
 omega
omit W in
theorem zqq {L0:List Ca} {P:List Pr} {gs:List Di} {r:Rq} {se:Int} {tg:Tg} (hr:rqB r=true) (s1:1≤se) (s2:se≤50) (cl:L0.length≤5) (cv:∀ c∈L0,xz c=true∧PrOk c.first∧c.ticket.length≤200∧c.box.length≤200) (hP:P.length≤2) (hPk:∀ p∈P,PrOk p∧yc p=true)
  (th:yF L0≤5) (gl:gs.length≤5) (gv:∀ g∈gs,DiV g) (gd:∀ i j (hi:i < gs.length) (hj:j < gs.length),(gs[i]).ticket=(gs[j]).ticket→i=j):
  yZ ⟨r,2,se,L0++P.map zR,tg,gs.map zu⟩=0:=by
 have hmem:∀ d∈gs.map zu,∃ g∈gs,d.ticket=g.ticket∧d.conds=g.conds:=fun d hd=>by
  obtain ⟨g,hg,rfl⟩:=List.mem_map.1 hd
  exact ⟨g,hg,rfl,rfl⟩
 have hDl:(gs.map zu).length=gs.length:=List.length_map ..
 have hth:=zqr L0 P
 have hcvA:∀ c∈L0++P.map zR,xz c=true:=fun c hc=>by
  rcases List.mem_append.1 hc with hc | hc
  ·exact (cv c hc).1
  ·obtain ⟨x,hx,rfl⟩:=List.mem_map.1 hc
   exact (CV.first x (hPk x hx).2).ok
 have p1:wX ⟨r,2,se,L0++P.map zR,tg,gs.map zu⟩=false:=by
  unfold wX
  rw [hr]
  simp only [Bool.not_true,Bool.or_eq_false_iff,decide_eq_false_iff_not]
  refine ⟨trivial,by omega,by omega,by omega,by omega⟩
 have p2:qE ⟨r,2,se,L0++P.map zR,tg,gs.map zu⟩=false:=by
  unfold qE
  simp only [Bool.or_eq_false_iff,decide_eq_false_iff_not]
  refine ⟨by rw [List.length_append,List.length_map];omega,by omega,by omega,?_⟩
  rw [List.any_eq_false]
  intro d hd
  obtain ⟨g,hg,h1,h2⟩:=hmem d hd
  have:=(gv g hg).cl
  unfold yQ
  rw [h2];simp;omega
 have p3:((L0++P.map zR).any fun c=>!xz c)=false:=by
  rw [List.any_eq_false];intro c hc;rw [hcvA c hc];simp
 have p4:(gs.map zu).any yr=false:=by
  rw [List.any_eq_false]
  intro d hd
  obtain ⟨g,hg,h1,h2⟩:=hmem d hd
  have hv:=gv g hg
  unfold yr
  rw [h1,h2]
  simp only [Bool.or_eq_true,decide_eq_true_eq,not_or,Bool.not_eq_true]
  refine ⟨⟨by have:=hv.t1;omega,by have:=hv.t2;omega⟩,?_⟩
  rw [List.any_eq_false];intro p hp;rw [(hv.cv p hp).1];simp
 have p5:(gs.map zu).any qv=false:=by
  rw [List.any_eq_false]
  intro d hd
  obtain ⟨g,hg,h1,h2⟩:=hmem d hd
  have hv:=gv g hg
  unfold qv
  rw [h2,Bool.not_eq_true,List.any_eq_false];intro p hp;have:=(hv.cv p hp).2.2;simpa using this
 have p6:twU (gs.map zu) (gs.map zu).length=false:=kY (fun i j hi hj ht=>by
  rw [List.getElem_map,List.getElem_map] at ht
  exact gd i j oo oo ht) _ (Nat.le_refl _)
 have hP0:z7 ⟨r,2,se,L0++P.map zR,tg,gs.map zu⟩=0:=by
  unfold z7
  rw [if_neg (by rw [p1];simp),if_neg (by rw [p2];simp),if_neg (by simp only [p3,p4];simp),if_neg (by simp only [p5];simp),if_neg (by simp only [p6];simp)]
 have hL:(vh ⟨r,2,se,L0++P.map zR,tg,gs.map zu⟩).length≤4096:=by
  obtain ⟨⟨r1,r2⟩,r3,r4⟩:=rqB_iff.1 hr
  have l1:=yk xk 409 L0 fun c hc=>zfD (cv c hc).1 (cv c hc).2.2.1 (cv c hc).2.2.2
  have l3:=yk xk 41 (P.map zR) fun c hc=>by
   obtain ⟨x,hx,rfl⟩:=List.mem_map.1 hc
   exact zuq (hPk x hx).2
  have l2:=yk yy 363 (gs.map zu) fun d hd=>by
   obtain ⟨g,hg,h1,h2⟩:=hmem d hd
   have hv:=gv g hg
   have k1:=hv.t2
   have k2:=hv.cl
   have k3:=zh d.ticket.length 2 (by rw [h1];omega)
   have k4:=zh d.conds.length 7 (by rw [h2];omega)
   have k5:=yk xH 40 d.conds fun p hp=>(yS p (hv.cv p (by rw [← h2];exact hp)).1).2
   rw [h1] at k3
   rw [h2] at k4 k5
   unfold yy
   rw [h1,h2]
   simp only [yg,List.length_append,d.proof.2]
   omega
  have hcl2:(L0++P.map zR).length=L0.length+P.length:=by rw [List.length_append,List.length_map]
  have m1:=zh 1 7 oo
  have m2:=zh r.gate.toNat 7 oo
  have m3:=zh r.nonce.toNat 7 oo
  have m4:=zh (2:Int).toNat 7 (by decide)
  have m5:=zh se.toNat 7 oo
  have m6:=zh (L0++P.map zR).length 7 oo
  have m7:=zh (gs.map zu).length 7 oo
  rw [List.length_map] at l3
  have hfl:((L0++P.map zR).flatMap xk).length≤409 * L0.length+41 * P.length:=by rw [List.flatMap_append,List.length_append];omega
  clear p1 p2 p3 p4 p5 p6 hP0 hcvA hth hmem l1 l3
  generalize L0++P.map zR=X at *
  unfold vh zbw
  simp only [List.length_append,List.flatMap_cons,List.flatMap_nil,List.length_nil,tg.2]
  omega
 unfold yZ
 rw [if_neg (by rw [hP0];simp),if_neg oo]
omit W in
theorem zof {gs:List Di} (gd:∀ i j (hi:i < gs.length) (hj:j < gs.length),(gs[i]).ticket=(gs[j]).ticket→i=j):gs.Pairwise (fun a b=>a.ticket≠b.ticket):=by
 rw [List.pairwise_iff_getElem]
 intro i j hi hj hij he
 have:=gd i j hi hj he
 omega
theorem zlL {s:Sc} (hs:ScV s) (X:List Pr) (tg:Tg) (e r:Int):jc ⟨e,r,s.pass.cavs++X.map zR,tg⟩ s.grants=s.grants:=by
 obtain ⟨root,hring,_⟩:=hs.ri
 have hV:=hs.vk root hring
 unfold jc
 rw [List.filter_eq_self]
 intro g hg
 obtain ⟨c,hc,k1,k2⟩:=hV.ex g hg
 rw [List.any_eq_true]
 refine ⟨c,List.mem_append_left _ hc,?_⟩
 unfold isC
 rw [k1,k2]
 simp
set_option maxHeartbeats 16000000 in
theorem zh9 (xs:List Int) (hxs:xs.length≤9223372036854775807) (g h:Nat) (hgh:g≠h) (k:Nat):
  ACall prog 8 [.slice none (xs.map jI)] k [(g,yE),(h,zS)] (.lit (.bool true)) []:=by
 have c9:=jZ g h hgh
 obtain ⟨s,A,w,i,j,hs,hK,hi,hj,c1⟩:=zeu xs hxs
 obtain ⟨P,j2,p1,p2,_,p4⟩:=zbI xs j hj 2 oo false
 have c3:∀ d k,ACall prog 40 [.ptr d [] 0,.lit (.int .i64 2),.lit (.bool false)] k [(d,zy xs j)] (.slice none (P.map zU)) [(d,zy xs j2)]:=p4
 have hgood:=hs.good
 obtain ⟨se,hG,s1,s2⟩:=hgood
 have hgl:=hG.gl
 simp only at hgl
 obtain ⟨hpc,hgc,_⟩:=yW hs
 have hz:yf w 0=(s.pass,true):=by
  obtain ⟨r,hr⟩:=hK.p0
  unfold yf;rw [hr];simp
 have hm0:zbr w 0=s.grants:=by
  have:=zlL hs [] s.pass.tag s.pass.epoch s.pass.serial
  simp only [List.map_nil,List.append_nil] at this
  unfold zbr
  rw [hz,hK.dd]
  exact this
 have hgive:zcA w w0 0=(⟨[s.pass],s.grants⟩,0):=by
  unfold zcA
  rw [hz,hm0,if_pos rfl]
  have ha:wW w0 s.pass=(⟨[s.pass],[]⟩,0):=rfl
  rw [ha,zmV s.grants ⟨[s.pass],[]⟩ (by simp only [List.length_nil];omega) (fun d _ x hx=>by cases hx) (zof hG.gd)]
  rfl
 have c2:=zaT w w0 hK.wc ztX 0
 rw [hgive] at c2
 have hK2:WB s A ⟨[s.pass],s.grants⟩ i:=by
  have hf:=WB.first hs
  exact ⟨hK.ain,hK.ok,hK.fr,hK.bx,hK.sub,hf.wc,hf.p0,rfl,by simp,fun p hp=>by have:=hf.pk p hp;exact ⟨by omega,this.2⟩⟩
 obtain ⟨hn,hat⟩:=hK2.att oo p1 p2
 have c4:=fun k=>zb1 A _ hK.ain oo ⟨[s.pass],s.grants⟩ hK2.wc (fun p hp=>by have:=(hK2.pk p hp).1;omega) 0 P oo (fun x hx=>(p2 x hx).1) g h k hgh
 rw [hat] at c4
 unfold ze9 at c4
 simp only at c4
 have hst:=hK2.step (j0:=0) oo p1 p2 0
 unfold jv at hst
 rw [hat] at hst
 simp only [↓reduceIte] at hst
 have hwp:=hst.wp hs oo
 obtain ⟨c5,_,_,_⟩:=ziF hn.ain oo hwp 1 s.req hgh
 have hck:yZ (zE (yT A s.pass P).2.1 s.grants s.req)=0:=by
  have hcv:=hn.cv
  have he:=hn.ep
  have hsr:=hn.se
  generalize yT A s.pass P=R at *
  obtain ⟨R1,⟨x1,x2,x3,x4⟩,R3⟩:=R
  simp only at hcv he hsr
  unfold zE
  simp only
  rw [hcv,he,hsr]
  have e1:s.pass.epoch=2:=hG.ep
  have e2:s.pass.serial=se:=hG.es
  rw [e1,e2]
  exact zqq hs.rq s1 s2 hG.cl hG.cv p1 p2 hG.th hG.gl hG.gv hG.gd
 have hms:zbr ⟨[s.pass]++[(yT A s.pass P).2.1],s.grants⟩ 1=s.grants:=by
  have hp:yf ⟨[s.pass]++[(yT A s.pass P).2.1],s.grants⟩ 1=((yT A s.pass P).2.1,true):=by unfold yf;simp
  unfold zbr
  rw [hp]
  have hcv:=hn.cv
  generalize yT A s.pass P=R at *
  obtain ⟨R1,⟨x1,x2,x3,x4⟩,R3⟩:=R
  simp only at hcv ⊢
  rw [hcv]
  exact zlL hs P _ _ _
 have hprs:zpj (yT A s.pass P).1 ⟨[s.pass]++[(yT A s.pass P).2.1],s.grants⟩ 1 s.req=((zV (yT A s.pass P).1 (yT A s.pass P).2.1 s.grants s.req).1,(zV (yT A s.pass P).1 (yT A s.pass P).2.1 s.grants s.req).2,0):=by
  have hp:yf ⟨[s.pass]++[(yT A s.pass P).2.1],s.grants⟩ 1=((yT A s.pass P).2.1,true):=by unfold yf;simp
  unfold zpj
  rw [hms,hp,if_pos rfl]
  simp only
  unfold zfd
  rw [if_pos hck]
 rw [hprs] at c5
 obtain ⟨ids,leaf,c6⟩:=zf0 hs hK.ain oo hK.ok hK.sub hK.fr hK.bx (l:=P) oo (fun x hx=>(p2 x hx).1) hn hck hgh
 have hDl:(zV (yT A s.pass P).1 (yT A s.pass P).2.1 s.grants s.req).2.dis.length=s.grants.length:=by
  unfold zV
  simp only
  rw [xO,List.length_map]
 unfold zby at c5
 simp only at c5
 generalize zV (yT A s.pass P).1 (yT A s.pass P).2.1 s.grants s.req=B at *
 obtain ⟨A3,⟨rq,ep,sr,C,pf,D⟩⟩:=B
 generalize (yT A s.pass P).1=A1 at *
 generalize (yT A s.pass P).2.1=p2' at *
 simp only at c5 c6 hDl
 have hbA:ye ⟨rq,ep,sr,C,pf,D⟩=.agg [yD rq,.lit (.int .i64 ep),.lit (.int .i64 sr),.slice none (C.map z8),zd pf,.slice none (D.map zC)]:=rfl
 have hw1:yp ⟨[s.pass],s.grants⟩=.agg [.slice none [zG s.pass],.slice none (s.grants.map zw)]:=rfl
 have hsA:zbS { s with alg:=A }=.agg [zA A,zbF s.ring,xW s.con,zG s.pass,.slice none (s.grants.map zw),yD s.req,.lit (.string ⟨s.holder.toArray⟩),.lit (.int .i64 s.minute)]:=rfl
 rw [hsA] at c1
 rw [hw1] at c2 c4
 rw [hbA] at c5 c6
 simp only at c2
 rw [kO] at c2
 have e00:((0:Nat):Int)=0:=rfl
 rw [e00] at c2 c4 c5
 clear hs hK hj hG hpc hgc hz hm0 hgive hK2 hn hat hst hwp hck hms hprs hbA hw1 hsA e00 p1 p2 p4
 refine Bd func8 ntmps8 fun σ N hp hpn hk hkn hfree=>?_
 simp only [List.mem_cons,List.not_mem_nil,or_false,forall_eq_or_imp,forall_eq] at hp hpn;obtain ⟨hd1,hd2⟩:=hp;obtain ⟨hdn1,hdn2⟩:=hpn
 have hcs:=And.intro c1 (And.intro c2 (And.intro (c3 (N+1+1)) (And.intro c4 (And.intro c5 (And.intro c6 (And.intro c9 True.intro))))))
 clear c1 c2 c3 c4 c5 c6 c9
 exact W0
end
theorem zia (xs:List Int) (_:∀ n∈xs,(Lit.int .i64 n).wf=true) (hxs:xs.length≤9223372036854775807) (g h:Nat) (hgh:g≠h) (k:Nat):
  ACall prog 8 [.slice none (xs.map jI)] k [(g,yE),(h,zS)] (.lit (.bool true)) []:=
 @zh9 w32 xs hxs g h hgh k
end Go.Proofs.YtglmjglbobhbbaaGreatDoor
