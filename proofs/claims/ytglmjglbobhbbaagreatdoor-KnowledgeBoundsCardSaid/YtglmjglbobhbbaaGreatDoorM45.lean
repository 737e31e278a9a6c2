/- Texts U16, U17, U18, U27, P13, P6, P12, joined. -/
import Derived.Test.YtglmjglbobhbbaaGreatDoorM37
import Derived.Test.YtglmjglbobhbbaaGreatDoorM43
import Derived.Test.YtglmjglbobhbbaaGreatDoorM44
namespace Go.Proofs.YtglmjglbobhbbaaGreatDoor
open _root_.Go.Proofs.Tryz
open Go.Ab
attribute [local irreducible] Go.Ab.tyAV Go.Ab.aw Go.Ab.aops Go.Ab.kReg Go.Ab.aThen Go.Ab.aBlk Go.Ab.acond Go.Ab.aguard Go.Ab.astep Go.Ab.AStepX Go.Ab.aRet
attribute [local irreducible] yE
section
variable [W:W32]
structure ScV (s:Sc):Prop where
 good:∃ se:Int,Good s.con se ⟨s.alg,s.pass,s.grants⟩ 5 1000∧1≤se∧se≤50
 rq:rqB s.req=true
 cp:0≤s.con.party∧s.con.party≤7
 nq:s.req.nonce≤100
 ri:∃ root:Tg,s.ring=⟨[⟨2,root⟩],3⟩∧pathIn s.alg.macs root (yX s.pass.serial.toNat::s.pass.cavs.map y9) s.pass.tag
 vk:∀ root:Tg,s.ring=⟨[⟨2,root⟩],3⟩→Vok root (yX s.pass.serial.toNat) ⟨s.alg,s.pass,s.grants⟩
theorem zeS (l:List Int) (i:Nat) (h:Dk l i):∃ (s:Sc) (j:Nat),ScV s∧Dk l j∧∀ d k,ACall prog 24 [.ptr d [] 0,.lit (.bool false)] k [(d,zy l i)] (zbS s) [(d,zy l j)]:=by
 rcases h0:yl l i 2 with ⟨q0,j0⟩
 have d0:Dk l j0:=by have:=yu 2 h;rw [h0] at this;exact this
 rcases h1:zg5 l j0 with ⟨sd,j1⟩
 have d1:Dk l j1:=by have:=zl5 d0;rw [h1] at this;exact this
 rcases h2:zai ⟨decide (q0=0),sd,0,[],[]⟩ with ⟨a1,k1,e1⟩
 rcases h3:zai a1 with ⟨a2,k2,e2⟩
 rcases h4:yl l j1 3000 with ⟨mi,j2⟩
 have d2:Dk l j2:=by have:=yu 3000 d1;rw [h4] at this;exact this
 have b4:mi < 3000:=by have:=y7 l j1 3000 oo;rw [h4] at this;exact this
 rcases h5:yl l j2 8 with ⟨pt,j3⟩
 have d3:Dk l j3:=by have:=yu 8 d2;rw [h5] at this;exact this
 have b5:pt < 8:=by have:=y7 l j2 8 oo;rw [h5] at this;exact this
 rcases h6:yl l j3 60 with ⟨bo,j4⟩
 have d4:Dk l j4:=by have:=yu 60 d3;rw [h6] at this;exact this
 have b6:bo < 60:=by have:=y7 l j3 60 oo;rw [h6] at this;exact this
 rcases h7:yl l j4 8 with ⟨ga,j5⟩
 have d5:Dk l j5:=by have:=yu 8 d4;rw [h7] at this;exact this
 have b7:ga < 8:=by have:=y7 l j4 8 oo;rw [h7] at this;exact this
 rcases h8:zaM l j5 1 100 with ⟨no,j6⟩
 have d6:Dk l j6:=by have:=zeE (lo:=1) (n:=100) d5;rw [h8] at this;exact this
 have b8:1≤no∧no≤100:=by
  have:=y7 l j5 100 oo
  unfold zaM at h8;rw [Prod.mk.injEq] at h8;omega
 rcases h9:zaM l j6 1 50 with ⟨se,j7⟩
 have d7:Dk l j7:=by have:=zeE (lo:=1) (n:=50) d6;rw [h9] at this;exact this
 have b9:1≤se∧se≤50:=by
  have:=y7 l j6 50 oo
  unfold zaM at h9;rw [Prod.mk.injEq] at h9;omega
 rcases h10:zdF a2 2 k2 (se:Nat) with ⟨a3,pa,e3⟩
 rcases h11:yl l j7 6 with ⟨K,j8⟩
 have d8:Dk l j8:=by have:=yu 6 d7;rw [h11] at this;exact this
 have b11:K < 6:=by have:=y7 l j7 6 oo;rw [h11] at this;exact this
 have i0:AlgIn ⟨decide (q0=0),sd,0,[],[]⟩ 0:=⟨by simp,by simp,by simp,by simp,fun e he=>by simp at he,fun e he=>by simp at he⟩
 have i1:AlgIn a1 1:=by have:=zfR i0;rw [h2] at this;exact this
 have i2:AlgIn a2 2:=by have:=zfR i1;rw [h3] at this;exact this
 have o1:AlgOk a1:=by have:=(AlgOk.nil (decide (q0=0)) sd 0).key;rw [h2] at this;exact this
 have o2:AlgOk a2:=by have:=o1.key;rw [h3] at this;exact this
 have hB1:a1.boxes=[]:=by
  have:=zlI (a:=⟨decide (q0=0),sd,0,[],[]⟩) (by simp)
  rw [h2,Prod.mk.injEq] at this
  rw [this.1]
 have hB2:a2.boxes=[]:=by
  have:=zlI (a:=a1) (by have:=i1.f1;omega)
  rw [h3,Prod.mk.injEq] at this
  rw [this.1];exact hB1
 have i3:AlgIn a3 4:=by have:=zix i2 2 k2 (se:Nat);rw [h10] at this;exact this
 have hml:=zcq se oo
 obtain ⟨n1,n2,n3,n4⟩:=kV i2 oo k2 (msg:=yX se) oo
 have n5:=o2.node i2 oo k2 (msg:=yX se) oo
 have hM:zdF a2 2 k2 (se:Nat)=((xS a2 k2 (yX se)).1,⟨2,(se:Nat),[],(xS a2 k2 (yX se)).2.1⟩,0):=by
  unfold zdF
  rw [if_neg oo,if_pos (by rw [Int.toNat_natCast];exact n1),Int.toNat_natCast]
 rw [h10,Prod.mk.injEq,Prod.mk.injEq] at hM
 obtain ⟨hM1,hM2,hM3⟩:=hM
 obtain ⟨z1,z2,z3⟩:=zdH i2 oo k2 (msg:=yX se) oo
 have zt:hidT (xS a2 k2 (yX se)).1.macs (xS a2 k2 (yX se)).2.1:=by rw [z3];exact (zgM z1 rfl).sub (wi z2)
 clear z1 z2 z3
 have hG0:Good ⟨pt,k1,[⟨ann,-(bo:Int) * 365 * 1440⟩,⟨[98,111,98],0⟩]⟩ (se:Nat) ⟨a3,pa,[]⟩ 0 10:=by
  refine ⟨i3.more oo,(by rw [hM1];exact n5),(by rw [hM2]),(by rw [hM2]),(by rw [hM2];exact Nat.le_refl _),(fun c hc=>by rw [hM2] at hc;cases hc),(by rw [hM2];exact Nat.le_refl _),Nat.le_refl _,(fun g hg=>by cases hg),(fun e he=>?_),(fun g hg=>by cases hg),(fun i j hi _ _=>absurd hi (by simp)),(by rw [hM1,hM2];exact zt),(fun g hg=>by cases hg)⟩
  simp only at he
  rw [hM1,n4,hB2] at he
  cases he
 have c0:(0:Int)≤(pt:Int):=by omega
 have c7:(pt:Int)≤7:=by omega
 have hp0:pathIn a3.macs k2 (yX se::pa.cavs.map y9) pa.tag:=by
  rw [hM1,hM2]
  exact ⟨_,(zcr i2 oo k2 (msg:=yX se) oo).1,rfl⟩
 obtain ⟨R,hrun,hG,hD,hP⟩:=zoJ (con:=⟨pt,k1,[⟨ann,-(bo:Int) * 365 * 1440⟩,⟨[98,111,98],0⟩]⟩) (se:=(se:Nat)) (mi:=(mi:Nat)) c0 c7 (bo:=-(bo:Int) * 365 * 1440) rfl oo oo oo oo K j8 0 10 ⟨a3,pa,[]⟩ d8 hG0 oo oo
 refine ⟨_,R.2,?_,hD,fun d k=>zpJ l i h q0 j0 sd j1 mi j2 pt j3 bo j4 ga j5 no j6 se j7 K j8 a1 a2 a3 k1 k2 e1 e2 e3 pa _ h0 h1 h2 h3 h4 h5 h6 h7 h8 h9 h10 h11 rfl oo oo oo oo hG0 R.1 R.2 hrun d k⟩
 refine ⟨⟨se,{ hG with ain:=hG.ain.more oo,cl:=Nat.le_trans hG.cl oo,th:=Nat.le_trans hG.th oo,gl:=Nat.le_trans hG.gl oo },by omega,by omega⟩,?_,⟨c0,c7⟩,by simp only;omega,⟨k2,rfl,?_⟩,fun root hroot=>?_⟩
 ·rw [rqB_iff]
  simp only
  omega
 ·have:=(hP k2 (yX se) hp0).1
  have he:=hG.es
  simp only at he ⊢
  rw [he,Int.toNat_natCast]
  exact this
 ·have hv1:∀ (i:Nat) (c:Ca),pa.cavs[i]?≠some c:=fun i c hic=>by
   rw [hM2] at hic
   simp at hic
  have hv0:Vok k2 (yX se) ⟨a3,pa,[]⟩:=⟨fun i c hic _=>absurd hic (hv1 i c),fun g hg=>absurd hg (by simp)⟩
  have:=(hP k2 (yX se) hp0).2 hv0
  have he:=hG.es
  simp only [Rg.mk.injEq] at hroot
  simp only at he ⊢
  rw [he,Int.toNat_natCast]
  have hk:root=k2:=by
   have h1:=hroot.1
   simp only [List.cons.injEq,and_true] at h1
   injection h1 with _ h2
   exact h2.symm
  rw [hk]
  exact this
end
section
variable [W:W32]
end
section
variable [W:W32]
theorem zaw {leaf:Tg} {r:Rq} (hr:rqB r=true) (gs:List Di):∀ (L:List Di) (u:Nat) (a:Alg) (D:List Bo) (m:Nat),AlgIn a m→m+L.length≤60000→gs.drop u=L→D.length=gs.length →
  (∀ i (hi:i < gs.length) (hj:i < D.length),(D[i]).ticket=(gs[i]).ticket∧(D[i]).conds=(gs[i]).conds) →
  AlgIn (xj leaf r L u a D).1 (m+L.length)∧∀ i (hi:i < gs.length) (hj:i < (xj leaf r L u a D).2.length),((xj leaf r L u a D).2[i]).ticket=(gs[i]).ticket∧((xj leaf r L u a D).2[i]).conds=(gs[i]).conds
 | [],u,a,D,m,ha,_,_,_,hD=>⟨ha,hD⟩
 | d::L,u,a,D,m,ha,hm,hL,hDl,hD=>by
  have hu:u < gs.length:=by
   have:=congrArg List.length hL
   rw [List.length_drop,List.length_cons] at this;omega
  rw [List.drop_eq_getElem_cons hu,List.cons.injEq] at hL
  obtain ⟨hd,hL⟩:=hL
  obtain ⟨_,hB⟩:=vw ha (by rw [List.length_cons] at hm;omega) d leaf hr
  have:=zaw (leaf:=leaf) hr gs L (u+1) (vJ a d leaf r).1 (D.set u (vJ a d leaf r).2.1) (m+1) (jk ha d leaf r) (by rw [List.length_cons] at hm;omega) hL (by rw [List.length_set];exact hDl) (fun i hi hj=>by
   rw [List.getElem_set]
   split
   ·rename_i h
    subst h
    rw [hB]
    simp only
    rw [hd];exact ⟨rfl,rfl⟩
   ·exact hD i hi (by rw [List.length_set] at hj;exact hj))
  rw [xj]
  rw [show m+(d::L).length=m+1+L.length by rw [List.length_cons];omega]
  exact this
end
def shwT (L:List MacE) (t:Tg):Prop:=∃ e∈L,e.tag=t∧zuy e.msg=false
theorem shwT.sub {L L':List MacE} {t:Tg} (h:shwT L t) (hs:∀ e∈L,e∈L'):shwT L' t:=by
 obtain ⟨e,he,h1,h2⟩:=h
 exact ⟨e,hs e he,h1,h2⟩
section
variable [W:W32]
theorem zkY {a:Alg} (ok:AlgOk a) (hf:a.free=true) (hl:a.macs.length≤1000000) {t:Tg} (h1:hidT a.macs t) (h2:shwT a.macs t):False:=by
 obtain ⟨e,he,e1,e2⟩:=h1
 obtain ⟨e',he',e1',e2'⟩:=h2
 obtain ⟨i,hi,rfl⟩:=List.getElem_of_mem he
 obtain ⟨j,hj,rfl⟩:=List.getElem_of_mem he'
 have m1:=ok.mf hf i hi
 have m2:=ok.mf hf j hj
 rw [e1] at m1
 rw [e1'] at m2
 have:=zg4 oo oo oo oo (m1.symm.trans m2)
 obtain rfl:i=j:=by omega
 rw [e2] at e2'
 cases e2'
theorem zo9 {a:Alg} {key:Tg} {msg:List UInt8} (h:(yJ a key msg).2.2=0) (hb:zuy msg=false):shwT (yJ a key msg).1.macs (yJ a key msg).2.1:=by
 obtain ⟨e,he,h1,h2⟩:=zo8 h
 exact ⟨e,he,h1,by rw [h2];exact hb⟩
theorem zmv {leaf:Tg} {r:Rq} (hr:rqB r=true):∀ (L:List Di) (u m:Nat) (a:Alg) (D:List Bo),AlgIn a m→AlgOk a→m+L.length≤60000→u+L.length=D.length→(∀ i (h:i < D.length),i < u→shwT a.macs (D[i]).proof) →
  AlgOk (xj leaf r L u a D).1∧AlgIn (xj leaf r L u a D).1 (m+L.length)∧(xj leaf r L u a D).1.free=a.free∧(∀ e∈a.macs,e∈(xj leaf r L u a D).1.macs)∧∀ x∈(xj leaf r L u a D).2,shwT (xj leaf r L u a D).1.macs x.proof
 | [],u,m,a,D,ha,ok,_,hu,hD=>by
  refine ⟨ok,ha,rfl,fun e he=>he,fun x hx=>?_⟩
  obtain ⟨i,hi,rfl⟩:=List.getElem_of_mem hx
  have hi':i < D.length:=hi
  exact hD i hi' (by simp at hu;omega)
 | d::L,u,m,a,D,ha,ok,hm,hu,hD=>by
  simp only [List.length_cons] at hm hu
  obtain ⟨h0,hB⟩:=vw ha oo d leaf hr
  have h1:=wi h0
  have h2:=zo9 h0 (rfl:zuy (y8 leaf r.gate.toNat r.nonce.toNat)=false)
  have h3:=yN ha d.tag (y8 leaf r.gate.toNat r.nonce.toNat)
  have h4:=ok.mac d.tag (y8 leaf r.gate.toNat r.nonce.toNat)
  have h5:=(xJ h0).1
  rw [xj,hB]
  simp only
  generalize yJ a d.tag (y8 leaf r.gate.toNat r.nonce.toNat)=Y at *
  obtain ⟨a2,t2,e2⟩:=Y
  simp only at *
  obtain ⟨k1,k2,k3,k4,k5⟩:=zmv hr L (u+1) (m+1) a2 (D.set u ⟨d.ticket,d.conds,t2⟩) h3 h4 oo (by rw [List.length_set];omega) (fun i hi hiu=>by
   rw [List.length_set] at hi
   rcases Nat.lt_or_ge i u with h | h
   ·rw [List.getElem_set_ne oo];exact (hD i hi h).sub h1
   ·obtain rfl:i=u:=by omega
    rw [List.getElem_set_self];exact h2)
  exact ⟨k1,by rw [List.length_cons,show m+(L.length+1)=m+1+L.length by omega];exact k2,k3.trans h5,fun e he=>k4 e (h1 e he),k5⟩
theorem zeZ {a:Alg} {m:Nat} (ha:AlgIn a m) (ok:AlgOk a) (p:Pa) (gs:List Di) {r:Rq} (hr:rqB r=true) (hm:m+gs.length≤50000):
  AlgOk (zV a p gs r).1∧AlgIn (zV a p gs r).1 (m+1+gs.length)∧(zV a p gs r).1.free=a.free∧(∀ e∈a.macs,e∈(zV a p gs r).1.macs)∧shwT (zV a p gs r).1.macs (zV a p gs r).2.proof∧(∀ x∈(zV a p gs r).2.dis,shwT (zV a p gs r).1.macs x.proof):=by
 have h0:=ka ha oo p hr
 have h1:∀ e∈a.macs,e∈(qa a p r).1.macs:=wi h0
 have h2:shwT (qa a p r).1.macs (qa a p r).2.1:=zo9 h0 rfl
 have h3:AlgIn (qa a p r).1 (m+1):=yN ha _ _
 have h4:AlgOk (qa a p r).1:=ok.mac _ _
 have h5:(qa a p r).1.free=a.free:=(xJ h0).1
 unfold zV
 simp only
 generalize qa a p r=Y at *
 obtain ⟨a2,t2,e2⟩:=Y
 simp only at *
 obtain ⟨k1,k2,k3,k4,k5⟩:=zmv (leaf:=p.tag) hr gs 0 (m+1) a2 (gs.map zu) h3 h4 oo (by simp) (fun i _ hi=>absurd hi oo)
 exact ⟨k1,k2,k3.trans h5,fun e he=>k4 e (h1 e he),h2.sub k4,k5⟩
end
section
variable [W:W32]
end
section
variable [W:W32]
theorem zpv {a:Alg} (hf:a.free=true):∀ (L:List (List UInt8)) (k:Tg) (acc R:List Tg),wn a acc k L=some R→(∀ m∈L,zuy m=true)→(∀ t∈acc,hidT a.macs t)→∀ t∈R,hidT a.macs t
 | [],k,acc,R,h,_,ha,t,ht=>by
  simp only [wn,Option.some.injEq] at h
  subst h
  exact ha t ht
 | m::r,k,acc,R,h,hm,ha,t,ht=>by
  rw [wn] at h
  split at h
  ·cases h
  ·rename_i x hx
   refine zpv hf r x (acc++[x]) R h (fun y hy=>hm y (List.mem_cons_of_mem _ hy)) (fun y hy=>?_) t ht
   rcases List.mem_append.1 hy with hy | hy
   ·exact ha y hy
   ·rw [List.mem_singleton.1 hy]
    unfold vq at hx
    rw [if_pos hf] at hx
    obtain ⟨e,he,_,h2,h3⟩:=zis hx
    exact ⟨e,he,h3,by rw [h2];exact hm m (List.mem_cons_self ..)⟩
omit W in
theorem zsS (ser:Int) (l:List Ca):∀ m∈zdV ser l,zuy m=true:=fun m hm=>by
 unfold zdV at hm
 rcases List.mem_cons.1 hm with rfl | hm
 ·rfl
 ·obtain ⟨c,_,rfl⟩:=List.mem_map.1 hm
  rfl
structure KnS (s:Sc) (A:Alg) (Bs:List Bu) (j:Nat):Prop where
 ain:AlgIn A (1000+6 * j)
 ok:AlgOk A
 fr:A.free=true
 sub:∀ e∈s.alg.macs,e∈A.macs
 bl:Bs.length=j
 bs:∀ b∈Bs,shwT A.macs b.proof∧(∀ x∈b.dis,shwT A.macs x.proof)∧BuSm b∧b.cavs.length≤10∧b.dis.length≤10
theorem KnS.step {s:Sc} (hs:ScV s) {A:Alg} {Bs:List Bu} {j:Nat} (h:KnS s A Bs j) (hj:j≤10) {r:Rq} (hr:rqB r=true):
  KnS s (zV A s.pass s.grants r).1 (Bs++[(zV A s.pass s.grants r).2]) (j+1):=by
 obtain ⟨⟨se,hG,_⟩,_⟩:=hs
 have hgl:=hG.gl
 have hcl:=hG.cl
 have hgv:=hG.gv
 have hcv:=hG.cv
 simp only at hgl hcl hgv hcv
 obtain ⟨k1,k2,k3,k4,k5,k6⟩:=zeZ h.ain h.ok s.pass s.grants hr oo
 have hin:AlgIn (qa A s.pass r).1 (1000+6 * j+1):=yN h.ain _ _
 obtain ⟨_,b2⟩:=zaw (leaf:=s.pass.tag) hr s.grants s.grants 0 _ (s.grants.map zu) (1000+6 * j+1) hin oo rfl (by simp) (fun i hi hj=>by rw [List.getElem_map];exact ⟨rfl,rfl⟩)
 have hl:(zV A s.pass s.grants r).2.dis.length=s.grants.length:=by unfold zV;simp only;rw [xO];simp
 refine ⟨k2.more oo,k1,k3.trans h.fr,fun e he=>k4 e (h.sub e he),by simp [h.bl],fun b hb=>?_⟩
 rcases List.mem_append.1 hb with hb | hb
 ·obtain ⟨q1,q2,q3⟩:=h.bs b hb
  exact ⟨q1.sub k4,fun x hx=>(q2 x hx).sub k4,q3⟩
 ·rw [List.mem_singleton.1 hb]
  refine ⟨k5,k6,⟨?_,?_,fun c hc=>?_,fun d hd=>?_⟩,?_,?_⟩
  ·show s.pass.cavs.length≤100000;omega
  ·rw [hl];omega
  ·have:=hcv c hc
   exact ⟨by omega,by omega⟩
  ·obtain ⟨i,hi,rfl⟩:=List.getElem_of_mem hd
   have hi2:i < s.grants.length:=by rw [← hl];exact hi
   obtain ⟨t1,t2⟩:=b2 i hi2 hi
   have hv:=hgv _ (List.getElem_mem hi2)
   have v1:=hv.t2
   have v2:=hv.cl
   exact ⟨by show ((zV A s.pass s.grants r).2.dis[i]).ticket.length≤_;rw [show ((zV A s.pass s.grants r).2.dis[i]).ticket=(s.grants[i]).ticket from t1];omega,by show ((zV A s.pass s.grants r).2.dis[i]).conds.length≤_;rw [show ((zV A s.pass s.grants r).2.dis[i]).conds=(s.grants[i]).conds from t2];omega⟩
  ·show s.pass.cavs.length≤10;omega
  ·rw [hl];omega
theorem KnS.apart {s:Sc} {A:Alg} {Bs:List Bu} {j:Nat} (h:KnS s A Bs j) (hj:j≤10) {t:Tg} (ht:hidT A.macs t):∀ b∈Bs,b.proof≠t∧∀ x∈b.dis,x.proof≠t:=fun b hb=>by
 obtain ⟨q1,q2,_⟩:=h.bs b hb
 have hl:A.macs.length≤1000000:=by have:=h.ain.ml;omega
 exact ⟨fun e=>zkY h.ok h.fr hl ht (by rw [← e];exact q1),fun x hx e=>zkY h.ok h.fr hl ht (by rw [← e];exact q2 x hx)⟩
theorem KnS.tags {s:Sc} (hs:ScV s) {A:Alg} {Bs:List Bu} {j:Nat} (h:KnS s A Bs j):∃ (root:Tg) (ts:List Tg),s.ring=⟨[⟨2,root⟩],3⟩∧zfe A 2 root s.pass.serial s.pass.cavs=(ts,0)∧ts.length=s.pass.cavs.length+1∧∀ t∈ts,hidT A.macs t:=by
 obtain ⟨root,hri,hp⟩:=hs.ri
 obtain ⟨se,hG,s1,s2⟩:=hs.good
 have hps:s.pass.serial=se:=hG.es
 have hcv:=hG.cv
 simp only at hcv
 obtain ⟨ts,w1,w2,w3,w4,w5⟩:=zdo h.ok (acc:=[]) (hp.sub h.sub)
 rw [List.nil_append] at w1
 refine ⟨root,ts,hri,?_,by simpa using w2,zpv h.fr _ _ _ _ w1 (zsS _ _) (fun t ht=>by cases ht)⟩
 unfold zfe
 have hany:(s.pass.cavs.any fun c=>!xz c)=false:=by
  rw [List.any_eq_false]
  intro x hx
  rw [(hcv x hx).1];simp
 rw [if_neg oo,hany,if_neg (by simp)]
 unfold zdV
 rw [w1]
 rfl
theorem KnS.first {s:Sc} (hs:ScV s) (hf:s.alg.free=true):KnS s s.alg [] 0:=by
 obtain ⟨⟨se,hG,_⟩,_⟩:=hs
 exact ⟨hG.ain,hG.ok,hf,fun e he=>he,rfl,fun b hb=>by cases hb⟩
end
section
variable [W:W32]
omit W in
theorem BuSm.copy {b:Bu} (h:BuSm b):BuC b:=⟨h.cl,h.cs,h.dl,fun d hd=>⟨by have:=(h.ds d hd).1;omega,by have:=(h.ds d hd).2;omega⟩⟩
end
end Go.Proofs.YtglmjglbobhbbaaGreatDoor
