/- Texts M7, M8, joined. -/
import Derived.Test.YtglmjglbobhbbaaGreatDoorM16
namespace Go.Proofs.YtglmjglbobhbbaaGreatDoor
open _root_.Go.Proofs.Tryz
open Go.Ab
attribute [local irreducible] Go.Ab.tyAV Go.Ab.aw Go.Ab.aops Go.Ab.kReg Go.Ab.aThen Go.Ab.aBlk Go.Ab.acond Go.Ab.aguard Go.Ab.astep Go.Ab.AStepX Go.Ab.aRet
attribute [local irreducible] yE
def zhV (key:Tg) (nonce:Int) (plain:List UInt8):List BoxE→Option (List UInt8)
 | []=>none
 | e::r=>if e.key=key∧e.nonce=nonce∧e.plain=plain then some e.box else zhV key nonce plain r
def zsh (r:Alg × List UInt8 × Nat):AV:=.tup [zA r.1,.slice none (r.2.1.map za),.lit (.int .i64 (r.2.2:Nat))]
theorem zwJ {K plain box:List UInt8} {nonce:Int} (L:List BoxE) (hK:K.length=32) (a b c:Option Nat):AV.le (.slice a (L.map zo++[.agg [.agg (K.map za),.lit (.int .i64 nonce),.slice b (plain.map za),.slice c (box.map za)]])) (.slice none ((L++[(⟨⟨K,hK⟩,nonce,plain,box⟩:BoxE)]).map zo)):=fun g v h=>by
 rw [List.map_append]
 exact AV.le_own _ _ g v (AV.le_sliceS a (ALe.snoc (AV.sub_agg (.cons (AV.le_refl _) (.cons (AV.le_refl _) (.cons (AV.le_own b _) (.cons (AV.le_own c _) .nil)))))) g v h)
section
variable [W:W32]
def zcw (key:List UInt8) (nonce:Int) (plain:List UInt8):List UInt8:=
 (yh nonce++jz key nonce plain)++(qC key ([98,111,120]++(yh nonce++jz key nonce plain))).1
def zg0 (a:Alg) (key:Tg) (nonce:Int) (plain:List UInt8):List UInt8:=
 if a.free then (vW 98 (a.boxes.length+1)).1++List.replicate (plain.length+8) 0 else zcw key.1 nonce plain
def vm (a:Alg) (key:Tg) (nonce:Int) (plain:List UInt8):Alg × List UInt8 × Nat:=
 if nonce < 0∨281474976710656 < nonce then (wZ,[],1) else if 256 < plain.length then (wZ,[],2) else match zhV key nonce plain a.boxes with
  | some b=>(a,b,0)
  | none=>if 65536≤a.boxes.length then (wZ,[],2) else ({ a with boxes:=a.boxes++[⟨key,nonce,plain,zg0 a key nonce plain⟩] },zg0 a key nonce plain,0)
theorem zsk (a:Alg) (key:Tg) (nonce:Int) (plain:List UInt8) (h:(nonce < 0∨281474976710656 < nonce)∨256 < plain.length) (k:Nat):
  ACall prog 97 [zA a,zd key,.lit (.int .i64 nonce),.slice none (plain.map za)] k [] (zsh (vm a key nonce plain)) []:=by
 unfold vm
 by_cases h1:nonce < 0∨281474976710656 < nonce
 ·rw [if_pos h1]
  unfold zsh
  simp only [zZ,List.map_nil]
  rcases h1 with h1 | h1
  ·refine Bd func97 ntmps97 fun σ N hp hpn hk hkn hfree=>?_
   exact WT
  ·have h2:¬ nonce < 0:=by omega
   refine Bd func97 ntmps97 fun σ N hp hpn hk hkn hfree=>?_
   exact WT
 ·rw [if_neg h1]
  have h3:256 < plain.length:=h.resolve_left h1
  rw [if_pos h3]
  have h2:¬ nonce < 0:=by omega
  have h4:¬ 281474976710656 < nonce:=by omega
  have h5:(256:Int) < plain.length:=by omega
  unfold zsh
  simp only [zZ,List.map_nil]
  clear h h1
  refine Bd func97 ntmps97 fun σ N hp hpn hk hkn hfree=>?_
  exact WT
set_option maxHeartbeats 4000000 in
theorem zt8 (a:Alg) (key:Tg) (nn:Nat) (plain:List UInt8) (hn:nn≤281474976710656) (hp:plain.length≤256) (hl:a.boxes.length≤1000000) (hm:∀ e∈a.boxes,e.plain.length≤100000∧e.box.length≤100000) (k:Nat):
  ACall prog 97 [zA a,zd key,.lit (.int .i64 nn),.slice none (plain.map za)] k [] (zsh (vm a key nn plain)) []:=by
 unfold vm
 rw [if_neg oo,if_neg oo]
 obtain ⟨fr,sd,fs,L,B⟩:=a
 simp only at hl hm ⊢
 have g1:¬ (nn:Int) < 0:=by omega
 have g2:¬ (281474976710656:Int) < (nn:Int):=by omega
 have g3:¬ (256:Int) < (plain.length:Int):=by omega
 generalize hR:zhV key nn plain B=R
 refine Bd func97 ntmps97 fun σ N hp hpn hk hkn hfree=>?_
 refine Wk ?_
 refine ze zi (by kernel_rfl) [9,10,11,12,27,28,29,30,31,32,33,34,35,36,37,38,39,40,41,42,43,44,45,46,47,48,49,50,51,52,53,54,55,56,57,58,59] [N,N+1,N+2] (fun m_ s_ σ_ n_=>∃ (u:Nat),m_=B.length - u∧s_ 11=.lit (.int .i64 u)∧σ_ (N)=.box 41 (zA ⟨fr,sd,fs,L,B⟩)∧σ_ (N+1)=.box 28 (zd key)∧σ_ (N+2)=.box 41 (.agg [.lit (.bool false),zd zeroTag,.lit (.int .i64 0),.nils,.nils])∧(u≤B.length)∧(zhV key nn plain (B.drop u)=R)) ⟨_,0,rfl,WF,WF,WF,WF,WC,WC⟩ ?_
 intro m_1 s_1 σ_1 n_1 hs_1 hf_1 hn_1 hI_1
 obtain ⟨u,hm_1,h1_11,e1_0,e1_1,e1_2,hu,hd⟩:=hI_1
 have h1_2:=KS hs_1 2
 have h1_3:=KS hs_1 3
 have h1_4:=KS hs_1 4
 have h1_5:=KS hs_1 5
 have h1_8:=KS hs_1 8
 have hlow:=KL (N:=N) (σ:=σ) hf_1
 have haA:zA ⟨fr,sd,fs,L,B⟩=.agg [.lit (.bool fr),zd sd,.lit (.int .i64 fs),.slice none (L.map zJ),.slice none (B.map zo)]:=rfl
 rw [haA] at e1_0
 by_cases hul:u=B.length
 ·subst hul
  rw [List.drop_length] at hd
  simp only [zhV] at hd
  subst hd
  clear hR hm
  by_cases hf:65536≤B.length
  ·have hfi:(65536:Int)≤(B.length:Int):=by omega
   simp only [if_pos hf]
   unfold zsh
   simp only [zZ,List.map_nil]
   exact WT
  ·have hfi:¬ (65536:Int)≤(B.length:Int):=by omega
   simp only [if_neg hf]
   have hb:(B.length+1) * 88≤140737488355328:=by omega
   have hb0:B.length * 88≤140737488355328:=by omega
   have hb1:B.length≤140737488355327:=by omega
   have hs1:=zB key
   have hs2:=zj key
   unfold zsh zg0
   cases fr with
   | false=>
    simp only [Bool.false_eq_true,if_false]
    have c1:=zmj (nn:Int) oo oo
    have c2:=zj2 key nn oo plain oo
    have hE:=xD (nn:Int)
    have hS:=qL key.1 (nn:Int) plain
    unfold zcw
    obtain ⟨K,hK⟩:=key
    simp only at c2 hS ⊢
    generalize yh (nn:Int)=E at *
    generalize jz K (nn:Int) plain=S at *
    obtain ⟨b0,hb0'⟩:∃ b0,E++S=b0:=⟨_,rfl⟩
    have hbm:E.map za++S.map za=b0.map za:=by rw [← hb0',List.map_append]
    have hbl:b0.length=8+plain.length:=by rw [← hb0',List.length_append];omega
    rw [hb0']
    have c3:=vX [98,111,120] b0 (by decide) oo
    have c4:=zcW K ([98,111,120]++b0) oo (by simp;omega)
    generalize qC K ([98,111,120]++b0)=T at *
    generalize [98,111,120]++b0=Wd at *
    have ht1:=zB T
    have ht2:=zj T
    obtain ⟨T,hT⟩:=T
    have hkA:zd ⟨K,hK⟩=.agg (K.map za):=rfl
    have htA:zd ⟨T,hT⟩=.agg (T.map za):=rfl
    rw [htA] at c4 ht1 ht2
    rw [hkA] at c2 hs1 hs2 e1_1
    clear hkA htA
    have hs3:AV.celll (K.map za)=true:=zX K
    have htk:(K.map za).take 32=K.map za:=List.take_of_length_le (by rw [List.length_map];omega)
    have htk2:(T.map za).take 32=T.map za:=List.take_of_length_le (by rw [List.length_map];omega)
    obtain ⟨bb,hbb⟩:∃ bb,b0++T=bb:=⟨_,rfl⟩
    have hbbm:b0.map za++T.map za=bb.map za:=by rw [← hbb,List.map_append]
    have hbbl:b0.length+T.length=bb.length:=by rw [← hbb,List.length_append]
    have hbb2:bb.length≤1000:=by omega
    rw [hbb]
    have hcs:=And.intro c1 (And.intro c2 (And.intro c3 (And.intro c4 True.intro)))
    clear c1 c2 c3 c4 hbb hb0'
    refine Wm ?_
    iterate 8 refine Wz ?_
    refine wl N [4] (.slice none ((B++[(⟨⟨K,hK⟩,nn,plain,bb⟩:BoxE)]).map zo)) (bt:=41) (c:=.agg [.lit (.bool false),zd sd,.lit (.int .i64 fs),.slice none (L.map zJ),.slice (some (n_1+32)) (B.map zo++[.agg [.agg (K.map za),.lit (.int .i64 nn),.slice (some (n_1+32+6)) (plain.map za),.slice (some (n_1+12+2)) (bb.map za)]])]) (by simp (disch:=omega) [go_sem, *,-List.reduceReplicate]) rfl (zwJ B hK _ _ _) rfl rfl ?_
    simp only [zA]
    exact WT
   | true=>
    simp only [if_true]
    have c1:=zfs 98 (B.length+1) oo
    have e98:((98:UInt8).toNat:Int)=98:=rfl
    have hn1:((B.length+1:Nat):Int)=(B.length:Int)+1:=by omega
    rw [e98,hn1] at c1
    clear e98 hn1
    generalize vW 98 ((B.length:Int)+1)=T at *
    have ht1:=zB T
    have ht2:=zj T
    obtain ⟨T,hT⟩:=T
    obtain ⟨K,hK⟩:=key
    have hkA:zd ⟨K,hK⟩=.agg (K.map za):=rfl
    have htA:zd ⟨T,hT⟩=.agg (T.map za):=rfl
    rw [htA] at c1 ht1 ht2
    rw [hkA] at hs1 hs2 e1_1
    clear hkA htA
    simp only
    have hs3:AV.celll (K.map za)=true:=zX K
    obtain ⟨bb,hbb⟩:∃ bb,T++List.replicate (plain.length+8) 0=bb:=⟨_,rfl⟩
    have hbbm:T.map za++List.replicate ((plain.length:Int)+8).toNat (AV.lit (.int .u8 0))=bb.map za:=by
     rw [← hbb,List.map_append,List.map_replicate,show ((plain.length:Int)+8).toNat=plain.length+8 by omega];rfl
    have hbb2:bb.length≤1000:=by rw [← hbb,List.length_append,List.length_replicate];omega
    have hbbl:32+((plain.length:Int)+8).toNat=bb.length:=by rw [← hbb,List.length_append,List.length_replicate,hT];omega
    rw [hbb]
    have hcs:=And.intro c1 True.intro
    clear c1 hbb
    refine Wm ?_
    iterate 5 refine Wz ?_
    (apply xI;(· (simp only [List.length_cons,List.length_nil,Nat.reduceAdd,Nat.add_assoc];rfl)))
    refine zaC (id:=n_1+12+5) (path:=[]) (off:=0) (bt:=28) (c:=.agg (T.map za)) (ys:=T.map za) (by simp (disch:=omega) [go_sem, *,-List.reduceReplicate]) (by simp (disch:=omega) [go_sem, *,-List.reduceReplicate]) zwu rfl rfl (by rw [List.length_map];exact hT) (qI T) (by unfold maxLen;omega) ?_
    refine Wm ?_
    refine zcm (xs:=T.map za) (q:=(plain.length:Int)+8) (by simp (disch:=omega) [go_sem, *,-List.reduceReplicate]) zwE it3 rfl (by simp) (by simp (disch:=omega) [go_sem, *,-List.reduceReplicate];try rfl) oo (qI T) (by rw [List.length_map,hT,hbbl];omega) (by rw [List.length_map,hT,hbbl];omega) ?_
    rw [hbbm,List.length_map,hT,hbbl]
    refine Wm ?_
    iterate 1 refine Wz ?_
    refine wl N [4] (.slice none ((B++[(⟨⟨K,hK⟩,nn,plain,bb⟩:BoxE)]).map zo)) (bt:=41) (c:=.agg [.lit (.bool true),zd sd,.lit (.int .i64 fs),.slice none (L.map zJ),.slice (some (n_1+25)) (B.map zo++[.agg [.agg (K.map za),.lit (.int .i64 nn),.slice (some (n_1+25+6)) (plain.map za),.slice (some (n_1+19+4)) (bb.map za)]])]) (by simp (disch:=omega) [go_sem, *,-List.reduceReplicate]) rfl (zwJ B hK _ _ _) rfl rfl ?_
    simp only [zA]
    exact WT
 ·have hu1:u < B.length:=by omega
  rw [List.drop_eq_getElem_cons hu1,zhV] at hd
  have hmz:=hm _ (List.getElem_mem hu1)
  obtain ⟨z,hz⟩:∃ z,B[u]=z:=⟨_,rfl⟩
  rw [hz] at hd hmz
  obtain ⟨zk,zn,zp,zb⟩:=z
  simp only at hd hmz
  have hzd:zo ⟨zk,zn,zp,zb⟩=.agg [zd zk,.lit (.int .i64 zn),bAV zp,bAV zb]:=rfl
  have hzb:=qS zp
  have hzb2:=qS zb
  obtain ⟨hmz1,hmz2⟩:=hmz
  have c1:=vG zp plain oo
  clear hR hm
  by_cases h1:zk=key
  ·by_cases h2:zn=nn
   ·by_cases h3:zp=plain
    ·rw [if_pos ⟨h1,h2,h3⟩] at hd
     subst hd
     rw [decide_eq_true h3] at c1
     have hcs:=And.intro c1 True.intro
     clear c1
     subst h1
     subst h2
     subst h3
     unfold zsh
     simp only [haA]
     exact WT
    ·rw [if_neg (fun h=>h3 h.2.2)] at hd
     rw [decide_eq_false h3] at c1
     have hcs:=And.intro c1 True.intro
     clear c1
     subst h1
     subst h2
     refine Wk ?_
     exact ⟨WS,WG,WN,_,(show B.length - (u+1) < m_1 by omega),u+1,rfl,WF,WF,WF,WF,WC,WC⟩
   ·rw [if_neg (fun h=>h2 h.2.1)] at hd
    have h2':(zn == (nn:Int))=false:=by rw [beq_eq_false_iff_ne];exact h2
    clear c1
    subst h1
    refine Wk ?_
    exact ⟨WS,WG,WN,_,(show B.length - (u+1) < m_1 by omega),u+1,rfl,WF,WF,WF,WF,WC,WC⟩
  ·rw [if_neg (fun h=>h1 h.1)] at hd
   have d1:decide (zk=key)=false:=decide_eq_false h1
   clear c1
   refine Wk ?_
   exact ⟨WS,WG,WN,_,(show B.length - (u+1) < m_1 by omega),u+1,rfl,WF,WF,WF,WF,WC,WC⟩
end
structure AlgIn (a:Alg) (m:Nat):Prop where
 f0:0≤a.fresh
 f1:a.fresh≤m
 ml:a.macs.length≤m
 bl:a.boxes.length≤m
 mm:∀ e∈a.macs,e.msg.length≤100000
 bm:∀ e∈a.boxes,e.plain.length≤100000∧e.box.length≤100000
theorem AlgIn.more {a:Alg} {m m':Nat} (h:AlgIn a m) (hm:m≤m'):AlgIn a m':=⟨h.f0,Int.le_trans h.f1 oo,Nat.le_trans h.ml hm,Nat.le_trans h.bl hm,h.mm,h.bm⟩
theorem xE (m:Nat):AlgIn wZ m:=⟨by simp [wZ],by simp [wZ],by simp [wZ],by simp [wZ],fun e he=>by simp [wZ] at he,fun e he=>by simp [wZ] at he⟩
section
variable [W:W32]
theorem zfR {a:Alg} {m:Nat} (h:AlgIn a m):AlgIn (zai a).1 (m+1):=by
 unfold zai
 split
 ·exact xE _
 ·exact ⟨by have:=h.f0;simp only;omega,by have:=h.f1;simp only;omega,Nat.le_succ_of_le h.ml,Nat.le_succ_of_le h.bl,h.mm,h.bm⟩
theorem yN {a:Alg} {m:Nat} (h:AlgIn a m) (key:Tg) (msg:List UInt8):AlgIn (yJ a key msg).1 (m+1):=by
 by_cases h1:4096 < msg.length
 ·rw [zaH h1];exact xE _
 ·cases he:zcG key msg a.macs with
  | some t=>rw [kC h1 he];exact h.more (Nat.le_succ _)
  | none=>
   by_cases hf:65536≤a.macs.length
   ·rw [zaG h1 he hf];exact xE _
   ·rw [vV h1 he hf]
    refine ⟨h.f0,by have:=h.f1;simp only;omega,by have:=h.ml;simp;omega,Nat.le_succ_of_le h.bl,fun e hm=>?_,h.bm⟩
    rcases List.mem_append.1 hm with hm | hm
    ·exact h.mm e hm
    ·rw [List.mem_singleton.1 hm];simp only;omega
theorem zeJ (a:Alg) (key:Tg) (nonce:Int) (plain:List UInt8):(zg0 a key nonce plain).length≤plain.length+40:=by
 unfold zg0
 split
 ·rw [List.length_append,List.length_replicate,(vW _ _).2];omega
 ·unfold zcw
  rw [List.length_append,List.length_append,xD,qL,(qC _ _).2];omega
theorem zdL {a:Alg} {m:Nat} (h:AlgIn a m) (key:Tg) (nonce:Int) (plain:List UInt8):AlgIn (vm a key nonce plain).1 (m+1):=by
 unfold vm
 split
 ·exact xE _
 ·split
  ·exact xE _
  ·rename_i hp
   split
   ·exact h.more (Nat.le_succ _)
   ·split
    ·exact xE _
    ·have hl:=zeJ a key nonce plain
     refine ⟨h.f0,by have:=h.f1;simp only;omega,Nat.le_succ_of_le h.ml,by have:=h.bl;simp;omega,h.mm,fun e hm=>?_⟩
     rcases List.mem_append.1 hm with hm | hm
     ·exact h.bm e hm
     ·rw [List.mem_singleton.1 hm];simp only;omega
theorem zmp (a:Alg) (key:Tg) (nonce:Int) (plain:List UInt8) (hl:a.boxes.length≤1000000) (hm:∀ e∈a.boxes,e.plain.length≤100000∧e.box.length≤100000) (k:Nat):
  ACall prog 97 [zA a,zd key,.lit (.int .i64 nonce),.slice none (plain.map za)] k [] (zsh (vm a key nonce plain)) []:=by
 by_cases h:(nonce < 0∨281474976710656 < nonce)∨256 < plain.length
 ·exact zsk a key nonce plain h k
 ·obtain ⟨n,rfl⟩:=Int.eq_ofNat_of_zero_le (show 0≤nonce by omega)
  exact zt8 a key n plain oo oo hl hm k
end
end Go.Proofs.YtglmjglbobhbbaaGreatDoor
