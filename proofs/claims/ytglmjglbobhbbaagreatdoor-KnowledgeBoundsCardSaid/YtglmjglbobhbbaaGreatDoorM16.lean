/- Texts M5, M6, joined. -/
import Derived.Test.YtglmjglbobhbbaaGreatDoorM14
namespace Go.Proofs.YtglmjglbobhbbaaGreatDoor
open _root_.Go.Proofs.Tryz
open Go.Ab
attribute [local irreducible] Go.Ab.tyAV Go.Ab.aw Go.Ab.aops Go.Ab.kReg Go.Ab.aThen Go.Ab.aBlk Go.Ab.acond Go.Ab.aguard Go.Ab.astep Go.Ab.AStepX Go.Ab.aRet
attribute [local irreducible] yE
theorem zZ:zA wZ=.agg [.lit (.bool false),zd zeroTag,.lit (.int .i64 0),.slice none [],.slice none []]:=rfl
theorem zwK {K msg:List UInt8} {t:Tg} (L:List MacE) (hK:K.length=32) (a b:Option Nat):AV.le (.slice a (L.map zJ++[.agg [.agg (K.map za),.slice b (msg.map za),zd t]])) (.slice none ((L++[(⟨⟨K,hK⟩,msg,t⟩:MacE)]).map zJ)):=fun g v h=>by
 rw [List.map_append]
 exact AV.le_own _ _ g v (AV.le_sliceS a (ALe.snoc (AV.sub_agg (.cons (AV.le_refl _) (.cons (AV.le_own b _) (.cons (AV.le_refl _) .nil))))) g v h)
section
variable [W:W32]
theorem zaH {a:Alg} {key:Tg} {msg:List UInt8} (h:4096 < msg.length):yJ a key msg=(wZ,zeroTag,2):=by unfold yJ;rw [if_pos h]
theorem kC {a:Alg} {key:Tg} {msg:List UInt8} {t:Tg} (h:¬ 4096 < msg.length) (he:zcG key msg a.macs=some t):yJ a key msg=(a,t,0):=by unfold yJ;rw [if_neg h,he]
theorem zaG {a:Alg} {key:Tg} {msg:List UInt8} (h:¬ 4096 < msg.length) (he:zcG key msg a.macs=none) (hf:65536≤a.macs.length):yJ a key msg=(wZ,zeroTag,2):=by unfold yJ;rw [if_neg h,he];simp only;rw [if_pos hf]
theorem vV {a:Alg} {key:Tg} {msg:List UInt8} (h:¬ 4096 < msg.length) (he:zcG key msg a.macs=none) (hf:¬ 65536≤a.macs.length):yJ a key msg=({ a with macs:=a.macs++[⟨key,msg,if a.free then vW 109 (a.macs.length+1) else qC key.1 msg⟩] },if a.free then vW 109 (a.macs.length+1) else qC key.1 msg,0):=by unfold yJ;rw [if_neg h,he];simp only;rw [if_neg hf]
set_option maxHeartbeats 2000000 in
theorem qQ (a:Alg) (key:Tg) (msg:List UInt8) (hl:a.macs.length≤1000000) (hm:∀ e∈a.macs,e.msg.length≤100000) (k:Nat):
  ACall prog 132 [zA a,zd key,.slice none (msg.map za)] k [] (zha (yJ a key msg)) []:=by
 have c1:=zkM a key msg hl hm
 by_cases h1:4096 < msg.length
 ·rw [zaH h1]
  have h1i:(4096:Int) < (msg.length:Int):=by omega
  unfold zha
  simp only [zZ]
  clear c1
  refine Bd func132 ntmps132 fun σ N hp hpn hk hkn hfree=>?_
  exact WT
 ·have h1i:¬ (4096:Int) < (msg.length:Int):=by omega
  cases he:zcG key msg a.macs with
  | some t=>
   rw [kC h1 he]
   rw [he] at c1
   unfold vR at c1
   simp only [Option.getD_some,Option.isSome_some] at c1
   unfold zha
   simp only
   refine Bd func132 ntmps132 fun σ N hp hpn hk hkn hfree=>?_
   have hcs:=And.intro c1 True.intro
   clear c1 he hm
   exact W0
  | none=>
   rw [he] at c1
   unfold vR at c1
   simp only [Option.getD_none,Option.isSome_none] at c1
   by_cases hf:65536≤a.macs.length
   ·rw [zaG h1 he hf]
    obtain ⟨fr,sd,fs,L,B⟩:=a
    simp only at hf hl hm
    unfold zha
    simp only [zZ]
    simp only [zA] at c1 ⊢
    have hfi:(65536:Int)≤(L.length:Int):=by omega
    refine Bd func132 ntmps132 fun σ N hp hpn hk hkn hfree=>?_
    have hcs:=And.intro c1 True.intro
    clear c1 he hm
    exact WT
   ·rw [vV h1 he hf]
    obtain ⟨fr,sd,fs,L,B⟩:=a
    simp only at hf hl hm
    have hfi:¬ (65536:Int)≤(L.length:Int):=by omega
    have c2:=zcW key.1 msg (by rw [key.2];decide) oo
    have hb:(L.length+1) * 88≤140737488355328:=by omega
    have hb0:L.length * 88≤140737488355328:=by omega
    have hb1:L.length≤140737488355327:=by omega
    unfold zha
    cases fr with
    | false=>
     simp only [Bool.false_eq_true,if_false]
     generalize qC key.1 msg=t at *
     have hs1:=zB key
     have hs2:=zj key
     have hmA:zJ ⟨key,msg,t⟩=.agg [zd key,bAV msg,zd t]:=rfl
     have hmb:=qS msg
     obtain ⟨K,hK⟩:=key
     have hkA:zd ⟨K,hK⟩=.agg (K.map za):=rfl
     simp only [hkA] at hs1 hs2 c1 c2 hmA ⊢
     clear hkA
     have hs3:AV.celll (K.map za)=true:=zX K
     have htk:(K.map za).take 32=K.map za:=List.take_of_length_le (by rw [List.length_map];omega)
     simp only [zA] at c1 ⊢
     refine Bd func132 ntmps132 fun σ N hp hpn hk hkn hfree=>?_
     have hcs:=And.intro c1 (And.intro c2 True.intro)
     clear c1 c2 he hm hmA hmb
     refine Wm ?_
     iterate 8 refine Wz ?_
     refine wl N [3] (.slice none ((L++[(⟨⟨K,hK⟩,msg,t⟩:MacE)]).map zJ)) (bt:=41) (c:=.agg [.lit (.bool false),zd sd,.lit (.int .i64 fs),.slice (some (N+30)) (L.map zJ++[.agg [.agg (K.map za),.slice (some (N+30+5)) (msg.map za),zd t]]),.slice none (B.map zo)]) (by simp (disch:=omega) [go_sem, *,-List.reduceReplicate]) rfl (zwK L hK _ _) rfl rfl ?_
     exact W0
    | true=>
     simp only [if_true]
     have c3:=zfs 109 (L.length+1) oo
     have e109:((109:UInt8).toNat:Int)=109:=rfl
     have hn1:((L.length+1:Nat):Int)=(L.length:Int)+1:=by omega
     rw [e109,hn1] at c3
     clear e109 hn1
     generalize qC key.1 msg=t0 at *
     generalize vW 109 ((L.length:Int)+1)=t at *
     have hs1:=zB key
     have hs2:=zj key
     have hmA:zJ ⟨key,msg,t⟩=.agg [zd key,bAV msg,zd t]:=rfl
     have hmb:=qS msg
     obtain ⟨K,hK⟩:=key
     have hkA:zd ⟨K,hK⟩=.agg (K.map za):=rfl
     simp only [hkA] at hs1 hs2 c1 c2 hmA ⊢
     clear hkA
     have hs3:AV.celll (K.map za)=true:=zX K
     have htk:(K.map za).take 32=K.map za:=List.take_of_length_le (by rw [List.length_map];omega)
     simp only [zA] at c1 ⊢
     refine Bd func132 ntmps132 fun σ N hp hpn hk hkn hfree=>?_
     have hcs:=And.intro c1 (And.intro c2 (And.intro c3 True.intro))
     clear c1 c2 c3 he hm hmA hmb
     refine Wm ?_
     iterate 9 refine Wz ?_
     refine wl N [3] (.slice none ((L++[(⟨⟨K,hK⟩,msg,t⟩:MacE)]).map zJ)) (bt:=41) (c:=.agg [.lit (.bool true),zd sd,.lit (.int .i64 fs),.slice (some (N+36)) (L.map zJ++[.agg [.agg (K.map za),.slice (some (N+36+5)) (msg.map za),zd t]]),.slice none (B.map zo)]) (by simp (disch:=omega) [go_sem, *,-List.reduceReplicate]) rfl (zwK L hK _ _) rfl rfl ?_
     exact W0
end
theorem vX (s b:List UInt8) (hs:s.length≤100000) (hb:b.length≤1000000) (k:Nat):
  ACall prog 150 [.lit (.string ⟨s.toArray⟩),.slice none (b.map za)] k [] (.slice none ((s++b).map za)) []:=by
 refine Bd func150 ntmps150 fun σ N hp hpn hk hkn hfree=>?_
 exact WM
section
variable {P E:List UInt8}
def zio (P E:List UInt8) (i:Nat):List UInt8:=P.take i++E.drop i
theorem ziz (h:P.length=E.length) (i:Nat) (hi:i≤E.length):(zio P E i).length=E.length:=by
 unfold zio;rw [List.length_append,List.length_take,List.length_drop];omega
theorem zpa:zio P E 0=E:=by simp [zio]
theorem ziy (h:P.length=E.length):zio P E E.length=P:=by
 unfold zio;rw [List.take_of_length_le oo,List.drop_of_length_le oo,List.append_nil]
theorem zlM (h:P.length=E.length) (i:Nat) (hi:i < E.length):(zio P E i)[i]?=E[i]?:=by
 unfold zio
 have hl:(P.take i).length=i:=by rw [List.length_take];omega
 rw [List.getElem?_append_right oo,hl,Nat.sub_self,List.getElem?_drop,Nat.add_zero]
theorem ziA (h:P.length=E.length) (i:Nat) (hi:i < P.length):(zio P E i).set i P[i]=zio P E (i+1):=by
 unfold zio
 have hl:(P.take i).length=i:=by rw [List.length_take];omega
 rw [List.set_append_right _ _ oo,hl,Nat.sub_self,List.drop_eq_getElem_cons (by omega:i < E.length),List.set_cons_zero,List.take_succ_eq_append_getElem hi,List.append_assoc]
 rfl
end
section
variable [W:W32]
def kst (key:List UInt8) (nonce:Int) (q:Nat):Tg:=qC key ([115,116,114,101,97,109]++(yh nonce++yh q))
def jz (key:List UInt8) (nonce:Int) (b:List UInt8):List UInt8:=(List.range b.length).map fun i=>x8 (b.getD i 0) ((kst key nonce (i / 32)).1.getD (i % 32) 0)
theorem qL (key:List UInt8) (nonce:Int) (b:List UInt8):(jz key nonce b).length=b.length:=by simp [jz]
theorem ze5 (key:List UInt8) (nonce:Int) (b:List UInt8) (i:Nat) (hi:i < b.length) (h:i < (jz key nonce b).length) (h2:i % 32 < (kst key nonce (i / 32)).1.length):(jz key nonce b)[i]=x8 b[i] ((kst key nonce (i / 32)).1[i % 32]):=by
 have h3:i % 32 < (kst key nonce (i / 32)).1.length:=h2
 simp only [jz,List.getElem_map,List.getElem_range,List.getD_eq_getElem?_getD,List.getElem?_eq_getElem hi,List.getElem?_eq_getElem h3,Option.getD_some]
set_option maxHeartbeats 2000000 in
theorem zj2 (key:Tg) (nonce:Nat) (hn:nonce < 18446744073709551616) (b:List UInt8) (hb:b.length≤100000) (k:Nat):
  ACall prog 161 [zd key,.lit (.int .u64 nonce),.slice none (b.map za)] k [] (.slice none ((jz key.1 nonce b).map za)) []:=by
 have c1:=zmj (nonce:Int) oo oo
 have hP:=qL key.1 nonce b
 obtain ⟨E1,hE1⟩:∃ e,yh (nonce:Int)=e:=⟨_,rfl⟩
 have hE1l:E1.length=8:=by rw [← hE1];rfl
 rw [hE1] at c1
 obtain ⟨ky,hky⟩:∃ ky,key=ky:=⟨_,rfl⟩
 have hs1:=zB key
 have hs2:=zj key
 have hat:=ze5 key.1 nonce b
 generalize hPP:jz key.1 nonce b=P at *
 have hAt:∀ i (hi:i < b.length),P[i]'oo=x8 b[i] ((kst key.1 nonce (i / 32)).1[i % 32]'(by rw [(kst key.1 nonce (i / 32)).2];omega)):=fun i hi=>hat i hi _ _
 clear hat hPP hky
 obtain ⟨K,hK⟩:=key
 have hkA:zd ⟨K,hK⟩=.agg (K.map za):=rfl
 simp only [hkA] at hs1 hs2 hAt ⊢
 clear hkA
 have hs3:AV.celll (K.map za)=true:=zX K
 have htk:(K.map za).take 32=K.map za:=List.take_of_length_le (by rw [List.length_map];omega)
 have hm0:=@zpa P b
 refine Bd func161 ntmps161 fun σ N hp hpn hk hkn hfree=>?_
 have M:Mut (N+2):=⟨⟩
 refine Wk ?_
 refine kR N (bt:=28) (x:=.agg (K.map za)) (by simp (disch:=omega) [go_sem, *,-List.reduceReplicate]) ?_
 refine ze zi (by kernel_rfl) [8,9,13,14,15,16,17,18,19,20,21,22,23,24,25,26,27,28,29,30,31,32,33,34,35,36,37,38,39,40] [N,N+2] (fun m_ s_ σ_ n_=>∃ (i:Nat) (cur:List UInt8),m_=b.length - i∧s_ 8=.lit (.int .i64 i)∧s_ 7=.ms (N+2) 1 1 0 b.length∧σ_ (N)=.fbox 28 (.agg (K.map za))∧σ_ (N+2)=.mrow 1 5 1 (cur.map za)∧(i≤b.length)∧(zio P b i=cur)) ⟨_,0,b,rfl,WF,WF,WF,WF,WC,WC⟩ ?_
 intro m_1 s_1 σ_1 n_1 hs_1 hf_1 hn_1 hI_1
 obtain ⟨i,cur,hm_1,h1_8,h1_7,e1_0,e1_1,hi,hc⟩:=hI_1
 have h1_1:=KS hs_1 1
 have h1_3:=KS hs_1 3
 have h1_6:=KS hs_1 6
 have h1_7:=KS hs_1 7
 have hlow:=KL (N:=N) (σ:=σ) hf_1
 clear hm0
 have hcl:=ziz hP i hi
 rw [hc] at hcl
 by_cases hil:i=b.length
 ·subst hil
  rw [ziy hP] at hc
  subst hc
  clear M hAt
  refine Wm ?_
  iterate 1 refine Wz ?_
  refine qJ 7 (id:=N+2) (ver:=1) (size:=1) (e:=5) (xs:=P.map za) (k:=b.length) (by simp (disch:=omega) [go_sem, *,-List.reduceReplicate]) (by simp (disch:=omega) [go_sem, *,-List.reduceReplicate]) (by simp (disch:=omega) [go_sem, *,-List.reduceReplicate]) ?_
  exact WM
 ·have hi2:i < b.length:=by omega
  have hi2i:(i:Int) < (b.length:Int):=by omega
  have ha0:=zlM hP i hi2
  have hs:=ziA hP i oo
  have hA:=hAt i hi2
  rw [hc] at ha0 hs
  have hic:i < cur.length:=by omega
  rw [List.getElem?_eq_getElem hic,List.getElem?_eq_getElem hi2] at ha0
  injection ha0 with ha
  have c2:=zcV ((i / 32:Nat):Int) oo oo
  have hkt:kst K nonce (i / 32)=qC K ([115,116,114,101,97,109]++(yh nonce++yh ((i / 32:Nat):Int))):=rfl
  have hE2l:=xD ((i / 32:Nat):Int)
  rw [hE1] at hkt
  generalize yh ((i / 32:Nat):Int)=E2 at *
  have c3:=vX [115,116,114,101,97,109] (E1++E2) (by decide) (by simp;omega)
  have c4:=zcW K ([115,116,114,101,97,109]++(E1++E2)) oo (by simp;omega)
  rw [← hkt] at c4
  generalize kst K nonce (i / 32)=T at *
  generalize [115,116,114,101,97,109]++(E1++E2)=Wd at *
  have hq:(i:Int).tdiv 32=((i / 32:Nat):Int):=by rw [Int.tdiv_eq_ediv_of_nonneg oo];omega
  have hr:(i:Int).tmod 32=((i % 32:Nat):Int):=by rw [Int.tmod_eq_emod_of_nonneg oo];omega
  have hr32:i % 32 < 32:=Nat.mod_lt _ (by decide)
  have hq32:i / 32≤100000:=by omega
  clear hkt
  obtain ⟨y,hy⟩:∃ y,T.1[i % 32]'(by rw [T.2];exact hr32)=y:=⟨_,rfl⟩
  obtain ⟨z,hz⟩:∃ z,b[i]=z:=⟨_,rfl⟩
  rw [hy,hz] at hA
  rw [hz] at ha
  have hx:=znA z y
  have hset:=zbn cur i (x8 z y)
  rw [← hA,hs,hA] at hset
  generalize x8 z y=v at *
  have hyb:za y=.lit (.int .u8 y.toNat):=rfl
  have hzb:za z=.lit (.int .u8 z.toNat):=rfl
  have hvb:za v=.lit (.int .u8 v.toNat):=rfl
  rw [hvb] at hset
  generalize hc':zio P b (i+1)=cn at *
  generalize i / 32=iq at *
  generalize hir:i % 32=ir at *
  have hcs:=And.intro c1 (And.intro c2 (And.intro c3 (And.intro c4 True.intro)))
  clear c1 c2 c3 c4 hs hc M hAt hz hA hir
  refine Wk ?_
  exact ⟨WS,WG,WN,_,(show b.length - (i+1) < m_1 by omega),i+1,cn,rfl,WF,WF,WF,WF,WC,WC⟩
end
end Go.Proofs.YtglmjglbobhbbaaGreatDoor
