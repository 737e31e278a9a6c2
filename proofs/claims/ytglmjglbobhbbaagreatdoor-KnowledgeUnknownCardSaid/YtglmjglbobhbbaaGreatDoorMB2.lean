/- Texts P13p, W2p, Q6p, W8p, W9p, P12p, joined. -/
import Derived.Test.YtglmjglbobhbbaaGreatDoorMB1
namespace Go.Proofs.YtglmjglbobhbbaaGreatDoor
open _root_.Go.Proofs.Tryz
open Go.Ab
attribute [local irreducible] Go.Ab.tyAV Go.Ab.aw Go.Ab.aops Go.Ab.kReg Go.Ab.aThen Go.Ab.aBlk Go.Ab.acond Go.Ab.aguard Go.Ab.astep Go.Ab.AStepX Go.Ab.aRet
attribute [local irreducible] yE
section
variable [W:W32]
def al31:Alg:=⟨true,zeroTag,0,L2,[]⟩
def pa31:Pa:=⟨1,1,[],vW 109 1⟩
theorem zh1:zdF aF 1 zeroTag 1=(al31,pa31,0):=ziM
def r31:Pr:=⟨7,0,0,0,[],3⟩
theorem zae:zY al31 0 pa31 (zR r31)=(⟨true,zeroTag,0,L4 (yP 3),[]⟩,0,⟨1,1,[yP 3],vW 109 3⟩):=by
 have h:=zau al31 pa31 (zR r31)
 have h2:zba al31 pa31 (zR r31)=(⟨true,zeroTag,0,L4 (yP 3),[]⟩,⟨1,1,[yP 3],vW 109 3⟩,0):=zmt
 rw [h2] at h
 generalize zY al31 0 pa31 (zR r31)=X at *
 obtain ⟨x1,x2,x3⟩:=X
 simp only at h
 by_cases h0:x2=0
 ·rw [if_pos h0] at h
  simp only [Prod.mk.injEq] at h
  rw [h0,← h.1,← h.2.1]
 ·rw [if_neg h0] at h
  simp only [Prod.mk.injEq] at h
  exact absurd h.2.2.symm h0
def zpd:Pa:=⟨1,1,[yP 3],vW 109 3⟩
omit W in
theorem zqU:yZ (zE zpd [] ⟨0,1⟩)=0:=by kernel_rfl
theorem zaa (g h:Nat) (hgh:g≠h) (k:Nat):ACall prog 25 [] k [(g,yE),(h,zS)] (.lit (.bool true)) []:=by
 have hin:AlgIn al31 2:=by have:=zix zld 1 zeroTag 1;rw [zh1] at this;exact this
 have hc3:wY (yP 3):=⟨by simp [yP,zR],by simp [yP,zR]⟩
 have hP3:PrOk (yP 3).first:=⟨by decide,by decide,by decide⟩
 have hb:BuIn (zE zpd [] ⟨0,1⟩):=⟨by simp [zE,zpd],by simp [zE],fun c hc=>by
  simp only [zE,zpd,List.mem_singleton] at hc
  rw [hc];exact hP3,fun d hd=>by simp [zE] at hd⟩
 have hin3:AlgIn (zY al31 0 pa31 (zR r31)).1 (2+2):=zdE hin _ _ _
 have hbx:(zV (zY al31 0 pa31 (zR r31)).1 (zY al31 0 pa31 (zR r31)).2.2 [] ⟨0,1⟩).1.boxes=al31.boxes:=by
  rw [vo hin3 _ _ (by decide) (by simp),zae];rfl
 have c3:=zck al31 2 hin (by decide) pa31 (by simp [pa31]) (fun x hx=>by simp [pa31] at hx) r31 hP3 ⟨0,1⟩ (by rw [zae]) hin3 (by rw [zae];exact hb) (by rw [zae];exact zqU) (by rw [zae];intro c hc;simp only [List.mem_singleton] at hc;rw [hc];exact hc3) hbx g h
 have hB:(zV (zY al31 0 pa31 (zR r31)).1 (zY al31 0 pa31 (zR r31)).2.2 [] ⟨0,1⟩).2=⟨⟨0,1⟩,1,1,[yP 3],(zV (zY al31 0 pa31 (zR r31)).1 (zY al31 0 pa31 (zR r31)).2.2 [] ⟨0,1⟩).2.proof,[]⟩:=by
  rw [zae];rfl
 rw [hB] at c3
 generalize (zV (zY al31 0 pa31 (zR r31)).1 (zY al31 0 pa31 (zR r31)).2.2 [] ⟨0,1⟩).2.proof=T at *
 generalize (zV (zY al31 0 pa31 (zR r31)).1 (zY al31 0 pa31 (zR r31)).2.2 [] ⟨0,1⟩).1=A9 at *
 have c1:=zcO aF 0 zld (by decide) 1 1 zeroTag
 rw [zh1] at c1
 have c2:=zco pa31 ⟨by simp [pa31],fun x hx=>by simp [pa31] at hx⟩
 have c4:=zbH ⟨[pa31],[],[],[]⟩ ⟨by simp,fun x hx=>by rw [List.mem_singleton.1 hx];exact ⟨by simp [pa31],fun c hc=>by simp [pa31] at hc⟩,by simp,fun d hd=>(by cases hd),by simp,fun b hb=>(by cases hb),by simp,fun b hb=>(by cases hb)⟩ pa31.tag
 have hh:zka ⟨[pa31],[],[],[]⟩ pa31.tag=true:=by unfold zka;simp
 rw [hh] at c4
 unfold zdZ at c1
 have e0:((0:Nat):Int)=0:=rfl
 simp only [ziJ,e0] at c1
 have hpA:zG pa31=.agg [.lit (.int .i64 1),.lit (.int .i64 1),.slice none [],zd pa31.tag]:=rfl
 have hkA:xT ⟨[],[],[],[]⟩=.agg [.slice none [],.slice none [],.slice none [],.slice none []]:=rfl
 have hbA:ye ⟨⟨0,1⟩,1,1,[yP 3],T,[]⟩=.agg [.agg [.lit (.int .i64 0),.lit (.int .i64 1)],.lit (.int .i64 1),.lit (.int .i64 1),.slice none [z8 (yP 3)],zd T,.slice none []]:=rfl
 have hrA:yD ⟨0,1⟩=.agg [.lit (.int .i64 0),.lit (.int .i64 1)]:=rfl
 have h3A:zU r31=.agg [.lit (.int .i64 7),.lit (.int .u64 0),.lit (.int .i64 0),.lit (.int .i64 0),.lit (.string ⟨#[]⟩),.lit (.int .i64 3)]:=rfl
 have hkp:xT ⟨[pa31],[],[],[]⟩=.agg [.slice none [.agg [.lit (.int .i64 1),.lit (.int .i64 1),.slice none [],zd pa31.tag]],.slice none [],.slice none [],.slice none []]:=rfl
 have c3:=fun k=>c3 k hgh
 rw [hpA] at c1
 rw [hkA,hpA,hkp] at c2
 rw [hkp,h3A,hrA,hbA] at c3
 rw [hkp] at c4
 clear hin hc3 hP3 hb hin3 hbx hB hh hpA hkA hbA hrA h3A hkp e0
 generalize pa31.tag=TP at *
 generalize al31=A3 at *
 generalize z8 (yP 3)=C3 at *
 refine Bd func25 ntmps25 fun σ N hp hpn hk hkn hfree=>?_
 simp only [List.mem_cons,List.not_mem_nil,or_false,forall_eq_or_imp,forall_eq] at hp hpn;obtain ⟨hd1,hd2⟩:=hp;obtain ⟨hdn1,hdn2⟩:=hpn
 have hcs:=And.intro c1 (And.intro c2 (And.intro c3 (And.intro c4 True.intro)))
 clear c1 c2 c3 c4
 exact W0
end
section
variable [W:W32]
omit W in
def zf5 (r:List Tg × Nat):AV:=.tup [.slice none (r.1.map zd),.lit (.int .i64 (r.2:Nat))]
end
section
variable [W:W32]
theorem wk (a:Alg) (key:Tg) (msg:List UInt8) (hl:a.macs.length≤1000000) (hm:∀ e∈a.macs,e.msg.length≤100000) (h0:0 < msg.length) (hmsg:msg.length≤1000000) (g k:Nat):
  ACall prog 181 [zA a,zd key,.slice none (msg.map za)] k [(g,yE)] (vR (vq a key msg)) []:=by
 have c1:=zgu a.macs key msg hl hm hmsg
 obtain ⟨fr,sd,fs,L,B⟩:=a
 simp only at hl hm c1
 unfold vq
 cases fr with
 | true=>
  simp only [if_true]
  cases he:zcG key msg L with
  | none=>
   rw [zjb L 0 he] at c1
   unfold vR
   simp only [Option.getD_none,Option.isSome_none,zA]
   clear hm he
   refine Bd func181 ntmps181 fun σ N hp hpn hk hkn hfree=>?_
   obtain ⟨hd,hdn⟩:=HD0 hp hpn;clear hp hpn
   have hcs:=And.intro c1 True.intro
   clear c1
   exact W0
  | some t=>
   obtain ⟨i,hi,hfi,hti⟩:=zjc L 0 he
   rw [hfi,Nat.zero_add] at c1
   obtain ⟨z,hz⟩:∃ z,L[i]=z:=⟨_,rfl⟩
   rw [hz] at hti
   obtain ⟨zk,zm,zt⟩:=z
   simp only at hti
   subst hti
   have hzd:zJ ⟨zk,zm,zt⟩=.agg [zd zk,bAV zm,zd zt]:=rfl
   have hi0:¬ (i:Int) < 0:=by omega
   unfold vR
   simp only [Option.getD_some,Option.isSome_some,zA]
   clear hm he hfi
   refine Bd func181 ntmps181 fun σ N hp hpn hk hkn hfree=>?_
   obtain ⟨hd,hdn⟩:=HD0 hp hpn;clear hp hpn
   have hcs:=And.intro c1 True.intro
   clear c1
   exact W0
 | false=>
  simp only [Bool.false_eq_true,if_false]
  clear c1 hm
  by_cases h1:4096 < msg.length
  ·rw [if_pos h1]
   have h1i:(4096:Int) < (msg.length:Int):=by omega
   unfold vR
   simp only [Option.getD_none,Option.isSome_none,zA]
   refine Bd func181 ntmps181 fun σ N hp hpn hk hkn hfree=>?_
   obtain ⟨hd,hdn⟩:=HD0 hp hpn;clear hp hpn
   exact W0
  ·rw [if_neg h1]
   have h1i:¬ (4096:Int) < (msg.length:Int):=by omega
   have c2:=qA key.1 msg (by rw [key.2];decide) h0 oo g
   generalize qC key.1 msg=t at *
   have hs1:=zB key
   have hs2:=zj key
   obtain ⟨K,hK⟩:=key
   have hkA:zd ⟨K,hK⟩=.agg (K.map za):=rfl
   simp only [hkA] at hs1 hs2 c2 ⊢
   clear hkA
   have hs3:AV.celll (K.map za)=true:=zX K
   have htk:(K.map za).take 32=K.map za:=List.take_of_length_le (by rw [List.length_map];omega)
   unfold vR
   simp only [Option.getD_some,Option.isSome_some,zA]
   refine Bd func181 ntmps181 fun σ N hp hpn hk hkn hfree=>?_
   obtain ⟨hd,hdn⟩:=HD0 hp hpn;clear hp hpn
   have hcs:=And.intro c2 True.intro
   clear c2
   exact W0
end
section
variable [W:W32]
theorem zbp (a:Alg) (acc':List Tg):∀ (L:List (List UInt8)) (acc:List Tg) (k:Tg),wn a (acc'++acc) k L=(wn a acc k L).map (acc'++·)
 | [],acc,k=>rfl
 | m::r,acc,k=>by
  rw [wn,wn]
  cases vq a k m with
  | none=>rfl
  | some t=>simp only;rw [List.append_assoc,zbp a acc' r]
omit W in
def zpw (R:Option (List Tg)):AV:=.tup [.slice none ((R.getD []).map zd),.lit (.bool R.isSome)]
theorem zc1 (a:Alg) (m:Nat) (ha:AlgIn a m) (hm:m≤900000) (key:Tg) (msg:List UInt8) (h0:0 < msg.length) (hmsg:msg.length≤100000) (b g k:Nat):
  ACall prog 180 [zd key,.slice none (msg.map za),.ptr b [] 0] k [(b,.box 41 (zA a)),(g,yE)] (vR (vq a key msg)) []:=by
 have c1:=wk a key msg (by have:=ha.ml;omega) ha.mm h0 oo g
 generalize vq a key msg=o at *
 unfold vR at *
 generalize o.getD zeroTag=t at *
 generalize o.isSome=ok at *
 clear ha
 refine Bd func180 ntmps180 fun σ N hp hpn hk hkn hfree=>?_
 simp only [List.mem_cons,List.not_mem_nil,or_false,forall_eq_or_imp,forall_eq] at hp hpn;obtain ⟨hd1,hd2⟩:=hp;obtain ⟨hdn1,hdn2⟩:=hpn
 have hcs:=And.intro c1 True.intro
 clear c1
 exact W0
set_option maxHeartbeats 2000000 in
theorem zeO (a:Alg) (m:Nat) (ha:AlgIn a m) (hm:m≤900000) (key:Tg) (L:List (List UInt8)) (hL:L.length≤100000) (hl:∀ x∈L,0 < x.length∧x.length≤100000) (b g k:Nat):
  ACall prog 179 [zd key,.slice none (L.map bAV),.fn 180 [.ptr b [] 0]] k [(b,.box 41 (zA a)),(g,yE)] (zpw (wn a [key] key L)) []:=by
 obtain ⟨R,hR⟩:∃ R,wn a [key] key L=R:=⟨_,rfl⟩
 rw [hR]
 unfold zpw
 refine Bd func179 ntmps179 fun σ N hp hpn hk hkn hfree=>?_
 simp only [List.mem_cons,List.not_mem_nil,or_false,forall_eq_or_imp,forall_eq] at hp hpn;obtain ⟨hd1,hd2⟩:=hp;obtain ⟨hdn1,hdn2⟩:=hpn
 refine Wk ?_
 refine ze zi (by kernel_rfl) [6,7,8,10,11,12,17,18,19,20,21,22,23,24,25,26,27,28,29,30,31,32,33,34,35,36,37,38,39] [N+4] (fun m_ s_ σ_ n_=>∃ (u:Nat) (t:Tg) (acc:List Tg),m_=L.length - u∧s_ 17=.lit (.int .i64 u)∧s_ 8=.slice (some (N+4)) (acc.map zd)∧σ_ (N+4)=.row 28 32 acc.length∧(u≤L.length)∧(acc.length=u+1)∧((acc.map zd)[u]?=some (zd t))∧(wn a acc t (L.drop u)=R)) ⟨_,0,key,[key],rfl,WF,WF,WF,WC,WC,WC,WC⟩ ?_
 intro m_1 s_1 σ_1 n_1 hs_1 hf_1 hn_1 hI_1
 obtain ⟨u,t,acc,hm_1,h1_17,h1_8,e1_0,hu,hal,hat,hrun⟩:=hI_1
 have h1_2:=KS hs_1 2
 have h1_15:=KS hs_1 15
 have h1_16:=KS hs_1 16
 have k1_0:=KE hf_1 (b)
 have k1_1:=KE hf_1 (g)
 have hlow:=KL (N:=N) (σ:=σ) hf_1
 clear hR
 by_cases hul:u=L.length
 ·subst hul
  rw [List.drop_length,wn] at hrun
  subst hrun
  simp only [Option.getD_some,Option.isSome_some]
  clear hl ha hat
  exact WL
 ·have hu1:u < L.length:=by omega
  obtain ⟨z,hz⟩:∃ z,L[u]=z:=⟨_,rfl⟩
  have hzl:=hl z (by rw [← hz];exact List.getElem_mem _)
  have hzm:(L.map bAV)[u]?=some (.slice none (z.map za)):=by rw [List.getElem?_map,List.getElem?_eq_getElem hu1,hz];rfl
  rw [List.drop_eq_getElem_cons hu1,hz,wn] at hrun
  have c1:=zc1 a m ha hm t z hzl.1 hzl.2 b g
  have hb26:(acc.length+1) * 32≤140737488355328:=by omega
  clear hl ha
  unfold vR at c1
  cases ho:vq a t z with
  | none=>
   rw [ho] at hrun c1
   simp only at hrun
   subst hrun
   simp only [Option.getD_none,Option.isSome_none,List.map_nil] at c1 ⊢
   have hcs:=And.intro c1 True.intro
   clear c1 ho
   exact WL
  | some t2=>
   rw [ho] at hrun c1
   simp only at hrun
   simp only [Option.getD_some,Option.isSome_some] at c1
   have hcs:=And.intro c1 True.intro
   have hal2:(acc++[t2]).length=u+1+1:=by rw [List.length_append,List.length_singleton,hal]
   have hat2:((acc++[t2]).map zd)[u+1]?=some (zd t2):=by rw [List.getElem?_map,List.getElem?_append_right oo,hal];simp
   clear c1 ho
   refine Wk ?_
   exact ⟨WS,WG,WN,_,(show L.length - (u+1) < m_1 by omega),u+1,t2,acc++[t2],rfl,WF,WF,WF,WC,WC,WC,WC⟩
end
section
variable [W:W32]
omit W in
theorem zgj (c:Ca):0 < (y9 c).length:=by simp [y9]
omit W in
theorem zd9 {l:List Ca} {u:Nat} (hu:u < l.length) (hb:xz l[u]=false):(l.any fun c=>!xz c)=true:=by
 rw [List.any_eq_true]
 exact ⟨l[u],List.getElem_mem hu,by rw [hb];rfl⟩
set_option maxHeartbeats 4000000 in
theorem zeV (a:Alg) (m:Nat) (ha:AlgIn a m) (hm:m≤900000) (num:Int) (key:Tg) (ser:Int) (l:List Ca) (hl:l.length≤10000) (hpk:∀ c∈l,PrOk c.first) (g h k:Nat) (_hgh:g≠h):
  ACall prog 110 [zA a,.agg [.lit (.int .i64 num),zd key],.lit (.int .i64 ser),.slice none (l.map z8)] k [(g,yE),(h,zS)] (zf5 (zfe a num key ser l)) []:=by
 unfold zfe
 by_cases hr:num < 1∨1000 < num∨ser < 1∨1073741824 < ser
 ·rw [if_pos hr]
  unfold zf5
  simp only [List.map_nil]
  have c1:=zeF num ser hr
  refine Bd func110 ntmps110 fun σ N hp hpn hk hkn hfree=>?_
  simp only [List.mem_cons,List.not_mem_nil,or_false,forall_eq_or_imp,forall_eq] at hp hpn;obtain ⟨hd1,hd2⟩:=hp;obtain ⟨hdn1,hdn2⟩:=hpn
  have hcs:=And.intro c1 True.intro
  clear c1 ha hpk
  exact WL
 ·rw [if_neg hr]
  have c1:=zeG num ser oo oo oo oo
  obtain ⟨n,rfl⟩:=Int.eq_ofNat_of_zero_le (show 0≤ser by omega)
  have c2:=zex n oo
  have hM:zdV (n:Int) l=yX n::l.map y9:=by unfold zdV;rw [Int.toNat_natCast]
  rw [hM]
  have hml:=zcq n oo
  have hM0:0 < (yX n).length:=by simp [yX]
  have hmm:∀ x∈yX n::l.map y9,0 < x.length∧x.length≤100000:=fun x hx=>by
   rcases List.mem_cons.1 hx with rfl | hx
   ·exact ⟨hM0,by omega⟩
   ·obtain ⟨c,_,rfl⟩:=List.mem_map.1 hx
    exact ⟨zgj c,by have:=xP c;omega⟩
  have c3:=fun b=>zeO a m ha hm key (yX n::l.map y9) (by simp;omega) hmm b g
  have hw:=zbp a [key] (yX n::l.map y9) [] key
  rw [List.append_nil] at hw
  rw [hw] at c3
  obtain ⟨R,hR⟩:∃ R,wn a [] key (yX n::l.map y9)=R:=⟨_,rfl⟩
  rw [hR] at c3 ⊢
  clear hw hR hmm hM hml hM0 ha hr
  generalize yX n=M0 at *
  obtain ⟨v,hv⟩:∃ v,(if (l.any fun c=>!xz c)=true then ([],5) else zdW R)=v:=⟨_,rfl⟩
  rw [hv]
  have hb24:(l.length+1) * 24≤140737488355328:=by omega
  refine Bd func110 ntmps110 fun σ N hp hpn hk hkn hfree=>?_
  simp only [List.mem_cons,List.not_mem_nil,or_false,forall_eq_or_imp,forall_eq] at hp hpn;obtain ⟨hd1,hd2⟩:=hp;obtain ⟨hdn1,hdn2⟩:=hpn
  have hcs:=And.intro c1 (And.intro c2 True.intro)
  clear c1 c2
  refine Wk ?_
  clear hcs
  refine ze zi (by kernel_rfl) [8,9,10,12,13,14,27,28,29,30,31,32,33,34,35,36,37,38,39,40,41,42,43,44] [N+11] (fun m_ s_ σ_ n_=>∃ (u:Nat) (acc:List (List UInt8)),m_=l.length - u∧s_ 27=.lit (.int .i64 u)∧s_ 10=.slice (some (N+11)) (acc.map bAV)∧σ_ (N+11)=.row 31 1 acc.length∧(u≤l.length)∧(acc.length=u+1)∧(M0::(l.take u).map y9=acc)∧(∀ c∈l.take u,xz c=true)) ⟨_,0,[M0],rfl,WF,WF,WF,WC,WC,WC,WC⟩ ?_
  intro m_1 s_1 σ_1 n_1 hs_1 hf_1 hn_1 hI_1
  obtain ⟨u,acc,hm_1,h1_27,h1_10,e1_0,hu,hal,hacc,hok⟩:=hI_1
  have h1_4:=KS hs_1 4
  have h1_5:=KS hs_1 5
  have h1_25:=KS hs_1 25
  have h1_26:=KS hs_1 26
  have k1_0:=KE hf_1 (N)
  have k1_1:=KE hf_1 (N+1)
  have k1_2:=KE hf_1 (g)
  have k1_3:=KE hf_1 (h)
  have hlow:=KL (N:=N) (σ:=σ) hf_1
  by_cases hul:u=l.length
  ·subst hul
   rw [List.take_length] at hacc hok
   subst hacc
   have hany:(l.any fun c=>!xz c)=false:=by
    rw [List.any_eq_false]
    intro c hc
    rw [hok c hc];simp
   rw [hany,if_neg (by simp)] at hv
   subst hv
   clear hok hany hpk hal
   cases R with
   | none=>
    unfold zpw at c3
    unfold zf5 zdW
    simp only [Option.map_none,Option.getD_none,Option.isSome_none,List.map_nil] at c3 ⊢
    have hcs:=And.intro (c3 N) True.intro
    clear c3
    exact WL
   | some ts=>
    unfold zpw at c3
    unfold zf5 zdW
    simp only [Option.map_some,Option.getD_some,Option.isSome_some,List.cons_append,List.nil_append,List.map_cons] at c3 ⊢
    have hcs:=And.intro (c3 N) True.intro
    clear c3
    exact WL
  ·have hu1:u < l.length:=by omega
   obtain ⟨z,hz⟩:∃ z,l[u]=z:=⟨_,rfl⟩
   have hzp:=hpk z (by rw [← hz];exact List.getElem_mem _)
   have hzm:(l.map z8)[u]?=some (z8 z):=by rw [List.getElem?_map,List.getElem?_eq_getElem hu1,hz];rfl
   have c1:=zgh z hzp h
   unfold zbu at c1
   cases hzb:xz z with
   | false=>
    have he:zc7 z=([],5):=by unfold zc7;rw [hzb];rfl
    rw [he] at c1
    simp only [List.map_nil] at c1
    rw [zd9 hu1 (by rw [hz];exact hzb),if_pos rfl] at hv
    subst hv
    unfold zf5
    simp only [List.map_nil]
    have e5:((5:Nat):Int)=5:=rfl
    simp only [e5] at c1 ⊢
    have hcs:=And.intro c1 True.intro
    clear c1 c3 hpk hok
    exact WL
   | true=>
    have he:(zc7 z).2=0:=by unfold zc7;rw [hzb];rfl
    have hMz:[99,97,118,101,97,116]++(zc7 z).1=y9 z:=rfl
    have hMl:=xP z
    have c2:=yH [99,97,118,101,97,116] (zc7 z).1 (by decide) (by unfold y9 at hMl;rw [List.length_append] at hMl;omega)
    rw [hMz] at c2
    have hacc2:M0::(l.take (u+1)).map y9=acc++[y9 z]:=by
     rw [List.take_add_one,List.getElem?_eq_getElem hu1,hz,List.map_append,← hacc];rfl
    have hok2:∀ c∈l.take (u+1),xz c=true:=fun c hc=>by
     rw [List.take_add_one,List.getElem?_eq_getElem hu1,hz] at hc
     rcases List.mem_append.1 hc with hc | hc
     ·exact hok c hc
     ·have hc:c=z:=by simpa using hc
      rw [hc];exact hzb
    rw [he] at c1
    generalize (zc7 z).1=B at *
    generalize y9 z=Mz at *
    have e0:((0:Nat):Int)=0:=rfl
    simp only [e0] at c1
    have hal2:(acc++[Mz]).length=u+1+1:=by rw [List.length_append,List.length_singleton,hal]
    have hb26:(acc.length+1) * 24≤140737488355328:=by omega
    have hcs:=And.intro c1 (And.intro c2 True.intro)
    clear c1 c2 c3 hpk hok hacc hMz he hMl hzp
    refine Wk ?_
    exact ⟨WS,WG,WN,_,(show l.length - (u+1) < m_1 by omega),u+1,acc++[Mz],rfl,WF,WF,WF,WC,WC,WC,WC⟩
set_option maxHeartbeats 2000000 in
theorem znh (a:Alg) (m:Nat) (ha:AlgIn a m) (hm:m≤900000) (num:Int) (key:Tg) (ser:Int) (l:List Ca) (hl:l.length≤10000) (hpk:∀ c∈l,PrOk c.first) (k:Nat):
  ACall prog 28 [zA a,.agg [.lit (.int .i64 num),zd key],.lit (.int .i64 ser),.slice none (l.map z8)] k [] (zf5 (zfe a num key ser l)) []:=by
 unfold zfe
 by_cases hr:num < 1∨1000 < num∨ser < 1∨1073741824 < ser
 ·rw [if_pos hr]
  unfold zf5
  simp only [List.map_nil]
  clear ha hpk
  by_cases g1:num < 1
  ·refine Bd func28 ntmps28 fun σ N hp hpn hk hkn hfree=>?_
   exact WL
  ·by_cases g2:1000 < num
   ·refine Bd func28 ntmps28 fun σ N hp hpn hk hkn hfree=>?_
    exact WL
   ·by_cases g3:ser < 1
    ·refine Bd func28 ntmps28 fun σ N hp hpn hk hkn hfree=>?_
     exact WL
    ·have g4:1073741824 < ser:=by omega
     refine Bd func28 ntmps28 fun σ N hp hpn hk hkn hfree=>?_
     exact WL
 ·rw [if_neg hr]
  have g1:¬ num < 1:=by omega
  have g2:¬ 1000 < num:=by omega
  have g3:¬ ser < 1:=by omega
  have g4:¬ 1073741824 < ser:=by omega
  have c1:=wd l oo hpk
  cases hany:(l.any fun c=>!xz c) with
  | true=>
   rw [if_pos rfl]
   rw [hany] at c1
   unfold zf5
   simp only [List.map_nil]
   clear hpk ha
   refine Bd func28 ntmps28 fun σ N hp hpn hk hkn hfree=>?_
   have hcs:=And.intro c1 True.intro
   clear c1
   exact WL
  | false=>
   rw [if_neg (by simp)]
   rw [hany] at c1
   clear hany
   obtain ⟨n,rfl⟩:=Int.eq_ofNat_of_zero_le (show 0≤ser by omega)
   have c2:=zh5 n oo
   have hM:zdV (n:Int) l=yX n::l.map y9:=by unfold zdV;rw [Int.toNat_natCast]
   rw [hM]
   have c3:=zh3 a key (yX n) (by have:=ha.ml;omega) ha.mm
   obtain ⟨R,hR⟩:∃ R,wn a [] key (yX n::l.map y9)=R:=⟨_,rfl⟩
   rw [hR]
   rw [wn] at hR
   have hR0:(if (vq a key (yX n)).isSome=true then wn a [(vq a key (yX n)).getD zeroTag] ((vq a key (yX n)).getD zeroTag) (l.map y9) else none)=R:=by
    rw [← hR]
    cases vq a key (yX n) <;> simp
   clear hR hM
   generalize vq a key (yX n)=o at *
   unfold vR at c3
   generalize o.getD zeroTag=t0 at *
   generalize o.isSome=ok0 at *
   generalize yX n=M0 at *
   have hb24:(l.length+2) * 32≤140737488355328:=by omega
   refine Bd func28 ntmps28 fun σ N hp hpn hk hkn hfree=>?_
   have hcs:=And.intro c1 (And.intro c2 (And.intro c3 True.intro))
   clear c1 c2 c3
   refine Wk ?_
   clear hcs
   refine ze zi (by kernel_rfl) [11,12,13,44,45,46,47,48,49,50,51,52,53,54,55,56,57,58,59,60,61,62,63,64,65,66,67] [N+32,N+36] (fun m_ s_ σ_ n_=>∃ (u:Nat) (t:Tg) (ok:Bool) (acc:List Tg),m_=l.length - u∧s_ 13=.lit (.int .i64 u)∧s_ 11=.lit (.bool ok)∧s_ 12=.slice (some (N+36)) (acc.map zd)∧σ_ (N+32)=.box 28 (zd t)∧σ_ (N+36)=.row 28 32 acc.length∧(u≤l.length)∧(acc.length=u+1)∧((if ok=true then wn a acc t ((l.drop u).map y9) else none)=R)) ⟨_,0,t0,ok0,[t0],rfl,WF,WF,WF,WF,WF,WC,WC,WC⟩ ?_
   intro m_2 s_2 σ_2 n_2 hs_2 hf_2 hn_2 hI_2
   obtain ⟨u,t,ok,acc,hm_2,h2_13,h2_11,h2_12,e2_0,e2_1,hu,hal,hrun⟩:=hI_2
   have h2_3:=KS hs_2 3
   have h2_4:=KS hs_2 4
   have h2_8:=KS hs_2 8
   have h2_9:=KS hs_2 9
   have h2_10:=KS hs_2 10
   have k2_0:=KE hf_2 (N)
   have k2_1:=KE hf_2 (N+1)
   have hlow:=KL (N:=N) (σ:=σ) hf_2
   clear hR0
   cases ok with
   | false=>
    rw [if_neg (by simp)] at hrun
    subst hrun
    unfold zf5 zdW
    simp only [List.map_nil]
    clear hpk ha
    by_cases hul:u=l.length
    ·subst hul
     exact WL
    ·have hu1:u < l.length:=by omega
     have hu1i:(u:Int) < (l.length:Int):=by omega
     exact WL
   | true=>
    rw [if_pos rfl] at hrun
    by_cases hul:u=l.length
    ·subst hul
     rw [List.drop_length,List.map_nil,wn] at hrun
     subst hrun
     unfold zf5 zdW
     simp only
     clear hpk ha
     exact WL
    ·have hu1:u < l.length:=by omega
     have hu1i:(u:Int) < (l.length:Int):=by omega
     obtain ⟨z,hz⟩:∃ z,l[u]=z:=⟨_,rfl⟩
     have hzp:=hpk z (by rw [← hz];exact List.getElem_mem _)
     have hzm:(l.map z8)[u]?=some (z8 z):=by rw [List.getElem?_map,List.getElem?_eq_getElem hu1,hz];rfl
     rw [List.drop_eq_getElem_cons hu1,hz,List.map_cons,wn] at hrun
     have c1:=zh4 z hzp
     have c2:=zh3 a t (y9 z) (by have:=ha.ml;omega) ha.mm
     have hrun2:(if (vq a t (y9 z)).isSome=true then wn a (acc++[(vq a t (y9 z)).getD zeroTag]) ((vq a t (y9 z)).getD zeroTag) ((l.drop (u+1)).map y9) else none)=R:=by
      rw [← hrun]
      cases vq a t (y9 z) <;> simp
     clear hrun
     generalize vq a t (y9 z)=o at *
     unfold vR at c2
     generalize o.getD zeroTag=t2 at *
     generalize o.isSome=ok2 at *
     generalize y9 z=Mz at *
     have hal2:(acc++[t2]).length=u+1+1:=by rw [List.length_append,List.length_singleton,hal]
     have hb26:(acc.length+1) * 32≤140737488355328:=by omega
     have hcs:=And.intro c1 (And.intro c2 True.intro)
     clear c1 c2 hpk ha hzp
     refine Wk ?_
     exact ⟨WS,WG,WN,_,(show l.length - (u+1) < m_2 by omega),u+1,t2,ok2,acc++[t2],rfl,WF,WF,WF,WF,WF,WC,WC,WC⟩
end
section
variable [W:W32]
theorem zas (s:Sc) (m:Nat) (ha:AlgIn s.alg m) (hm:m≤50000) (hg:s.grants.length≤100) (hb:BuIn (zE s.pass s.grants s.req)) (h0:yZ (zE s.pass s.grants s.req)=0) (d k:Nat):ACall prog 27 [.ptr d [] 0] k [(d,.box 51 (zbS s))] (ye (zV s.alg s.pass s.grants s.req).2) [(d,.box 51 (zbS { s with alg:=(zV s.alg s.pass s.grants s.req).1 }))]:=by
 have c1:=qt s.alg m ha s.pass s.grants s.req hg hm hb h0
 clear ha hb h0
 generalize zV s.alg s.pass s.grants s.req=B at *
 obtain ⟨A',b⟩:=B
 obtain ⟨A,rg,con,p,gs,r,hol,mi⟩:=s
 have hdS:zbS ⟨A,rg,con,p,gs,r,hol,mi⟩=.agg [zA A,zbF rg,xW con,zG p,.slice none (gs.map zw),yD r,.lit (.string ⟨hol.toArray⟩),.lit (.int .i64 mi)]:=rfl
 have hdS':zbS ⟨A',rg,con,p,gs,r,hol,mi⟩=.agg [zA A',zbF rg,xW con,zG p,.slice none (gs.map zw),yD r,.lit (.string ⟨hol.toArray⟩),.lit (.int .i64 mi)]:=rfl
 simp only at c1 ⊢
 rw [hdS,hdS']
 clear hdS hdS'
 refine Bd func27 ntmps27 fun σ N hp hpn hk hkn hfree=>?_
 obtain ⟨hd,hdn⟩:=HD0 hp hpn;clear hp hpn
 have hcs:=And.intro c1 True.intro
 clear c1
 refine Wk ?_
 clear hcs
 exact RW (d) (.box 51 (.agg [zA A',zbF rg,xW con,zG p,.slice none (gs.map zw),yD r,.lit (.string ⟨hol.toArray⟩),.lit (.int .i64 mi)]))
theorem zeL {s:Sc} (hs:ScV s) {r:Rq} (hr:rqB r=true):BuIn (zE s.pass s.grants r)∧yZ (zE s.pass s.grants r)=0:=by
 obtain ⟨se,hG,s1,s2⟩:=hs.good
 obtain ⟨A,rg,con,⟨ep,sr,L,tg⟩,gs,r0,hol,mi⟩:=s
 obtain rfl:ep=2:=hG.ep
 obtain rfl:sr=se:=hG.es
 have hbl:∀ i (hi:i < gs.length) (hj:i < (gs.map zu).length),((gs.map zu)[i]).ticket=(gs[i]).ticket∧((gs.map zu)[i]).conds=(gs[i]).conds:=fun i hi hj=>by rw [List.getElem_map];exact ⟨rfl,rfl⟩
 exact zg1 (tg:=zeroTag) hr s1 s2 hG.cl hG.cv hG.th hG.gl hG.gv hG.gd (gs.map zu) (by simp) hbl
omit W in
theorem zsH {Bs:List Bu} {t:Tg} (h:∀ b∈Bs,b.proof≠t∧∀ x∈b.dis,x.proof≠t):zka ⟨[],[],Bs,[]⟩ t=false:=by
 unfold zka
 simp only [List.any_nil,Bool.false_or]
 rw [Bool.or_false,List.any_eq_false]
 intro b hb
 unfold zbv
 obtain ⟨h1,h2⟩:=h b hb
 rw [decide_eq_false h1,Bool.false_or]
 intro hh
 obtain ⟨x,hx,hx2⟩:=List.any_eq_true.1 hh
 exact h2 x hx (by simpa using hx2)
set_option maxHeartbeats 16000000 in
theorem zd3 (xs:List Int) (hx:xs.length≤9223372036854775807) (n:Nat) (hn:n < 256) (g h:Nat) (hgh:g≠h) (k:Nat):
  ACall prog 4 [.slice none (xs.map jI),.lit (.int .u8 n)] k [(g,yE),(h,zS)] (.lit (.bool true)) []:=by
 have c9:=zaa g h hgh
 have c1:=zeR xs
 obtain ⟨s,j,hs,hj,c2⟩:=zeS xs 0 ⟨hx,Nat.zero_le _⟩
 have hsA:zbS s=.agg [zA s.alg,zbF s.ring,xW s.con,zG s.pass,.slice none (s.grants.map zw),yD s.req,.lit (.string ⟨s.holder.toArray⟩),.lit (.int .i64 s.minute)]:=rfl
 rw [hsA] at c2
 have haA:zA s.alg=.agg [.lit (.bool s.alg.free),zd s.alg.seed,.lit (.int .i64 s.alg.fresh),.slice none (s.alg.macs.map zJ),.slice none (s.alg.boxes.map zo)]:=rfl
 cases hf:s.alg.free with
 | false=>
  rw [haA,hf] at c2
  clear hs hj hsA haA
  refine Bd func4 ntmps4 fun σ N hp hpn hk hkn hfree=>?_
  simp only [List.mem_cons,List.not_mem_nil,or_false,forall_eq_or_imp,forall_eq] at hp hpn;obtain ⟨hd1,hd2⟩:=hp;obtain ⟨hdn1,hdn2⟩:=hpn
  have hcs:=And.intro c1 (And.intro (c2 (N+1+1)) (And.intro c9 True.intro))
  clear c1 c2 c9
  exact W0
 | true=>
  have hK0:=KnS.first hs hf
  obtain ⟨root,hri,_⟩:=hs.ri
  obtain ⟨se,hG,_⟩:=hs.good
  have hgl:=hG.gl
  have hgt:=hG.gt
  obtain ⟨⟨qg0,qg1⟩,qn0,qn1⟩:=rqB_iff.1 hs.rq
  have hnq:=hs.nq
  have hsc:=hs
  obtain ⟨s0,hs0⟩:∃ x,x=s:=⟨_,rfl⟩
  rw [← hs0] at hsc
  obtain ⟨sa,sr,sc,⟨pe,ps,pc,pt⟩,sg,⟨qg,qn⟩,sh,sm⟩:=s
  simp only at *
  subst hri
  have hRg:zbF ⟨[⟨2,root⟩],3⟩=.agg [.slice none [.agg [.lit (.int .i64 2),zd root]],.lit (.int .i64 3)]:=rfl
  have hPa:zG ⟨pe,ps,pc,pt⟩=.agg [.lit (.int .i64 pe),.lit (.int .i64 ps),.slice none (pc.map z8),zd pt]:=rfl
  have hRq:∀ z:Int,yD ⟨qg,z⟩=.agg [.lit (.int .i64 qg),.lit (.int .i64 z)]:=fun _=>rfl
  have hKn:∀ B:List Bu,xT ⟨[],[],B,[]⟩=.agg [.slice none [],.slice none [],.slice none (B.map ye),.slice none []]:=fun _=>rfl
  rw [hRg,hPa,hRq,haA,hf] at c2
  have haA1:zA sa=.agg [.lit (.bool true),zd sa.seed,.lit (.int .i64 sa.fresh),.slice none (sa.macs.map zJ),.slice none (sa.boxes.map zo)]:=by rw [haA,hf]
  rw [← hs0] at hK0
  have hw4:(n:Int).tmod 4=((n % 4:Nat):Int):=by rw [Int.tmod_eq_emod_of_nonneg oo];omega
  have hwn:IntKind.i64.wrap (n:Int)=n:=wrap_i64 oo oo
  have hn4:n % 4 < 4:=Nat.mod_lt _ (by decide)
  generalize n % 4=n4 at *
  have hpc:s0.pass.cavs=pc:=by rw [hs0]
  have hps:s0.pass.serial=ps:=by rw [hs0]
  have hpp:s0.pass=⟨pe,ps,pc,pt⟩:=by rw [hs0]
  have hgr:s0.grants=sg:=by rw [hs0]
  have hal:s0.alg=sa:=by rw [hs0]
  have hrg:s0.ring=⟨[⟨2,root⟩],3⟩:=by rw [hs0]
  clear hs hsA haA hj
  refine Bd func4 ntmps4 fun σ N hp hpn hk hkn hfree=>?_
  simp only [List.mem_cons,List.not_mem_nil,or_false,forall_eq_or_imp,forall_eq] at hp hpn;obtain ⟨hd1,hd2⟩:=hp;obtain ⟨hdn1,hdn2⟩:=hpn
  have hcs:=And.intro c1 (And.intro (c2 (N+1+1)) True.intro)
  clear c1 c2
  refine Wm ?_
  iterate 6 refine Wz ?_
  clear hcs
  refine wl (N+12) [0] (.slice none []) (bt:=71) (c:=.agg [.nils,.nils,.nils,.nils]) (by simp (disch:=omega) [go_sem, *,-List.reduceReplicate]) rfl AV.le_nils0 rfl rfl ?_
  refine wl (N+12) [1] (.slice none []) (bt:=71) (c:=.agg [.slice none [],.nils,.nils,.nils]) (by simp (disch:=omega) [go_sem, *,-List.reduceReplicate];try rfl) rfl AV.le_nils0 rfl rfl ?_
  refine wl (N+12) [2] (.slice none []) (bt:=71) (c:=.agg [.slice none [],.slice none [],.nils,.nils]) (by simp (disch:=omega) [go_sem, *,-List.reduceReplicate];try rfl) rfl AV.le_nils0 rfl rfl ?_
  refine wl (N+12) [3] (.slice none []) (bt:=71) (c:=.agg [.slice none [],.slice none [],.slice none [],.nils]) (by simp (disch:=omega) [go_sem, *,-List.reduceReplicate];try rfl) rfl AV.le_nils0 rfl rfl ?_
  refine ze zi (by kernel_rfl) [8,22,23,24,25,26,27,28,29,30,31,32,33,34,35,36,37] [N+4+2,N+12] (fun m_ s_ σ_ n_=>∃ (i:Nat) (A:Alg) (Bs:List Bu),m_=5 - i∧s_ 8=.lit (.int .i64 i)∧σ_ (N+4+2)=.box 51 (.agg [zA A,.agg [.slice none [.agg [.lit (.int .i64 2),zd root]],.lit (.int .i64 3)],xW sc,.agg [.lit (.int .i64 pe),.lit (.int .i64 ps),.slice none (pc.map z8),zd pt],.slice none (sg.map zw),.agg [.lit (.int .i64 qg),.lit (.int .i64 (qn+(i:Int)))],.lit (.string ⟨sh.toArray⟩),.lit (.int .i64 sm)])∧σ_ (N+12)=.box 71 (.agg [.slice none [],.slice none [],.slice none (Bs.map ye),.slice none []])∧(i≤n4+1)∧(KnS s0 A Bs i)) ⟨_,0,sa,[],rfl,WF,WF,WF,WC,WC⟩ ?_
  intro m_1 s_1 σ_1 n_1 hs_1 hf_1 hn_1 hI_1
  obtain ⟨i,A,Bs,hm_1,h1_8,e1_0,e1_1,hi,hK⟩:=hI_1
  have h1_1:=KS hs_1 1
  have h1_4:=KS hs_1 4
  have h1_6:=KS hs_1 6
  have h1_7:=KS hs_1 7
  have k1_0:=KE hf_1 (g)
  have k1_1:=KE hf_1 (h)
  have hlow:=KL (N:=N) (σ:=σ) hf_1
  clear hK0 haA1
  by_cases hin4:i=n4+1
  ·subst hin4
   have hii:¬ (((n4+1:Nat):Int)≤(n4:Int)):=by omega
   obtain ⟨root2,ts,hr2,t1,t2,t3⟩:=hK.tags hsc
   obtain rfl:root=root2:=by
    rw [hrg] at hr2
    simp only [Rg.mk.injEq,List.cons.injEq,Ep.mk.injEq,and_true,true_and] at hr2
    exact hr2
   have c5:=znh A (1000+6 * (n4+1)) hK.ain oo 2 root ps pc (by have:=hG.cl;simp only at this;omega) (fun c hc=>(hG.cv c hc).2.1)
   rw [hps,hpc] at t1
   rw [t1] at c5
   have hbl:=hK.bl
   have hhas:∀ t,hidT A.macs t→∀ k,ACall prog 29 [xT ⟨[],[],Bs,[]⟩,zd t] k [] (.lit (.bool false)) []:=fun t ht k=>by
    have:=zbH ⟨[],[],Bs,[]⟩ ⟨by simp,fun x hx=>(by cases hx),by simp,fun x hx=>(by cases hx),by simp only;omega,fun b hb=>(hK.bs b hb).2.2.1.copy,by simp,fun x hx=>(by cases hx)⟩ t k
    rw [zsH (hK.apart oo ht)] at this
    exact this
   rw [hKn] at hhas
   have hgt2:∀ z∈sg,hidT A.macs z.tag:=fun z hz=>(hgt z hz).sub (by rw [← hal];exact hK.sub)
   unfold zf5 at c5
   simp only at c5
   have e00:((0:Nat):Int)=0:=rfl
   rw [e00] at c5
   have htl:ts.length≤100:=by have:=hG.cl;simp only at this;rw [t2,hpc];omega
   clear t2
   have hbi:((Bs.length:Int) == 0)=false:=by rw [beq_eq_false_iff_ne];omega
   clear hK hG t1 hgt hsc e00
   have hcs:=And.intro c5 True.intro
   clear c5
   refine Wk ?_
   clear hcs
   refine ze zi (by kernel_rfl) [4,11,63,64,65,66,67,68,69,70,71,72,73,74] [] (fun m_ s_ σ_ n_=>∃ (u:Nat),m_=ts.length - u∧s_ 11=.lit (.int .i64 u)∧(u≤ts.length)) ⟨_,0,rfl,WF,WC⟩ ?_
   intro m_2 s_2 σ_2 n_2 hs_2 hf_2 hn_2 hI_2
   obtain ⟨u,hm_2,h2_11,hu⟩:=hI_2
   have h2_6:=KS hs_2 6
   have h2_7:=KS hs_2 7
   have h2_9:=KS hs_2 9
   have k2_0:=KE hf_2 (N+4+2)
   have k2_1:=KE hf_2 (N+12)
   have k2_2:=KE hf_2 (g)
   have k2_3:=KE hf_2 (h)
   have hlow:=KL (N:=N) (σ:=σ) hf_2
   by_cases hul:u=ts.length
   ·subst hul
    clear t3
    refine Wk ?_
    refine ze zi (by kernel_rfl) [4,12,75,76,77,78,79,80,81,82,83,84,85,86,87,88,89] [] (fun m_ s_ σ_ n_=>∃ (v:Nat),m_=sg.length - v∧s_ 12=.lit (.int .i64 v)∧(v≤sg.length)) ⟨_,0,rfl,WF,WC⟩ ?_
    intro m_3 s_3 σ_3 n_3 hs_3 hf_3 hn_3 hI_3
    obtain ⟨v,hm_3,h3_12,hv⟩:=hI_3
    have h3_6:=KS hs_3 6
    have h3_7:=KS hs_3 7
    have k3_0:=KE hf_3 (N+4+2)
    have k3_1:=KE hf_3 (N+12)
    have k3_2:=KE hf_3 (g)
    have k3_3:=KE hf_3 (h)
    have hlow:=KL (N:=N) (σ:=σ) hf_3
    by_cases hvl:v=sg.length
    ·subst hvl
     have hcs:=And.intro c9 True.intro
     clear c9 hhas hgt2
     exact W0
    ·have hv1:v < sg.length:=by omega
     obtain ⟨z,hz⟩:∃ z,sg[v]=z:=⟨_,rfl⟩
     have hzm:(sg.map zw)[v]?=some (.agg [.slice none (z.ticket.map za),.slice none (z.conds.map zU),zd z.tag]):=by rw [List.getElem?_map,List.getElem?_eq_getElem hv1,hz];rfl
     have c6:=hhas z.tag (hgt2 z (by rw [← hz];exact List.getElem_mem _))
     have hcs:=And.intro c6 True.intro
     clear c6 hhas hgt2 c9
     refine Wk ?_
     clear hcs
     exact ⟨WS,WG,WN,_,(show sg.length - (v+1) < m_3 by omega),v+1,rfl,WF,WC⟩
   ·have hu1:u < ts.length:=by omega
    obtain ⟨z,hz⟩:∃ z,ts[u]=z:=⟨_,rfl⟩
    have hzm:(ts.map zd)[u]?=some (zd z):=by rw [List.getElem?_map,List.getElem?_eq_getElem hu1,hz];rfl
    have c6:=hhas z (t3 z (by rw [← hz];exact List.getElem_mem _))
    have hcs:=And.intro c6 True.intro
    clear c6 hhas hgt2 c9 t3
    refine Wk ?_
    clear hcs
    exact ⟨WS,WG,WN,_,(show ts.length - (u+1) < m_2 by omega),u+1,rfl,WF,WC⟩
  ·have hi1:i≤n4:=by omega
   have hi1i:(i:Int)≤(n4:Int):=by omega
   have hwq:IntKind.i64.wrap (qn+(i:Int)+1)=qn+((i:Int)+1):=by rw [wrap_i64 oo oo];omega
   have hr:rqB ⟨qg,qn+((i:Int)+1)⟩=true:=by rw [rqB_iff];simp only;omega
   have hst:=hK.step hsc oo hr
   obtain ⟨sb1,sb2⟩:=zeL hsc hr
   have c5:=zas ⟨A,⟨[⟨2,root⟩],3⟩,sc,⟨pe,ps,pc,pt⟩,sg,⟨qg,qn+((i:Int)+1)⟩,sh,sm⟩ (1000+6 * i) hK.ain oo (by simp only;omega) (by rw [hpp,hgr] at sb1;exact sb1) (by rw [hpp,hgr] at sb2;exact sb2)
   rw [hpp,hgr] at hst
   have hbc:=(hst.bs _ (List.mem_append_right _ (List.mem_singleton.2 rfl))).2.2.1.copy
   have hbl:=hK.bl
   have c6:=zlb ⟨[],[],Bs,[]⟩ (zV A ⟨pe,ps,pc,pt⟩ sg ⟨qg,qn+((i:Int)+1)⟩).2 ⟨by simp,fun x hx=>(by cases hx),by simp,fun x hx=>(by cases hx),by simp only;omega,fun b hb=>(hK.bs b hb).2.2.1.copy,by simp,fun x hx=>(by cases hx)⟩ hbc (by simp only;omega)
   have hse:∀ x:Bu,xy Bs x=Bs++[x]:=fun x=>if_pos oo
   rw [hse] at c6
   simp only at c5 c6
   clear hse
   generalize zV A ⟨pe,ps,pc,pt⟩ sg ⟨qg,qn+((i:Int)+1)⟩=Z at *
   obtain ⟨A2,b2⟩:=Z
   have hsX:∀ X:Alg,zbS ⟨X,⟨[⟨2,root⟩],3⟩,sc,⟨pe,ps,pc,pt⟩,sg,⟨qg,qn+((i:Int)+1)⟩,sh,sm⟩=.agg [zA X,.agg [.slice none [.agg [.lit (.int .i64 2),zd root]],.lit (.int .i64 3)],xW sc,.agg [.lit (.int .i64 pe),.lit (.int .i64 ps),.slice none (pc.map z8),zd pt],.slice none (sg.map zw),.agg [.lit (.int .i64 qg),.lit (.int .i64 (qn+((i:Int)+1)))],.lit (.string ⟨sh.toArray⟩),.lit (.int .i64 sm)]:=fun _=>rfl
   simp only at c5 c6 hst
   rw [hsX,hsX] at c5
   rw [hKn,hKn] at c6
   clear sb1 sb2 hK hG hgt hsc hbc hsX c9
   have hcs:=And.intro (c5 (N+4+2)) (And.intro c6 True.intro)
   clear c5 c6
   refine Wk ?_
   clear hcs
   exact ⟨WS,WG,WN,_,(show 5 - (i+1) < m_1 by omega),i+1,A2,Bs++[b2],rfl,WF,WF,WF,WC,WC⟩
end
theorem zd4 (xs:List Int) (_:∀ n∈xs,(Lit.int .i64 n).wf=true) (hx:xs.length≤9223372036854775807) (n:Int) (w:(Lit.int .u8 n).wf=true) (g h:Nat) (hgh:g≠h) (k:Nat):
  ACall prog 4 [.slice none (xs.map jI),.lit (.int .u8 n)] k [(g,yE),(h,zS)] (.lit (.bool true)) []:=by
 obtain ⟨b,_,rfl⟩:=kB w
 exact @zd3 w32 xs hx b.toNat (by have:=b.toNat_lt;omega) g h hgh k
end Go.Proofs.YtglmjglbobhbbaaGreatDoor
