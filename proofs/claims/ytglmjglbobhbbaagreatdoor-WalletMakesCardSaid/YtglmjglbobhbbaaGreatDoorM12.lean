/- Texts H5, H6, H7, H8, joined. -/
import Derived.Test.YtglmjglbobhbbaaGreatDoorM10
import Derived.Test.YtglmjglbobhbbaaGreatDoorM11
namespace Go.Proofs.YtglmjglbobhbbaaGreatDoor
open _root_.Go.Proofs.Tryz
open Go.Ab
attribute [local irreducible] Go.Ab.tyAV Go.Ab.aw Go.Ab.aops Go.Ab.kReg Go.Ab.aThen Go.Ab.aBlk Go.Ab.acond Go.Ab.aguard Go.Ab.astep Go.Ab.AStepX Go.Ab.aRet
@[go_sem] theorem zwz (f:Nat→Option Nat) (n:Nat) (v:Value):AV.renl f (List.replicate n (.lit v))=List.replicate n (.lit v):=by
 rw [AV.renl_map,List.map_replicate];rfl
theorem zqD (n:Nat) (h0:0 < n) (hn:n≤100000000) (k:Nat):
  ACall prog 263 [.nils,.lit (.int .i64 n)] k [] (.ms k 0 1 0 0) [(k,.mrow 0 5 1 (List.replicate n (.lit (.int .u8 0))))]:=by
 have h1:¬ ((n:Int) < 0):=by omega
 have h2:(0:Int) < n:=by omega
 refine Bd func263 ntmps263 fun σ N hp hpn hk hkn hfree=>?_
 refine Wk ?_
 apply kQ
 ·simp (disch:=omega) [go_sem, *,-List.reduceReplicate]
  exact ⟨rfl,rfl,rfl,rfl⟩
 ·simp (disch:=omega) [go_sem, *,-List.reduceReplicate]
 refine Wk ?_
 apply kQ
 ·simp (disch:=omega) [go_sem, *,-List.reduceReplicate]
  exact ⟨rfl,rfl,rfl,rfl⟩
 ·simp (disch:=omega) [go_sem, *,-List.reduceReplicate]
 refine Wk ?_
 apply zlA
 ·(simp (disch:=omega) [go_sem, *,-List.reduceReplicate];try first | rfl | exact ⟨rfl,rfl⟩ | exact ⟨rfl,rfl,rfl⟩)
 refine Wk ?_
 refine zQ (r0:=N+18) (by simp (disch:=omega) [go_sem, *,-List.reduceReplicate];rfl) oo (by simp (disch:=omega) [go_sem];try rfl) (fun id hid=>by simp (disch:=omega) only [zg];try exact hlow id hid) (by simp (disch:=omega) only [zr];rfl) (by simp (disch:=omega) [go_sem])
theorem znF (a b:List UInt8) (h0:0 < a.length+b.length) (hl:a.length+b.length≤100000000) (k:Nat):
  ACall prog 257 [.slice none [.slice none (a.map za),.slice none (b.map za)]] k [] (.slice (some k) ((a++b).map za)) [(k,.row 5 1 (a++b).length)]:=by
 obtain ⟨la,hla⟩:∃ x,a.length=x:=⟨_,rfl⟩
 obtain ⟨lb,hlb⟩:∃ x,b.length=x:=⟨_,rfl⟩
 rw [hla,hlb] at h0 hl
 have c1:=zqD (la+lb) h0 hl
 have hab:a.map za++b.map za=(a++b).map za:=by rw [List.map_append]
 have hcl:(a++b).length=la+lb:=by rw [List.length_append,hla,hlb]
 generalize a++b=c at *
 refine Bd func257 ntmps257 fun σ N hp hpn hk hkn hfree=>?_
 refine Wk ?_
 refine ze zi (by kernel_rfl) [3,5,11,12,13,14,15,16,17,18,19,20,21,22] [] (fun m_ s_ σ_ n_=>∃ (i:Nat) (z:Int),m_=2 - i∧s_ 11=.lit (.int .i64 i)∧s_ 3=.lit (.int .i64 z)∧((i=0∧z=0)∨(i=1∧z=la)∨(i=2∧z=la+lb))) ⟨_,0,0,rfl,WF,WF,WC⟩ ?_
 intro m_1 s_1 σ_1 n_1 hs_1 hf_1 hn_1 hI_1
 obtain ⟨i,z,hm_1,h1_11,h1_3,hi⟩:=hI_1
 have h1_0:=KS hs_1 0
 have h1_2:=KS hs_1 2
 have h1_9:=KS hs_1 9
 have h1_10:=KS hs_1 10
 have hlow:=KL (N:=N) (σ:=σ) hf_1
 rcases hi with ⟨rfl,rfl⟩ | ⟨rfl,rfl⟩ | ⟨rfl,rfl⟩
 ·have hz:¬ ((la:Int) < 0):=by omega
  refine Wk ?_
  exact ⟨WS,WG,WN,_,(show 2 - (1) < m_1 by omega),1,la,rfl,WF,WF,WC⟩
 ·have hz:¬ ((la:Int)+lb < 0):=by omega
  refine Wk ?_
  exact ⟨WS,WG,WN,_,(show 2 - (2) < m_1 by omega),2,la+lb,rfl,WF,WF,WC⟩
 ·have hcs:=And.intro c1 True.intro
  refine Wk ?_
  refine ze zi (by kernel_rfl) [6,8,27,28,29,30,31,32,33,34] [n_1+2] (fun m_ s_ σ_ n_=>∃ (i:Nat) (v:Nat) (m:Nat) (xs:List AV),m_=2 - i∧s_ 27=.lit (.int .i64 i)∧s_ 6=.ms (n_1+2) v 1 0 m∧σ_ (n_1+2)=.mrow v 5 1 xs∧((i=0∧v=0∧m=0∧xs=List.replicate (la+lb) (.lit (.int .u8 0)))∨(i=1∧v=1∧la=m∧xs=a.map za)∨(i=2∧v=2∧la+lb=m∧xs=c.map za))) ⟨_,0,0,0,List.replicate (la+lb) (.lit (.int .u8 0)),rfl,WF,WF,WF,WC⟩ ?_
  intro m_2 s_2 σ_2 n_2 hs_2 hf_2 hn_2 hI_2
  obtain ⟨i,v,m,xs,hm_2,h2_27,h2_6,e2_0,hi⟩:=hI_2
  have h2_2:=KS hs_2 2
  have h2_25:=KS hs_2 25
  have h2_26:=KS hs_2 26
  have hlow:=KL (N:=N) (σ:=σ) hf_2
  rcases hi with ⟨rfl,rfl,rfl,rfl⟩ | ⟨rfl,rfl,rfl,rfl⟩ | ⟨rfl,rfl,rfl,rfl⟩
  ·refine Wk ?_
   exact ⟨WS,WG,WN,_,(show 2 - (1) < m_2 by omega),1,1,la,a.map za,rfl,WF,WF,WF,WC⟩
  ·have ht:(a.map za).take la=a.map za:=List.take_of_length_le (by simp [hla])
   refine Wk ?_
   exact ⟨WS,WG,WN,_,(show 2 - (2) < m_2 by omega),2,2,la+lb,c.map za,rfl,WF,WF,WF,WC⟩
  ·clear hab
   refine qJ 6 (id:=n_1+2) (xs:=c.map za) (k:=la+lb) e2_0 h2_6 (by rw [List.length_map,hcl]) ?_
   refine Wk ?_
   refine zQ (r0:=n_1+2) (by simp (disch:=omega) [go_sem, *,-List.reduceReplicate];rfl) oo (by simp (disch:=omega) [go_sem];try rfl) (fun id hid=>by simp (disch:=omega) only [zg];try exact hlow id hid) (by simp (disch:=omega) only [zr];rfl) (by simp (disch:=omega) [go_sem])
theorem zmq (v:V8):v.l.length=8:=rfl
@[go_sem] theorem zyJ (v:V8):(zeN v).sz=8:=by rw [zeN,zuZ,zmq]
@[go_sem] theorem zpt (v:V8):(zeN v).isAgg=true:=by rw [zeN,zqu]
@[go_sem] theorem zyI (v:V8):(zeN v).cell=true:=by rw [zeN,zr8]
@[go_sem] theorem v8_ren (f:Nat→Option Nat) (v:V8):(zeN v).ren f=zeN v:=by rw [zeN,ztu]
def zdS (h:V8) (r:List UInt8) (n:Nat):AV:=.agg [zeN h,.slice none (r.map za),.lit (.int .i64 n)]
attribute [local irreducible] zeN yE
theorem zqZ (L:List UInt8) (hl:64≤L.length):L.drop (64 * (L.length / 64))=(L.drop 64).drop (64 * ((L.drop 64).length / 64)):=by
 rw [List.drop_drop,List.length_drop];congr 1;omega
section
variable [W:W32]
def comp:Nat→V8→List UInt8→V8
 | 0,h,_=>h
 | q+1,h,L=>comp q (chg h (L.take 64)) (L.drop 64)
theorem zmz (h:V8) (L:List UInt8) (hl:64≤L.length):comp (L.length / 64) h L=comp ((L.drop 64).length / 64) (chg h (L.take 64)) (L.drop 64):=by
 have:L.length / 64=(L.drop 64).length / 64+1:=by rw [List.length_drop];omega
 rw [this,comp]
set_option maxHeartbeats 1000000 in
theorem zc2 (h:V8) (r b:List UInt8) (n:Nat) (h0:0 < r.length+b.length) (hl:r.length+b.length≤100000000) (hn:n≤100000000) (k:Nat) {H:V8} {R:List UInt8} (hH:comp ((r++b).length / 64) h (r++b)=H) (hR:(r++b).drop (64 * ((r++b).length / 64))=R) (g:Nat):
  ACall prog 239 [zdS h r n,.slice none (b.map za)] k [(g,yE)] (zdS H R (n+b.length)) []:=by
 have c1:=znF r b h0 hl
 have hbl:b.length≤100000000:=by omega
 have hll:(r++b).length≤100000000:=by rw [List.length_append];exact hl
 obtain ⟨bl,hbl'⟩:∃ x,b.length=x:=⟨_,rfl⟩
 rw [hbl'] at hbl ⊢
 generalize r++b=L0 at *
 have hRl:R.length≤100000000:=by rw [← hR,List.length_drop];omega
 have c2:=jT R hRl
 have c3:∀ (v:V8) (B:List UInt8),B.length=64→∀ k,ACall prog 258 [zeN v,.slice none (B.map za)] k [(g,yE)] (zeN (chg v B)) []:=fun v B hB k=>znX v B hB g k
 unfold zdS
 refine Bd func239 ntmps239 fun σ N hp hpn hk hkn hfree=>?_
 obtain ⟨hd,hdn⟩:=HD0 hp hpn;clear hp hpn
 have hcs:=And.intro c1 True.intro
 refine Wk ?_
 refine zrd [5] zi (by kernel_rfl) [5,11,12,13,14,15,16,17,18,19,20,21] [N] (by decide) (fun m_ s_ σ_ n_=>∃ (L:List UInt8) (v:V8),m_=L.length∧s_ 5=.slice none (L.map za)∧σ_ (N)=.box 304 (.agg [zeN v,.slice none (r.map za),.lit (.int .i64 n)])∧(L.length≤100000000)∧(comp (L.length / 64) v L=H)∧(L.drop (64 * (L.length / 64))=R)) ⟨_,L0,h,rfl,WF,WF,WC,WC,WC⟩ ?_
 intro m_1 s_1 σ_1 n_1 hs_1 hf_1 hn_1 hI_1
 obtain ⟨L,v,hm_1,h1_5,e1_0,hm,hH,hR⟩:=hI_1
 have h1_1:=KS hs_1 1
 have h1_2:=KS hs_1 2
 have h1_4:=KS hs_1 4
 have k1_0:=KE hf_1 (N+1)
 have k1_1:=KE hf_1 (g)
 have hlow:=KL (N:=N) (σ:=σ) hf_1
 by_cases h64:64≤L.length
 ·have h64':(64:Int)≤(L.length:Int):=by omega
  rw [zmz v L h64] at hH
  rw [zqZ L h64] at hR
  have c4:=c3 v (L.take 64) (by rw [List.length_take];omega)
  have hTm:(L.map za).take 64=(L.take 64).map za:=by rw [List.map_take]
  have hDm:(L.map za).drop 64=(L.drop 64).map za:=by rw [List.map_drop]
  have hDl:(L.drop 64).length=L.length - 64:=by rw [List.length_drop]
  generalize chg v (L.take 64)=v' at *
  generalize L.take 64=T at *
  generalize L.drop 64=D at *
  have hcs:=And.intro c4 True.intro
  clear c1 c2 c3 c4
  refine Wk ?_
  clear hcs
  exact ⟨WS,WG,WN,_,(show (D).length < m_1 by omega),D,v',rfl,WF,WF,WC,WC,WC⟩
 ·have h64':¬ (64:Int)≤(L.length:Int):=by omega
  have h0':L.length / 64=0:=by omega
  rw [h0'] at hH hR
  simp only [comp,Nat.mul_zero,List.drop_zero] at hH hR
  subst hH hR
  have hwr:IntKind.i64.wrap ((n:Int)+bl)=n+bl:=wrap_i64 oo oo
  have hcs:=And.intro c2 True.intro
  clear c1 c2 c3
  rw [show ((n+bl:Nat):Int)=(n:Int)+bl by omega]
  refine Wk ?_
  refine vn (by simp (disch:=omega) [go_sem, *,-List.reduceReplicate];rfl) (AV.sub_agg (by repeat' first | exact ALe.nil | exact AV.le_refl _ | apply ALe.cons | ((first | apply AV.le_slices | apply AV.le_nilsE | apply AV.le_clipE);first | rfl | (simp (disch:=omega) [go_sem, *,-List.reduceReplicate];done)))) (by simp (disch:=omega) [go_sem,-List.reduceReplicate];try rfl) (fun id hid=>by simp (disch:=omega) only [zg,zF,yi];try exact hlow id hid)
end
theorem zoM (k:Nat):ACall prog 240 [] k [] (zdS iv8 [] 0) []:=by
 unfold zdS iv8
 rw [zeN]
 simp only [V8.l,List.map_nil]
 refine Bd func240 ntmps240 fun σ N hp hpn hk hkn hfree=>?_
 refine Wk ?_
 refine vn (by simp (disch:=omega) [go_sem, *,-List.reduceReplicate];rfl) (AV.sub_agg (by repeat' first | exact ALe.nil | exact AV.le_refl _ | apply ALe.cons | ((first | apply AV.le_slices | apply AV.le_nilsE | apply AV.le_clipE);first | rfl | (simp (disch:=omega) [go_sem, *,-List.reduceReplicate];done)))) (by simp (disch:=omega) [go_sem,-List.reduceReplicate];try rfl) (fun id hid=>by simp (disch:=omega) only [zg];try exact hlow id hid)
def dig (v:V8):List UInt8:=(List.range 32).map fun i=>sh8 (v.l.getD (i / 4) 0) (24 - 8 * (i % 4))
theorem zqY (v:V8):(dig v).length=32:=by simp [dig]
theorem zmB (v:V8) (i c:Nat) (_hi:i < 8) (hc:c < 4) (h:4 * i+c < (dig v).length:=by simp only [zqY];omega):(dig v)[4 * i+c]=sh8 (v.l.getD i 0) (24 - 8 * c):=by
 simp only [dig,List.getElem_map,List.getElem_range]
 have h1:(4 * i+c) / 4=i:=by omega
 have h2:(4 * i+c) % 4=c:=by omega
 rw [h1,h2]
def zlm (v:V8):Tg:=⟨dig v,zqY v⟩
def pT (D:Tg) (i:Nat):Tg:=if h:i≤32 then ⟨D.1.take i++List.replicate (32 - i) 0,by rw [List.length_append,List.length_take,List.length_replicate,D.2];omega⟩ else D
theorem pT_0 (D:Tg):pT D 0=zeroTag:=rfl
theorem zwt (D:Tg):pT D 32=D:=by
 apply Subtype.ext
 simp only [pT,Nat.le_refl,dif_pos,Nat.sub_self,List.replicate_zero,List.append_nil]
 exact List.take_of_length_le (by rw [D.2];omega)
theorem zjF (D:Tg) (i:Nat) (h:i < 32) (b:UInt8) (hb:D.1[i]'(by rw [D.2];exact h)=b):zti (pT D i) i b=pT D (i+1):=by
 apply Subtype.ext
 have hl:i < D.1.length:=by rw [D.2];exact h
 simp only [zti,pT,dif_pos (show i≤32 by omega),dif_pos (show i+1≤32 by omega)]
 rw [List.set_append_right _ _ (by rw [List.length_take];omega),List.length_take,show i - min i D.1.length=0 by omega,show 32 - i=(32 - (i+1))+1 by omega,List.replicate_succ,List.set_cons_zero,List.take_add_one,List.getElem?_eq_getElem hl,hb]
 simp
def zh2 (rl n:Nat):List UInt8:=128::(List.replicate ((119 - rl % 64) % 64) 0++yh (8 * (n:Int)))
theorem zlP (rl n:Nat):(zh2 rl n).length=(119 - rl % 64) % 64+9:=by simp [zh2,yh]
theorem idx8 (H:V8) (i:Nat) (hi:i < 8) {u v:AV} (hu:u=zeN H) (hv:v=.lit (.int .i64 i)):zgt prog 297 u v=some (.lit (.int .u32 (H.l.getD i 0))):=by
 subst hu hv
 have hT:zx prog 296=some (false,1):=by kernel_rfl
 have hA:w7 prog 297=some (8,296,1):=by kernel_rfl
 have hl:i < H.l.length:=by rw [zmq];exact hi
 have hg:(H.l.map uAV)[i]?=some (.lit (.int .u32 (H.l.getD i 0))):=by
  rw [List.getElem?_map,List.getElem?_eq_getElem hl,List.getD_eq_getElem?_getD,List.getElem?_eq_getElem hl];rfl
 have hs:AV.szl ((H.l.map uAV).take i)=i:=by rw [zf4,zmq];omega
 rw [zeN,zfm]
 simp only [zgt,Int.toNat_natCast,hA,hg]
 simp [hT,hs,hi,AV.isAgg,AV.sz,AV.one]
section
variable [W:W32]
set_option maxHeartbeats 2000000 in
theorem zoV (h:V8) (r:List UInt8) (n:Nat) (hl:r.length≤10000000) (hn:n≤10000000) {H:V8} (hH:comp ((r++zh2 r.length n).length / 64) h (r++zh2 r.length n)=H) (g k:Nat):
  ACall prog 238 [zdS h r n] k [(g,yE)] (zd (zlm H)) []:=by
 obtain ⟨R,hR⟩:∃ R,(r++zh2 r.length n).drop (64 * ((r++zh2 r.length n).length / 64))=R:=⟨_,rfl⟩
 have hpl:=zlP r.length n
 have c1:=zc2 h r (zh2 r.length n) n oo oo oo (hH:=hH) (hR:=hR) (g:=g)
 obtain ⟨pl,hpl'⟩:∃ x,(zh2 r.length n).length=x:=⟨_,rfl⟩
 rw [hpl'] at c1
 clear hpl'
 clear hH hR
 generalize hrl:r.length=rl at hl hpl c1
 obtain ⟨K,hK⟩:∃ K,(119 - rl % 64) % 64=K:=⟨_,rfl⟩
 unfold zh2 at c1
 rw [hK] at c1
 unfold zdS at *
 refine Bd func238 ntmps238 fun σ N hp hpn hk hkn hfree=>?_
 obtain ⟨hd,hdn⟩:=HD0 hp hpn;clear hp hpn
 refine Wk ?_
 refine yn (N+2) zi (by kernel_rfl) [3,10,11,12,13,14,15,16,17,18,19,20] [] (fun m_ s_ σ_ n_=>∃ (z:Nat) (q:Nat) (p:List UInt8),m_=K - z∧s_ 3=.slice (some q) (p.map za)∧σ_ (q)=.row 5 1 p.length∧(z≤K)∧(p=128::List.replicate z 0)∧(N+2≤q)∧(q < n_)) ⟨_,0,_,[128],rfl,WF,WF,WC,WC,WC,WC⟩ ?_
 intro m_1 s_1 σ_1 n_1 hs_1 hf_1 hn_1 hI_1
 obtain ⟨z,q,p,hm_1,h1_3,e1_0,hz,hp,hq,hqn⟩:=hI_1
 have h1_1:=KS hs_1 1
 have h1_2:=KS hs_1 2
 have k1_0:=KE hf_1 (N)
 have k1_1:=KE hf_1 (N+1)
 have k1_2:=KE hf_1 (g)
 have hlow:=KL (N:=N) (σ:=σ) hf_1
 have hpz:p.length=z+1:=by rw [hp];simp
 have hKb:K < 64:=by omega
 have htm:((rl:Int)+(p.length:Int)).tmod 64=(((rl+p.length) % 64:Nat):Int):=by rw [Int.tmod_eq_emod_of_nonneg oo];omega
 by_cases hzK:z=K
 ·subst hzK
  have hM:(rl+p.length) % 64=56:=by omega
  rw [hM] at htm
  obtain ⟨P,hP⟩:∃ P,p=P:=⟨_,rfl⟩
  have hPl:p.length≤64:=by omega
  have hPe:(128::(List.replicate z 0++yh (8 * (n:Int))))=p++yh (8 * (n:Int)):=by rw [hp];rfl
  rw [hPe] at c1
  clear hPe hp hM hpz hP
  have hw8:IntKind.u64.wrap ((n:Int) * 8)=8 * (n:Int):=by rw [yq oo oo];omega
  have hwn:IntKind.u64.wrap (n:Int)=(n:Int):=yq oo oo
  have e7:=z9 (8 * (n:Int)) 56
  have e6:=z9 (8 * (n:Int)) 48
  have e5:=z9 (8 * (n:Int)) 40
  have e4:=z9 (8 * (n:Int)) 32
  have e3:=z9 (8 * (n:Int)) 24
  have e2:=z9 (8 * (n:Int)) 16
  have e1:=z9 (8 * (n:Int)) 8
  have e0:=z9 (8 * (n:Int)) 0
  simp only [Int.reducePow,Int.pow_zero,Int.fdiv_one] at e7 e6 e5 e4 e3 e2 e1 e0
  unfold yh at c1
  generalize sh8 (8 * (n:Int)) 56=b7 at *
  generalize sh8 (8 * (n:Int)) 48=b6 at *
  generalize sh8 (8 * (n:Int)) 40=b5 at *
  generalize sh8 (8 * (n:Int)) 32=b4 at *
  generalize sh8 (8 * (n:Int)) 24=b3 at *
  generalize sh8 (8 * (n:Int)) 16=b2 at *
  generalize sh8 (8 * (n:Int)) 8=b1 at *
  generalize sh8 (8 * (n:Int)) 0=b0 at *
  generalize 8 * (n:Int)=m at *
  refine Wk ?_
  refine yn (N+2) zi (by kernel_rfl) [3,5,25,26,27,28,29,30,31,32,33,34,35] [] (fun m_ s_ σ_ n_=>∃ (u:Nat) (q':Nat) (acc:List UInt8),m_=8 - u∧s_ 5=.lit (.int .i64 (56 - 8 * (u:Int)))∧s_ 3=.slice (some q') ((p++acc).map za)∧σ_ (q')=.row 5 1 (p.length+acc.length)∧(u≤8)∧(N+2≤q')∧(q' < n_)∧(acc=[b7,b6,b5,b4,b3,b2,b1,b0].take u)) ⟨_,0,q,[],rfl,WF,WF,WF,WC,WC,WC,WC⟩ ?_
  intro m_2 s_2 σ_2 n_2 hs_2 hf_2 hn_2 hI_2
  obtain ⟨u,q',acc,hm_2,h2_5,h2_3,e2_0,hu,hq',hqn',hacc⟩:=hI_2
  have h2_1:=KS hs_2 1
  have h2_2:=KS hs_2 2
  have h2_4:=KS hs_2 4
  have k2_0:=KE hf_2 (N)
  have k2_1:=KE hf_2 (N+1)
  have k2_2:=KE hf_2 (g)
  have hlow:=KL (N:=N) (σ:=σ) hf_2
  have hb7:za b7=.lit (.int .u8 b7.toNat):=rfl
  have hb6:za b6=.lit (.int .u8 b6.toNat):=rfl
  have hb5:za b5=.lit (.int .u8 b5.toNat):=rfl
  have hb4:za b4=.lit (.int .u8 b4.toNat):=rfl
  have hb3:za b3=.lit (.int .u8 b3.toNat):=rfl
  have hb2:za b2=.lit (.int .u8 b2.toNat):=rfl
  have hb1:za b1=.lit (.int .u8 b1.toNat):=rfl
  have hb0:za b0=.lit (.int .u8 b0.toNat):=rfl
  have hcase:u=0∨u=1∨u=2∨u=3∨u=4∨u=5∨u=6∨u=7∨u=8:=by omega
  rcases hcase with rfl | hcase
  ·simp only [List.take_zero] at hacc
   subst hacc
   refine Wk ?_
   exact ⟨WS,WG,WN,_,(show 8 - (1) < m_2 by omega),1,_,[b7],rfl,WF,WF,WF,WC,WC,WC,WC⟩
  rcases hcase with rfl | hcase
  ·simp only [List.take_succ_cons,List.take_zero] at hacc
   subst hacc
   refine Wk ?_
   exact ⟨WS,WG,WN,_,(show 8 - (2) < m_2 by omega),2,_,[b7,b6],rfl,WF,WF,WF,WC,WC,WC,WC⟩
  rcases hcase with rfl | hcase
  ·simp only [List.take_succ_cons,List.take_zero] at hacc
   subst hacc
   refine Wk ?_
   exact ⟨WS,WG,WN,_,(show 8 - (3) < m_2 by omega),3,_,[b7,b6,b5],rfl,WF,WF,WF,WC,WC,WC,WC⟩
  rcases hcase with rfl | hcase
  ·simp only [List.take_succ_cons,List.take_zero] at hacc
   subst hacc
   refine Wk ?_
   exact ⟨WS,WG,WN,_,(show 8 - (4) < m_2 by omega),4,_,[b7,b6,b5,b4],rfl,WF,WF,WF,WC,WC,WC,WC⟩
  rcases hcase with rfl | hcase
  ·simp only [List.take_succ_cons,List.take_zero] at hacc
   subst hacc
   refine Wk ?_
   exact ⟨WS,WG,WN,_,(show 8 - (5) < m_2 by omega),5,_,[b7,b6,b5,b4,b3],rfl,WF,WF,WF,WC,WC,WC,WC⟩
  rcases hcase with rfl | hcase
  ·simp only [List.take_succ_cons,List.take_zero] at hacc
   subst hacc
   refine Wk ?_
   exact ⟨WS,WG,WN,_,(show 8 - (6) < m_2 by omega),6,_,[b7,b6,b5,b4,b3,b2],rfl,WF,WF,WF,WC,WC,WC,WC⟩
  rcases hcase with rfl | hcase
  ·simp only [List.take_succ_cons,List.take_zero] at hacc
   subst hacc
   refine Wk ?_
   exact ⟨WS,WG,WN,_,(show 8 - (7) < m_2 by omega),7,_,[b7,b6,b5,b4,b3,b2,b1],rfl,WF,WF,WF,WC,WC,WC,WC⟩
  rcases hcase with rfl | hcase
  ·simp only [List.take_succ_cons,List.take_zero] at hacc
   subst hacc
   refine Wk ?_
   exact ⟨WS,WG,WN,_,(show 8 - (8) < m_2 by omega),8,_,[b7,b6,b5,b4,b3,b2,b1,b0],rfl,WF,WF,WF,WC,WC,WC,WC⟩
  subst hcase
  simp only [List.take_succ_cons,List.take_zero] at hacc
  subst hacc
  have hcs:=And.intro c1 True.intro
  clear c1
  clear e0 e1 e2 e3 e4 e5 e6 e7 hb0 hb1 hb2 hb3 hb4 hb5 hb6 hb7
  refine Wk ?_
  refine zrb (e:=297) (q:=0) (xs:=[zeN H,.slice none (R.map za),.lit (.int .i64 ((n+pl:Nat):Int))]) (y:=zeN H) (by kernel_rfl) (by simp (disch:=omega) [go_sem, *,-List.reduceReplicate]) rfl rfl (by rw [zpt,zyJ];kernel_rfl) (.inl (zpt H)) ?_
  have hD0:pT (zlm H) (4 * 0)=zeroTag:=pT_0 _
  refine Wk ?_
  refine ze zi (by kernel_rfl) [7,8,40,41,42,43,44,45,46,47,48,49,50,51,52,53,54,55,56,57,58,59,60,61,62,63,64,65,66,67,68,69,70] [n_2+2] (fun m_ s_ σ_ n_=>∃ (i:Nat) (P:Tg),m_=8 - i∧s_ 40=.lit (.int .i64 i)∧σ_ (n_2+2)=.box 28 (zd P)∧(i≤8)∧(pT (zlm H) (4 * i)=P)) ⟨_,0,zeroTag,rfl,WF,WF,WC,WC⟩ ?_
  intro m_3 s_3 σ_3 n_3 hs_3 hf_3 hn_3 hI_3
  obtain ⟨i,P,hm_3,h3_40,e3_0,hi,hP⟩:=hI_3
  have h3_2:=KS hs_3 2
  have h3_6:=KS hs_3 6
  have h3_39:=KS hs_3 39
  have k3_0:=KE hf_3 (N+1)
  have k3_1:=KE hf_3 (g)
  have hlow:=KL (N:=N) (σ:=σ) hf_3
  by_cases hi8:i=8
  ·subst hi8
   have:P=zlm H:=by rw [← hP];exact zwt _
   subst this
   exact W0
  ·have hil:(i:Int) < 8:=by omega
   have hil':i < 8:=by omega
   obtain ⟨x,hx⟩:∃ x,H.l.getD i 0=x:=⟨_,rfl⟩
   have d0:=zmB H i 0 hil' oo
   have d1:=zmB H i 1 hil' oo
   have d2:=zmB H i 2 hil' oo
   have d3:=zmB H i 3 hil' oo
   rw [hx] at d0 d1 d2 d3
   have s0:=zjF (zlm H) (4 * i) oo _ d0
   have s1:=zjF (zlm H) (4 * i+1) oo _ d1
   have s2:=zjF (zlm H) (4 * i+2) oo _ d2
   have s3:=zjF (zlm H) (4 * i+3) oo _ d3
   have e0:=z9 x 24
   have e1:=z9 x 16
   have e2:=z9 x 8
   have e3:=z9 x 0
   simp only [Nat.mul_zero,Nat.mul_one,Nat.reduceMul,Nat.sub_zero,Nat.reduceSub] at s0 s1 s2 s3
   simp only [Int.reducePow,Int.pow_zero,Int.fdiv_one] at e0 e1 e2 e3
   clear d0 d1 d2 d3
   have h4:4 * (i+1)=4 * i+3+1:=by omega
   rw [hP] at s0
   generalize sh8 x 24=b0 at *
   generalize sh8 x 16=b1 at *
   generalize sh8 x 8=b2 at *
   generalize sh8 x 0=b3 at *
   obtain ⟨P1,hP1⟩:∃ z,pT (zlm H) (4 * i+1)=z:=⟨_,rfl⟩
   obtain ⟨P2,hP2⟩:∃ z,pT (zlm H) (4 * i+2)=z:=⟨_,rfl⟩
   obtain ⟨P3,hP3⟩:∃ z,pT (zlm H) (4 * i+3)=z:=⟨_,rfl⟩
   obtain ⟨P4,hP4⟩:∃ z,pT (zlm H) (4 * (i+1))=z:=⟨_,rfl⟩
   rw [show 4 * i+3+1=4 * (i+1) by omega,hP3,hP4] at s3
   rw [show 4 * i+1+1=4 * i+2 by omega,hP1,hP2] at s1
   rw [show 4 * i+2+1=4 * i+3 by omega,hP2,hP3] at s2
   rw [hP1] at s0
   clear hP1 hP2 hP3 hP h4
   have i0:(4 * (i:Int)).toNat=4 * i:=by omega
   have i1:(4 * (i:Int)+1).toNat=4 * i+1:=by omega
   have i2:(4 * (i:Int)+2).toNat=4 * i+2:=by omega
   have i3:(4 * (i:Int)+3).toNat=4 * i+3:=by omega
   have l0:4 * i < 32:=by omega
   have l1:4 * i+1 < 32:=by omega
   have l2:4 * i+2 < 32:=by omega
   have l3:4 * i+3 < 32:=by omega
   have t0:(zd P).put [4 * i] (.lit (.int .u8 (b0.toNat:Int)))=zd P1:=by rw [← s0];exact zhR P (4 * i) b0 l0
   have t1:(zd P1).put [4 * i+1] (.lit (.int .u8 (b1.toNat:Int)))=zd P2:=by rw [← s1];exact zhR P1 (4 * i+1) b1 l1
   have t2:(zd P2).put [4 * i+2] (.lit (.int .u8 (b2.toNat:Int)))=zd P3:=by rw [← s2];exact zhR P2 (4 * i+2) b2 l2
   have t3:(zd P3).put [4 * i+3] (.lit (.int .u8 (b3.toNat:Int)))=zd P4:=by rw [← s3];exact zhR P3 (4 * i+3) b3 l3
   clear s0 s1 s2 s3
   refine Wk ?_
   refine zgy (v:=.lit (.int .u32 x)) (by rw [← hx];exact idx8 H i hil' (by simp (disch:=omega) [go_sem, *,-List.reduceReplicate]) (by simp (disch:=omega) [go_sem, *,-List.reduceReplicate])) ?_
   clear hx
   refine Wk ?_
   exact ⟨WS,WG,WN,_,(show 8 - (i+1) < m_3 by omega),i+1,P4,rfl,WF,WF,WC,WC⟩
 ·have hM:(rl+p.length) % 64≠56:=by omega
  have htm2:((rl:Int)+((z:Int)+1)).tmod 64=(((rl+p.length) % 64:Nat):Int):=by rw [← htm];congr 1;omega
  clear htm
  generalize (rl+p.length) % 64=M at *
  have hM1:((M:Int) != 56)=true:=by simp;omega
  have hp2:128::List.replicate (z+1) 0=p++[0]:=by rw [hp,List.replicate_succ'];rfl
  have hb0:za 0=.lit (.int .u8 0):=rfl
  clear hp
  have hpl3:(p++[0]).length=z+1+1:=by simp;omega
  obtain ⟨p',hp'⟩:∃ x,p++[0]=x:=⟨_,rfl⟩
  have hp4:p.map za++[.lit (.int .u8 0)]=p'.map za:=by rw [← hp',List.map_append];rfl
  rw [hp'] at hp2 hpl3
  have hp5:=hp2.symm
  clear hp2 hp'
  refine Wk ?_
  exact ⟨WS,WG,WN,_,(show K - (z+1) < m_1 by omega),z+1,_,p',rfl,WF,WF,WC,WC,WC,WC⟩
end
theorem zsZ {a b:Nat} (h:a % 64=b % 64) (n:Nat):zh2 a n=zh2 b n:=by rw [zh2,zh2,h]
theorem zmk (k:Nat):ACall prog 232 [] k [] (zeN iv8) []:=by
 rw [zeN]
 unfold iv8
 simp only [V8.l]
 refine Bd func232 ntmps232 fun σ N hp hpn hk hkn hfree=>?_
 exact W0
section
variable [W:W32]
theorem zoZ (h:V8) (L:List UInt8):∀ (q1 q2:Nat),comp (q1+q2) h L=comp q2 (comp q1 h L) (L.drop (64 * q1)):=by
 intro q1
 induction q1 generalizing h L with
 | zero=>intro q2;simp [comp]
 | succ q1 ih=>
  intro q2
  rw [show q1+1+q2=(q1+q2)+1 by omega,comp,comp,ih,List.drop_drop,show 64+64 * q1=64 * (q1+1) by omega]
theorem zo0 (h:V8) (b p:List UInt8):∀ (q:Nat),64 * q≤b.length→comp q h (b++p)=comp q h b:=by
 intro q
 induction q generalizing h b with
 | zero=>intro _;rfl
 | succ q ih=>
  intro hq
  rw [comp,comp,List.take_append_of_le_length oo,List.drop_append_of_le_length oo,ih _ _ (by rw [List.length_drop];omega)]
def zxJ (b:List UInt8):V8:=comp ((b++zh2 b.length b.length).length / 64) iv8 (b++zh2 b.length b.length)
def zsg (b:List UInt8):Tg:=zlm (zxJ b)
theorem zqo (b:List UInt8) (H:V8) (R:List UInt8) (hH:comp (b.length / 64) iv8 b=H) (hR:b.drop (64 * (b.length / 64))=R):
  comp ((R++zh2 R.length b.length).length / 64) H (R++zh2 R.length b.length)=zxJ b:=by
 have hRl:R.length=b.length % 64:=by rw [← hR,List.length_drop];omega
 have hp:zh2 R.length b.length=zh2 b.length b.length:=zsZ (by rw [hRl];omega) _
 have hpl:=zlP b.length b.length
 rw [zxJ,hp]
 generalize zh2 b.length b.length=p at *
 have e1:(b++p).length / 64=b.length / 64+(R++p).length / 64:=by rw [List.length_append,List.length_append,hRl];omega
 rw [e1,zoZ,zo0 iv8 b p (b.length / 64) oo,hH,List.drop_append_of_le_length oo,hR]
set_option maxHeartbeats 2000000 in
theorem zoU (b:List UInt8) (hl:b.length≤1000000) (k:Nat):
  ACall prog 199 [.slice none (b.map za)] k [] (zd (zsg b)) []:=by
 have c1:=zcV (8 * (b.length:Int)) oo oo
 have c2:=zmk
 have hpl:=zlP b.length b.length
 have hM:b++zh2 b.length b.length=b++128::(List.replicate ((119 - b.length % 64) % 64) 0++yh (8 * (b.length:Int))):=rfl
 have hT:zsg b=zlm (comp ((b++zh2 b.length b.length).length / 64) iv8 (b++zh2 b.length b.length)):=rfl
 rw [hT]
 have hel:=xD (8 * (b.length:Int))
 generalize yh (8 * (b.length:Int))=E at *
 generalize b++zh2 b.length b.length=M at *
 obtain ⟨K,hK⟩:∃ K,(119 - b.length % 64) % 64=K:=⟨_,rfl⟩
 rw [hK] at hM
 refine Bd func199 ntmps199 fun σ N hp hpn hk hkn hfree=>?_
 refine Wk ?_
 refine yn (N+1) zi (by kernel_rfl) [3,13,14,15,16,17,18,19] [] (fun m_ s_ σ_ n_=>∃ (z:Nat) (q:Nat) (p:List UInt8),m_=K - z∧s_ 3=.slice (some q) (p.map za)∧σ_ (q)=.row 5 1 p.length∧(z≤K)∧(p=b++128::List.replicate z 0)∧(p.length=b.length+(z+1))∧(N+1≤q)∧(q < n_)) ⟨_,0,_,b++[128],rfl,WF,WF,WC,WC,WC,WC,WC⟩ ?_
 intro m_1 s_1 σ_1 n_1 hs_1 hf_1 hn_1 hI_1
 obtain ⟨z,q,p,hm_1,h1_3,e1_0,hz,hp,hpz,hq,hqn⟩:=hI_1
 have h1_0:=KS hs_1 0
 have h1_2:=KS hs_1 2
 have k1_0:=KE hf_1 (N)
 have hlow:=KL (N:=N) (σ:=σ) hf_1
 have hKb:K < 64:=by omega
 by_cases hzK:z=K
 ·subst hzK
  have htm:(p.length:Int).tmod 64=56:=by rw [Int.tmod_eq_emod_of_nonneg oo];omega
  have hPe:M=p++E:=by rw [hM,hp];simp
  have hpl2:p.length≤2000000:=by omega
  have hml:p.length+E.length=M.length:=by rw [hPe,List.length_append]
  have hmm:p.map za++E.map za=M.map za:=by rw [hPe,List.map_append]
  have hM64:M.length % 64=0:=by omega
  have hMl:M.length≤3000000:=by omega
  have hw8:IntKind.u64.wrap ((b.length:Int) * 8)=8 * (b.length:Int):=by rw [yq oo oo];omega
  have hwn:IntKind.u64.wrap (b.length:Int)=(b.length:Int):=yq oo oo
  have hcs:=And.intro c1 (And.intro c2 True.intro)
  obtain ⟨H,hH⟩:∃ H,comp (M.length / 64) iv8 M=H:=⟨_,rfl⟩
  have hH0:comp ((M.drop 0).length / 64) iv8 (M.drop 0)=H:=hH
  rw [hH]
  clear hPe hp hpz c1 c2 hM hH
  refine Wk ?_
  refine ze zi (by kernel_rfl) [5,28,29,30,31,32,33,34,35,36,37,38,39,40] [n_1+13] (fun m_ s_ σ_ n_=>∃ (i:Nat) (v:V8),m_=M.length - i∧s_ 5=.lit (.int .i64 i)∧σ_ (n_1+13)=.box 297 (zeN v)∧(i≤M.length)∧((M.length - i) % 64=0)∧(comp ((M.drop i).length / 64) v (M.drop i)=H)) ⟨_,0,iv8,rfl,WF,WF,WC,WC,WC⟩ ?_
  intro m_2 s_2 σ_2 n_2 hs_2 hf_2 hn_2 hI_2
  obtain ⟨i,v,hm_2,h2_5,e2_0,hi,hi64,hv⟩:=hI_2
  have h2_2:=KS hs_2 2
  have h2_3:=KS hs_2 3
  have h2_4:=KS hs_2 4
  have k2_0:=KE hf_2 (N)
  have hlow:=KL (N:=N) (σ:=σ) hf_2
  by_cases hie:i=M.length
  ·subst hie
   have hvH:v=H:=by rw [← hv];simp [comp]
   subst hvH
   clear hv
   have hD0:pT (zlm v) 0=zeroTag:=pT_0 _
   refine Wk ?_
   refine ze zi (by kernel_rfl) [7,41,42,43,44,45,46,47,48,49,50,51,52,53,54,55,56,57] [n_2+4] (fun m_ s_ σ_ n_=>∃ (i:Nat) (P:Tg),m_=32 - i∧s_ 7=.lit (.int .i64 i)∧σ_ (n_2+4)=.box 28 (zd P)∧(i≤32)∧(pT (zlm v) i=P)) ⟨_,0,zeroTag,rfl,WF,WF,WC,WC⟩ ?_
   intro m_3 s_3 σ_3 n_3 hs_3 hf_3 hn_3 hI_3
   obtain ⟨i,P,hm_3,h3_7,e3_0,hi,hP⟩:=hI_3
   have h3_2:=KS hs_3 2
   have h3_4:=KS hs_3 4
   have h3_6:=KS hs_3 6
   have k3_0:=KE hf_3 (N)
   have k3_1:=KE hf_3 (n_1+13)
   have hlow:=KL (N:=N) (σ:=σ) hf_3
   by_cases hi32:i=32
   ·subst hi32
    have:P=zlm v:=by rw [← hP];exact zwt _
    subst this
    exact W0
   ·have hil:(i:Int) < 32:=by omega
    have hil':i < 32:=by omega
    obtain ⟨w,c,hic,hc,hw⟩:∃ w c,i=4 * w+c∧c < 4∧w < 8:=⟨i / 4,i % 4,by omega,by omega,by omega⟩
    have hdv:(i:Int).tdiv 4=w:=by rw [Int.tdiv_eq_ediv_of_nonneg oo];omega
    have hdm:(i:Int).tmod 4=c:=by rw [Int.tmod_eq_emod_of_nonneg oo];omega
    obtain ⟨x,hx⟩:∃ x,v.l.getD w 0=x:=⟨_,rfl⟩
    have d0:=zmB v w c hw hc
    rw [hx] at d0
    have hg:(zeN v).get [w]=some (.lit (.int .u32 x)):=by rw [zeN,zu0 v.l w (by rw [zmq];exact hw),hx]
    have ho:(zeN v).offs [w]=w:=by rw [zeN,zr9 v.l w (by rw [zmq];exact hw)]
    have s0:=zjF (zlm v) (4 * w+c) oo _ d0
    have e0:=z9 x (24 - 8 * c)
    rw [← hic,hP] at s0
    generalize sh8 x (24 - 8 * c)=b0 at *
    obtain ⟨P1,hP1⟩:∃ z,pT (zlm v) (i+1)=z:=⟨_,rfl⟩
    rw [hP1] at s0
    have t0:(zd P).put [i] (.lit (.int .u8 (b0.toNat:Int)))=zd P1:=by rw [← s0];exact zhR P i b0 hil'
    have hw8:(w:Int) < 8:=by omega
    clear hx d0 s0 hP hic
    have hcc:c=0∨c=1∨c=2∨c=3:=by omega
    rcases hcc with rfl | rfl | rfl | rfl
    all_goals (
     simp only [Nat.mul_zero,Nat.mul_one,Nat.reduceMul,Nat.sub_zero,Nat.reduceSub,Int.reducePow,Int.pow_zero,Int.fdiv_one] at e0
     refine Wk ?_
     exact ⟨WS,WG,WN,_,(show 32 - (i+1) < m_3 by omega),i+1,P1,rfl,WF,WF,WC,WC⟩)
  ·have hi64':i+64≤M.length:=by omega
   have hil:(i:Int) < (M.length:Int):=by omega
   have hdl:(M.drop i).length=M.length - i:=List.length_drop
   rw [zmz v (M.drop i) oo,List.drop_drop] at hv
   have c4:=zlY v ((M.drop i).take 64) (by rw [List.length_take];omega)
   have hTm:((M.map za).take (i+64)).drop i=((M.drop i).take 64).map za:=by rw [← List.map_take,← List.map_drop,List.drop_take,Nat.add_sub_cancel_left]
   have hTi:((i:Int)+64).toNat=i+64:=by omega
   generalize chg v ((M.drop i).take 64)=v' at *
   generalize (M.drop i).take 64=T at *
   have hcs:=And.intro c4 True.intro
   clear c4 hdl
   refine Wk ?_
   exact ⟨WS,WG,WN,_,(show M.length - (i+64) < m_2 by omega),i+64,v',rfl,WF,WF,WC,WC,WC⟩
 ·have htm:(p.length:Int).tmod 64=((p.length % 64:Nat):Int):=by rw [Int.tmod_eq_emod_of_nonneg oo];omega
  have hM':p.length % 64≠56:=by omega
  have hpl2:p.length≤2000000:=by omega
  have hpl3:p.length+1=b.length+(z+1+1):=by omega
  generalize p.length % 64=Q at *
  have hM1:((Q:Int) != 56)=true:=by simp;omega
  obtain ⟨p',hp'⟩:∃ x,p++[0]=x:=⟨_,rfl⟩
  have hp2:p'=b++128::List.replicate (z+1) 0:=by rw [← hp',hp,List.append_assoc,List.cons_append,← List.replicate_succ']
  have hp4:p.map za++[.lit (.int .u8 0)]=p'.map za:=by rw [← hp',List.map_append];rfl
  have hp5:p'.length=p.length+1:=by rw [← hp',List.length_append];rfl
  clear hp hp' hpz hM c1 c2
  refine Wk ?_
  exact ⟨WS,WG,WN,_,(show K - (z+1) < m_1 by omega),z+1,_,p',rfl,WF,WF,WC,WC,WC,WC,WC⟩
end
end Go.Proofs.YtglmjglbobhbbaaGreatDoor
