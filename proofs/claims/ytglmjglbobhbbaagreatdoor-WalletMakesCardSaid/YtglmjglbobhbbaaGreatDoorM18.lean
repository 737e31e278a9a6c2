/- Texts K8, K9, joined. -/
import Derived.Test.YtglmjglbobhbbaaGreatDoorM15
namespace Go.Proofs.YtglmjglbobhbbaaGreatDoor
open _root_.Go.Proofs.Tryz
open Go.Ab
attribute [local irreducible] Go.Ab.tyAV Go.Ab.aw Go.Ab.aops Go.Ab.kReg Go.Ab.aThen Go.Ab.aBlk Go.Ab.acond Go.Ab.aguard Go.Ab.astep Go.Ab.AStepX Go.Ab.aRet
set_option maxHeartbeats 4000000 in
theorem zsj (kn f t:Nat) (hk:kn=4∨kn=5) (hf:f≤67108864) (ht:t≤67108864) (hp0:PrOk ⟨kn,0,f,t,[],0⟩) (h:yc ⟨kn,0,f,t,[],0⟩=true) (d k:Nat):
  ACall prog 226 [zU ⟨kn,0,f,t,[],0⟩] k [(d,zS)] (.tup [.slice none ((leb kn++(leb f++leb t)).map za),.lit (.int .i64 0)]) []:=by
 have c1:=xZ _ hp0 d
 rw [h] at c1
 have c2:=zag [kn] [] (by simp) (by simp) (by simp;omega) (leb kn) (by simp)
 have hl:=zh kn 7 oo
 have c3:=zag [f,t] (leb kn) (by simp) (by simp;omega) (by simp;omega) (leb kn++(leb f++leb t)) (by simp)
 simp only [List.map_nil] at c2 c3
 generalize leb kn++(leb f++leb t)=R at *
 generalize leb kn=L at *
 simp only [zU] at *
 rcases hk with rfl | rfl
 ·refine Bd func226 ntmps226 fun σ N hp hpn hk hkn hfree=>?_
  obtain ⟨hd,hdn⟩:=HD0 hp hpn;clear hp hpn
  have hcs:=And.intro c1 (And.intro c2 (And.intro c3 True.intro))
  clear c1 c2 c3
  exact WL
 ·refine Bd func226 ntmps226 fun σ N hp hpn hk hkn hfree=>?_
  obtain ⟨hd,hdn⟩:=HD0 hp hpn;clear hp hpn
  have hcs:=And.intro c1 (And.intro c2 (And.intro c3 True.intro))
  clear c1 c2 c3
  exact WL
theorem zey {n:List UInt8} (h:zbO n=true):1≤n.length∧n.length≤16:=by
 unfold zbO at h
 simp only [Bool.and_eq_true,decide_eq_true_eq] at h
 exact h.1
set_option maxHeartbeats 4000000 in
theorem zpE (n:List UInt8) (hn:zbO n=true) (hp0:PrOk ⟨6,0,0,0,n,0⟩) (h:yc ⟨6,0,0,0,n,0⟩=true) (d k:Nat):
  ACall prog 226 [zU ⟨6,0,0,0,n,0⟩] k [(d,zS)] (.tup [.slice none ((leb 6++yg n).map za),.lit (.int .i64 0)]) []:=by
 have c1:=xZ _ hp0 d
 rw [h] at c1
 have hnl:=zey hn
 have c2:=zag [6] [] (by simp) (by simp) (by simp) (leb 6) (by simp)
 have hl:=zh 6 7 oo
 have c3:=zpV (leb 6) n oo oo
 simp only [List.map_nil] at c2 c3
 generalize leb 6++yg n=R at *
 generalize leb 6=L at *
 simp only [zU] at *
 refine Bd func226 ntmps226 fun σ N hp hpn hk hkn hfree=>?_
 obtain ⟨hd,hdn⟩:=HD0 hp hpn;clear hp hpn
 have hcs:=And.intro c1 (And.intro c2 (And.intro c3 True.intro))
 clear c1 c2 c3
 exact WL
set_option maxHeartbeats 4000000 in
theorem zqB (x:Nat) (hx:x≤1000000) (hp0:PrOk ⟨7,0,0,0,[],x⟩) (h:yc ⟨7,0,0,0,[],x⟩=true) (d k:Nat):
  ACall prog 226 [zU ⟨7,0,0,0,[],x⟩] k [(d,zS)] (.tup [.slice none ((leb 7++leb x).map za),.lit (.int .i64 0)]) []:=by
 have c1:=xZ _ hp0 d
 rw [h] at c1
 have c2:=zag [7] [] (by simp) (by simp) (by simp) (leb 7) (by simp)
 have hl:=zh 7 7 oo
 have c3:=zag [x] (leb 7) (by simp) (by simp;omega) (by simp;omega) (leb 7++leb x) (by simp)
 simp only [List.map_nil] at c2 c3
 generalize leb 7++leb x=R at *
 generalize leb 7=L at *
 simp only [zU] at *
 refine Bd func226 ntmps226 fun σ N hp hpn hk hkn hfree=>?_
 obtain ⟨hd,hdn⟩:=HD0 hp hpn;clear hp hpn
 have hcs:=And.intro c1 (And.intro c2 (And.intro c3 True.intro))
 clear c1 c2 c3
 exact WL
theorem ziX {kn:Nat} {m:Int} (hk:kn=1∨kn=2∨kn=3):xH ⟨kn,m,0,0,[],0⟩=leb kn++yh m:=by
 unfold xH
 simp only
 rw [if_neg oo,if_neg oo,if_neg oo]
 rfl
theorem ziY {kn f t:Nat} (hk:kn=4∨kn=5):xH ⟨kn,0,f,t,[],0⟩=leb kn++(leb f++leb t):=by
 unfold xH
 simp only
 rw [if_pos oo]
 rfl
theorem zn4 (n:List UInt8):xH ⟨6,0,0,0,n,0⟩=leb 6++yg n:=rfl
theorem zpS (x:Nat):xH ⟨7,0,0,0,[],x⟩=leb 7++leb x:=rfl
theorem zcD (p:Pr) (hp0:PrOk p) (h:yc p=true) (d k:Nat):
  ACall prog 226 [zU p] k [(d,zS)] (.tup [.slice none ((xH p).map za),.lit (.int .i64 0)]) []:=by
 cases PV.of h with
 | mask kn m hk hm=>rw [ziX oo];exact zsi kn m oo hp0 h d k
 | span kn f t hk=>rw [ziY oo];exact zsj kn f t oo oo oo hp0 h d k
 | holder n hn=>exact zpE n hn hp0 h d k
 | rides x hx=>exact zqB x hx hp0 h d k
set_option maxHeartbeats 4000000 in
theorem zoz (kn:Nat) (m:Int) (hk:kn=1∨kn=2∨kn=3) (hp0:PrOk ⟨kn,m,0,0,[],0⟩) (h:yc ⟨kn,m,0,0,[],0⟩=true) (k:Nat):
  ACall prog 192 [zU ⟨kn,m,0,0,[],0⟩] k [] (.tup [.slice none ((leb kn++yh m).map za),.lit (.int .i64 0)]) []:=by
 have c1:=vU _ hp0
 rw [h] at c1
 have c2:=wO kn
 have hk9:kn < 128 ^ 9:=by omega
 have hl:=zh kn 7 oo
 have c3:=zcV m hp0.m0 hp0.m1
 have h8:=xD m
 generalize leb kn=L at *
 generalize yh m=E at *
 simp only [zU] at *
 rcases hk with rfl | rfl | rfl
 all_goals (
  refine Bd func192 ntmps192 fun σ N hp hpn hk hkn hfree=>?_
  have hcs:=And.intro c1 (And.intro (fun k=>c2 k hk9) (And.intro c3 True.intro))
  clear c1 c2 c3
  exact WL)
set_option maxHeartbeats 4000000 in
theorem zoA (kn f t:Nat) (hk:kn=4∨kn=5) (hf:f≤67108864) (ht:t≤67108864) (hp0:PrOk ⟨kn,0,f,t,[],0⟩) (h:yc ⟨kn,0,f,t,[],0⟩=true) (k:Nat):
  ACall prog 192 [zU ⟨kn,0,f,t,[],0⟩] k [] (.tup [.slice none ((leb kn++(leb f++leb t)).map za),.lit (.int .i64 0)]) []:=by
 have c1:=vU _ hp0
 rw [h] at c1
 have c2:=wO kn
 have c3:=ym f
 have c4:=ym t
 have hk9:kn < 128 ^ 9:=by omega
 have hf9:f < 128 ^ 9:=by omega
 have ht9:t < 128 ^ 9:=by omega
 have hl:=zh kn 7 oo
 have hl2:=zh f 7 oo
 have hl3:=zh t 7 oo
 generalize leb kn=L at *
 generalize leb f=L1 at *
 generalize leb t=L2 at *
 simp only [zU] at *
 rcases hk with rfl | rfl
 all_goals (
  refine Bd func192 ntmps192 fun σ N hp hpn hk hkn hfree=>?_
  have hcs:=And.intro c1 (And.intro (fun k=>c2 k hk9) (And.intro (fun k=>c3 k hf9) (And.intro (fun k=>c4 k ht9) True.intro)))
  clear c1 c2 c3 c4
  exact WL)
set_option maxHeartbeats 4000000 in
theorem zlT (n:List UInt8) (hn:zbO n=true) (hp0:PrOk ⟨6,0,0,0,n,0⟩) (h:yc ⟨6,0,0,0,n,0⟩=true) (k:Nat):
  ACall prog 192 [zU ⟨6,0,0,0,n,0⟩] k [] (.tup [.slice none ((leb 6++yg n).map za),.lit (.int .i64 0)]) []:=by
 have c1:=vU _ hp0
 rw [h] at c1
 have hnl:=zey hn
 have c2:=wO 6
 have c3:=qM n oo
 have h69:6 < 128 ^ 9:=by omega
 have hl:=zh 6 7 oo
 have hl2:=zh n.length 2 oo
 have hf:(yg n).length≤30:=by simp only [yg,List.length_append];omega
 generalize leb 6=L at *
 generalize yg n=L1 at *
 simp only [zU] at *
 refine Bd func192 ntmps192 fun σ N hp hpn hk hkn hfree=>?_
 have hcs:=And.intro c1 (And.intro (fun k=>c2 k h69) (And.intro c3 True.intro))
 clear c1 c2 c3
 exact WL
set_option maxHeartbeats 4000000 in
theorem znb (x:Nat) (hx:x≤1000000) (hp0:PrOk ⟨7,0,0,0,[],x⟩) (h:yc ⟨7,0,0,0,[],x⟩=true) (k:Nat):
  ACall prog 192 [zU ⟨7,0,0,0,[],x⟩] k [] (.tup [.slice none ((leb 7++leb x).map za),.lit (.int .i64 0)]) []:=by
 have c1:=vU _ hp0
 rw [h] at c1
 have c2:=wO 7
 have c3:=ym x
 have h79:7 < 128 ^ 9:=by omega
 have hx9:x < 128 ^ 9:=by omega
 have hl:=zh 7 7 oo
 have hl2:=zh x 7 oo
 generalize leb 7=L at *
 generalize leb x=L1 at *
 simp only [zU] at *
 refine Bd func192 ntmps192 fun σ N hp hpn hk hkn hfree=>?_
 have hcs:=And.intro c1 (And.intro (fun k=>c2 k h79) (And.intro (fun k=>c3 k hx9) True.intro))
 clear c1 c2 c3
 exact WL
theorem jX (p:Pr) (hp0:PrOk p) (h:yc p=true) (k:Nat):
  ACall prog 192 [zU p] k [] (.tup [.slice none ((xH p).map za),.lit (.int .i64 0)]) []:=by
 cases PV.of h with
 | mask kn m hk hm=>rw [ziX oo];exact zoz kn m oo hp0 h k
 | span kn f t hk=>rw [ziY oo];exact zoA kn f t oo oo oo hp0 h k
 | holder n hn=>exact zlT n hn hp0 h k
 | rides x hx=>exact znb x hx hp0 h k
def xk (c:Ca):List UInt8:=if c.third=false then 1::xH c.first else 2::(leb c.party.toNat++(yg c.ticket++yg c.box))
inductive CV:Ca→Prop where
 | first (p:Pr) (hp:yc p=true):CV ⟨false,p,0,[],[]⟩
 | third (n:Nat) (hn:n≤7) (t b:List UInt8) (ht:1≤t.length∧t.length≤1024) (hb:1≤b.length∧b.length≤1024):CV ⟨true,x9,n,t,b⟩
theorem sizedB_iff {b:List UInt8}:zg2 b=true↔1≤b.length∧b.length≤1024:=by unfold zg2;simp
theorem CV.of {c:Ca} (h:xz c=true):CV c:=by
 obtain ⟨th,p,n,t,b⟩:=c
 unfold xz at h
 simp only at h
 split at h
 ·rename_i e;subst e
  simp only [Bool.and_eq_true,decide_eq_true_eq,List.length_eq_zero_iff] at h
  obtain ⟨h1,h2,h3,h4⟩:=h
  subst h2 h3 h4
  exact .first p h1
 ·rename_i e
  obtain rfl:th=true:=by cases th <;> simp_all
  simp only [Bool.and_eq_true,decide_eq_true_eq,sizedB_iff] at h
  obtain ⟨h1,h2,h3,h4,h5⟩:=h
  subst h1
  obtain ⟨m,rfl⟩:=Int.eq_ofNat_of_zero_le h2
  exact .third m oo t b h4 h5
theorem CV.ok {c:Ca} (h:CV c):xz c=true:=by
 cases h with
 | first p hp=>simp [xz,hp]
 | third n hn t b ht hb=>
  simp [xz,sizedB_iff.2 ht,sizedB_iff.2 hb]
  omega
theorem yS (p:Pr) (h:yc p=true):1≤(xH p).length∧(xH p).length≤40:=by
 cases PV.of h with
 | mask kn m hk hm=>
  rw [ziX oo,List.length_append,xD]
  have:=zh kn 1 oo
  omega
 | span kn f t hk=>
  rw [ziY oo,List.length_append,List.length_append]
  have:=zh kn 1 oo
  have:=zh f 5 oo
  have:=zh t 5 oo
  have:=zfS kn
  omega
 | holder n hn=>
  have:=zh n.length 1 (by have:=zey hn;omega)
  have:=zh 6 1 oo
  have:=zey hn
  have:=zfS 6
  rw [zn4,List.length_append,yg,List.length_append]
  omega
 | rides x hx=>
  have:=zh x 5 oo
  have:=zh 7 1 oo
  have:=zfS 7
  rw [zpS,List.length_append]
  omega
theorem wh (c:Ca) (h:xz c=true):1≤(xk c).length∧(xk c).length≤3000:=by
 cases CV.of h with
 | first p hp=>
  have:=yS p hp
  simp only [xk,if_true,List.length_cons]
  omega
 | third n hn t b ht hb=>
  have:=zh n 7 oo
  have:=zh t.length 7 oo
  have:=zh b.length 7 oo
  simp only [xk,Bool.true_eq_false,if_false,List.length_cons,List.length_append,yg,Int.toNat_natCast]
  omega
theorem zst (c:Ca) (hp0:PrOk c.first) (h:xz c=false) (d k:Nat):
  ACall prog 178 [z8 c] k [(d,zS)] (.tup [.nils,.lit (.int .i64 5)]) []:=by
 have c1:=qh c hp0 d
 rw [h] at c1
 refine Bd func178 ntmps178 fun σ N hp hpn hk hkn hfree=>?_
 obtain ⟨hd,hdn⟩:=HD0 hp hpn;clear hp hpn
 have hcs:=And.intro c1 True.intro
 clear c1
 exact W0
theorem zs4 (c:Ca) (hp0:PrOk c.first) (h:xz c=false) (k:Nat):
  ACall prog 151 [z8 c] k [] (.tup [.nils,.lit (.int .i64 5)]) []:=by
 have c1:=ke c hp0
 rw [h] at c1
 refine Bd func151 ntmps151 fun σ N hp hpn hk hkn hfree=>?_
 have hcs:=And.intro c1 True.intro
 clear c1
 exact W0
theorem zpO (p:Pr) (hp0:PrOk p) (h:yc p=true) (d k:Nat):
  ACall prog 178 [z8 ⟨false,p,0,[],[]⟩] k [(d,zS)] (.tup [.slice none ((1::xH p).map za),.lit (.int .i64 0)]) []:=by
 have c1:=qh ⟨false,p,0,[],[]⟩ hp0 d
 rw [(CV.first p h).ok] at c1
 have c2:=zcD p hp0 h d
 have hl:=yS p h
 generalize xH p=R at *
 have hb1:za 1=.lit (.int .u8 1):=rfl
 refine Bd func178 ntmps178 fun σ N hp hpn hk hkn hfree=>?_
 obtain ⟨hd,hdn⟩:=HD0 hp hpn;clear hp hpn
 have hcs:=And.intro c1 (And.intro c2 True.intro)
 clear c1 c2
 exact WL
theorem zqh (p:Pr) (hp0:PrOk p) (h:yc p=true) (k:Nat):
  ACall prog 151 [z8 ⟨false,p,0,[],[]⟩] k [] (.tup [.slice none ((1::xH p).map za),.lit (.int .i64 0)]) []:=by
 have c1:=ke ⟨false,p,0,[],[]⟩ hp0
 rw [(CV.first p h).ok] at c1
 have c2:=jX p hp0 h
 have hl:=yS p h
 generalize xH p=R at *
 have hb1:za 1=.lit (.int .u8 1):=rfl
 refine Bd func151 ntmps151 fun σ N hp hpn hk hkn hfree=>?_
 have hcs:=And.intro c1 (And.intro c2 True.intro)
 clear c1 c2
 exact WL
theorem zdp:PrOk x9:=⟨by decide,by decide,by decide⟩
set_option maxHeartbeats 4000000 in
theorem zpP (n:Nat) (hn:n≤7) (t b:List UInt8) (ht:1≤t.length∧t.length≤1024) (hb:1≤b.length∧b.length≤1024) (d k:Nat):
  ACall prog 178 [z8 ⟨true,x9,n,t,b⟩] k [(d,zS)] (.tup [.slice none ((2::(leb n++(yg t++yg b))).map za),.lit (.int .i64 0)]) []:=by
 have c1:=qh ⟨true,x9,n,t,b⟩ zdp d
 rw [(CV.third n hn t b ht hb).ok] at c1
 have hl:=zh n 7 oo
 have hl1:=zh t.length 7 oo
 have hl2:=zh b.length 7 oo
 have hf1:(yg t).length≤2000:=by simp only [yg,List.length_append];omega
 have c2:=wN [2] (by simp) n oo
 have c3:=zdA ([2]++leb n) t (by simp;omega) ht.2
 have c4:=zdA ([2]++leb n++yg t) b (by simp;omega) hb.2
 have hR:2::(leb n++(yg t++yg b))=[2]++leb n++yg t++yg b:=by simp
 have h2l:[(2:UInt8)].length+(leb n).length=([2]++leb n).length:=by simp;omega
 rw [hR]
 rw [h2l] at c2
 clear hR h2l
 generalize [2]++leb n++yg t++yg b=R3 at *
 generalize [2]++leb n++yg t=R2 at *
 generalize [2]++leb n=R1 at *
 have hb1:za 2=.lit (.int .u8 2):=rfl
 simp only [z8,List.map_cons,List.map_nil,hb1] at *
 refine Bd func178 ntmps178 fun σ N hp hpn hk hkn hfree=>?_
 obtain ⟨hd,hdn⟩:=HD0 hp hpn;clear hp hpn
 have hcs:=And.intro c1 (And.intro c2 True.intro)
 clear c1 c2
 refine Wk ?_
 refine yn (N+1) zi (by kernel_rfl) [6,7,9,38,39,40,41,42,43,44,45,46,47,48,49] [] (fun m_ s_ σ_ n_=>∃ (u:Nat) (q:Nat) (acc:List UInt8),m_=2 - u∧s_ 38=.lit (.int .i64 u)∧s_ 6=.slice (some q) (acc.map za)∧s_ 7=.lit (.int .i64 0)∧σ_ (q)=.row 5 1 acc.length∧(u=0∧acc=R1∨u=1∧acc=R2∨u=2∧acc=R3)∧(N+1≤q)∧(q < n_)) ⟨_,0,_,R1,rfl,WF,WF,WF,WF,WC,WC,WC⟩ ?_
 intro m_1 s_1 σ_1 n_1 hs_1 hf_1 hn_1 hI_1
 obtain ⟨u,q,acc,hm_1,h1_38,h1_6,h1_7,e1_0,hu,hq,hqn⟩:=hI_1
 have h1_2:=KS hs_1 2
 have h1_3:=KS hs_1 3
 have h1_37:=KS hs_1 37
 have k1_0:=KE hf_1 (N)
 have hlow:=KL (N:=N) (σ:=σ) hf_1
 rcases hu with ⟨rfl,rfl⟩ | ⟨rfl,rfl⟩ | ⟨rfl,rfl⟩
 ·have hcs:=And.intro c3 True.intro
  clear c3 c4
  refine Wk ?_
  exact ⟨WS,WG,WN,_,(show 2 - (1) < m_1 by omega),1,_,R2,rfl,WF,WF,WF,WF,WC,WC,WC⟩
 ·have hcs:=And.intro c4 True.intro
  clear c3 c4
  refine Wk ?_
  exact ⟨WS,WG,WN,_,(show 2 - (2) < m_1 by omega),2,_,R3,rfl,WF,WF,WF,WF,WC,WC,WC⟩
 ·clear c3 c4
  exact WL
set_option maxHeartbeats 4000000 in
theorem zqi (n:Nat) (hn:n≤7) (t b:List UInt8) (ht:1≤t.length∧t.length≤1024) (hb:1≤b.length∧b.length≤1024) (k:Nat):
  ACall prog 151 [z8 ⟨true,x9,n,t,b⟩] k [] (.tup [.slice none ((2::(leb n++(yg t++yg b))).map za),.lit (.int .i64 0)]) []:=by
 have c1:=ke ⟨true,x9,n,t,b⟩ zdp
 rw [(CV.third n hn t b ht hb).ok] at c1
 have hl:=zh n 7 oo
 have hl1:=zh t.length 7 oo
 have hl2:=zh b.length 7 oo
 have hf1:(yg t).length≤2000:=by simp only [yg,List.length_append];omega
 have hf2:(yg b).length≤2000:=by simp only [yg,List.length_append];omega
 have hn9:n < 128 ^ 9:=by omega
 have c2:=ym n
 have c3:=qM t oo
 have c4:=qM b oo
 generalize leb n=L1 at *
 generalize yg t=L2 at *
 generalize yg b=L3 at *
 have hb1:za 2=.lit (.int .u8 2):=rfl
 simp only [z8] at *
 refine Bd func151 ntmps151 fun σ N hp hpn hk hkn hfree=>?_
 have hcs:=And.intro c1 (And.intro (fun k=>c2 k hn9) (And.intro c3 (And.intro c4 True.intro)))
 clear c1 c2 c3 c4
 exact WL
theorem zhj (c:Ca) (hp0:PrOk c.first) (h:xz c=true) (d k:Nat):
  ACall prog 178 [z8 c] k [(d,zS)] (.tup [.slice none ((xk c).map za),.lit (.int .i64 0)]) []:=by
 cases CV.of h with
 | first p hp=>exact zpO p hp0 hp d k
 | third n hn t b ht hb=>exact zpP n hn t b ht hb d k
theorem zhN (c:Ca) (hp0:PrOk c.first) (h:xz c=true) (k:Nat):
  ACall prog 151 [z8 c] k [] (.tup [.slice none ((xk c).map za),.lit (.int .i64 0)]) []:=by
 cases CV.of h with
 | first p hp=>exact zqh p hp0 hp k
 | third n hn t b ht hb=>exact zqi n hn t b ht hb k
def zc7 (c:Ca):List UInt8 × Nat:=if xz c=true then (xk c,0) else ([],5)
def zbu (x:List UInt8 × Nat):AV:=.tup [.slice none (x.1.map za),.lit (.int .i64 x.2)]
theorem zgh (c:Ca) (hp0:PrOk c.first) (d k:Nat):ACall prog 178 [z8 c] k [(d,zS)] (zbu (zc7 c)) []:=by
 unfold zc7
 split
 ·rename_i h;exact zhj c hp0 h d k
 ·rename_i h
  exact (zst c hp0 (by simpa using h) d k).result (AV.sub_tup (.cons AV.le_nils0 (.cons (AV.le_refl _) .nil)))
theorem zrN (c:Ca) (hp0:PrOk c.first) (k:Nat):ACall prog 151 [z8 c] k [] (zbu (zc7 c)) []:=by
 unfold zc7
 split
 ·rename_i h;exact zhN c hp0 h k
 ·rename_i h
  exact (zs4 c hp0 (by simpa using h) k).result (AV.sub_tup (.cons AV.le_nils0 (.cons (AV.le_refl _) .nil)))
theorem zo1 (c:Ca):(zc7 c).1.length≤3000:=by
 unfold zc7
 split
 ·rename_i h;exact (wh c h).2
 ·simp
end Go.Proofs.YtglmjglbobhbbaaGreatDoor
