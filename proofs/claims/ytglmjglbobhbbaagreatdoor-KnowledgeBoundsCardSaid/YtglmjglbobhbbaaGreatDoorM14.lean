/- Texts M1, M2, M3, M4, joined. -/
import Derived.Test.YtglmjglbobhbbaaGreatDoorM8
import Derived.Test.YtglmjglbobhbbaaGreatDoorM12
namespace Go.Proofs.YtglmjglbobhbbaaGreatDoor
open _root_.Go.Proofs.Tryz
open Go.Ab
attribute [local irreducible] Go.Ab.tyAV Go.Ab.aw Go.Ab.aops Go.Ab.kReg Go.Ab.aThen Go.Ab.aBlk Go.Ab.acond Go.Ab.aguard Go.Ab.astep Go.Ab.AStepX Go.Ab.aRet
attribute [local irreducible] yE
def x8 (a b:UInt8):UInt8:=UInt8.ofNat (bits .xor .u8 (a.toNat:Int) (b.toNat:Int)).toNat
theorem znA (a b:UInt8):bits .xor .u8 (a.toNat:Int) (b.toNat:Int)=((x8 a b).toNat:Int):=by
 have h:=IntKind.wrap_u8 (bits .xor .u8 (a.toNat:Int) (b.toNat:Int))
 have hw:IntKind.u8.wrap (bits .xor .u8 (a.toNat:Int) (b.toNat:Int))=bits .xor .u8 (a.toNat:Int) (b.toNat:Int):=by
  simp only [bits,IntKind.wrap_u8];omega
 rw [hw] at h
 unfold x8
 rw [UInt8.toNat_ofNat']
 omega
def zkT (key:List UInt8) (x:UInt8):List UInt8:=(List.range 64).map fun i=>if h:i < key.length then x8 key[i] x else x
theorem jQ (key:List UInt8) (x:UInt8):(zkT key x).length=64:=by simp [zkT]
theorem zrJ (key:List UInt8) (x:UInt8) (i:Nat) (_hi:i < 64) (h:i < (zkT key x).length):(zkT key x)[i]=if h:i < key.length then x8 key[i] x else x:=by
 simp [zkT]
def zpf (key:List UInt8) (x:UInt8) (i:Nat):List UInt8:=(zkT key x).take i++List.replicate (64 - i) 0
theorem zwv (key:List UInt8) (x:UInt8):zpf key x 0=List.replicate 64 0:=by simp [zpf]
theorem zuM (key:List UInt8) (x:UInt8):zpf key x 64=zkT key x:=by
 unfold zpf
 rw [List.take_of_length_le (by rw [jQ];exact Nat.le_refl _)];simp
theorem zs0 (key:List UInt8) (x:UInt8) (i:Nat) (hi:i≤64):(zpf key x i).length=64:=by
 unfold zpf
 rw [List.length_append,List.length_take,jQ,List.length_replicate];omega
theorem zpg (key:List UInt8) (x:UInt8) (i:Nat) (hi:i < 64) (v:UInt8) (hv:(zkT key x)[i]'(by rw [jQ];exact hi)=v):(zpf key x i).set i v=zpf key x (i+1):=by
 unfold zpf
 have hl:((zkT key x).take i).length=i:=by rw [List.length_take,jQ];omega
 rw [List.set_append_right _ _ oo,hl,Nat.sub_self]
 obtain ⟨m,hm⟩:∃ m,64 - i=m+1:=⟨63 - i,by omega⟩
 have hm2:64 - (i+1)=m:=by omega
 rw [hm,hm2,List.replicate_succ,List.set_cons_zero,List.take_succ_eq_append_getElem (by rw [jQ];exact hi),hv]
 simp
set_option maxHeartbeats 1000000 in
theorem zjH (key:List UInt8) (x:UInt8) (k:Nat):
  ACall prog 200 [.slice none (key.map za),.lit (.int .u8 x.toNat)] k [] (.slice (some k) ((zkT key x).map za)) [(k,.row 5 1 64)]:=by
 have hxb:za x=.lit (.int .u8 x.toNat):=rfl
 have h0:List.replicate 64 (AV.lit (.int .u8 0))=(zpf key x 0).map za:=by rw [zwv,List.map_replicate];rfl
 obtain ⟨q0,hq0⟩:∃ q,zpf key x 0=q:=⟨_,rfl⟩
 rw [hq0] at h0
 refine Bd func200 ntmps200 fun σ N hp hpn hk hkn hfree=>?_
 have M:Mut (N+1):=⟨⟩
 refine Wk ?_
 refine ze zi (by kernel_rfl) [6,8,9,10,11,12,13,14,15,16,17,18,19,20,21,22,23,24,25,26,27,28] [N+1] (fun m_ s_ σ_ n_=>∃ (i:Nat) (cur:List UInt8),m_=64 - i∧s_ 6=.lit (.int .i64 i)∧s_ 5=.ms (N+1) 0 1 0 64∧σ_ (N+1)=.mrow 0 5 1 (cur.map za)∧(i≤64)∧(zpf key x i=cur)) ⟨_,0,q0,rfl,WF,WF,WF,WC,WC⟩ ?_
 intro m_1 s_1 σ_1 n_1 hs_1 hf_1 hn_1 hI_1
 obtain ⟨i,cur,hm_1,h1_6,h1_5,e1_0,hi,hc⟩:=hI_1
 have h1_0:=KS hs_1 0
 have h1_1:=KS hs_1 1
 have h1_4:=KS hs_1 4
 have h1_5:=KS hs_1 5
 have hlow:=KL (N:=N) (σ:=σ) hf_1
 have hcl:=zs0 key x i hi
 rw [hc] at hcl
 by_cases h64:i=64
 ·subst h64
  rw [zuM] at hc
  have hpl:=jQ key x
  rw [hc] at hpl ⊢
  clear hc h0 M hpl
  generalize hP:cur=P at *
  refine Wm ?_
  iterate 1 refine Wz ?_
  refine qJ 5 (id:=N+1) (ver:=0) (size:=1) (e:=5) (xs:=P.map za) (k:=64) (by simp (disch:=omega) [go_sem, *,-List.reduceReplicate]) (by simp (disch:=omega) [go_sem, *,-List.reduceReplicate]) (by simp (disch:=omega) [go_sem, *,-List.reduceReplicate]) ?_
  refine Wk ?_
  refine zQ (r0:=N+1) (by simp (disch:=omega) [go_sem, *,-List.reduceReplicate];rfl) oo (by simp (disch:=omega) [go_sem];try rfl) (fun id hid=>by simp (disch:=omega) only [zg];try exact hlow id hid) (by simp (disch:=omega) [go_sem, *,-List.reduceReplicate];rfl) (by simp (disch:=omega) [go_sem])
 ·have hi2:i < 64:=by omega
  have hi2i:(i:Int) < 64:=by omega
  have hat:=zrJ key x i hi2 (by rw [jQ];exact hi2)
  by_cases hk:i < key.length
  ·rw [dif_pos hk] at hat
   have hki:(i:Int) < (key.length:Int):=by omega
   obtain ⟨z,hz⟩:∃ z,key[i]=z:=⟨_,rfl⟩
   rw [hz] at hat
   have hx:=znA z x
   have hs:=zpg key x i hi2 _ hat
   have hzb:za z=.lit (.int .u8 z.toNat):=rfl
   rw [hc] at hs
   have hset1:=zbn cur i x
   obtain ⟨c1,hc1⟩:∃ c1,cur.set i x=c1:=⟨_,rfl⟩
   have hset2:=zbn c1 i (x8 z x)
   rw [← hc1,List.set_set,hs,hc1] at hset2
   rw [hc1] at hset1
   have hl1:c1.length=64:=by rw [← hc1,List.length_set];exact hcl
   generalize x8 z x=v at *
   have hvb:za v=.lit (.int .u8 v.toNat):=rfl
   rw [hxb] at hset1
   rw [hvb] at hset2
   generalize hc':zpf key x (i+1)=c2 at *
   clear hs hat hc hc1 h0 M hxb hzb hvb
   refine Wk ?_
   exact ⟨WS,WG,WN,_,(show 64 - (i+1) < m_1 by omega),i+1,c2,rfl,WF,WF,WF,WC,WC⟩
  ·rw [dif_neg hk] at hat
   have hki:¬ (i:Int) < (key.length:Int):=by omega
   have hs:=zpg key x i hi2 _ hat
   have hset:=zbn cur i x
   rw [hc] at hs
   rw [hs] at hset
   rw [hxb] at hset
   generalize hc':zpf key x (i+1)=c2 at *
   clear hs hat hc h0 M hxb
   refine Wk ?_
   exact ⟨WS,WG,WN,_,(show 64 - (i+1) < m_1 by omega),i+1,c2,rfl,WF,WF,WF,WC,WC⟩
def zqd (P E:List UInt8) (i:Nat):List UInt8:=P.take i++E.drop i
theorem zsQ {P E:List UInt8} (hP:P.length=64) (hE:E.length=64) (i:Nat) (hi:i≤64):(zqd P E i).length=64:=by
 unfold zqd;rw [List.length_append,List.length_take,List.length_drop];omega
theorem zws (P E:List UInt8):zqd P E 0=E:=by simp [zqd]
theorem zuH {P E:List UInt8} (hP:P.length=64) (hE:E.length=64):zqd P E 64=P:=by
 unfold zqd;rw [List.take_of_length_le oo,List.drop_of_length_le oo,List.append_nil]
theorem zuI {P E:List UInt8} (hP:P.length=64) (i:Nat) (hi:i < 64):(zqd P E i)[i]?=E[i]?:=by
 unfold zqd
 have hl:(P.take i).length=i:=by rw [List.length_take];omega
 rw [List.getElem?_append_right oo,hl,Nat.sub_self,List.getElem?_drop,Nat.add_zero]
theorem zsR {P E:List UInt8} (hP:P.length=64) (hE:E.length=64) (i:Nat) (hi:i < 64):(zqd P E i).set i P[i]=zqd P E (i+1):=by
 unfold zqd
 have hl:(P.take i).length=i:=by rw [List.length_take];omega
 rw [List.set_append_right _ _ oo,hl,Nat.sub_self,List.drop_eq_getElem_cons (by omega:i < E.length),List.set_cons_zero,List.take_succ_eq_append_getElem (by omega:i < P.length),List.append_assoc]
 rfl
theorem zph (key:List UInt8) (hk:key.length≤64) (x:UInt8) (hx0:x8 0 x=x) (k:Nat):
  ACall prog 241 [.slice none (key.map za),.lit (.int .u8 x.toNat)] k [] (.slice (some k) ((zkT key x).map za)) [(k,.row 5 1 64)]:=by
 have hxb:za x=.lit (.int .u8 x.toNat):=rfl
 obtain ⟨E,hE⟩:∃ E:List UInt8,key++List.replicate (64 - key.length) 0=E:=⟨_,rfl⟩
 have hEl:E.length=64:=by rw [← hE,List.length_append,List.length_replicate];omega
 have hEx:∀ i (h:i < E.length) (hp:i < (zkT key x).length),(zkT key x)[i]=x8 E[i] x:=by
  intro i h hp
  rw [zrJ key x i oo]
  by_cases hi:i < key.length
  ·rw [dif_pos hi]
   congr 1
   simp only [← hE]
   rw [List.getElem_append_left hi]
  ·rw [dif_neg hi]
   have:E[i]=0:=by
    simp only [← hE]
    rw [List.getElem_append_right oo];simp
   rw [this,hx0]
 have h0:key.map za++List.replicate (64 - key.length) (za 0)=E.map za:=by
  rw [← hE,List.map_append,List.map_replicate]
 have hpl:=jQ key x
 generalize zkT key x=P at *
 have h00:List.replicate 64 (AV.lit (.int .u8 0))=(List.replicate 64 (0:UInt8)).map za:=by rw [List.map_replicate];rfl
 refine Bd func241 ntmps241 fun σ N hp hpn hk hkn hfree=>?_
 have M:Mut (N+1):=⟨⟩
 have hE0:=zws P E
 refine Wk ?_
 refine ze zi (by kernel_rfl) [6,13,14,15,16,17,18,19,20,21,22,23] [N+1] (fun m_ s_ σ_ n_=>∃ (i:Nat) (cur:List UInt8),m_=64 - i∧s_ 13=.lit (.int .i64 i)∧s_ 5=.ms (N+1) 0 1 0 64∧σ_ (N+1)=.mrow 0 5 1 (cur.map za)∧(i≤64)∧(zqd P E i=cur)) ⟨_,0,E,rfl,WF,WF,WF,WC,WC⟩ ?_
 intro m_1 s_1 σ_1 n_1 hs_1 hf_1 hn_1 hI_1
 obtain ⟨i,cur,hm_1,h1_13,h1_5,e1_0,hi,hc⟩:=hI_1
 have h1_1:=KS hs_1 1
 have h1_4:=KS hs_1 4
 have h1_5:=KS hs_1 5
 have h1_12:=KS hs_1 12
 have hlow:=KL (N:=N) (σ:=σ) hf_1
 clear hE0 h0
 have hcl:=zsQ hpl hEl i hi
 rw [hc] at hcl
 by_cases h64:i=64
 ·subst h64
  rw [zuH hpl hEl] at hc
  subst hc
  clear M hEx
  refine Wm ?_
  iterate 1 refine Wz ?_
  refine qJ 5 (id:=N+1) (ver:=0) (size:=1) (e:=5) (xs:=P.map za) (k:=64) (by simp (disch:=omega) [go_sem, *,-List.reduceReplicate]) (by simp (disch:=omega) [go_sem, *,-List.reduceReplicate]) (by simp (disch:=omega) [go_sem, *,-List.reduceReplicate]) ?_
  refine Wk ?_
  refine zQ (r0:=N+1) (by simp (disch:=omega) [go_sem, *,-List.reduceReplicate];rfl) oo (by simp (disch:=omega) [go_sem];try rfl) (fun id hid=>by simp (disch:=omega) only [zg];try exact hlow id hid) (by simp (disch:=omega) [go_sem, *,-List.reduceReplicate];rfl) (by simp (disch:=omega) [go_sem])
 ·have hi2:i < 64:=by omega
  have hi2i:(i:Int) < 64:=by omega
  have ha0:=zuI (E:=E) hpl i hi2
  have hs:=zsR hpl hEl i hi2
  rw [hEx i oo oo] at hs
  rw [hc] at ha0 hs
  have hic:i < cur.length:=by omega
  have hiE:i < E.length:=by omega
  rw [List.getElem?_eq_getElem hic,List.getElem?_eq_getElem hiE] at ha0
  injection ha0 with ha
  obtain ⟨z,hz⟩:∃ z,E[i]=z:=⟨_,rfl⟩
  rw [hz] at ha hs
  have hx:=znA z x
  have hset:=zbn cur i (x8 z x)
  rw [hs] at hset
  generalize x8 z x=v at *
  have hzb:za z=.lit (.int .u8 z.toNat):=rfl
  have hvb:za v=.lit (.int .u8 v.toNat):=rfl
  rw [hvb] at hset
  generalize hc':zqd P E (i+1)=c2 at *
  clear hs hc M hEx hz
  refine Wk ?_
  exact ⟨WS,WG,WN,_,(show 64 - (i+1) < m_1 by omega),i+1,c2,rfl,WF,WF,WF,WC,WC⟩
section
variable [W:W32]
def qC (key msg:List UInt8):Tg:=zsg (zkT key 92++(zsg (zkT key 54++msg)).1)
theorem zcW (key msg:List UInt8) (hk:key.length≤64) (hm:msg.length≤100000) (k:Nat):
  ACall prog 149 [.slice none (key.map za),.slice none (msg.map za)] k [] (zd (qC key msg)) []:=by
 have c1:=zjH key 54
 have c2:=zjH key 92
 have l1:=jQ key 54
 have l2:=jQ key 92
 unfold qC
 generalize zkT key 54=P1 at *
 generalize zkT key 92=P2 at *
 have c3:=zoU (P1++msg) (by rw [List.length_append];omega)
 obtain ⟨A,hA⟩:∃ A,P1++msg=A:=⟨_,rfl⟩
 have hAm:P1.map za++msg.map za=A.map za:=by rw [← hA,List.map_append]
 rw [hA] at c3 ⊢
 generalize zsg A=T1 at *
 have hs1:=zB T1
 have hs2:=zj T1
 obtain ⟨T1,hT1⟩:=T1
 simp only [zd] at c3 hs1 hs2 ⊢
 have c4:=zoU (P2++T1) (by rw [List.length_append];omega)
 obtain ⟨B,hB⟩:∃ B,P2++T1=B:=⟨_,rfl⟩
 have hBm:P2.map za++T1.map za=B.map za:=by rw [← hB,List.map_append]
 rw [hB] at c4 ⊢
 generalize zsg B=T2 at *
 have hs3:=zB T2
 have hs4:=zj T2
 obtain ⟨T2,hT2⟩:=T2
 simp only [zd] at c4 hs3 hs4 ⊢
 have e54:((54:UInt8).toNat:Int)=54:=rfl
 have e92:((92:UInt8).toNat:Int)=92:=rfl
 rw [e54] at c1
 rw [e92] at c2
 have hki:¬ (64:Int) < (key.length:Int):=by omega
 clear hA hB
 refine Bd func149 ntmps149 fun σ N hp hpn hk hkn hfree=>?_
 have htk:(T1.map za).take 32=T1.map za:=List.take_of_length_le (by rw [List.length_map];omega)
 have hcs:=And.intro c1 (And.intro c3 (And.intro c2 (And.intro c4 True.intro)))
 clear c1 c2 c3 c4
 exact W0
theorem shaP (P m:List UInt8) (hP:P.length=64) {H:V8} {R:List UInt8} (hH:comp (m.length / 64) (comp 1 iv8 P) m=H) (hR:m.drop (64 * (m.length / 64))=R):
  comp ((R++zh2 R.length (64+m.length)).length / 64) H (R++zh2 R.length (64+m.length))=zxJ (P++m):=by
 have hl:(P++m).length=64+m.length:=by rw [List.length_append,hP]
 have hd:(64+m.length) / 64=1+m.length / 64:=by omega
 have h1:comp ((P++m).length / 64) iv8 (P++m)=H:=by
  rw [hl,hd,zoZ,zo0 iv8 P m 1 oo]
  have:(P++m).drop (64 * 1)=m:=by rw [Nat.mul_one,← hP,List.drop_left]
  rw [this,hH]
 have h2:(P++m).drop (64 * ((P++m).length / 64))=R:=by
  rw [hl,hd,Nat.mul_add,Nat.mul_one,← List.drop_drop,← hP,List.drop_left,hP,hR]
 have:=zqo (P++m) H R h1 h2
 rw [hl] at this
 exact this
theorem qA (key msg:List UInt8) (hk:key.length≤64) (h0:0 < msg.length) (hm:msg.length≤100000) (g k:Nat):
  ACall prog 207 [.slice none (key.map za),.slice none (msg.map za)] k [(g,yE)] (zd (qC key msg)) []:=by
 have c0:=zoM
 have c1:=zph key hk 54 (by decide)
 have c2:=zph key hk 92 (by decide)
 have l1:=jQ key 54
 have l2:=jQ key 92
 unfold qC
 generalize zkT key 54=P1 at *
 generalize zkT key 92=P2 at *
 have w1:=fun k=>zc2 iv8 [] P1 0 (by simp;omega) (by simp;omega) oo k (H:=comp 1 iv8 P1) (R:=[]) (by rw [List.nil_append,l1]) (by rw [List.nil_append,l1];exact List.drop_of_length_le oo) g
 obtain ⟨H1,hH1⟩:∃ H,comp (msg.length / 64) (comp 1 iv8 P1) msg=H:=⟨_,rfl⟩
 obtain ⟨R1,hR1⟩:∃ R,msg.drop (64 * (msg.length / 64))=R:=⟨_,rfl⟩
 have hR1l:R1.length≤100000:=by rw [← hR1,List.length_drop];omega
 have w2:=fun k=>zc2 (comp 1 iv8 P1) [] msg 64 (by simpa using h0) (by simp;omega) oo k (H:=H1) (R:=R1) (by rw [List.nil_append];exact hH1) (by rw [List.nil_append];exact hR1) g
 have s1:=zoV H1 R1 (64+msg.length) oo oo (shaP P1 msg l1 hH1 hR1) g
 rw [← zsg] at s1
 generalize zsg (P1++msg)=T1 at *
 have hs1:=zB T1
 have hs2:=zj T1
 obtain ⟨T1,hT1⟩:=T1
 simp only [zd] at s1 hs1 hs2 ⊢
 have w3:=fun k=>zc2 iv8 [] P2 0 (by simp;omega) (by simp;omega) oo k (H:=comp 1 iv8 P2) (R:=[]) (by rw [List.nil_append,l2]) (by rw [List.nil_append,l2];exact List.drop_of_length_le oo) g
 obtain ⟨H2,hH2⟩:∃ H,comp (T1.length / 64) (comp 1 iv8 P2) T1=H:=⟨_,rfl⟩
 obtain ⟨R2,hR2⟩:∃ R,T1.drop (64 * (T1.length / 64))=R:=⟨_,rfl⟩
 have hR2l:R2.length≤100000:=by rw [← hR2,List.length_drop];omega
 have w4:=fun k=>zc2 (comp 1 iv8 P2) [] T1 64 (by simp;omega) (by simp;omega) oo k (H:=H2) (R:=R2) (by rw [List.nil_append];exact hH2) (by rw [List.nil_append];exact hR2) g
 have s2:=zoV H2 R2 (64+T1.length) oo oo (shaP P2 T1 l2 hH2 hR2) g
 rw [← zsg] at s2
 generalize zsg (P2++T1)=T2 at *
 have hs3:=zB T2
 have hs4:=zj T2
 obtain ⟨T2,hT2⟩:=T2
 simp only [zd] at s2 hs3 hs4 ⊢
 have e54:((54:UInt8).toNat:Int)=54:=rfl
 have e92:((92:UInt8).toNat:Int)=92:=rfl
 rw [e54] at c1
 rw [e92] at c2
 rw [l1] at w1
 rw [l2] at w3
 have hki:¬ (64:Int) < (key.length:Int):=by omega
 have htk:(T1.map za).take 32=T1.map za:=List.take_of_length_le (by rw [List.length_map];omega)
 clear hH1 hH2 hR1 hR2
 simp only [Nat.zero_add] at w1 w3
 generalize zdS iv8 [] 0=a0 at *
 generalize zdS (comp 1 iv8 P1) [] 64=a1 at *
 generalize zdS H1 R1 (64+msg.length)=a2 at *
 generalize zdS (comp 1 iv8 P2) [] 64=a3 at *
 generalize zdS H2 R2 (64+T1.length)=a4 at *
 refine Bd func207 ntmps207 fun σ N hp hpn hk hkn hfree=>?_
 obtain ⟨hd,hdn⟩:=HD0 hp hpn;clear hp hpn
 have hcs:=And.intro c0 (And.intro c1 (And.intro w1 (And.intro w2 (And.intro s1 (And.intro c0 (And.intro c2 (And.intro w3 (And.intro w4 (And.intro s2 True.intro)))))))))
 clear c0 c1 c2 w1 w2 w3 w4 s1 s2
 exact W0
end
@[go_sem] theorem zwf (a b:Tg):evBin prog .eql 28 (zd a) (zd b)=some ⟨[],.lit (.bool (decide (a=b))),[]⟩:=zq2 eq28 a b
@[go_sem] theorem zwg (a b:Tg):evBin prog .neq 28 (zd a) (zd b)=some ⟨[],.lit (.bool (!decide (a=b))),[]⟩:=zpU eq28 a b
structure MacE where
 key:Tg
 msg:List UInt8
 tag:Tg
structure BoxE where
 key:Tg
 nonce:Int
 plain:List UInt8
 box:List UInt8
structure Alg where
 free:Bool
 seed:Tg
 fresh:Int
 macs:List MacE
 boxes:List BoxE
def zJ (e:MacE):AV:=.agg [zd e.key,bAV e.msg,zd e.tag]
def zo (e:BoxE):AV:=.agg [zd e.key,.lit (.int .i64 e.nonce),bAV e.plain,bAV e.box]
def zA (a:Alg):AV:=.agg [.lit (.bool a.free),zd a.seed,.lit (.int .i64 a.fresh),.slice none (a.macs.map zJ),.slice none (a.boxes.map zo)]
def wZ:Alg:=⟨false,zeroTag,0,[],[]⟩
@[go_sem] theorem zo7 (e:MacE):(zJ e).sz=65:=by simp only [zJ,AV.sz,AV.szl,zB,ztG]
@[go_sem] theorem zuG (e:MacE):(zJ e).isAgg=true:=rfl
@[go_sem] theorem zqa (e:MacE):(zJ e).cell=true:=by simp only [zJ,AV.cell,AV.celll,zj,zoX,Bool.and_self]
@[go_sem] theorem zrv (f:Nat→Option Nat) (e:MacE):(zJ e).ren f=zJ e:=by simp only [zJ,AV.ren,AV.renl,xR,znP]
@[go_sem] theorem zns (e:BoxE):(zo e).sz=35:=by simp only [zo,AV.sz,AV.szl,zB,ztG]
@[go_sem] theorem ztT (e:BoxE):(zo e).isAgg=true:=rfl
@[go_sem] theorem zoK (e:BoxE):(zo e).cell=true:=by simp only [zo,AV.cell,AV.celll,zj,zoX,Bool.and_self]
@[go_sem] theorem zqn (f:Nat→Option Nat) (e:BoxE):(zo e).ren f=zo e:=by simp only [zo,AV.ren,AV.renl,xR,znP]
@[go_sem] theorem zrT (f:Nat→Option Nat) (l:List MacE):AV.renl f (l.map zJ)=l.map zJ:=by
 rw [AV.renl_map,List.map_map];exact List.map_congr_left fun t _=>zrv f t
@[go_sem] theorem zql (f:Nat→Option Nat) (l:List BoxE):AV.renl f (l.map zo)=l.map zo:=by
 rw [AV.renl_map,List.map_map];exact List.map_congr_left fun t _=>zqn f t
@[go_sem] theorem vg (l:List MacE):(l.map zJ).all (fun x=>x.sz == 65)=true:=by
 rw [List.all_eq_true];intro x hx;obtain ⟨b,_,rfl⟩:=List.mem_map.1 hx;simp [zo7]
@[go_sem] theorem zvQ (l:List MacE):(l.map zJ).all (fun x=>x.sz == 65 && x.cell)=true:=by
 rw [List.all_eq_true];intro x hx;obtain ⟨b,_,rfl⟩:=List.mem_map.1 hx;simp [zo7,zqa]
@[go_sem] theorem xC (l:List BoxE):(l.map zo).all (fun x=>x.sz == 35)=true:=by
 rw [List.all_eq_true];intro x hx;obtain ⟨b,_,rfl⟩:=List.mem_map.1 hx;simp [zns]
@[go_sem] theorem zu9 (l:List BoxE):(l.map zo).all (fun x=>x.sz == 35 && x.cell)=true:=by
 rw [List.all_eq_true];intro x hx;obtain ⟨b,_,rfl⟩:=List.mem_map.1 hx;simp [zns,zoK]
@[go_sem] theorem zsm (a:Alg):(zA a).sz=36:=by simp only [zA,AV.sz,AV.szl,zB]
@[go_sem] theorem zuf (a:Alg):(zA a).isAgg=true:=rfl
@[go_sem] theorem zpL (a:Alg):(zA a).cell=true:=by simp only [zA,AV.cell,AV.celll,zj,Bool.and_self]
@[go_sem] theorem zqK (f:Nat→Option Nat) (a:Alg):(zA a).ren f=zA a:=by simp only [zA,AV.ren,AV.renl,xR,zrT,zql,Option.bind_none]
def vW (kind:UInt8) (n:Int):Tg:=⟨[115,121,109,98,111,108,kind]++yh n++List.replicate 17 0,by simp [yh]⟩
theorem zfs (kind:UInt8) (n:Nat) (hn:n≤1000000000) (k:Nat):
  ACall prog 124 [.lit (.int .u8 kind.toNat),.lit (.int .i64 n)] k [] (zd (vW kind n)) []:=by
 have c1:=zcV (n:Int) oo oo
 have hkb:za kind=.lit (.int .u8 kind.toNat):=rfl
 have hel:=xD (n:Int)
 have hT:(vW kind n).1=[115,121,109,98,111,108,kind]++yh n++List.replicate 17 0:=rfl
 generalize vW kind n=T at *
 obtain ⟨T,hTl⟩:=T
 simp only [zd] at hT ⊢
 generalize yh (n:Int)=E at *
 have htk:(E.map za).take 8=E.map za:=List.take_of_length_le (by rw [List.length_map];omega)
 have hz0:(zeroTag.val.map za).drop 15=(List.replicate 17 (0:UInt8)).map za:=rfl
 have hfin:AV.lit (.int .u8 115)::.lit (.int .u8 121)::.lit (.int .u8 109)::.lit (.int .u8 98)::.lit (.int .u8 111)::.lit (.int .u8 108)::.lit (.int .u8 kind.toNat)::((E.map za).take 8++(zeroTag.val.map za).drop 15)=T.map za:=by
  rw [hT,htk,hz0,List.map_append,List.map_append];rfl
 have hs1:(AV.agg (T.map za)).sz=32:=by simp only [AV.sz,zcx];exact hTl
 have hs2:(AV.agg (T.map za)).cell=true:=zX T
 clear htk hz0 hT
 refine Bd func124 ntmps124 fun σ N hp hpn hk hkn hfree=>?_
 have M:Mut (N+2):=⟨⟩
 have M2:Mut (N+2+1):=⟨⟩
 have hcs:=And.intro c1 True.intro
 clear c1
 exact W0
def zcG (key:Tg) (msg:List UInt8):List MacE→Option Tg
 | []=>none
 | e::r=>if e.key=key∧e.msg=msg then some e.tag else zcG key msg r
def vR (o:Option Tg):AV:=.tup [zd (o.getD zeroTag),.lit (.bool o.isSome)]
set_option maxHeartbeats 1000000 in
theorem zkM (a:Alg) (key:Tg) (msg:List UInt8) (hl:a.macs.length≤1000000) (hm:∀ e∈a.macs,e.msg.length≤100000) (k:Nat):
  ACall prog 148 [zA a,zd key,.slice none (msg.map za)] k [] (vR (zcG key msg a.macs)) []:=by
 obtain ⟨fr,sd,fs,L,B⟩:=a
 simp only [zA] at *
 generalize hR:zcG key msg L=R
 unfold vR
 refine Bd func148 ntmps148 fun σ N hp hpn hk hkn hfree=>?_
 refine Wk ?_
 refine ze zi (by kernel_rfl) [7,8,9,10,11,12,13,14,15,16,17,18,19,20,21,22,23,24,25,26,27,28,29,30,31,32,33,34,35,36,37,38,39] [N,N+1,N+2] (fun m_ s_ σ_ n_=>∃ (u:Nat),m_=L.length - u∧s_ 8=.lit (.int .i64 u)∧σ_ (N)=.box 41 (.agg [.lit (.bool fr),zd sd,.lit (.int .i64 fs),.slice none (L.map zJ),.slice none (B.map zo)])∧σ_ (N+1)=.box 28 (zd key)∧σ_ (N+2)=.box 28 (zd zeroTag)∧(u≤L.length)∧(zcG key msg (L.drop u)=R)) ⟨_,0,rfl,WF,WF,WF,WF,WC,WC⟩ ?_
 intro m_1 s_1 σ_1 n_1 hs_1 hf_1 hn_1 hI_1
 obtain ⟨u,hm_1,h1_8,e1_0,e1_1,e1_2,hu,hd⟩:=hI_1
 have h1_2:=KS hs_1 2
 have h1_3:=KS hs_1 3
 have h1_4:=KS hs_1 4
 have h1_6:=KS hs_1 6
 have hlow:=KL (N:=N) (σ:=σ) hf_1
 by_cases hul:u=L.length
 ·subst hul
  rw [List.drop_length] at hd
  simp only [zcG] at hd
  subst hd
  simp only [Option.getD_none,Option.isSome_none]
  exact W0
 ·have hu1:u < L.length:=by omega
  rw [List.drop_eq_getElem_cons hu1,zcG] at hd
  have hmz:=hm _ (List.getElem_mem hu1)
  obtain ⟨z,hz⟩:∃ z,L[u]=z:=⟨_,rfl⟩
  rw [hz] at hd hmz
  obtain ⟨zk,zm,zt⟩:=z
  simp only at hd hmz
  have hzd:zJ ⟨zk,zm,zt⟩=.agg [zd zk,bAV zm,zd zt]:=rfl
  have hzb:=qS zm
  have c1:=vG zm msg oo
  by_cases h1:zk=key
  ·have d1:decide (zk=key)=true:=decide_eq_true h1
   by_cases h2:zm=msg
   ·rw [if_pos ⟨h1,h2⟩] at hd
    subst hd
    rw [decide_eq_true h2] at c1
    have hcs:=And.intro c1 True.intro
    simp only [Option.getD_some,Option.isSome_some]
    clear c1 hR hm
    subst h1
    subst h2
    exact W0
   ·rw [if_neg (fun h=>h2 h.2)] at hd
    rw [decide_eq_false h2] at c1
    have hcs:=And.intro c1 True.intro
    clear c1 hR hm
    subst h1
    refine Wk ?_
    exact ⟨WS,WG,WN,_,(show L.length - (u+1) < m_1 by omega),u+1,rfl,WF,WF,WF,WF,WC,WC⟩
  ·rw [if_neg (fun h=>h1 h.1)] at hd
   have d1:decide (zk=key)=false:=decide_eq_false h1
   clear c1 hR hm
   refine Wk ?_
   exact ⟨WS,WG,WN,_,(show L.length - (u+1) < m_1 by omega),u+1,rfl,WF,WF,WF,WF,WC,WC⟩
section
variable [W:W32]
def zvl (seed:Tg) (n:Int):Tg:=qC seed.1 ([102,114,101,115,104,0]++yh n)
def zai (a:Alg):Alg × Tg × Nat:=
 if 65536≤a.fresh then (wZ,zeroTag,2) else ({ a with fresh:=a.fresh+1 },if a.free then vW 107 (a.fresh+1) else zvl a.seed (a.fresh+1),0)
def yJ (a:Alg) (key:Tg) (msg:List UInt8):Alg × Tg × Nat:=
 if 4096 < msg.length then (wZ,zeroTag,2) else match zcG key msg a.macs with
  | some t=>(a,t,0)
  | none=>if 65536≤a.macs.length then (wZ,zeroTag,2) else
   let t:=if a.free then vW 109 (a.macs.length+1) else qC key.1 msg
   ({ a with macs:=a.macs++[⟨key,msg,t⟩] },t,0)
def zha (r:Alg × Tg × Nat):AV:=.tup [zA r.1,zd r.2.1,.lit (.int .i64 (r.2.2:Nat))]
theorem znG (seed:Tg) (n:Nat) (hn:n≤1000000000) (k:Nat):
  ACall prog 125 [zd seed,zbo [102,114,101,115,104],.lit (.int .i64 n)] k [] (.tup [zd (zvl seed n),.lit (.int .i64 0)]) []:=by
 have c1:=zjQ [102,114,101,115,104] true (by decide) (by simp)
 have c2:=zcV (n:Int) oo oo
 have hel:=xD (n:Int)
 unfold zvl
 have c3:=zcW seed.1 ([102,114,101,115,104,0]++yh n) (by rw [seed.2];decide) (by simp [hel])
 generalize qC seed.1 ([102,114,101,115,104,0]++yh n)=T at *
 generalize yh (n:Int)=E at *
 have hs1:=zB seed
 have hs2:=zj seed
 obtain ⟨S,hS⟩:=seed
 simp only at c3
 simp only [zd] at hs1 hs2 ⊢
 have htk:(S.map za).take 32=S.map za:=List.take_of_length_le (by rw [List.length_map];omega)
 unfold zbo
 refine Bd func125 ntmps125 fun σ N hp hpn hk hkn hfree=>?_
 have hcs:=And.intro c1 (And.intro c2 (And.intro c3 True.intro))
 clear c1 c2 c3
 exact W0
theorem zk8 (a:Alg) (h0:0≤a.fresh) (k:Nat):
  ACall prog 67 [zA a] k [] (zha (zai a)) []:=by
 obtain ⟨fr,sd,fs,L,B⟩:=a
 simp only at h0
 obtain ⟨n,rfl⟩:=Int.eq_ofNat_of_zero_le h0
 unfold zai zha
 simp only [zA] at *
 by_cases h1:(65536:Int)≤(n:Int)
 ·rw [if_pos h1]
  simp only [wZ,List.map_nil]
  refine Bd func67 ntmps67 fun σ N hp hpn hk hkn hfree=>?_
  exact WT
 ·rw [if_neg h1]
  have hn1:(n:Int)+1=((n+1:Nat):Int):=by omega
  cases fr with
  | true=>
   have c1:=zfs 107 (n+1) oo
   rw [hn1]
   simp only [if_true]
   generalize vW 107 ((n+1:Nat):Int)=T at *
   have e107:((107:UInt8).toNat:Int)=107:=rfl
   rw [e107] at c1
   clear hn1
   refine Bd func67 ntmps67 fun σ N hp hpn hk hkn hfree=>?_
   have hcs:=And.intro c1 True.intro
   clear c1 e107
   exact W0
  | false=>
   have c1:=znG sd (n+1) oo
   rw [hn1]
   simp only [Bool.false_eq_true,if_false]
   generalize zvl sd ((n+1:Nat):Int)=T at *
   unfold zbo at c1
   clear hn1
   refine Bd func67 ntmps67 fun σ N hp hpn hk hkn hfree=>?_
   have hcs:=And.intro c1 True.intro
   clear c1
   exact W0
end
end Go.Proofs.YtglmjglbobhbbaaGreatDoor
