/- Texts U6, joined. -/
import Derived.Test.YtglmjglbobhbbaaGreatDoorM21
namespace Go.Proofs.YtglmjglbobhbbaaGreatDoor
open _root_.Go.Proofs.Tryz
open Go.Ab
attribute [local irreducible] Go.Ab.tyAV Go.Ab.aw Go.Ab.aops Go.Ab.kReg Go.Ab.aThen Go.Ab.aBlk Go.Ab.acond Go.Ab.aguard Go.Ab.astep Go.Ab.AStepX Go.Ab.aRet
attribute [local irreducible] yE
def zl6 (b:List UInt8) (u:Nat):Tg × Nat × Nat:=if h:u+32≤b.length then (⟨(b.drop u).take 32,by rw [List.length_take,List.length_drop];omega⟩,u+32,0) else (zeroTag,u,3)
theorem zl8 {b:List UInt8} {u:Nat} (h:u+32≤b.length):zl6 b u=(⟨(b.drop u).take 32,by rw [List.length_take,List.length_drop];omega⟩,u+32,0):=by unfold zl6;rw [dif_pos h]
theorem zl7 {b:List UInt8} {u:Nat} (h:¬ u+32≤b.length):zl6 b u=(zeroTag,u,3):=by unfold zl6;rw [dif_neg h]
theorem zr4 {b:List UInt8} {u:Nat} (h:(zl6 b u).2.2=0):(zl6 b u).2.1=u+32:=by
 by_cases h':u+32≤b.length
 ·rw [zl8 h']
 ·rw [zl7 h'] at h;cases h
theorem ztm {b:List UInt8} {u:Nat} (h:(zl6 b u).2.2=0):u+32≤b.length:=by
 by_cases h':u+32≤b.length
 ·exact h'
 ·rw [zl7 h'] at h;cases h
theorem zkd (b:List UInt8) (u:Nat) (hu:u≤b.length) (hs:b.length - u < 32) (_hb:b.length≤1000000) (d k:Nat):
  ACall prog 229 [.ptr d [] 0,.lit (.int .i64 32)] k [(d,kv b u 0)] (.slice none (List.replicate 32 (.lit (.int .u8 0)))) [(d,kv b u 3)]:=by
 have hs':(b.length:Int) - (u:Int) < 32:=by omega
 simp only [kv]
 refine Bd func229 ntmps229 fun σ N hp hpn hk hkn hfree=>?_
 obtain ⟨hd,hdn⟩:=HD0 hp hpn;clear hp hpn
 refine Wk ?_
 exact RV (d) (.box 273 (.agg [.slice none (b.map za),.lit (.int .i64 (u:Int)),.lit (.int .i64 3)]))
theorem zk9 (b:List UInt8) (u:Nat) (hs:u+32≤b.length) (hb:b.length≤1000000) (d k:Nat):
  ACall prog 229 [.ptr d [] 0,.lit (.int .i64 32)] k [(d,kv b u 0)] (.slice none (((b.drop u).take 32).map za)) [(d,kv b (u+32) 0)]:=by
 have hs':¬ (b.length:Int) - (u:Int) < 32:=by omega
 have hsl:=zj3 b u 32
 have hu8:((u:Int)+32).toNat=u+32:=by omega
 generalize (b.drop u).take 32=L at *
 simp only [kv]
 refine Bd func229 ntmps229 fun σ N hp hpn hk hkn hfree=>?_
 obtain ⟨hd,hdn⟩:=HD0 hp hpn;clear hp hpn
 refine Wk ?_
 exact RV (d) (.box 273 (.agg [.slice none (b.map za),.lit (.int .i64 ((u:Int)+32)),.lit (.int .i64 0)]))
theorem zt0 (b:List UInt8) (u:Nat) (h:u+32≤b.length) (hb:b.length≤1000000) (d k:Nat):
  ACall prog 190 [.ptr d [] 0] k [(d,kv b u 0)] (zd (zl6 b u).1) [(d,kv b (u+32) 0)]:=by
 have c1:=zk9 b u h hb
 have hkA:zd (zl6 b u).1=.agg (((b.drop u).take 32).map za):=by rw [zl8 h];rfl
 rw [hkA]
 clear hkA
 have hl:((b.drop u).take 32).length=32:=by rw [List.length_take,List.length_drop];omega
 generalize (b.drop u).take 32=L at *
 have htk:(L.map za).take 32=L.map za:=List.take_of_length_le (by rw [List.length_map];omega)
 have hz0:(zeroTag.val.map za).drop 32=[]:=rfl
 have hs1:(AV.agg (L.map za)).sz=32:=by simp only [AV.sz,zcx];exact hl
 have hs2:(AV.agg (L.map za)).cell=true:=zX L
 simp only [kv] at *
 refine Bd func190 ntmps190 fun σ N hp hpn hk hkn hfree=>?_
 obtain ⟨hd,hdn⟩:=HD0 hp hpn;clear hp hpn
 have M:Mut (N+2):=⟨⟩
 have hcs:=And.intro (c1 d) True.intro
 clear c1
 refine Wk ?_
 exact RW (d) (.box 273 (.agg [.slice none (b.map za),.lit (.int .i64 ((u:Int)+32)),.lit (.int .i64 0)]))
theorem zqI (b:List UInt8) (u e e':Nat) (d k:Nat)
  (c1:∀ k,ACall prog 229 [.ptr d [] 0,.lit (.int .i64 32)] k [(d,kv b u e)] (.slice none (List.replicate 32 (.lit (.int .u8 0)))) [(d,kv b u e')]):
  ACall prog 190 [.ptr d [] 0] k [(d,kv b u e)] (zd zeroTag) [(d,kv b u e')]:=by
 have hz:List.replicate 32 (AV.lit (.int .u8 0))=zeroTag.1.map za:=rfl
 rw [hz] at c1
 obtain ⟨L,hL⟩:∃ L,zeroTag.1=L:=⟨_,rfl⟩
 have hl:L.length=32:=by rw [← hL];exact zeroTag.2
 have hkA:zd zeroTag=.agg (L.map za):=by rw [← hL];rfl
 rw [hkA]
 rw [hL] at c1
 have htk:(L.map za).take 32=L.map za:=List.take_of_length_le (by rw [List.length_map];omega)
 have hz0:(L.map za).drop 32=[]:=List.drop_eq_nil_of_le (by rw [List.length_map];omega)
 have hs1:(AV.agg (L.map za)).sz=32:=by simp only [AV.sz,zcx];exact hl
 have hs2:(AV.agg (L.map za)).cell=true:=zX L
 clear hz
 simp only [kv] at *
 refine Bd func190 ntmps190 fun σ N hp hpn hk hkn hfree=>?_
 obtain ⟨hd,hdn⟩:=HD0 hp hpn;clear hp hpn
 have M:Mut (N+2):=⟨⟩
 have hcs:=And.intro c1 True.intro
 clear c1
 refine Wk ?_
 exact RW (d) (.box 273 (.agg [.slice none (b.map za),.lit (.int .i64 (u:Int)),.lit (.int .i64 (e':Int))]))
theorem zqH (b:List UInt8) (u:Nat) (hu:u≤b.length) (hb:b.length≤1000000) (d k:Nat):
  ACall prog 190 [.ptr d [] 0] k [(d,kv b u 0)] (zd (zl6 b u).1) [(d,kv b (zl6 b u).2.1 (zl6 b u).2.2)]:=by
 by_cases h:u+32≤b.length
 ·have:=zt0 b u h hb d k
  rw [zl8 h] at this ⊢
  exact this
 ·rw [zl7 h]
  exact zqI b u 0 3 d k fun k=>zkd b u hu oo hb d k
section
variable [W:W32]
theorem zrH (a:Alg) (m:Nat) (ha:AlgIn a m) (key:Tg) (b:List UInt8) (hb:b.length≤100000):(x6 a key b).1.length≤100000:=by
 unfold x6
 split
 ·split
  ·rename_i p hp
   obtain ⟨e,he,_,_,h3⟩:=zhH hp
   rw [← h3];exact (ha.bm e he).1
  ·simp
 ·split
  ·simp
  ·split
   ·simp only [qL,List.length_drop,List.length_take];omega
   ·simp
def zkC (r:List UInt8 × Nat):AV:=.tup [.slice none (r.1.map za),.lit (.int .i64 (r.2:Nat))]
set_option maxHeartbeats 1000000 in
theorem znd (sd:Tg) (fs:Int) (L:List MacE) (B:List BoxE) (key:Tg) (b:List UInt8) (hl:B.length≤1000000) (hm:∀ e∈B,e.plain.length≤100000∧e.box.length≤100000) (hb:b.length≤100000) (k:Nat):
  ACall prog 189 [zA ⟨true,sd,fs,L,B⟩,zd key,.slice none (b.map za)] k [] (zkC (x6 ⟨true,sd,fs,L,B⟩ key b)) []:=by
 unfold x6
 rw [if_pos rfl]
 simp only
 generalize hR:zbP key b B=R
 refine Bd func189 ntmps189 fun σ N hp hpn hk hkn hfree=>?_
 have haA:zA ⟨true,sd,fs,L,B⟩=.agg [.lit (.bool true),zd sd,.lit (.int .i64 fs),.slice none (L.map zJ),.slice none (B.map zo)]:=rfl
 refine Wk ?_
 refine ze zi (by kernel_rfl) [6,7,8,15,16,17,18,19,20,21,22,23,24,25,26,27,28,29,30,31,32,33,34,35,36,37,38,39,40,41,42,43,44,45,46,47] [N,N+1] (fun m_ s_ σ_ n_=>∃ (u:Nat),m_=B.length - u∧s_ 8=.lit (.int .i64 u)∧σ_ (N)=.box 41 (.agg [.lit (.bool true),zd sd,.lit (.int .i64 fs),.slice none (L.map zJ),.slice none (B.map zo)])∧σ_ (N+1)=.box 28 (zd key)∧(u≤B.length)∧(zbP key b (B.drop u)=R)) ⟨_,0,rfl,WF,WF,WF,WC,WC⟩ ?_
 intro m_1 s_1 σ_1 n_1 hs_1 hf_1 hn_1 hI_1
 obtain ⟨u,hm_1,h1_8,e1_0,e1_1,hu,hd⟩:=hI_1
 have h1_2:=KS hs_1 2
 have h1_3:=KS hs_1 3
 have h1_4:=KS hs_1 4
 have hlow:=KL (N:=N) (σ:=σ) hf_1
 clear haA
 by_cases hul:u=B.length
 ·subst hul
  rw [List.drop_length] at hd
  simp only [zbP] at hd
  subst hd
  clear hR hm
  unfold zkC
  simp only [List.map_nil]
  exact WL
 ·have hu1:u < B.length:=by omega
  rw [List.drop_eq_getElem_cons hu1,zbP] at hd
  have hmz:=hm _ (List.getElem_mem hu1)
  obtain ⟨z,hz⟩:∃ z,B[u]=z:=⟨_,rfl⟩
  rw [hz] at hd hmz
  obtain ⟨zk,zn,zp,zb⟩:=z
  simp only at hd hmz
  have hzd:zo ⟨zk,zn,zp,zb⟩=.agg [zd zk,.lit (.int .i64 zn),bAV zp,bAV zb]:=rfl
  have hzb:=qS zp
  have hzb2:=qS zb
  obtain ⟨hmz1,hmz2⟩:=hmz
  have c1:=vG zb b oo
  clear hR hm
  by_cases h1:zk=key
  ·by_cases h3:zb=b
   ·rw [if_pos ⟨h1,h3⟩] at hd
    subst hd
    rw [decide_eq_true h3] at c1
    have hcs:=And.intro c1 True.intro
    clear c1
    subst h1
    subst h3
    unfold zkC
    simp only
    exact WL
   ·rw [if_neg (fun h=>h3 h.2)] at hd
    rw [decide_eq_false h3] at c1
    have hcs:=And.intro c1 True.intro
    clear c1
    subst h1
    refine Wk ?_
    exact ⟨WS,WG,WN,_,(show B.length - (u+1) < m_1 by omega),u+1,rfl,WF,WF,WF,WC,WC⟩
  ·rw [if_neg (fun h=>h1 h.1)] at hd
   have d1:decide (zk=key)=false:=decide_eq_false h1
   clear c1
   refine Wk ?_
   exact ⟨WS,WG,WN,_,(show B.length - (u+1) < m_1 by omega),u+1,rfl,WF,WF,WF,WC,WC⟩
set_option maxHeartbeats 1000000 in
theorem zne (sd:Tg) (fs:Int) (L:List MacE) (B:List BoxE) (key:Tg) (b:List UInt8) (hb:b.length≤100000) (k:Nat):
  ACall prog 189 [zA ⟨false,sd,fs,L,B⟩,zd key,.slice none (b.map za)] k [] (zkC (x6 ⟨false,sd,fs,L,B⟩ key b)) []:=by
 unfold x6
 rw [if_neg (by simp)]
 have haA:zA ⟨false,sd,fs,L,B⟩=.agg [.lit (.bool false),zd sd,.lit (.int .i64 fs),.slice none (L.map zJ),.slice none (B.map zo)]:=rfl
 unfold zkC
 by_cases h1:b.length < 40
 ·rw [if_pos (.inl h1)]
  have h1i:(b.length:Int) < 40:=by omega
  simp only [List.map_nil]
  refine Bd func189 ntmps189 fun σ N hp hpn hk hkn hfree=>?_
  exact WL
 have h1i:¬ (b.length:Int) < 40:=by omega
 by_cases h2:296 < b.length
 ·rw [if_pos (.inr h2)]
  have h2i:(296:Int) < (b.length:Int):=by omega
  simp only [List.map_nil]
  refine Bd func189 ntmps189 fun σ N hp hpn hk hkn hfree=>?_
  exact WL
 have h2i:¬ (296:Int) < (b.length:Int):=by omega
 rw [if_neg oo]
 have hn32:((b.length:Int) - 32).toNat=b.length - 32:=by omega
 have hn32i:(0:Int)≤(b.length:Int) - 32:=by omega
 have hA1:(b.map za).take (b.length - 32)=(b.take (b.length - 32)).map za:=by rw [List.map_take]
 have hD1:(b.map za).drop (b.length - 32)=(b.drop (b.length - 32)).map za:=by rw [List.map_drop]
 have hD2:((b.take (b.length - 32)).map za).drop 8=((b.take (b.length - 32)).drop 8).map za:=by rw [List.map_drop]
 have hl1:(b.take (b.length - 32)).length=b.length - 32:=by rw [List.length_take];omega
 have hl2:(b.drop (b.length - 32)).length=32:=by rw [List.length_drop];omega
 have hL8:(b.take 8).length=8:=by rw [List.length_take];omega
 have hbd:=zmu (L:=b.take 8) (i:=8) hL8 (Nat.le_refl _)
 rw [List.take_of_length_le (i:=8) (l:=b.take 8) oo] at hbd
 have c1:=vX [98,111,120] (b.take (b.length - 32)) (by decide) oo
 have c2:=zcW key.1 ([98,111,120]++b.take (b.length - 32)) (by rw [key.2];decide) (by simp;omega)
 generalize hMs:[98,111,120]++b.take (b.length - 32)=Ms at *
 generalize qC key.1 Ms=T at *
 have c3:=vG T.1 (b.drop (b.length - 32)) (by rw [T.2];decide)
 have c4:=zj2 key (be8 (b.take 8)) hbd.1 ((b.take (b.length - 32)).drop 8) (by rw [List.length_drop];omega)
 have ht1:=zB T
 have ht2:=zj T
 have hs1:=zB key
 have hs2:=zj key
 obtain ⟨K,hK⟩:=key
 obtain ⟨T,hT⟩:=T
 have hkA:zd ⟨K,hK⟩=.agg (K.map za):=rfl
 have htA:zd ⟨T,hT⟩=.agg (T.map za):=rfl
 simp only [hkA,htA] at hs1 hs2 ht1 ht2 c2 c3 c4 ⊢
 clear hkA htA
 have hs3:AV.celll (K.map za)=true:=zX K
 have ht3:AV.celll (T.map za)=true:=zX T
 have htk:(K.map za).take 32=K.map za:=List.take_of_length_le (by rw [List.length_map];omega)
 have htk2:(T.map za).take 32=T.map za:=List.take_of_length_le (by rw [List.length_map];omega)
 by_cases h3:T=b.drop (b.length - 32)
 ·rw [if_pos h3]
  rw [decide_eq_true h3] at c3
  simp only
  generalize jz K (be8 (b.take 8):Int) ((b.take (b.length - 32)).drop 8)=St at *
  have h0b:be8 (List.take 0 b)=0:=by simp [be8]
  clear hMs h3
  generalize (b.take (b.length - 32)).drop 8=Bq at *
  generalize b.drop (b.length - 32)=Dr at *
  generalize b.take (b.length - 32)=Tk at *
  refine Bd func189 ntmps189 fun σ N hp hpn hk hkn hfree=>?_
  have hcs:=And.intro c1 (And.intro c2 (And.intro c3 True.intro))
  clear c1 c2 c3
  refine Wk ?_
  refine ze zi (by kernel_rfl) [11,12,70,71,72,73,74,75,76,77,78,79,80,81] [] (fun m_ s_ σ_ n_=>∃ (i:Nat) (v:Nat),m_=8 - i∧s_ 12=.lit (.int .i64 i)∧s_ 11=.lit (.int .u64 v)∧(i≤8)∧(be8 (b.take i)=v)) ⟨_,0,0,rfl,WF,WF,WC,WC⟩ ?_
  intro m_2 s_2 σ_2 n_2 hs_2 hf_2 hn_2 hI_2
  obtain ⟨i,v,hm_2,h2_12,h2_11,hi,hv⟩:=hI_2
  have h2_2:=KS hs_2 2
  have h2_4:=KS hs_2 4
  have h2_6:=KS hs_2 6
  have h2_7:=KS hs_2 7
  have h2_9:=KS hs_2 9
  have k2_0:=KE hf_2 (N+1)
  have hlow:=KL (N:=N) (σ:=σ) hf_2
  clear h0b
  by_cases hi8:i=8
  ·subst hi8
   rw [hv] at c4
   have hcs:=And.intro c4 True.intro
   clear c4 hv
   exact WL
  ·have hil:i < b.length:=by omega
   have hi8i:(i:Int) < 8:=by omega
   obtain ⟨x,hx⟩:∃ x,b[i]=x:=⟨_,rfl⟩
   have hxx:za x=.lit (.int .u8 x.toNat):=rfl
   have hxl:=x.toNat_lt
   have hm3:=zsp hil
   rw [hv,hx] at hm3
   have hvb:v < 72057594037927936:=by
    rw [← hv]
    have:=(zmu (L:=b.take 8) (i:=i) hL8 oo).2 oo
    rw [List.take_take,Nat.min_eq_left oo] at this
    exact this
   have w1:IntKind.u64.wrap (256 * (v:Int))=256 * (v:Int):=yq oo oo
   have w2:IntKind.u64.wrap (x.toNat:Int)=(x.toNat:Int):=yq oo oo
   have w3:IntKind.u64.wrap (256 * (v:Int)+(x.toNat:Int))=256 * (v:Int)+(x.toNat:Int):=yq oo oo
   clear hv c4
   refine Wk ?_
   exact ⟨WS,WG,WN,_,(show 8 - (i+1) < m_2 by omega),i+1,256 * v+x.toNat,rfl,WF,WF,WC,WC⟩
 ·rw [if_neg h3]
  rw [decide_eq_false h3] at c3
  simp only [List.map_nil]
  clear hMs h3 c4
  generalize b.drop (b.length - 32)=Dr at *
  generalize b.take (b.length - 32)=Tk at *
  refine Bd func189 ntmps189 fun σ N hp hpn hk hkn hfree=>?_
  have hcs:=And.intro c1 (And.intro c2 (And.intro c3 True.intro))
  clear c1 c2 c3
  exact WL
theorem znf (a:Alg) (m:Nat) (ha:AlgIn a m) (hm:m≤900000) (key:Tg) (b:List UInt8) (hb:b.length≤100000) (k:Nat):
  ACall prog 189 [zA a,zd key,.slice none (b.map za)] k [] (zkC (x6 a key b)) []:=by
 obtain ⟨fr,sd,fs,L,B⟩:=a
 cases fr with
 | true=>exact znd sd fs L B key b (by have:=ha.bl;simp only at this;omega) ha.bm hb k
 | false=>exact zne sd fs L B key b hb k
end
end Go.Proofs.YtglmjglbobhbbaaGreatDoor
