/- Texts N4, N5, N2, joined. -/
import Derived.Test.YtglmjglbobhbbaaGreatDoorM6
namespace Go.Proofs.YtglmjglbobhbbaaGreatDoor
open _root_.Go.Proofs.Tryz
open Go.Ab
attribute [local irreducible] Go.Ab.tyAV Go.Ab.aw Go.Ab.aops Go.Ab.kReg Go.Ab.aThen Go.Ab.aBlk Go.Ab.acond Go.Ab.aguard Go.Ab.astep Go.Ab.AStepX Go.Ab.aRet
def sh8 (m:Int) (s:Nat):UInt8:=UInt8.ofNat ((m / (2:Int) ^ s) % 256).toNat
theorem xK (m:Int) (s:Nat):((sh8 m s).toNat:Int)=(m / (2:Int) ^ s) % 256:=by
 unfold sh8
 rw [UInt8.toNat_ofNat']
 omega
theorem z9 (m:Int) (s:Nat):IntKind.u8.wrap (m.fdiv ((2:Int) ^ s))=((sh8 m s).toNat:Int):=by
 have hp:(0:Int)≤2 ^ s:=Int.le_of_lt (Int.pow_pos (by decide))
 rw [xK,IntKind.wrap_u8,Int.fdiv_eq_ediv,if_pos (.inl hp),Int.sub_zero]
def yh (m:Int):List UInt8:=[sh8 m 56,sh8 m 48,sh8 m 40,sh8 m 32,sh8 m 24,sh8 m 16,sh8 m 8,sh8 m 0]
theorem xD (m:Int):(yh m).length=8:=rfl
attribute [go_sem] zqk
theorem zcV (m:Int) (_m0:0≤m) (_m1:m < 18446744073709551616) (k:Nat):
  ACall prog 160 [.lit (.int .u64 m)] k [] (.slice none ((yh m).map za)) []:=by
 have e7:=z9 m 56
 have e6:=z9 m 48
 have e5:=z9 m 40
 have e4:=z9 m 32
 have e3:=z9 m 24
 have e2:=z9 m 16
 have e1:=z9 m 8
 have e0:=z9 m 0
 simp only [Int.reducePow,Int.pow_zero,Int.fdiv_one] at e7 e6 e5 e4 e3 e2 e1 e0
 unfold yh
 generalize sh8 m 56=b7 at *
 generalize sh8 m 48=b6 at *
 generalize sh8 m 40=b5 at *
 generalize sh8 m 32=b4 at *
 generalize sh8 m 24=b3 at *
 generalize sh8 m 16=b2 at *
 generalize sh8 m 8=b1 at *
 generalize sh8 m 0=b0 at *
 refine Bd func160 ntmps160 fun σ N hp hpn hk hkn hfree=>?_
 refine Wk ?_
 refine ALoop.nilrow 3 5 1 (by simp (disch:=omega) [go_sem, *,-List.reduceReplicate]) ?_
 refine yn (N) zi (by kernel_rfl) [3,4,5,6,7,8,9,10,11,12,13,14,15,16] [] (fun m_ s_ σ_ n_=>∃ (u:Nat) (q:Nat) (acc:List UInt8),m_=8 - u∧s_ 4=.lit (.int .i64 (56 - 8 * (u:Int)))∧s_ 3=.slice (some q) (acc.map za)∧σ_ (q)=.row 5 1 acc.length∧(u≤8)∧(N≤q)∧(q < n_)∧(acc=[b7,b6,b5,b4,b3,b2,b1,b0].take u)) ⟨_,0,_,[],rfl,WF,WF,WF,WC,WC,WC,WC⟩ ?_
 intro m_1 s_1 σ_1 n_1 hs_1 hf_1 hn_1 hI_1
 obtain ⟨u,q,acc,hm_1,h1_4,h1_3,e1_0,hu,hq,hqn,hacc⟩:=hI_1
 have h1_0:=KS hs_1 0
 have h1_2:=KS hs_1 2
 have hlow:=KL (N:=N) (σ:=σ) hf_1
 have hb7:za b7=.lit (.int .u8 b7.toNat):=rfl
 have hb6:za b6=.lit (.int .u8 b6.toNat):=rfl
 have hb5:za b5=.lit (.int .u8 b5.toNat):=rfl
 have hb4:za b4=.lit (.int .u8 b4.toNat):=rfl
 have hb3:za b3=.lit (.int .u8 b3.toNat):=rfl
 have hb2:za b2=.lit (.int .u8 b2.toNat):=rfl
 have hb1:za b1=.lit (.int .u8 b1.toNat):=rfl
 have hb0:za b0=.lit (.int .u8 b0.toNat):=rfl
 have hcase:u=0∨u=1∨u=2∨u=3∨u=4∨u=5∨u=6∨u=7∨u=8:=by omega
 rcases hcase with rfl | hcase
 ·simp only [List.take_zero] at hacc
  subst hacc
  refine Wk ?_
  exact ⟨WS,WG,WN,_,(show 8 - (1) < m_1 by omega),1,q,[b7],rfl,WF,WF,WF,WC,WC,WC,WC⟩
 rcases hcase with rfl | hcase
 ·simp only [List.take_succ_cons,List.take_zero] at hacc
  subst hacc
  refine Wk ?_
  exact ⟨WS,WG,WN,_,(show 8 - (2) < m_1 by omega),2,q,[b7,b6],rfl,WF,WF,WF,WC,WC,WC,WC⟩
 rcases hcase with rfl | hcase
 ·simp only [List.take_succ_cons,List.take_zero] at hacc
  subst hacc
  refine Wk ?_
  exact ⟨WS,WG,WN,_,(show 8 - (3) < m_1 by omega),3,q,[b7,b6,b5],rfl,WF,WF,WF,WC,WC,WC,WC⟩
 rcases hcase with rfl | hcase
 ·simp only [List.take_succ_cons,List.take_zero] at hacc
  subst hacc
  refine Wk ?_
  exact ⟨WS,WG,WN,_,(show 8 - (4) < m_1 by omega),4,q,[b7,b6,b5,b4],rfl,WF,WF,WF,WC,WC,WC,WC⟩
 rcases hcase with rfl | hcase
 ·simp only [List.take_succ_cons,List.take_zero] at hacc
  subst hacc
  refine Wk ?_
  exact ⟨WS,WG,WN,_,(show 8 - (5) < m_1 by omega),5,q,[b7,b6,b5,b4,b3],rfl,WF,WF,WF,WC,WC,WC,WC⟩
 rcases hcase with rfl | hcase
 ·simp only [List.take_succ_cons,List.take_zero] at hacc
  subst hacc
  refine Wk ?_
  exact ⟨WS,WG,WN,_,(show 8 - (6) < m_1 by omega),6,q,[b7,b6,b5,b4,b3,b2],rfl,WF,WF,WF,WC,WC,WC,WC⟩
 rcases hcase with rfl | hcase
 ·simp only [List.take_succ_cons,List.take_zero] at hacc
  subst hacc
  refine Wk ?_
  exact ⟨WS,WG,WN,_,(show 8 - (7) < m_1 by omega),7,q,[b7,b6,b5,b4,b3,b2,b1],rfl,WF,WF,WF,WC,WC,WC,WC⟩
 rcases hcase with rfl | hcase
 ·simp only [List.take_succ_cons,List.take_zero] at hacc
  subst hacc
  refine Wk ?_
  exact ⟨WS,WG,WN,_,(show 8 - (8) < m_1 by omega),8,q,[b7,b6,b5,b4,b3,b2,b1,b0],rfl,WF,WF,WF,WC,WC,WC,WC⟩
 subst hcase
 simp only [List.take_succ_cons,List.take_zero] at hacc
 subst hacc
 exact WM
theorem zmj (m:Int) (_m0:0≤m) (_m1:m < 18446744073709551616) (k:Nat):
  ACall prog 160 [.lit (.int .u64 m)] k [] (.slice (some k) ((yh m).map za)) [(k,.row 5 1 8)]:=by
 have e7:=z9 m 56
 have e6:=z9 m 48
 have e5:=z9 m 40
 have e4:=z9 m 32
 have e3:=z9 m 24
 have e2:=z9 m 16
 have e1:=z9 m 8
 have e0:=z9 m 0
 simp only [Int.reducePow,Int.pow_zero,Int.fdiv_one] at e7 e6 e5 e4 e3 e2 e1 e0
 unfold yh
 generalize sh8 m 56=b7 at *
 generalize sh8 m 48=b6 at *
 generalize sh8 m 40=b5 at *
 generalize sh8 m 32=b4 at *
 generalize sh8 m 24=b3 at *
 generalize sh8 m 16=b2 at *
 generalize sh8 m 8=b1 at *
 generalize sh8 m 0=b0 at *
 refine Bd func160 ntmps160 fun σ N hp hpn hk hkn hfree=>?_
 refine Wk ?_
 refine ALoop.nilrow 3 5 1 (by simp (disch:=omega) [go_sem, *,-List.reduceReplicate]) ?_
 refine yn (N) zi (by kernel_rfl) [3,4,5,6,7,8,9,10,11,12,13,14,15,16] [] (fun m_ s_ σ_ n_=>∃ (u:Nat) (q:Nat) (acc:List UInt8),m_=8 - u∧s_ 4=.lit (.int .i64 (56 - 8 * (u:Int)))∧s_ 3=.slice (some q) (acc.map za)∧σ_ (q)=.row 5 1 acc.length∧(u≤8)∧(N≤q)∧(q < n_)∧(acc=[b7,b6,b5,b4,b3,b2,b1,b0].take u)) ⟨_,0,_,[],rfl,WF,WF,WF,WC,WC,WC,WC⟩ ?_
 intro m_1 s_1 σ_1 n_1 hs_1 hf_1 hn_1 hI_1
 obtain ⟨u,q,acc,hm_1,h1_4,h1_3,e1_0,hu,hq,hqn,hacc⟩:=hI_1
 have h1_0:=KS hs_1 0
 have h1_2:=KS hs_1 2
 have hlow:=KL (N:=N) (σ:=σ) hf_1
 have hb7:za b7=.lit (.int .u8 b7.toNat):=rfl
 have hb6:za b6=.lit (.int .u8 b6.toNat):=rfl
 have hb5:za b5=.lit (.int .u8 b5.toNat):=rfl
 have hb4:za b4=.lit (.int .u8 b4.toNat):=rfl
 have hb3:za b3=.lit (.int .u8 b3.toNat):=rfl
 have hb2:za b2=.lit (.int .u8 b2.toNat):=rfl
 have hb1:za b1=.lit (.int .u8 b1.toNat):=rfl
 have hb0:za b0=.lit (.int .u8 b0.toNat):=rfl
 have hcase:u=0∨u=1∨u=2∨u=3∨u=4∨u=5∨u=6∨u=7∨u=8:=by omega
 rcases hcase with rfl | hcase
 ·simp only [List.take_zero] at hacc
  subst hacc
  refine Wk ?_
  exact ⟨WS,WG,WN,_,(show 8 - (1) < m_1 by omega),1,q,[b7],rfl,WF,WF,WF,WC,WC,WC,WC⟩
 rcases hcase with rfl | hcase
 ·simp only [List.take_succ_cons,List.take_zero] at hacc
  subst hacc
  refine Wk ?_
  exact ⟨WS,WG,WN,_,(show 8 - (2) < m_1 by omega),2,q,[b7,b6],rfl,WF,WF,WF,WC,WC,WC,WC⟩
 rcases hcase with rfl | hcase
 ·simp only [List.take_succ_cons,List.take_zero] at hacc
  subst hacc
  refine Wk ?_
  exact ⟨WS,WG,WN,_,(show 8 - (3) < m_1 by omega),3,q,[b7,b6,b5],rfl,WF,WF,WF,WC,WC,WC,WC⟩
 rcases hcase with rfl | hcase
 ·simp only [List.take_succ_cons,List.take_zero] at hacc
  subst hacc
  refine Wk ?_
  exact ⟨WS,WG,WN,_,(show 8 - (4) < m_1 by omega),4,q,[b7,b6,b5,b4],rfl,WF,WF,WF,WC,WC,WC,WC⟩
 rcases hcase with rfl | hcase
 ·simp only [List.take_succ_cons,List.take_zero] at hacc
  subst hacc
  refine Wk ?_
  exact ⟨WS,WG,WN,_,(show 8 - (5) < m_1 by omega),5,q,[b7,b6,b5,b4,b3],rfl,WF,WF,WF,WC,WC,WC,WC⟩
 rcases hcase with rfl | hcase
 ·simp only [List.take_succ_cons,List.take_zero] at hacc
  subst hacc
  refine Wk ?_
  exact ⟨WS,WG,WN,_,(show 8 - (6) < m_1 by omega),6,q,[b7,b6,b5,b4,b3,b2],rfl,WF,WF,WF,WC,WC,WC,WC⟩
 rcases hcase with rfl | hcase
 ·simp only [List.take_succ_cons,List.take_zero] at hacc
  subst hacc
  refine Wk ?_
  exact ⟨WS,WG,WN,_,(show 8 - (7) < m_1 by omega),7,q,[b7,b6,b5,b4,b3,b2,b1],rfl,WF,WF,WF,WC,WC,WC,WC⟩
 rcases hcase with rfl | hcase
 ·simp only [List.take_succ_cons,List.take_zero] at hacc
  subst hacc
  refine Wk ?_
  exact ⟨WS,WG,WN,_,(show 8 - (8) < m_1 by omega),8,q,[b7,b6,b5,b4,b3,b2,b1,b0],rfl,WF,WF,WF,WC,WC,WC,WC⟩
 subst hcase
 simp only [List.take_succ_cons,List.take_zero] at hacc
 subst hacc
 clear hb7 hb6 hb5 hb4 hb3 hb2 hb1 hb0
 refine Wk ?_
 refine zQ (r0:=q) (by simp (disch:=omega) [go_sem, *,-List.reduceReplicate];rfl) oo (by simp (disch:=omega) [go_sem];try rfl) (fun id hid=>by simp (disch:=omega) only;try exact hlow id hid) (by simp (disch:=omega) [go_sem, *,-List.reduceReplicate];rfl) (by simp (disch:=omega) [go_sem])
def zdg:Nat→List UInt8→Nat
 | 0,_=>0
 | _+1,[]=>0
 | f+1,x::r=>if 128≤x.toNat then zdg f r+1 else 0
def zme (b:List UInt8):Nat:=zdg 7 b
def vl (b:List UInt8):Nat→Nat
 | 0=>0
 | j+1=>vl b j+(b.getD j 0).toNat % 128 * 128 ^ j
def rdS (b:List UInt8):Nat × Nat × Nat:=
 if zme b=7 then (0,0,5) else if zme b=b.length then (0,0,3) else if 0 < zme b∧(b.getD (zme b) 0).toNat=0 then (0,0,5) else
  if 281474976710656 < vl b (zme b+1) then (0,0,1) else (vl b (zme b+1),zme b+1,0)
def zyt (r:Nat × Nat × Nat):AV:=.tup [.lit (.int .i64 r.1),.lit (.int .i64 r.2.1),.lit (.int .i64 r.2.2)]
theorem ziw:∀ (f:Nat) (b:List UInt8),zdg f b≤f∧zdg f b≤b.length
 | 0,b=>by simp [zdg]
 | f+1,[]=>by simp [zdg]
 | f+1,x::r=>by
  have:=ziw f r
  simp only [zdg]
  split <;> simp <;> omega
theorem zlK:∀ (f:Nat) (b:List UInt8) (i:Nat),i < zdg f b→∃ x,b[i]?=some x∧128≤x.toNat
 | 0,b,i,h=>by simp [zdg] at h
 | f+1,[],i,h=>by simp [zdg] at h
 | f+1,x::r,i,h=>by
  simp only [zdg] at h
  split at h
  ·cases i with
   | zero=>exact ⟨x,rfl,by assumption⟩
   | succ i=>exact zlK f r i oo
  ·omega
theorem zlJ:∀ (f:Nat) (b:List UInt8),zdg f b < f→zdg f b < b.length→∃ x,b[zdg f b]?=some x∧x.toNat < 128
 | 0,b,h,_=>by omega
 | f+1,[],_,h=>by simp at h
 | f+1,x::r,h,h'=>by
  simp only [zdg] at h h' ⊢
  split at h
  ·rename_i hx
   rw [if_pos hx] at h' ⊢
   obtain ⟨y,h1,h2⟩:=zlJ f r oo (by simpa using h')
   exact ⟨y,by simpa using h1,h2⟩
  ·rename_i hx
   rw [if_neg hx]
   exact ⟨x,rfl,by omega⟩
theorem zw3 (b:List UInt8):∀ j,vl b j < 128 ^ j
 | 0=>by simp [vl]
 | j+1=>by
  have h:=zw3 b j
  have h2:(b.getD j 0).toNat % 128≤127:=by omega
  have h3:=Nat.mul_le_mul_right (128 ^ j) h2
  simp only [vl,Nat.pow_succ]
  omega
theorem zfS (n:Nat):1≤(leb n).length:=by
 by_cases h:n < 128
 ·rw [xQ h];simp
 ·rw [jC h];simp
theorem zsM (n:Nat):∀ k,n < 128 ^ (k+1)→(leb n).length≤k+1:=by
 induction n using Nat.strongRecOn with
 | _ n ih=>
  intro k hk
  by_cases h:n < 128
  ·rw [xQ h];simp
  ·rw [jC h]
   cases k with
   | zero=>simp at hk;omega
   | succ k=>
    have:=ih (n / 128) oo k (by rw [Nat.pow_succ] at hk;omega)
    simp;omega
theorem zg8 {n:Nat} (h:n < 256):(u8 n).toNat=n:=by
 unfold u8;rw [UInt8.toNat_ofNat',Nat.mod_eq_of_lt h]
theorem zj8 (x:UInt8) (r:List UInt8):∀ j,vl (x::r) (j+1)=x.toNat % 128+128 * vl r j
 | 0=>by simp [vl]
 | j+1=>by
  rw [vl,zj8 x r j,vl]
  simp only [List.getD_cons_succ,Nat.pow_succ]
  rw [Nat.mul_add,Nat.add_assoc]
  congr 2
  rw [← Nat.mul_assoc,Nat.mul_comm _ 128]
theorem zrp (n:Nat):∀ (f:Nat) (t:List UInt8),(leb n).length≤f→zdg f (leb n++t)=(leb n).length - 1:=by
 induction n using Nat.strongRecOn with
 | _ n ih=>
  intro f t hf
  by_cases h:n < 128
  ·rw [xQ h] at hf ⊢
   cases f with
   | zero=>simp at hf
   | succ f=>simp [zdg,zg8 (show n < 256 by omega)];omega
  ·rw [jC h] at hf ⊢
   cases f with
   | zero=>simp at hf
   | succ f=>
    have hp:=zfS (n / 128)
    simp only [List.cons_append,zdg,zg8 (show n % 128+128 < 256 by omega)]
    rw [if_pos oo,ih (n / 128) oo f t (by simp at hf;omega)]
    simp;omega
theorem zw2 (n:Nat):∀ t:List UInt8,vl (leb n++t) (leb n).length=n:=by
 induction n using Nat.strongRecOn with
 | _ n ih=>
  intro t
  by_cases h:n < 128
  ·rw [xQ h]
   simp only [List.cons_append,List.nil_append,List.length_cons,List.length_nil,zj8,zg8 (show n < 256 by omega),vl]
   omega
  ·rw [jC h]
   simp only [List.cons_append,List.length_cons,zj8,zg8 (show n % 128+128 < 256 by omega)]
   rw [ih (n / 128) oo t]
   omega
theorem zsL (n:Nat):∀ t:List UInt8,0 < (leb n).length - 1→((leb n++t).getD ((leb n).length - 1) 0).toNat≠0:=by
 induction n using Nat.strongRecOn with
 | _ n ih=>
  intro t hl
  by_cases h:n < 128
  ·rw [xQ h] at hl;simp at hl
  ·rw [jC h]
   have hp:=zfS (n / 128)
   have e:(u8 (n % 128+128)::leb (n / 128)).length - 1=((leb (n / 128)).length - 1)+1:=by simp;omega
   rw [e,List.cons_append,List.getD_cons_succ]
   by_cases h2:n / 128 < 128
   ·rw [xQ h2]
    simp [zg8 (show n / 128 < 256 by omega)]
    omega
   ·refine ih (n / 128) oo t ?_
    rw [jC h2]
    have:=zfS (n / 128 / 128)
    simp;omega
theorem zuP (n:Nat) (hn:n≤281474976710656) (t:List UInt8):rdS (leb n++t)=(n,(leb n).length,0):=by
 have hl:=zsM n 6 oo
 have hp:=zfS n
 have h1:zme (leb n++t)=(leb n).length - 1:=zrp n 7 t oo
 have h2:vl (leb n++t) ((leb n).length - 1+1)=n:=by rw [Nat.sub_add_cancel hp];exact zw2 n t
 unfold rdS
 rw [h1,h2,if_neg oo,if_neg (by rw [List.length_append];omega),if_neg (fun h=>zsL n t h.1 h.2),if_neg oo,Nat.sub_add_cancel hp]
theorem ztN:∀ (l:Nat) (b:List UInt8),l < b.length→(∀ i,i < l→∃ x,b[i]?=some x∧128≤x.toNat)→(b.getD l 0).toNat < 128→(l=0∨(b.getD l 0).toNat≠0)→leb (vl b (l+1))=b.take (l+1)
 | 0,[],h,_,_,_=>by simp at h
 | 0,x::r,_,_,h,_=>by
  simp only [List.getD_cons_zero] at h
  have:vl (x::r) (0+1)=x.toNat:=by rw [zj8];simp [vl];omega
  rw [this,xQ h]
  simp [u8]
 | l+1,[],h,_,_,_=>by simp at h
 | l+1,x::r,hl,hb,h,hz=>by
  simp only [List.getD_cons_succ] at h hz
  have hz':(r.getD l 0).toNat≠0:=hz.resolve_left oo
  obtain ⟨y,hy,hy1⟩:=hb 0 oo
  simp at hy;subst hy
  have ih:=ztN l r (by simpa using hl) (fun i hi=>by simpa using hb (i+1) oo) h (.inr hz')
  have hpos:1≤vl r (l+1):=by
   have:1≤(r.getD l 0).toNat % 128 * 128 ^ l:=Nat.mul_pos oo (Nat.pow_pos oo)
   simp only [vl];omega
  have hx:=x.toNat_lt
  rw [zj8,jC oo,show (x.toNat % 128+128 * vl r (l+1)) % 128+128=x.toNat by omega,show (x.toNat % 128+128 * vl r (l+1)) / 128=vl r (l+1) by omega,ih]
  simp [u8]
theorem zwy (b:List UInt8) {n u:Nat} (h:rdS b=(n,u,0)):n≤281474976710656∧u≤b.length∧leb n=b.take u:=by
 have hle:=ziw 7 b
 unfold rdS at h
 split at h
 ·simp at h
 ·rename_i h7
  split at h
  ·simp at h
  ·rename_i hlen
   split at h
   ·simp at h
   ·rename_i hz
    split at h
    ·simp at h
    ·rename_i hm
     simp only [Prod.mk.injEq,and_true] at h
     obtain ⟨rfl,rfl⟩:=h
     unfold zme at *
     obtain ⟨x,hx1,hx2⟩:=zlJ 7 b oo oo
     have hg:b.getD (zdg 7 b) 0=x:=by simp [List.getD,hx1]
     refine ⟨by omega,by omega,ztN _ b oo (fun i hi=>zlK 7 b i hi) (by rw [hg];exact hx2) ?_⟩
     by_cases h0:zdg 7 b=0
     ·exact .inl h0
     ·exact .inr fun e=>hz ⟨by omega,e⟩
theorem zuO (b:List UInt8):(rdS b).2.2=0∨∃ e,rdS b=(0,0,e)∧e≠0:=by
 unfold rdS
 split
 ·exact .inr ⟨5,rfl,by omega⟩
 ·split
  ·exact .inr ⟨3,rfl,by omega⟩
  ·split
   ·exact .inr ⟨5,rfl,by omega⟩
   ·split
    ·exact .inr ⟨1,rfl,by omega⟩
    ·exact .inl rfl
theorem zu2 (b:List UInt8) (i:Nat) (n:Nat):vl b (i+1)+n * 128 ^ (i+1)=vl b i+(128 * n+(b.getD i 0).toNat % 128) * 128 ^ i:=by
 simp only [vl,Nat.pow_succ,Nat.add_mul]
 have:n * (128 ^ i * 128)=128 * n * 128 ^ i:=by rw [Nat.mul_comm (128 ^ i),← Nat.mul_assoc,Nat.mul_comm n]
 omega
theorem zuE (b:List UInt8) (i:Nat) (h:i < zme b):∃ h:i < b.length,127 < (b[i].toNat:Int):=by
 obtain ⟨x,hx,hx2⟩:=zlK 7 b i h
 obtain ⟨h1,h2⟩:=List.getElem?_eq_some_iff.1 hx
 exact ⟨h1,by rw [h2];omega⟩
theorem zuD (b:List UInt8) (h:zme b < 7) (h2:zme b < b.length):(b[zme b].toNat:Int) < 128:=by
 obtain ⟨x,hx,hx2⟩:=zlJ 7 b h h2
 obtain ⟨h1,h3⟩:=List.getElem?_eq_some_iff.1 hx
 have e:b[zme b].toNat=x.toNat:=congrArg UInt8.toNat h3
 omega
def ztR (b:List UInt8) (L:Nat):Nat × Nat × Nat:=
 if L=7 then (0,0,5) else if L=b.length then (0,0,3) else if 0 < L∧(b.getD L 0).toNat=0 then (0,0,5) else
  if 281474976710656 < vl b (L+1) then (0,0,1) else (vl b (L+1),L+1,0)
set_option maxHeartbeats 800000 in
theorem zng (b:List UInt8) (hb:b.length≤100000000) (k:Nat):ACall prog 230 [.slice none (b.map za)] k [] (zyt (rdS b)) []:=by
 have hl7:zme b≤7:=(ziw 7 b).1
 have hll:zme b≤b.length:=(ziw 7 b).2
 have hlt:=zuE b
 have hat:=zuD b
 have hrd:rdS b=ztR b (zme b):=rfl
 rw [hrd]
 clear hrd
 generalize zme b=L at *
 refine Bd func230 ntmps230 fun σ N hp hpn hk hkn hfree=>?_
 refine Wk ?_
 refine zo4 (fun c=>c.s 5=.lit (.int .i64 L)∧c.s 0=.slice none (b.map za)∧N+4≤c.n∧(∀ id,id < N→c.σ id=σ id)) ?_ ?_
 ·refine za0 (zhh zi (by kernel_rfl) (fun c=>∃ i:Nat,c.s 5=.lit (.int .i64 i)∧c.s 0=.slice none (b.map za)∧N+4≤c.n∧(∀ id,id < N→c.σ id=σ id)∧i≤L)
   (fun c=>match c.s 5 with | .lit (.int _ m)=>L - m.toNat | _=>0) ⟨0,by simp (disch:=omega) [go_sem, *,-List.reduceReplicate],by simp (disch:=omega) [go_sem, *,-List.reduceReplicate],by simp,(fun id hid=>by simp (disch:=omega) only;try exact hlow id hid),by omega⟩ ?_)
  rintro ⟨s,σ',n'⟩ ⟨i,h5,h0,hn',hlow,hi⟩
  simp only at h5 h0 hn' hlow
  by_cases hiL:i < L
  ·obtain ⟨hib,g3⟩:=hlt i hiL
   have g1:(i:Int) < (b.length:Int):=by omega
   have g2:(i:Int) < 7:=by omega
   clear hlt hat
   refine Wk ?_
   refine ⟨⟨i+1,by simp (disch:=omega) [go_sem, *,-List.reduceReplicate],by simp (disch:=omega) [go_sem, *,-List.reduceReplicate],by simp only;omega,(fun id hid=>by simp (disch:=omega) only;try exact hlow id hid),by omega⟩,?_⟩
   simp (disch:=omega) [go_sem, *,-List.reduceReplicate]
   omega
  ·have hiL':i=L:=by omega
   subst hiL'
   clear hlt hi hiL
   by_cases c1:(i:Int) < (b.length:Int)
   ·by_cases c2:(i:Int) < 7
    ·have c3:=hat oo oo
     have c4:¬ (127:Int) < (b[i].toNat:Int):=by omega
     clear hat c3
     refine Wk ?_
     exact ⟨by simp (disch:=omega) [go_sem, *,-List.reduceReplicate],by simp (disch:=omega) [go_sem, *,-List.reduceReplicate],by simp only;omega,(fun id hid=>by simp (disch:=omega) only;try exact hlow id hid)⟩
    ·clear hat
     refine Wk ?_
     exact ⟨by simp (disch:=omega) [go_sem, *,-List.reduceReplicate],by simp (disch:=omega) [go_sem, *,-List.reduceReplicate],by simp only;omega,(fun id hid=>by simp (disch:=omega) only;try exact hlow id hid)⟩
   ·clear hat
    refine Wk ?_
    exact ⟨by simp (disch:=omega) [go_sem, *,-List.reduceReplicate],by simp (disch:=omega) [go_sem, *,-List.reduceReplicate],by simp only;omega,(fun id hid=>by simp (disch:=omega) only;try exact hlow id hid)⟩
 ·rintro ⟨s,σ',n'⟩ ⟨h5,h0,hn',hlow⟩
  simp only at h5 h0 hn' hlow
  clear hlt hat
  unfold ztR zyt
  by_cases c1:L=7
  ·rw [if_pos c1]
   subst c1
   exact W0
  ·rw [if_neg c1]
   by_cases c2:L=b.length
   ·rw [if_pos c2]
    have d1:¬ (L:Int)=7:=by omega
    have d2:(L:Int)=(b.length:Int):=by omega
    exact W0
   ·rw [if_neg c2]
    have d1:¬ (L:Int)=7:=by omega
    have d2:¬ (L:Int)=(b.length:Int):=by omega
    have d3:L < b.length:=by omega
    have hg:(b.getD L 0).toNat=b[L].toNat:=by simp [List.getD,d3]
    by_cases c3:0 < L∧(b.getD L 0).toNat=0
    ·rw [if_pos c3]
     have e1:(0:Int) < (L:Int):=by omega
     have e2:(b[L].toNat:Int)=0:=by omega
     clear hg c3
     exact W0
    ·rw [if_neg c3]
     have key:((0:Int) < (L:Int)∧¬ (b[L].toNat:Int)=0)∨¬ 0 < L:=by omega
     have hv:=zw3 b (L+1)
     have hL6:L≤6:=by omega
     clear hg c3
     have hlow0:=hlow
     rcases key with ⟨e1,e2⟩ | e1
     all_goals
      refine Wk ?_
      refine zo4 (fun c=>c.s 5=.lit (.int .i64 L)∧c.s 6=.lit (.int .i64 (vl b (L+1)))∧(∀ id,id < N→c.σ id=σ id)) ?_ ?_
      ·refine za0 (zhh zi (by kernel_rfl) (fun c=>∃ (i n:Nat),c.s 7=.lit (.int .i64 ((i:Int) - 1))∧c.s 5=.lit (.int .i64 L)∧c.s 6=.lit (.int .i64 n)∧c.s 0=.slice none (b.map za)∧(∀ id,id < N→c.σ id=σ id)∧N≤c.n∧i≤L+1∧vl b (L+1)=vl b i+n * 128 ^ i)
        (fun c=>match c.s 7 with | .lit (.int _ m)=>(m+1).toNat | _=>0) ⟨L+1,0,by (simp (disch:=omega) [go_sem, *,-List.reduceReplicate];try omega),by simp (disch:=omega) [go_sem, *,-List.reduceReplicate],by simp (disch:=omega) [go_sem, *,-List.reduceReplicate],by simp (disch:=omega) [go_sem, *,-List.reduceReplicate],(fun id hid=>by simp (disch:=omega) only;try exact hlow id hid),by simp only;omega,by omega,by omega⟩ ?_)
       rintro ⟨s2,σ2,n2⟩ ⟨i,n,h7,h5,h6,h0,hlow,hn2,hi,hvl⟩
       simp only at h7 h5 h6 h0 hlow hn2
       by_cases hi0:i=0
       ·subst hi0
        have f1:¬ (0:Int)≤((0:Nat):Int) - 1:=by omega
        have f2:n=vl b (L+1):=by rw [hvl];simp [vl]
        clear hvl
        subst f2
        refine Wk ?_
        exact ⟨by simp (disch:=omega) [go_sem, *,-List.reduceReplicate],by simp (disch:=omega) [go_sem, *,-List.reduceReplicate],(fun id hid=>by simp (disch:=omega) only;try exact hlow id hid)⟩
       ·obtain ⟨i,rfl⟩:∃ j,i=j+1:=⟨i - 1,by omega⟩
        have f0:((i+1:Nat):Int) - 1=(i:Int):=by omega
        rw [f0] at h7
        have f1:(0:Int)≤(i:Int):=by omega
        have f2:(i:Int) < (b.length:Int):=by omega
        have f3:i < b.length:=by omega
        rw [zu2] at hvl
        have hg:(b.getD i 0).toNat=b[i].toNat:=by simp [List.getD,f3]
        rw [hg] at hvl
        have hpos:0 < 128 ^ i:=Nat.pow_pos oo
        have hbig:(128 * n+b[i].toNat % 128) * 1≤(128 * n+b[i].toNat % 128) * 128 ^ i:=Nat.mul_le_mul_left _ hpos
        have hvl7:128 ^ (L+1)≤128 ^ 7:=Nat.pow_le_pow_right oo oo
        have hsm:128 * n+b[i].toNat % 128 < 562949953421312:=by omega
        have w1:IntKind.i64.wrap (b[i].toNat:Int)=(b[i].toNat:Int):=wrap_i64 oo (by have:=b[i].toNat_lt;omega)
        have w2:(b[i].toNat:Int).tmod 128=((b[i].toNat % 128:Nat):Int):=by rw [Int.tmod_eq_emod_of_nonneg oo];omega
        have w3:IntKind.i64.wrap (128 * (n:Int))=128 * (n:Int):=wrap_i64 oo oo
        have w4:IntKind.i64.wrap (128 * (n:Int)+((b[i].toNat % 128:Nat):Int))=((128 * n+b[i].toNat % 128:Nat):Int):=by rw [wrap_i64 oo oo];omega
        clear f0 hg hpos hbig hvl7
        have HV:vl b (L+1)=vl b i+(128 * n+b[i].toNat % 128) * 128 ^ i:=hvl
        clear hvl
        generalize hN:128 * n+b[i].toNat % 128=n3 at *
        generalize hB:((b[i].toNat % 128:Nat):Int)=q at *
        clear hN hB
        revert HV
        generalize hVV:vl b (L+1)=VV at *
        intro HV
        refine Wk ?_
        refine ⟨⟨i,n3,by simp (disch:=omega) [go_sem, *,-List.reduceReplicate],by simp (disch:=omega) [go_sem, *,-List.reduceReplicate],by simp (disch:=omega) [go_sem, *,-List.reduceReplicate],by simp (disch:=omega) [go_sem, *,-List.reduceReplicate],(fun id hid=>by simp (disch:=omega) only;try exact hlow id hid),by simp only;omega,by omega,HV⟩,?_⟩
        simp (disch:=omega) [go_sem, *,-List.reduceReplicate]
        try omega
      ·rintro ⟨s2,σ2,n2⟩ ⟨h5,h6,hlow⟩
       simp only at h5 h6 hlow
       have hvl7:128 ^ (L+1)≤128 ^ 7:=Nat.pow_le_pow_right oo oo
       have hv2:vl b (L+1) < 562949953421312:=by omega
       clear hv hvl7
       by_cases c4:281474976710656 < vl b (L+1)
       ·rw [if_pos c4]
        have c5:(281474976710656:Int) < (vl b (L+1):Int):=by omega
        clear c4
        exact W0
       ·rw [if_neg c4]
        have c5:¬ (281474976710656:Int) < (vl b (L+1):Int):=by omega
        clear c4
        exact W0
end Go.Proofs.YtglmjglbobhbbaaGreatDoor
