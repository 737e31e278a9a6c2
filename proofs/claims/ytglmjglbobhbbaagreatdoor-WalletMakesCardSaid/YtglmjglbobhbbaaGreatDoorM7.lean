/- Texts H1, H2, joined. -/
import Derived.Test.YtglmjglbobhbbaaGreatDoorM5
namespace Go.Proofs.YtglmjglbobhbbaaGreatDoor
open _root_.Go.Proofs.Tryz
open Go.Ab
attribute [local irreducible] Go.Ab.tyAV Go.Ab.aw Go.Ab.aops Go.Ab.kReg Go.Ab.aThen Go.Ab.aBlk Go.Ab.acond Go.Ab.aguard Go.Ab.astep Go.Ab.AStepX Go.Ab.aRet
structure W32 where
 cv:Int→Int
 shw:Nat→Int→Int
 o32:Int→Int→Int
 x32:Int→Int→Int
 n32:Int→Int→Int
 rotr:Int→Nat→Int
 cv_h:∀ x,IntKind.u32.wrap x=cv x
 shw_h:∀ n x,IntKind.u32.wrap (x * 2 ^ n)=shw n x
 o32_h:∀ a b,bits .or .u32 a b=o32 a b
 x32_h:∀ a b,bits .xor .u32 a b=x32 a b
 n32_h:∀ a b,bits .and .u32 a b=n32 a b
 rotr_h:∀ x n,bits .or .u32 (IntKind.u32.wrap (x * 2 ^ (32 - n))) (x.fdiv (2 ^ n))=rotr x n
attribute [class] W32
@[reducible] def w32:W32 where
 cv x:=IntKind.u32.wrap x
 shw n x:=IntKind.u32.wrap (x * 2 ^ n)
 o32 a b:=bits .or .u32 a b
 x32 a b:=bits .xor .u32 a b
 n32 a b:=bits .and .u32 a b
 rotr x n:=bits .or .u32 (IntKind.u32.wrap (x * 2 ^ (32 - n))) (x.fdiv (2 ^ n))
 cv_h _:=rfl
 shw_h _ _:=rfl
 o32_h _ _:=rfl
 x32_h _ _:=rfl
 n32_h _ _:=rfl
 rotr_h _ _:=rfl
def zvy (x:Int) (n:Nat):Int:=bits .or .u32 (IntKind.u32.wrap (x * 2 ^ (32 - n))) (x.fdiv (2 ^ n))
theorem zrI (a b:Int):bits .or .u32 a b=bits .or .u32 b a:=by simp [bits,BitVec.or_comm]
theorem zuR:(bits .and .u64 18446744073709551614 31=30)∧(bits .and .u64 18446744073709551610 31=26)∧(bits .and .u64 18446744073709551609 31=25)∧(bits .and .u64 18446744073709551605 31=21)∧(bits .and .u64 18446744073709551603 31=19)∧(bits .and .u64 18446744073709551599 31=15)∧(bits .and .u64 18446744073709551598 31=14)∧(bits .and .u64 18446744073709551597 31=13)∧(bits .and .u64 18446744073709551594 31=10)∧(bits .and .u64 18446744073709551591 31=7):=by decide
theorem zon (x:Int) (n:Nat) (hn:n=2∨n=6∨n=7∨n=11∨n=13∨n=17∨n=18∨n=19∨n=22∨n=25) (k:Nat):
  ACall prog 266 [.lit (.int .u32 x),.lit (.int .i64 (-(n:Int)))] k [] (.lit (.int .u32 (zvy x n))) []:=by
 obtain ⟨r1,r2,r3,r4,r5,r6,r7,r8,r9,r10⟩:=zuR
 unfold zvy
 rcases hn with rfl | rfl | rfl | rfl | rfl | rfl | rfl | rfl | rfl | rfl
 all_goals (
  simp only [Nat.reduceSub,Int.reducePow]
  refine Bd func266 ntmps266 fun σ N hp hpn hk hkn hfree=>?_
  exact W0)
theorem zrW (x:Int) (n:Nat) (hn:n=2∨n=6∨n=7∨n=11∨n=13∨n=17∨n=18∨n=19∨n=22∨n=25) (k:Nat):
  ACall prog 265 [.lit (.int .u32 x),.lit (.int .i64 n)] k [] (.lit (.int .u32 (zvy x n))) []:=by
 have c1:=zon x n hn
 have hw:IntKind.i64.wrap (-(n:Int))=-(n:Int):=wrap_i64 oo oo
 generalize zvy x n=r at *
 refine Bd func265 ntmps265 fun σ N hp hpn hk hkn hfree=>?_
 have hcs:=And.intro c1 True.intro
 clear c1
 exact W0
theorem zni (x:Int) (n:Nat) (hn:n=2∨n=6∨n=7∨n=11∨n=13∨n=17∨n=18∨n=19∨n=22∨n=25) (k:Nat):
  ACall prog 255 [.lit (.int .u32 x),.lit (.int .u64 n)] k [] (.lit (.int .u32 (zvy x n))) []:=by
 unfold zvy
 rw [zrI]
 rcases hn with rfl | rfl | rfl | rfl | rfl | rfl | rfl | rfl | rfl | rfl
 all_goals (
  simp only [Nat.reduceSub,Int.reducePow]
  refine Bd func255 ntmps255 fun σ N hp hpn hk hkn hfree=>?_
  exact W0)
section
variable [W:W32]
open W32
theorem za7 (x:Int) (n:Nat) (hn:n=2∨n=6∨n=7∨n=11∨n=13∨n=17∨n=18∨n=19∨n=22∨n=25) (k:Nat):
  ACall prog 265 [.lit (.int .u32 x),.lit (.int .i64 n)] k [] (.lit (.int .u32 (W.rotr x n))) []:=by
 rw [← W.rotr_h];exact zrW x n hn k
theorem qB (x:Int) (n:Nat) (hn:n=2∨n=6∨n=7∨n=11∨n=13∨n=17∨n=18∨n=19∨n=22∨n=25) (k:Nat):
  ACall prog 255 [.lit (.int .u32 x),.lit (.int .u64 n)] k [] (.lit (.int .u32 (W.rotr x n))) []:=by
 rw [← W.rotr_h];exact zni x n hn k
@[go_sem] theorem cv_eq (x:Int):IntKind.u32.wrap x=W.cv x:=W.cv_h x
@[go_sem] theorem o32_eq (a b:Int):bits .or .u32 a b=W.o32 a b:=W.o32_h a b
@[go_sem] theorem x32_eq (a b:Int):bits .xor .u32 a b=W.x32 a b:=W.x32_h a b
@[go_sem] theorem n32_eq (a b:Int):bits .and .u32 a b=W.n32 a b:=W.n32_h a b
theorem zuT (P:Program) (t:TypeId) (a:Int) (k:IntKind) (z:Int) (n:Nat) (hz:z=n) (hn:n≤32):evBin P .shl t (.lit (.int .u32 a)) (.lit (.int k z))=some ⟨[],.lit (.int .u32 (W.shw n a)),[]⟩:=by
 subst hz
 rw [← W.shw_h,evBin]
 have h1:min n 32=n:=by omega
 simp [zkS,h1,IntKind.bits]
@[go_sem high] theorem zxL (P:Program) (t:TypeId) (a:Int) (k:IntKind):evBin P .shl t (.lit (.int .u32 a)) (.lit (.int k 24))=some ⟨[],.lit (.int .u32 (W.shw 24 a)),[]⟩:=zuT P t a k _ _ rfl oo
@[go_sem high] theorem zxK (P:Program) (t:TypeId) (a:Int) (k:IntKind):evBin P .shl t (.lit (.int .u32 a)) (.lit (.int k 16))=some ⟨[],.lit (.int .u32 (W.shw 16 a)),[]⟩:=zuT P t a k _ _ rfl oo
@[go_sem high] theorem zyy (P:Program) (t:TypeId) (a:Int) (k:IntKind):evBin P .shl t (.lit (.int .u32 a)) (.lit (.int k 8))=some ⟨[],.lit (.int .u32 (W.shw 8 a)),[]⟩:=zuT P t a k _ _ rfl oo
end
def uAV (x:Int):AV:=.lit (.int .u32 x)
@[go_sem] theorem uAV_un (x:Int):uAV x=.lit (.int .u32 x):=rfl
def zfm (L:List Int):AV:=.agg (L.map uAV)
@[go_sem] theorem ztU (L:List Int):AV.szl (L.map uAV)=L.length:=by
 rw [AV.szl_uniform _ 1 fun x hx=>by obtain ⟨b,_,rfl⟩:=List.mem_map.1 hx;rfl];simp
@[go_sem] theorem zf4 (L:List Int) (i:Nat):AV.szl ((L.map uAV).take i)=min i L.length:=by rw [← List.map_take,ztU,List.length_take]
theorem zsw (L:List Int):AV.celll (L.map uAV)=true:=by
 rw [AV.celll_all,List.all_eq_true];intro x hx;obtain ⟨b,_,rfl⟩:=List.mem_map.1 hx;rfl
@[go_sem] theorem zuZ (L:List Int):(zfm L).sz=L.length:=ztU L
@[go_sem] theorem zqu (L:List Int):(zfm L).isAgg=true:=rfl
@[go_sem] theorem zr8 (L:List Int):(zfm L).cell=true:=zsw L
@[go_sem] theorem zuQ (f:Nat→Option Nat) (L:List Int):AV.renl f (L.map uAV)=L.map uAV:=by
 rw [AV.renl_map,List.map_map];rfl
@[go_sem] theorem ztu (f:Nat→Option Nat) (L:List Int):(zfm L).ren f=zfm L:=by
 simp only [zfm,AV.ren,zuQ]
theorem ztW (L:List Int) (i:Nat) (h:i < L.length):(zfm L).get [i]=some (.lit (.int .u32 L[i])):=by
 simp [zfm,AV.get,h,uAV]
theorem zu0 (L:List Int) (i:Nat) (h:i < L.length):(zfm L).get [i]=some (.lit (.int .u32 (L.getD i 0))):=by
 rw [ztW L i h,List.getD_eq_getElem?_getD,List.getElem?_eq_getElem h];rfl
theorem zr9 (L:List Int) (i:Nat) (h:i < L.length):(zfm L).offs [i]=i:=by
 simp only [zfm,AV.offs,zf4,List.getElem?_map,List.getElem?_eq_getElem h,Option.map_some]
 omega
theorem zw1 (L:List Int) (i:Nat) (z:Int) (h:i < L.length):(zfm L).put [i] (.lit (.int .u32 z))=zfm (L.set i z):=by
 simp [zfm,AV.put,h,uAV,List.map_set]
attribute [go_sem] ztW zr9 zw1
@[go_sem] theorem agg_us (L:List Int):AV.agg (L.map uAV)=zfm L:=by simp only [zfm]
@[go_sem] theorem zvP:AV.agg (List.replicate 64 (.lit (.int .u32 0)))=zfm (List.replicate 64 0):=by
 rw [zfm,List.map_replicate];rfl
theorem zxp (b:List UInt8) (i:Nat) (h:i < b.length):b[i]=b.getD i 0:=by
 rw [List.getD_eq_getElem?_getD,List.getElem?_eq_getElem h];rfl
section
variable [W:W32]
def sg0 (x:Int):Int:=W.x32 (W.x32 (W.rotr x 7) (W.rotr x 18)) (x.fdiv 8)
def sg1 (x:Int):Int:=W.x32 (W.x32 (W.rotr x 17) (W.rotr x 19)) (x.fdiv 1024)
def zu3 (b:List UInt8) (t:Nat):Int:=W.o32 (W.o32 (W.o32 (W.shw 24 (W.cv ((b.getD (4 * t) 0).toNat:Int))) (W.shw 16 (W.cv ((b.getD (4 * t+1) 0).toNat:Int)))) (W.shw 8 (W.cv ((b.getD (4 * t+2) 0).toNat:Int)))) (W.cv ((b.getD (4 * t+3) 0).toNat:Int))
def zrC (L:List Int) (t:Nat):Int:=W.cv (W.cv (W.cv (sg1 (L.getD (t - 2) 0)+L.getD (t - 7) 0)+sg0 (L.getD (t - 15) 0))+L.getD (t - 16) 0)
def Wd (b:List UInt8):Nat→List Int
 | 0=>List.replicate 64 0
 | n+1=>(Wd b n).set n (if n < 16 then zu3 b n else zrC (Wd b n) n)
theorem zhU (b:List UInt8):∀ n,(Wd b n).length=64
 | 0=>by simp [Wd]
 | n+1=>by simp [Wd,zhU b n]
theorem zvN (b:List UInt8) (n:Nat) (h:n < 16):Wd b (n+1)=(Wd b n).set n (zu3 b n):=by rw [Wd,if_pos h]
theorem zvM (b:List UInt8) (n:Nat) (h:¬ n < 16):Wd b (n+1)=(Wd b n).set n (zrC (Wd b n) n):=by rw [Wd,if_neg h]
theorem zsc {b:List UInt8} {t:Nat} (h:4 * t+3 < b.length) {c0 c1 c2 c3:UInt8} (h0:b[4 * t]=c0) (h1:b[4 * t+1]=c1) (h2:b[4 * t+2]=c2) (h3:b[4 * t+3]=c3):
  W.o32 (W.o32 (W.o32 (W.shw 24 (W.cv (c0.toNat:Int))) (W.shw 16 (W.cv (c1.toNat:Int)))) (W.shw 8 (W.cv (c2.toNat:Int)))) (W.cv (c3.toNat:Int))=zu3 b t:=by
 unfold zu3
 rw [← zxp b (4 * t) oo,← zxp b (4 * t+1) oo,← zxp b (4 * t+2) oo,← zxp b (4 * t+3) oo,h0,h1,h2,h3]
theorem zpb {L:List Int} {t:Nat} (h:t < L.length) (ht:16≤t) {x2 x7 x15 x16:Int} (h2:L[t - 2]=x2) (h7:L[t - 7]=x7) (h15:L[t - 15]=x15) (h16:L[t - 16]=x16):
  zrC L t=W.cv (W.cv (W.cv (sg1 x2+x7)+sg0 x15)+x16):=by
 have key:∀ (i:Nat) (hi:i < L.length),L.getD i 0=L[i]:=fun i hi=>by rw [List.getD_eq_getElem?_getD,List.getElem?_eq_getElem hi];rfl
 unfold zrC
 rw [key (t - 2) oo,key (t - 7) oo,key (t - 15) oo,key (t - 16) oo,h2,h7,h15,h16]
attribute [irreducible] Wd zu3 zrC sg0 sg1
set_option maxHeartbeats 1000000 in
theorem zl2 (b:List UInt8) (hb:b.length=64) (R:List Int) (hR:Wd b 64=R) (k:Nat):
  ACall prog 264 [.slice none (b.map za)] k [] (zfm R) []:=by
 have hz:List.replicate 64 (0:Int)=Wd b 0:=by unfold Wd;rfl
 obtain ⟨Z,hZ⟩:∃ Z,Wd b 0=Z:=⟨_,rfl⟩
 have hZl:Z.length=64:=by rw [← hZ];exact zhU b 0
 rw [hZ] at hz
 refine Bd func264 ntmps264 fun σ N hp hpn hk hkn hfree=>?_
 refine Wk ?_
 refine ze zi (by kernel_rfl) (4::5::6::7::8::9::10::11::12::13::14::15::16::17::18::19::20::21::22::23::24::25::26::27::28::29::30::31::32::33::34::35::36::37::38::39::40::41::42::43::44::45::46::47::48::49::50::51::52::53::54::55::56::57::58::59::60::61::62::63::64::65::66::67::68::69::70::71::72::73::74::75::76::77::78::79::80::81::82::83::84::85::86::87::88::[]) [N+1] (fun m_ s_ σ_ n_=>∃ (t:Nat) (L:List Int),m_=64 - t∧s_ 9=.lit (.int .i64 t)∧σ_ (N+1)=.box 315 (zfm L)∧(t≤64)∧(Wd b t=L)) ⟨_,0,Z,rfl,WF,WF,WC,WC⟩ ?_
 intro m_1 s_1 σ_1 n_1 hs_1 hf_1 hn_1 hI_1
 obtain ⟨t,L,hm_1,h1_9,e1_0,ht,hL⟩:=hI_1
 have h1_0:=KS hs_1 0
 have h1_2:=KS hs_1 2
 have h1_3:=KS hs_1 3
 have k1_0:=KE hf_1 (N)
 have hlow:=KL (N:=N) (σ:=σ) hf_1
 have hlen:L.length=64:=by rw [← hL];exact zhU b t
 by_cases ht64:t=64
 ·subst ht64
  rw [hR] at hL
  subst hL
  exact W0
 ·have htl:(t:Int) < 64:=by omega
  by_cases h16:t < 16
  ·have h16':(t:Int) < 16:=by omega
   have hw:=zvN b t h16
   rw [hL] at hw
   have i0:(4 * (t:Int)).toNat=4 * t:=by omega
   have i1:(4 * (t:Int)+1).toNat=4 * t+1:=by omega
   have i2:(4 * (t:Int)+2).toNat=4 * t+2:=by omega
   have i3:(4 * (t:Int)+3).toNat=4 * t+3:=by omega
   have hlt0:4 * t < b.length:=by omega
   have hlt1:4 * t+1 < b.length:=by omega
   have hlt2:4 * t+2 < b.length:=by omega
   have hlt3:4 * t+3 < b.length:=by omega
   obtain ⟨c0,g0⟩:∃ c,b[4 * t]=c:=⟨_,rfl⟩
   obtain ⟨c1,g1⟩:∃ c,b[4 * t+1]=c:=⟨_,rfl⟩
   obtain ⟨c2,g2⟩:∃ c,b[4 * t+2]=c:=⟨_,rfl⟩
   obtain ⟨c3,g3⟩:∃ c,b[4 * t+3]=c:=⟨_,rfl⟩
   have hwd:=zsc hlt3 g0 g1 g2 g3
   generalize zu3 b t=wt at *
   have e0:za c0=.lit (.int .u8 c0.toNat):=rfl
   have e1:za c1=.lit (.int .u8 c1.toNat):=rfl
   have e2:za c2=.lit (.int .u8 c2.toNat):=rfl
   have e3:za c3=.lit (.int .u8 c3.toNat):=rfl
   clear hL hR
   refine Wk ?_
   clear hwd e0 e1 e2 e3 g0 g1 g2 g3 i0 i1 i2 i3
   exact ⟨WS,WG,WN,_,(show 64 - (t+1) < m_1 by omega),t+1,L.set t wt,rfl,WF,WF,WC,WC⟩
  ·have h16':¬ (t:Int) < 16:=by omega
   have hw:=zvM b t h16
   rw [hL] at hw
   have j15:((t:Int) - 15).toNat=t - 15:=by omega
   have j2:((t:Int) - 2).toNat=t - 2:=by omega
   have j7:((t:Int) - 7).toNat=t - 7:=by omega
   have j16:((t:Int) - 16).toNat=t - 16:=by omega
   have l15:t - 15 < L.length:=by omega
   have l2:t - 2 < L.length:=by omega
   have l7:t - 7 < L.length:=by omega
   have l16:t - 16 < L.length:=by omega
   obtain ⟨x15,g15⟩:∃ x,L[t - 15]=x:=⟨_,rfl⟩
   obtain ⟨x2,g2⟩:∃ x,L[t - 2]=x:=⟨_,rfl⟩
   obtain ⟨x7,g7⟩:∃ x,L[t - 7]=x:=⟨_,rfl⟩
   obtain ⟨x16,g16⟩:∃ x,L[t - 16]=x:=⟨_,rfl⟩
   rw [zpb oo oo g2 g7 g15 g16] at hw
   have r1:=za7 x15 7 oo
   have r2:=za7 x15 18 oo
   have r3:=za7 x2 17 oo
   have r4:=za7 x2 19 oo
   have s0:W.x32 (W.x32 (W.rotr x15 7) (W.rotr x15 18)) (x15.fdiv 8)=sg0 x15:=by unfold sg0;rfl
   have s1:W.x32 (W.x32 (W.rotr x2 17) (W.rotr x2 19)) (x2.fdiv 1024)=sg1 x2:=by unfold sg1;rfl
   have hcs:=And.intro r1 (And.intro r2 (And.intro r3 (And.intro r4 True.intro)))
   clear r1 r2 r3 r4 hL hR
   refine Wk ?_
   clear hcs
   exact ⟨WS,WG,WN,_,(show 64 - (t+1) < m_1 by omega),t+1,L.set t (W.cv (W.cv (W.cv (sg1 x2+x7)+sg0 x15)+x16)),rfl,WF,WF,WC,WC⟩
end
end Go.Proofs.YtglmjglbobhbbaaGreatDoor
