/- Texts H3, joined. -/
import Derived.Test.YtglmjglbobhbbaaGreatDoorM6
import Derived.Test.YtglmjglbobhbbaaGreatDoorM7
namespace Go.Proofs.YtglmjglbobhbbaaGreatDoor
open _root_.Go.Proofs.Tryz
open Go.Ab
attribute [local irreducible] Go.Ab.tyAV Go.Ab.aw Go.Ab.aops Go.Ab.kReg Go.Ab.aThen Go.Ab.aBlk Go.Ab.acond Go.Ab.aguard Go.Ab.astep Go.Ab.AStepX Go.Ab.aRet
def shaZ:List Int:=[1116352408,1899447441,3049323471,3921009573,961987163,1508970993,2453635748,2870763221,3624381080,310598401,607225278,1426881987,1925078388,2162078206,2614888103,3248222580,3835390401,4022224774,264347078,604807628,770255983,1249150122,1555081692,1996064986,2554220882,2821834349,2952996808,3210313671,3336571891,3584528711,113926993,338241895,666307205,773529912,1294757372,1396182291,1695183700,1986661051,2177026350,2456956037,2730485921,2820302411,3259730800,3345764771,3516065817,3600352804,4094571909,275423344,430227734,506948616,659060556,883997877,958139571,1322822218,1537002063,1747873779,1955562222,2024104815,2227730452,2361852424,2428436474,2756734187,3204031479,3329325298]
def shaL:List AV:=shaZ.map fun z=>.lit (.int .u32 z)
def yE:Ent:=.glob 1 (.agg shaL)
@[simp,go_sem] theorem zyx:(yE=.none)=False:=by simp [yE]
theorem zcQ:shaZ.length=64:=by simp only [shaZ,List.length_cons,List.length_nil]
theorem zuS (t:Nat) (h:t < 64):shaL[t]?=some (.lit (.int .u32 (shaZ[t]'(by rw [zcQ];exact h)))):=by
 rw [shaL,List.getElem?_map,List.getElem?_eq_getElem (by rw [zcQ];exact h)];rfl
theorem zr1 (t:Nat) (h:t < 64):AV.szl (shaL.take t)=t:=by
 have:shaL=shaZ.map uAV:=rfl
 rw [this,zf4,zcQ];omega
attribute [irreducible] shaZ shaL
structure V8 where
 a:Int
 b:Int
 c:Int
 d:Int
 e:Int
 f:Int
 g:Int
 h:Int
def V8.l (v:V8):List Int:=[v.a,v.b,v.c,v.d,v.e,v.f,v.g,v.h]
def zeN (v:V8):AV:=zfm v.l
@[go_sem] theorem agg_u8 (a b c d e f g h:Int):AV.agg [.lit (.int .u32 a),.lit (.int .u32 b),.lit (.int .u32 c),.lit (.int .u32 d),.lit (.int .u32 e),.lit (.int .u32 f),.lit (.int .u32 g),.lit (.int .u32 h)]=zfm [a,b,c,d,e,f,g,h]:=rfl
@[go_sem] theorem set_u8 (a b c d e f g h:Int):AV.agg (((((((((List.replicate 8 (AV.lit (.int .u32 0))).set 0 (.lit (.int .u32 a))).set 1 (.lit (.int .u32 b))).set 2 (.lit (.int .u32 c))).set 3 (.lit (.int .u32 d))).set 4 (.lit (.int .u32 e))).set 5 (.lit (.int .u32 f))).set 6 (.lit (.int .u32 g))).set 7 (.lit (.int .u32 h)))=zfm [a,b,c,d,e,f,g,h]:=rfl
def iv8:V8:=⟨1779033703,3144134277,1013904242,2773480762,1359893119,2600822924,528734635,1541459225⟩
@[go_sem] theorem not32:(if IntKind.u32.signed=true then (-1:Int) else IntKind.u32.max)=4294967295:=rfl
section
variable [W:W32]
def S1 (e:Int):Int:=W.x32 (W.x32 (W.rotr e 6) (W.rotr e 11)) (W.rotr e 25)
def S0 (a:Int):Int:=W.x32 (W.x32 (W.rotr a 2) (W.rotr a 13)) (W.rotr a 22)
def Ch (e f g:Int):Int:=W.x32 (W.n32 e f) (W.n32 (W.x32 4294967295 e) g)
def Maj (a b c:Int):Int:=W.x32 (W.x32 (W.n32 a b) (W.n32 a c)) (W.n32 b c)
def T1 (v:V8) (k w:Int):Int:=W.cv (W.cv (W.cv (W.cv (v.h+S1 v.e)+Ch v.e v.f v.g)+k)+w)
def T2 (v:V8):Int:=W.cv (S0 v.a+Maj v.a v.b v.c)
def rnd (v:V8) (k w:Int):V8:=⟨W.cv (T1 v k w+T2 v),v.a,v.b,v.c,W.cv (v.d+T1 v k w),v.e,v.f,v.g⟩
def Rd (w:List Int) (v:V8):Nat→V8
 | 0=>v
 | n+1=>rnd (Rd w v n) (shaZ.getD n 0) (w.getD n 0)
def zue (v o:V8):V8:=⟨W.cv (v.a+o.a),W.cv (v.b+o.b),W.cv (v.c+o.c),W.cv (v.d+o.d),W.cv (v.e+o.e),W.cv (v.f+o.f),W.cv (v.g+o.g),W.cv (v.h+o.h)⟩
def Ad (v o:List Int):Nat→List Int
 | 0=>v
 | n+1=>(Ad v o n).set n (W.cv ((Ad v o n).getD n 0+o.getD n 0))
theorem zqz (v o:List Int):∀ n,(Ad v o n).length=v.length
 | 0=>rfl
 | n+1=>by simp [Ad,zqz v o n]
theorem Ad_8 (v o:V8):Ad v.l o.l 8=(zue v o).l:=by simp [Ad,V8.l,zue]
theorem Ad_8' (v o:V8):Ad v.l o.l 8=(zue o v).l:=by simp [Ad,V8.l,zue,Int.add_comm]
def chg (o:V8) (b:List UInt8):V8:=zue (Rd (Wd b 64) o 64) o
attribute [irreducible] S1 S0 Ch Maj
set_option maxHeartbeats 2000000 in
theorem znX (o:V8) (b:List UInt8) (hb:b.length=64) (g k:Nat):
  ACall prog 258 [zeN o,.slice none (b.map za)] k [(g,yE)] (zeN (chg o b)) []:=by
 obtain ⟨w,hw⟩:∃ w,Wd b 64=w:=⟨_,rfl⟩
 have hwl:w.length=64:=by rw [← hw];exact zhU b 64
 have c1:=zl2 b hb w hw
 obtain ⟨v,hv⟩:∃ v,Rd w o 64=v:=⟨_,rfl⟩
 have hR:chg o b=zue v o:=by rw [chg,hw,hv]
 rw [hR,zeN,zeN,← Ad_8]
 unfold yE
 clear hR
 obtain ⟨ol,hol⟩:∃ l,o.l=l:=⟨_,rfl⟩
 have holl:ol.length=8:=by rw [← hol];rfl
 rw [hol]
 refine Bd func258 ntmps258 fun σ N hp hpn hk hkn hfree=>?_
 obtain ⟨hd,hdn⟩:=HD0 hp hpn;clear hp hpn
 have hcs:=And.intro c1 True.intro
 clear c1
 have hR0:Rd w o 0=o:=rfl
 refine Wk ?_
 refine ze zi (by kernel_rfl) (7::8::9::10::11::12::13::14::15::16::17::22::23::24::25::26::27::28::29::30::31::32::33::34::35::36::37::38::39::40::41::42::43::44::45::46::47::48::49::50::51::52::53::54::55::56::57::58::59::60::61::62::63::64::65::66::67::68::69::70::71::72::73::74::75::76::77::78::79::80::81::82::83::84::85::86::87::88::89::90::91::92::93::94::95::96::97::98::99::100::101::[]) [N+6] (fun m_ s_ σ_ n_=>∃ (t:Nat) (x:V8),m_=64 - t∧s_ 22=.lit (.int .i64 t)∧σ_ (N+6)=.box 297 (zfm x.l)∧(t≤64)∧(Rd w o t=x)) ⟨_,0,o,rfl,WF,WF,WC,WC⟩ ?_
 intro m_1 s_1 σ_1 n_1 hs_1 hf_1 hn_1 hI_1
 obtain ⟨t,x,hm_1,h1_22,e1_0,ht,hx⟩:=hI_1
 have h1_2:=KS hs_1 2
 have h1_4:=KS hs_1 4
 have h1_5:=KS hs_1 5
 have h1_6:=KS hs_1 6
 have k1_0:=KE hf_1 (N)
 have k1_1:=KE hf_1 (N+1)
 have k1_2:=KE hf_1 (N+5)
 have k1_3:=KE hf_1 (g)
 have hlow:=KL (N:=N) (σ:=σ) hf_1
 by_cases ht64:t=64
 ·subst ht64
  rw [hv] at hx
  subst hx
  generalize hvl:V8.l v=vl at *
  have hvll:vl.length=8:=by rw [← hvl];rfl
  have hR0:Ad vl ol 0=vl:=rfl
  refine Wk ?_
  refine ze zi (by kernel_rfl) [18,102,103,104,105,106,107,108,109,110,111,112,113] [N+6] (fun m_ s_ σ_ n_=>∃ (t:Nat) (L:List Int),m_=8 - t∧s_ 102=.lit (.int .i64 t)∧σ_ (N+6)=.box 297 (zfm L)∧(t≤8)∧(Ad vl ol t=L)) ⟨_,0,vl,rfl,WF,WF,WC,WC⟩ ?_
  intro m_2 s_2 σ_2 n_2 hs_2 hf_2 hn_2 hI_2
  obtain ⟨t,L,hm_2,h2_102,e2_0,ht,hL⟩:=hI_2
  have h2_2:=KS hs_2 2
  have h2_4:=KS hs_2 4
  have h2_6:=KS hs_2 6
  have k2_0:=KE hf_2 (N)
  have k2_1:=KE hf_2 (N+1)
  have hlow:=KL (N:=N) (σ:=σ) hf_2
  have hlen:L.length=8:=by rw [← hL,zqz,hvll]
  by_cases ht8:t=8
  ·subst ht8
   subst hL
   exact W0
  ·have htl:(t:Int) < 8:=by omega
   have htl':t < 8:=by omega
   have htn:t < L.length:=by omega
   have htn':t < ol.length:=by omega
   obtain ⟨p,hp⟩:∃ x,L[t]=x:=⟨_,rfl⟩
   obtain ⟨q,hq⟩:∃ x,ol[t]=x:=⟨_,rfl⟩
   have hS:Ad vl ol (t+1)=L.set t (W.cv (p+q)):=by
    rw [Ad,hL,List.getD_eq_getElem?_getD,List.getElem?_eq_getElem htn,List.getD_eq_getElem?_getD,List.getElem?_eq_getElem htn',hp,hq];rfl
   clear hL
   refine Wk ?_
   exact ⟨WS,WG,WN,_,(show 8 - (t+1) < m_2 by omega),t+1,L.set t (W.cv (p+q)),rfl,WF,WF,WC,WC⟩
 ·have htl:(t:Int) < 64:=by omega
  have htn:t < 64:=by omega
  have htw:t < w.length:=by omega
  have hk1:=zuS t htn
  have hk2:=zr1 t htn
  have hkd:shaZ.getD t 0=shaZ[t]'(by rw [zcQ];exact htn):=by
   rw [List.getD_eq_getElem?_getD,List.getElem?_eq_getElem (by rw [zcQ];exact htn)];rfl
  have hwd:w.getD t 0=w[t]:=by
   rw [List.getD_eq_getElem?_getD,List.getElem?_eq_getElem htw];rfl
  generalize shaZ[t]'(by rw [zcQ];exact htn)=kt at *
  obtain ⟨wt,hwt⟩:∃ x,w[t]=x:=⟨_,rfl⟩
  rw [hwt] at hwd
  have hS:Rd w o (t+1)=rnd x kt wt:=by rw [Rd,hx,hkd,hwd]
  clear hkd hwd hx
  obtain ⟨xa,xb,xc,xd,xe,xf,xg,xh⟩:=x
  simp only [V8.l] at *
  obtain ⟨s1,hs1⟩:∃ z,W.x32 (W.x32 (W.rotr xe 6) (W.rotr xe 11)) (W.rotr xe 25)=z:=⟨_,rfl⟩
  obtain ⟨s0,hs0⟩:∃ z,W.x32 (W.x32 (W.rotr xa 2) (W.rotr xa 13)) (W.rotr xa 22)=z:=⟨_,rfl⟩
  obtain ⟨ch,hch⟩:∃ z,W.x32 (W.n32 xe xf) (W.n32 (W.x32 4294967295 xe) xg)=z:=⟨_,rfl⟩
  obtain ⟨mj,hmj⟩:∃ z,W.x32 (W.x32 (W.n32 xa xb) (W.n32 xa xc)) (W.n32 xb xc)=z:=⟨_,rfl⟩
  obtain ⟨t1,ht1⟩:∃ z,W.cv (W.cv (W.cv (W.cv (xh+s1)+ch)+kt)+wt)=z:=⟨_,rfl⟩
  obtain ⟨t2,ht2⟩:∃ z,W.cv (s0+mj)=z:=⟨_,rfl⟩
  have hS':rnd ⟨xa,xb,xc,xd,xe,xf,xg,xh⟩ kt wt=⟨W.cv (t1+t2),xa,xb,xc,W.cv (xd+t1),xe,xf,xg⟩:=by
   unfold rnd T1 T2 S1 S0 Ch Maj
   simp only [hs1,hs0,hch,hmj,ht1,ht2]
  rw [hS'] at hS
  clear hS'
  have r1:=za7 xe 6 oo
  have r2:=za7 xe 11 oo
  have r3:=za7 xe 25 oo
  have r4:=za7 xa 2 oo
  have r5:=za7 xa 13 oo
  have r6:=za7 xa 22 oo
  have hcs:=And.intro r1 (And.intro r2 (And.intro r3 (And.intro r4 (And.intro r5 (And.intro r6 True.intro)))))
  clear r1 r2 r3 r4 r5 r6
  have G:GlobAt g 1:=⟨⟩
  refine Wk ?_
  clear hcs
  exact ⟨WS,WG,WN,_,(show 64 - (t+1) < m_1 by omega),t+1,V8.mk (W.cv (t1+t2)) xa xb xc (W.cv (xd+t1)) xe xf xg,rfl,WF,WF,WC,WC⟩
end
end Go.Proofs.YtglmjglbobhbbaaGreatDoor
