/- Texts H3, H4, C10, S1, N1, H5, H6, N4, H7, H8, M1, M2, joined. -/
import Derived.Test.YtemmlldpmgfblaaGreatDoorM3

namespace Go.Proofs.YtemmlldpmgfblaaGreatDoor
open Go.Ab
attribute [local irreducible] Go.Ab.tyAV Go.Ab.aw Go.Ab.aops Go.Ab.kReg Go.Ab.aThen Go.Ab.aBlk Go.Ab.acond Go.Ab.aguard Go.Ab.astep Go.Ab.AStepX Go.Ab.aRet
def shaZ : List Int := [1116352408, 1899447441, 3049323471, 3921009573, 961987163, 1508970993, 2453635748, 2870763221, 3624381080, 310598401, 607225278, 1426881987, 1925078388, 2162078206, 2614888103, 3248222580, 3835390401, 4022224774, 264347078, 604807628, 770255983, 1249150122, 1555081692, 1996064986, 2554220882, 2821834349, 2952996808, 3210313671, 3336571891, 3584528711, 113926993, 338241895, 666307205, 773529912, 1294757372, 1396182291, 1695183700, 1986661051, 2177026350, 2456956037, 2730485921, 2820302411, 3259730800, 3345764771, 3516065817, 3600352804, 4094571909, 275423344, 430227734, 506948616, 659060556, 883997877, 958139571, 1322822218, 1537002063, 1747873779, 1955562222, 2024104815, 2227730452, 2361852424, 2428436474, 2756734187, 3204031479, 3329325298]
def shaL : List AV := shaZ.map fun z => .lit (.int .u32 z)
def shaG : Ent := .glob 1 (.agg shaL)
@[simp, go_sem] theorem shaG_ne : (shaG = .none) = False := by simp [shaG]
theorem shaZ_len : shaZ.length = 64 := by simp only [shaZ, List.length_cons, List.length_nil]
attribute [irreducible] shaZ shaL
structure V8 where
 a : Int
 b : Int
 c : Int
 d : Int
 e : Int
 f : Int
 g : Int
 h : Int
def V8.l (v : V8) : List Int := [v.a, v.b, v.c, v.d, v.e, v.f, v.g, v.h]
def v8AV (v : V8) : AV := uuAV v.l
@[go_sem] theorem agg_u8 (a b c d e f g h : Int) : AV.agg [.lit (.int .u32 a), .lit (.int .u32 b), .lit (.int .u32 c), .lit (.int .u32 d), .lit (.int .u32 e), .lit (.int .u32 f), .lit (.int .u32 g), .lit (.int .u32 h)] = uuAV [a, b, c, d, e, f, g, h] := rfl
@[go_sem] theorem set_u8 (a b c d e f g h : Int) : AV.agg (((((((((List.replicate 8 (AV.lit (.int .u32 0))).set 0 (.lit (.int .u32 a))).set 1 (.lit (.int .u32 b))).set 2 (.lit (.int .u32 c))).set 3 (.lit (.int .u32 d))).set 4 (.lit (.int .u32 e))).set 5 (.lit (.int .u32 f))).set 6 (.lit (.int .u32 g))).set 7 (.lit (.int .u32 h))) = uuAV [a, b, c, d, e, f, g, h] := rfl
def iv8 : V8 := ⟨1779033703, 3144134277, 1013904242, 2773480762, 1359893119, 2600822924, 528734635, 1541459225⟩
@[go_sem] theorem not32 : (if IntKind.u32.signed = true then (-1 : Int) else IntKind.u32.max) = 4294967295 := rfl
section
variable [W : W32]
def S1 (e : Int) : Int := W.x32 (W.x32 (W.rotr e 6) (W.rotr e 11)) (W.rotr e 25)
def S0 (a : Int) : Int := W.x32 (W.x32 (W.rotr a 2) (W.rotr a 13)) (W.rotr a 22)
def Ch (e f g : Int) : Int := W.x32 (W.n32 e f) (W.n32 (W.x32 4294967295 e) g)
def Maj (a b c : Int) : Int := W.x32 (W.x32 (W.n32 a b) (W.n32 a c)) (W.n32 b c)
def T1 (v : V8) (k w : Int) : Int := W.cv (W.cv (W.cv (W.cv (v.h + S1 v.e) + Ch v.e v.f v.g) + k) + w)
def T2 (v : V8) : Int := W.cv (S0 v.a + Maj v.a v.b v.c)
def rnd (v : V8) (k w : Int) : V8 := ⟨W.cv (T1 v k w + T2 v), v.a, v.b, v.c, W.cv (v.d + T1 v k w), v.e, v.f, v.g⟩
def Rd (w : List Int) (v : V8) : Nat → V8
 | 0 => v
 | n + 1 => rnd (Rd w v n) (shaZ.getD n 0) (w.getD n 0)
def addV (v o : V8) : V8 := ⟨W.cv (v.a + o.a), W.cv (v.b + o.b), W.cv (v.c + o.c), W.cv (v.d + o.d), W.cv (v.e + o.e), W.cv (v.f + o.f), W.cv (v.g + o.g), W.cv (v.h + o.h)⟩
def Ad (v o : List Int) : Nat → List Int
 | 0 => v
 | n + 1 => (Ad v o n).set n (W.cv ((Ad v o n).getD n 0 + o.getD n 0))
theorem Ad_len (v o : List Int) : ∀ n, (Ad v o n).length = v.length
 | 0 => rfl
 | n + 1 => by simp [Ad, Ad_len v o n]
theorem Ad_8' (v o : V8) : Ad v.l o.l 8 = (addV o v).l := by simp [Ad, V8.l, addV, Int.add_comm]
def chg (o : V8) (b : List UInt8) : V8 := addV (Rd (Wd b 64) o 64) o
attribute [irreducible] S1 S0 Ch Maj
end

theorem constants_spec (k : Nat) : ACall Tryz.prog 225 [] k [] (uuAV shaZ) [] := by
 refine Bd Tryz.func225 Tryz.ntmps225 fun σ N hp hpn hk hkn hfree => ?_
 repeat (first | apply go_nil | apply go_kreg | apply go_kreg0 | apply go_kreg1 | (apply go_kregT; · (first | (simp [addT, CF, CFy, Ind, DisjF]; done) | (simp only [addT, CF, CFy, Ind]; repeat' (first | exact trivial | apply And.intro | exact Or.inl (by decide +kernel) | (refine Or.inr ⟨?_, ?_⟩ <;> (simp; try omega)))))) | apply go_then | apply go_then_exit | apply go_then_ret | apply go_blk | apply go_blk_ret | apply go_blk_here | (apply go_blk_there; · rfl) | apply go_seq | (apply go_region; · (simp only [List.length_cons, List.length_nil, Nat.reduceAdd]; rfl)) | apply go_skip | apply go_block | apply go_scope | apply go_label | apply go_exit | apply go_ret)
 apply go_new
 ·rfl
 ·(simp (disch := omega) [go_sem, *, -List.reduceReplicate]; try first | rfl | exact ⟨rfl, rfl⟩ | exact ⟨rfl, rfl, rfl⟩)
 repeat (first | apply go_nil | apply go_kreg | apply go_kreg0 | apply go_kreg1 | (apply go_kregT; · (first | (simp [addT, CF, CFy, Ind, DisjF]; done) | (simp only [addT, CF, CFy, Ind]; repeat' (first | exact trivial | apply And.intro | exact Or.inl (by decide +kernel) | (refine Or.inr ⟨?_, ?_⟩ <;> (simp; try omega)))))) | apply go_then | apply go_then_exit | apply go_then_ret | apply go_blk | apply go_blk_ret | apply go_blk_here | (apply go_blk_there; · rfl) | apply go_seq | (apply go_region; · (simp only [List.length_cons, List.length_nil, Nat.reduceAdd, Nat.add_assoc]; rfl)) | apply go_skip | apply go_block | apply go_scope | apply go_label | apply go_exit | apply go_ret)
 refine go_pure (v := uuAV shaZ) rfl (by kernel_rfl) ?_
 have hzl := shaZ_len
 exact W0
section
variable [W : W32]
set_option maxHeartbeats 4000000 in
theorem refblock_spec (o : V8) (b : List UInt8) (hb : b.length = 64) (k : Nat) :
  ACall Tryz.prog 214 [v8AV o, .slice none (b.map byteAV)] k [] (v8AV (chg o b)) [] := by
 obtain ⟨w, hw⟩ : ∃ w, Wd b 64 = w := ⟨_, rfl⟩
 have hwl : w.length = 64 := by rw [← hw]; exact Wd_len b 64
 have hz : List.replicate 64 (0 : Int) = Wd b 0 := by unfold Wd; rfl
 obtain ⟨Z, hZ⟩ : ∃ Z, Wd b 0 = Z := ⟨_, rfl⟩
 have hZl : Z.length = 64 := by rw [← hZ]; exact Wd_len b 0
 rw [hZ] at hz
 have c1 := constants_spec
 obtain ⟨v, hv⟩ : ∃ v, Rd w o 64 = v := ⟨_, rfl⟩
 have hR : chg o b = addV v o := by rw [chg, hw, hv]
 rw [hR, v8AV, v8AV, ← Ad_8']
 clear hR
 obtain ⟨ol, hol⟩ : ∃ l, o.l = l := ⟨_, rfl⟩
 have holl : ol.length = 8 := by rw [← hol]; rfl
 rw [hol]
 refine Bd Tryz.func214 Tryz.ntmps214 fun σ N hp hpn hk hkn hfree => ?_
 refine Wk ?_
 refine go_loopF mixed (by kernel_rfl) [6, 22, 23, 24, 25, 26, 27, 28, 29, 30, 31, 32, 33, 34, 35, 36, 37, 38, 39, 40, 41, 42, 43, 44, 45, 46, 47, 48, 49, 50, 51, 52, 53, 54, 55, 56, 57, 58, 59, 60] [N+2] (fun m_ s_ σ_ n_ => ∃ (t : Nat) (L : List Int), m_ = 16 - t ∧ s_ 6 = .lit (.int .i64 t) ∧ σ_ (N+2) = .box 275 (uuAV L) ∧ (t ≤ 16) ∧ (Wd b t = L)) ⟨_, 0, Z, rfl, WF, WF, WC, WC⟩ ?_
 intro m_1 s_1 σ_1 n_1 hs_1 hf_1 hn_1 hI_1
 obtain ⟨t, L, hm_1, h1_6, e1_0, ht, hL⟩ := hI_1
 have h1_1 := KS hs_1 1
 have h1_2 := KS hs_1 2
 have h1_4 := KS hs_1 4
 have h1_5 := KS hs_1 5
 have k1_0 := KE hf_1 (N)
 have k1_1 := KE hf_1 (N+1)
 have hlow := KL (N := N) (σ := σ) hf_1
 have hlen : L.length = 64 := by rw [← hL]; exact Wd_len b t
 by_cases h16 : t < 16
 ·have h16' : (t : Int) < 16 := by omega
  have htl : t < 64 := by omega
  have hw := Wd_lo b t h16
  rw [hL] at hw
  have i0 : (4 * (t : Int)).toNat = 4 * t := by omega
  have i1 : (4 * (t : Int) + 1).toNat = 4 * t + 1 := by omega
  have i2 : (4 * (t : Int) + 2).toNat = 4 * t + 2 := by omega
  have i3 : (4 * (t : Int) + 3).toNat = 4 * t + 3 := by omega
  have hlt0 : 4 * t < b.length := by omega
  have hlt1 : 4 * t + 1 < b.length := by omega
  have hlt2 : 4 * t + 2 < b.length := by omega
  have hlt3 : 4 * t + 3 < b.length := by omega
  obtain ⟨c0, g0⟩ : ∃ c, b[4 * t] = c := ⟨_, rfl⟩
  obtain ⟨c1, g1⟩ : ∃ c, b[4 * t + 1] = c := ⟨_, rfl⟩
  obtain ⟨c2, g2⟩ : ∃ c, b[4 * t + 2] = c := ⟨_, rfl⟩
  obtain ⟨c3, g3⟩ : ∃ c, b[4 * t + 3] = c := ⟨_, rfl⟩
  have hwd := word_at hlt3 g0 g1 g2 g3
  generalize word b t = wt at *
  have e0 : byteAV c0 = .lit (.int .u8 c0.toNat) := rfl
  have e1 : byteAV c1 = .lit (.int .u8 c1.toNat) := rfl
  have e2 : byteAV c2 = .lit (.int .u8 c2.toNat) := rfl
  have e3 : byteAV c3 = .lit (.int .u8 c3.toNat) := rfl
  clear hL
  refine Wk ?_
  clear hwd e0 e1 e2 e3 g0 g1 g2 g3 i0 i1 i2 i3
  exact ⟨WS, WG, WN, _, (show 16 - (t + 1) < m_1 by omega), t + 1, L.set t wt, rfl, WF, WF, WC, WC⟩
 ·have ht16 : t = 16 := by omega
  subst ht16
  clear h16 ht
  refine Wk ?_
  refine go_loopF mixed (by kernel_rfl) [7, 8, 9, 61, 62, 63, 64, 65, 66, 67, 68, 69, 70, 71, 72, 73, 74, 75, 76, 77, 78, 79, 80, 81, 82, 83, 84, 85, 86, 87, 88, 89, 90, 91, 92, 93, 94, 95, 96, 97, 98, 99, 100, 101] [N+2] (fun m_ s_ σ_ n_ => ∃ (t : Nat) (L : List Int), m_ = 64 - t ∧ s_ 7 = .lit (.int .i64 t) ∧ σ_ (N+2) = .box 275 (uuAV L) ∧ (t ≤ 64) ∧ (¬ t < 16) ∧ (Wd b t = L)) ⟨_, 16, L, rfl, WF, WF, WC, WC, WC⟩ ?_
  intro m_2 s_2 σ_2 n_2 hs_2 hf_2 hn_2 hI_2
  obtain ⟨t, L, hm_2, h2_7, e2_0, ht, h16, hL⟩ := hI_2
  have h2_2 := KS hs_2 2
  have h2_4 := KS hs_2 4
  have h2_5 := KS hs_2 5
  have k2_0 := KE hf_2 (N)
  have k2_1 := KE hf_2 (N+1)
  have hlow := KL (N := N) (σ := σ) hf_2
  have hlen : L.length = 64 := by rw [← hL]; exact Wd_len b t
  by_cases ht64 : t = 64
  ·subst ht64
   rw [hw] at hL
   subst hL
   have hcs := And.intro c1 True.intro
   have hR0 : Rd w o 0 = o := rfl
   have hzl := shaZ_len
   refine Wk ?_
   refine go_loopF mixed (by kernel_rfl) (12 :: 13 :: 14 :: 15 :: 16 :: 17 :: 18 :: 19 :: 20 :: 104 :: 105 :: 106 :: 107 :: 108 :: 109 :: 110 :: 111 :: 112 :: 113 :: 114 :: 115 :: 116 :: 117 :: 118 :: 119 :: 120 :: 121 :: 122 :: 123 :: 124 :: 125 :: 126 :: 127 :: 128 :: 129 :: 130 :: 131 :: 132 :: 133 :: 134 :: 135 :: 136 :: 137 :: 138 :: 139 :: 140 :: 141 :: 142 :: 143 :: 144 :: 145 :: 146 :: 147 :: 148 :: 149 :: 150 :: 151 :: 152 :: 153 :: 154 :: 155 :: 156 :: 157 :: 158 :: 159 :: 160 :: 161 :: 162 :: 163 :: 164 :: 165 :: 166 :: 167 :: 168 :: 169 :: 170 :: 171 :: 172 :: 173 :: 174 :: 175 :: 176 :: 177 :: 178 :: 179 :: 180 :: 181 :: 182 :: 183 :: 184 :: 185 :: 186 :: 187 :: []) [n_2+6] (fun m_ s_ σ_ n_ => ∃ (t : Nat) (x : V8), m_ = 64 - t ∧ s_ 12 = .lit (.int .i64 t) ∧ σ_ (n_2+6) = .box 251 (uuAV x.l) ∧ (t ≤ 64) ∧ (Rd w o t = x)) ⟨_, 0, o, rfl, WF, WF, WC, WC⟩ ?_
   intro m_3 s_3 σ_3 n_3 hs_3 hf_3 hn_3 hI_3
   obtain ⟨t, x, hm_3, h3_12, e3_0, ht, hx⟩ := hI_3
   have h3_2 := KS hs_3 2
   have h3_4 := KS hs_3 4
   have h3_5 := KS hs_3 5
   have h3_10 := KS hs_3 10
   have h3_11 := KS hs_3 11
   have k3_0 := KE hf_3 (N)
   have k3_1 := KE hf_3 (N+1)
   have k3_2 := KE hf_3 (N+2)
   have k3_3 := KE hf_3 (n_2+3)
   have hlow := KL (N := N) (σ := σ) hf_3
   by_cases ht64 : t = 64
   ·subst ht64
    rw [hv] at hx
    subst hx
    generalize hvl : V8.l v = vl at *
    have hvll : vl.length = 8 := by rw [← hvl]; rfl
    have hR0 : Ad ol vl 0 = ol := rfl
    refine Wk ?_
    refine go_loopF mixed (by kernel_rfl) [21, 188, 189, 190, 191, 192, 193, 194, 195, 196, 197, 198, 199, 200] [N] (fun m_ s_ σ_ n_ => ∃ (t : Nat) (L : List Int), m_ = 8 - t ∧ s_ 21 = .lit (.int .i64 t) ∧ σ_ (N) = .box 251 (uuAV L) ∧ (t ≤ 8) ∧ (Ad ol vl t = L)) ⟨_, 0, ol, rfl, WF, WF, WC, WC⟩ ?_
    intro m_4 s_4 σ_4 n_4 hs_4 hf_4 hn_4 hI_4
    obtain ⟨t, L, hm_4, h4_21, e4_0, ht, hL⟩ := hI_4
    have h4_2 := KS hs_4 2
    have h4_4 := KS hs_4 4
    have h4_11 := KS hs_4 11
    have k4_0 := KE hf_4 (N+1)
    have k4_1 := KE hf_4 (n_2+6)
    have hlow := KL (N := N) (σ := σ) hf_4
    have hlen : L.length = 8 := by rw [← hL, Ad_len, holl]
    by_cases ht8 : t = 8
    ·subst ht8
     subst hL
     exact W0
    ·have htl : (t : Int) < 8 := by omega
     have htl' : t < 8 := by omega
     have htn : t < L.length := by omega
     have htn' : t < vl.length := by omega
     obtain ⟨p, hp⟩ : ∃ x, L[t] = x := ⟨_, rfl⟩
     obtain ⟨q, hq⟩ : ∃ x, vl[t] = x := ⟨_, rfl⟩
     have hS : Ad ol vl (t + 1) = L.set t (W.cv (p + q)) := by
      rw [Ad, hL, List.getD_eq_getElem?_getD, List.getElem?_eq_getElem htn, List.getD_eq_getElem?_getD, List.getElem?_eq_getElem htn', hp, hq]; rfl
     clear hL
     refine Wk ?_
     exact ⟨WS, WG, WN, _, (show 8 - (t + 1) < m_4 by omega), t + 1, L.set t (W.cv (p + q)), rfl, WF, WF, WC, WC⟩
   ·have htl : (t : Int) < 64 := by omega
    have htn : t < 64 := by omega
    have htw : t < w.length := by omega
    have htz : t < shaZ.length := by omega
    have hkd : shaZ.getD t 0 = shaZ[t] := by
     rw [List.getD_eq_getElem?_getD, List.getElem?_eq_getElem htz]; rfl
    have hwd : w.getD t 0 = w[t] := by
     rw [List.getD_eq_getElem?_getD, List.getElem?_eq_getElem htw]; rfl
    obtain ⟨kt, hkt⟩ : ∃ x, shaZ[t] = x := ⟨_, rfl⟩
    rw [hkt] at hkd
    obtain ⟨wt, hwt⟩ : ∃ x, w[t] = x := ⟨_, rfl⟩
    rw [hwt] at hwd
    have hS : Rd w o (t + 1) = rnd x kt wt := by rw [Rd, hx, hkd, hwd]
    clear hkd hwd hx
    obtain ⟨xa, xb, xc, xd, xe, xf, xg, xh⟩ := x
    simp only [V8.l] at *
    obtain ⟨s1, hs1⟩ : ∃ z, W.x32 (W.x32 (W.rotr xe 6) (W.rotr xe 11)) (W.rotr xe 25) = z := ⟨_, rfl⟩
    obtain ⟨s0, hs0⟩ : ∃ z, W.x32 (W.x32 (W.rotr xa 2) (W.rotr xa 13)) (W.rotr xa 22) = z := ⟨_, rfl⟩
    obtain ⟨ch, hch⟩ : ∃ z, W.x32 (W.n32 xe xf) (W.n32 (W.x32 4294967295 xe) xg) = z := ⟨_, rfl⟩
    obtain ⟨mj, hmj⟩ : ∃ z, W.x32 (W.x32 (W.n32 xa xb) (W.n32 xa xc)) (W.n32 xb xc) = z := ⟨_, rfl⟩
    obtain ⟨t1, ht1⟩ : ∃ z, W.cv (W.cv (W.cv (W.cv (xh + s1) + ch) + kt) + wt) = z := ⟨_, rfl⟩
    obtain ⟨t2, ht2⟩ : ∃ z, W.cv (s0 + mj) = z := ⟨_, rfl⟩
    have hS' : rnd ⟨xa, xb, xc, xd, xe, xf, xg, xh⟩ kt wt = ⟨W.cv (t1 + t2), xa, xb, xc, W.cv (xd + t1), xe, xf, xg⟩ := by
     unfold rnd T1 T2 S1 S0 Ch Maj
     simp only [hs1, hs0, hch, hmj, ht1, ht2]
    rw [hS'] at hS
    clear hS'
    have r1 := refrot_spec xe 6 (by omega)
    have r2 := refrot_spec xe 11 (by omega)
    have r3 := refrot_spec xe 25 (by omega)
    have r4 := refrot_spec xa 2 (by omega)
    have r5 := refrot_spec xa 13 (by omega)
    have r6 := refrot_spec xa 22 (by omega)
    have hcs := And.intro r1 (And.intro r2 (And.intro r3 (And.intro r4 (And.intro r5 (And.intro r6 True.intro)))))
    clear r1 r2 r3 r4 r5 r6 hZ hzl hol
    refine Wk ?_
    exact ⟨WS, WG, WN, _, (show 64 - (t + 1) < m_3 by omega), t + 1, V8.mk (W.cv (t1 + t2)) xa xb xc (W.cv (xd + t1)) xe xf xg, rfl, WF, WF, WC, WC⟩
  ·have htl : t < 64 := by omega
   have htl' : (t : Int) < 64 := by omega
   have hw := Wd_hi b t h16
   rw [hL] at hw
   have j15 : ((t : Int) - 15).toNat = t - 15 := by omega
   have j2 : ((t : Int) - 2).toNat = t - 2 := by omega
   have j7 : ((t : Int) - 7).toNat = t - 7 := by omega
   have j16 : ((t : Int) - 16).toNat = t - 16 := by omega
   have l15 : t - 15 < L.length := by omega
   have l2 : t - 2 < L.length := by omega
   have l7 : t - 7 < L.length := by omega
   have l16 : t - 16 < L.length := by omega
   obtain ⟨x15, g15⟩ : ∃ x, L[t - 15] = x := ⟨_, rfl⟩
   obtain ⟨x2, g2⟩ : ∃ x, L[t - 2] = x := ⟨_, rfl⟩
   obtain ⟨x7, g7⟩ : ∃ x, L[t - 7] = x := ⟨_, rfl⟩
   obtain ⟨x16, g16⟩ : ∃ x, L[t - 16] = x := ⟨_, rfl⟩
   rw [nextW_at (by omega) (by omega) g2 g7 g15 g16] at hw
   have r1 := refrot_spec x2 17 (by omega)
   have r2 := refrot_spec x2 19 (by omega)
   have r3 := refrot_spec x15 7 (by omega)
   have r4 := refrot_spec x15 18 (by omega)
   have s0 : W.x32 (W.x32 (W.rotr x15 7) (W.rotr x15 18)) (x15.fdiv 8) = sg0 x15 := by unfold sg0; rfl
   have s1 : W.x32 (W.x32 (W.rotr x2 17) (W.rotr x2 19)) (x2.fdiv 1024) = sg1 x2 := by unfold sg1; rfl
   have hcs := And.intro r1 (And.intro r2 (And.intro r3 (And.intro r4 True.intro)))
   clear r1 r2 r3 r4 hL
   refine Wk ?_
   exact ⟨WS, WG, WN, _, (show 64 - (t + 1) < m_2 by omega), t + 1, L.set t (W.cv (W.cv (W.cv (sg1 x2 + x7) + sg0 x15) + x16)), rfl, WF, WF, WC, WC, WC⟩
end
end Go.Proofs.YtemmlldpmgfblaaGreatDoor

namespace Go.Ab
open Go.RowKit
attribute [local irreducible] Go.Ab.tyAV Go.Ab.aw Go.Ab.aops Go.Ab.kReg Go.Ab.aThen Go.Ab.aBlk Go.Ab.acond Go.Ab.aguard Go.Ab.astep Go.Ab.AStepX Go.Ab.aRet
section
variable {P : Program} {o : Oper} {s : Slots} {id : Nat}
end
def evMutZ (P : Program) (id : Nat) (t tn : TypeId) (u v : AV) : Option Step :=
 match sliceInfo P t, intTy P tn, u, v with
 | some (e, size, bytes, z), some _, .nils, .lit (.int _ m) => if 0 < m ∧ m.toNat * bytes ≤ 140737488355328 ∧ m.toNat ≤ 140737488355328 then
   some ⟨[], .ms id 0 size 0 m.toNat, [(id, .mrow 0 e size (List.replicate m.toNat z))]⟩ else none
 | _, _, _, _ => none
attribute [go_sem] evMutZ
section
variable {P : Program} {ops : Array Oper} {m i n : Nat} {T : Trace} {k : Cfg → Trace → Prop} {ty : TypeId} {pos : String} {after : Array Edge} {r : List Oper} {s : Slots} {σ : Nat → Ent}
end
end Go.Ab

namespace Go.Proofs.YtemmlldpmgfblaaGreatDoor
open Go.Ab
attribute [local irreducible] Go.Ab.tyAV Go.Ab.aw Go.Ab.aops Go.Ab.kReg Go.Ab.aThen Go.Ab.aBlk Go.Ab.acond Go.Ab.aguard Go.Ab.astep Go.Ab.AStepX Go.Ab.aRet
theorem Same_spec (cs bs : List UInt8) (ha : cs.length ≤ 100000000) (k : Nat) : ACall Tryz.prog 24 [.slice none (cs.map byteAV), .slice none (bs.map byteAV)] k [] (.lit (.bool (decide (cs = bs)))) [] := by
 by_cases hl : cs.length = bs.length
 ·refine Bd Tryz.func24 Tryz.ntmps24 fun σ N hp hpn hk hkn hfree => ?_
  refine Wk ?_
  refine go_loop (aloop mixed (by kernel_rfl) (fun c => ∃ (u : Nat), c.s 0 = .slice none (cs.map byteAV) ∧ c.s 1 = .slice none (bs.map byteAV) ∧ c.s 5 = .lit (.int .i64 u) ∧ (∀ id, id < N → c.σ id = σ id) ∧ N ≤ c.n ∧ u ≤ cs.length ∧ cs.take u = bs.take u)
   (fun c => match c.s 5 with | .lit (.int _ m) => cs.length - m.toNat | _ => 0) ⟨0, by simp (disch := omega) [go_sem, *, -List.reduceReplicate], by simp (disch := omega) [go_sem, *, -List.reduceReplicate], by simp (disch := omega) [go_sem, *, -List.reduceReplicate], (fun id hid => by simp (disch := omega) only; try exact hlow id hid), by simp only; omega, by omega, by simp⟩ ?_)
  rintro ⟨s, σ', n'⟩ ⟨u, h0, h1, h5, hlow, hn', hu, heq⟩
  simp only at h0 h1 h5 hlow hn'
  by_cases hul : u = cs.length
  ·have hr : decide (cs = bs) = true := by
    rw [hul, List.take_length, hl, List.take_length] at heq
    simp [heq]
   rw [hr]
   exact W0
  ·have hua : u < cs.length := by omega
   have hub : u < bs.length := by omega
   obtain ⟨x, hx⟩ : ∃ x, cs[u] = x := ⟨_, rfl⟩
   obtain ⟨y, hy⟩ : ∃ y, bs[u] = y := ⟨_, rfl⟩
   have hxx : byteAV x = .lit (.int .u8 x.toNat) := rfl
   have hyy : byteAV y = .lit (.int .u8 y.toNat) := rfl
   refine Wk ?_
   by_cases hxy : x = y
   ·subst hxy
    refine Wk ?_
    refine ⟨⟨u + 1, by simp (disch := omega) [go_sem, *, -List.reduceReplicate], by simp (disch := omega) [go_sem, *, -List.reduceReplicate], by simp (disch := omega) [go_sem, *, -List.reduceReplicate], (fun id hid => by simp (disch := omega) only; try exact hlow id hid), by simp only; omega, by omega, ?_⟩, ?_⟩
    ·rw [List.take_add_one, List.take_add_one, heq, List.getElem?_eq_getElem hua, List.getElem?_eq_getElem hub, hx, hy]
    ·simp (disch := omega) [go_sem, *, -List.reduceReplicate]
     omega
   ·have hne : ¬ x.toNat = y.toNat := fun h => hxy (UInt8.toNat_inj.1 h)
    have hr : decide (cs = bs) = false := by
     have : cs ≠ bs := fun h => by subst h; rw [hx] at hy; exact hxy hy
     simp [this]
    rw [hr]
    exact W0
 ·have hr : decide (cs = bs) = false := by
   have : cs ≠ bs := fun h => hl (by rw [h])
   simp [this]
  rw [hr]
  refine Bd Tryz.func24 Tryz.ntmps24 fun σ N hp hpn hk hkn hfree => ?_
  exact W0
theorem cutAt (c : Nat) (b : List UInt8) : ∃ (m : Nat) (t : List UInt8), (if (c : Int) < (b.length : Int) then (c : Int) else (b.length : Int)) = (m : Int) ∧ m ≤ b.length ∧ m ≤ c ∧ t.length = m ∧ (b.map byteAV).take m = t.map byteAV := by
 refine ⟨min c b.length, b.take c, ?_, Nat.min_le_right .., Nat.min_le_left .., by simp, ?_⟩
 ·split <;> omega
 ·rw [← List.map_take]
  congr 1
  by_cases h : c ≤ b.length
  ·rw [Nat.min_eq_left h]
  ·rw [Nat.min_eq_right (by omega), List.take_length, List.take_of_length_le (by omega)]

attribute [go_sem] bytes_all1 bytes_all2 List.isEmpty_map
theorem SClone_cons (bs : List UInt8) (he : bs.isEmpty = false) (hl : bs.length ≤ 100000000) (k : Nat) :
  ACall Tryz.prog 211 [.slice none (bs.map byteAV)] k [] (.slice (some k) (bs.map byteAV)) [(k, .row 5 1 bs.length)] := by
 refine Bd Tryz.func211 Tryz.ntmps211 fun σ N hp hpn hk hkn hfree => ?_
 refine Wk ?_
 refine go_result1 (r0 := N+3) (by simp (disch := omega) [go_sem, *, -List.reduceReplicate]; rfl) (by omega) (by simp (disch := omega) [go_sem]; try rfl) (fun id hid => by simp (disch := omega) only [upd_ne]; try exact hlow id hid) (by simp (disch := omega) only [upd_same]; rfl) (by simp (disch := omega) [go_sem])
theorem SClone_nil (c k : Nat) : ACall Tryz.prog 211 [.lit (.slice none 0 c)] k [] .nils [] := by
 refine Bd Tryz.func211 Tryz.ntmps211 fun σ N hp hpn hk hkn hfree => ?_
 exact W0
theorem SClone_empty (A : Addr) (c k : Nat) : ACall Tryz.prog 211 [.lit (.slice (some A) 0 c)] k [] (.slice (some k) []) [(k, .row 5 1 0)] := by
 refine Bd Tryz.func211 Tryz.ntmps211 fun σ N hp hpn hk hkn hfree => ?_
 refine Wk ?_
 refine go_result1 (r0 := N+3) (by simp (disch := omega) [go_sem, *, -List.reduceReplicate]; rfl) (by omega) (by simp (disch := omega) [go_sem]; try rfl) (fun id hid => by simp (disch := omega) only [upd_ne]; try exact hlow id hid) (by simp (disch := omega) only [upd_same]; rfl) (by simp (disch := omega) [go_sem])
theorem SClone_spec (bs : List UInt8) (hl : bs.length ≤ 100000000) (k : Nat) :
  ACall Tryz.prog 211 [.slice none (bs.map byteAV)] k [] (.slice (some k) (bs.map byteAV)) [(k, .row 5 1 bs.length)] := by
 cases bs with
 | cons b r => exact SClone_cons (b :: r) rfl hl k
 | nil =>
  refine ACall.empty fun A c => ?_
  cases A with
  | none => exact ACall.nilrow (SClone_nil c k)
  | some A => exact SClone_empty A c k
def u8 (n : Nat) : UInt8 := UInt8.ofNat n
def leb (n : Nat) : List UInt8 := if h : n < 128 then [u8 n] else u8 (n % 128 + 128) :: leb (n / 128)
termination_by n
theorem leb_small {n : Nat} (h : n < 128) : leb n = [u8 n] := by rw [leb, dif_pos h]
theorem leb_big {n : Nat} (h : ¬ n < 128) : leb n = u8 (n % 128 + 128) :: leb (n / 128) := by rw [leb, dif_neg h]
theorem leb_len (n : Nat) : ∀ k, n < 128 ^ k → (leb n).length ≤ k + 1 := by
 induction n using Nat.strongRecOn with
 | _ n ih =>
  intro k hk
  by_cases h : n < 128
  ·rw [leb_small h]; simp
  ·rw [leb_big h]
   cases k with
   | zero => simp at hk; omega
   | succ k =>
    have := ih (n / 128) (by omega) k (by rw [Nat.pow_succ] at hk; omega)
    simp; omega
theorem byteAV_ofNat {n : Nat} (h : n < 256) : byteAV (u8 n) = .lit (.int .u8 n) := by
 simp only [byteAV, u8]
 rw [UInt8.toNat_ofNat', Nat.mod_eq_of_lt h]
theorem Number_spec (n k : Nat) (hn : n < 128 ^ 9) : ACall Tryz.prog 75 [.lit (.int .i64 n)] k [] (.slice (some k) ((leb n).map byteAV)) [(k, .row 5 1 (leb n).length)] := by
 have hl := leb_len n 9 hn
 refine Bd Tryz.func75 Tryz.ntmps75 fun σ N hp hpn hk hkn hfree => ?_
 refine Wk ?_
 refine go_loop (ALoop.nilrow 3 5 1 (by simp (disch := omega) [go_sem, *, -List.reduceReplicate]) ?_)
 refine aloop mixed (by kernel_rfl) (fun c => ∃ (m : Nat) (acc : List UInt8), c.s 0 = .lit (.int .i64 m) ∧ c.s 3 = .slice (some (N + 2)) (acc.map byteAV) ∧ c.σ (N + 2) = .row 5 1 acc.length ∧ N + 3 ≤ c.n ∧ (∀ id, id < N → c.σ id = σ id) ∧ acc ++ leb m = leb n ∧ m < 128 ^ 9)
  (fun c => match c.s 0 with | .lit (.int _ m) => m.toNat | _ => 0) ⟨n, [], by simp (disch := omega) [go_sem, *, -List.reduceReplicate], by simp (disch := omega) [go_sem, *, -List.reduceReplicate], by simp (disch := omega) [go_sem, *, -List.reduceReplicate], by simp, by intro id hid; simp (disch := omega) only [upd_ne], rfl, hn⟩ ?_
 rintro ⟨s, σ', n'⟩ ⟨m, acc, h0, h3, hr, hn', hlow, hacc, hm⟩
 simp only at h0 h3 hr hn' hlow
 have hal : acc.length ≤ 10 := by rw [← hacc, List.length_append] at hl; omega
 refine Wk ?_
 by_cases h : m < 128
 ·refine go_condF (by simp (disch := omega) [go_sem, *, -List.reduceReplicate]; try first | rfl | omega) ?_
  refine Wk ?_
  have hfin : (leb n).map byteAV = acc.map byteAV ++ [.lit (.int .u8 (IntKind.u8.wrap (m : Int)))] := by
   rw [← hacc, leb_small h, List.map_append, List.map_cons, List.map_nil, byteAV_ofNat (by omega), IntKind.wrap_u8, Int.emod_eq_of_lt (by omega) (by omega)]
  have hlen : (leb n).length = acc.length + 1 := by rw [← hacc, leb_small h]; simp
  rw [hfin, hlen]
  refine go_result1 (r0 := N+2) (by simp (disch := omega) [go_sem, *, -List.reduceReplicate]; rfl) (by omega) (by simp (disch := omega) [go_sem]; try rfl) (fun id hid => by simp (disch := omega) only [upd_ne]; try exact hlow id hid) (by simp (disch := omega) only [upd_same]; rfl) (by simp (disch := omega) [go_sem])
 ·have ht : (m : Int).tmod 128 = (m : Int) % 128 := Int.tmod_eq_emod_of_nonneg (by omega)
  have hb : IntKind.u8.wrap ((m : Int) % 128 + 128) = (m : Int) % 128 + 128 := by rw [IntKind.wrap_u8]; omega
  have hbv : byteAV (u8 (m % 128 + 128)) = .lit (.int .u8 ((m : Int) % 128 + 128)) := by rw [byteAV_ofNat (by omega)]; simp
  refine Wk ?_
  refine ⟨⟨m / 128, acc ++ [u8 (m % 128 + 128)], by simp (disch := omega) [go_sem, *, -List.reduceReplicate], by simp (disch := omega) [go_sem, *, -List.reduceReplicate], by simp (disch := omega) [go_sem, *, -List.reduceReplicate], by simp only; omega, (fun id hid => by simp (disch := omega) only [upd_ne]; try exact hlow id hid), by rw [← hacc, leb_big h]; simp, by omega⟩, ?_⟩
  simp (disch := omega) [go_sem, *, -List.reduceReplicate]
  omega
theorem Append_ok (bs : List UInt8) (hb : bs.length ≤ 10000000) (n : Nat) (h : n ≤ 281474976710656) (k : Nat) :
  ACall Tryz.prog 174 [.slice none (bs.map byteAV), .lit (.int .i64 n)] k [] (.tup [.slice (some k) ((bs ++ leb n).map byteAV), .lit (.int .i64 0)]) [(k, .row 5 1 (bs.length + (leb n).length))] := by
 have hl := leb_len n 7 (by omega)
 have hc := SClone_spec bs (by omega)
 refine Bd Tryz.func174 Tryz.ntmps174 fun σ N hp hpn hk hkn hfree => ?_
 have g1 : ¬ (n : Int) < 0 := by omega
 have g2 : ¬ (281474976710656 : Int) < n := by omega
 have hcs := And.intro hc True.intro
 refine Wk ?_
 refine go_loop (aloop mixed (by kernel_rfl) (fun c => ∃ (m : Nat) (acc : List UInt8), c.s 1 = .lit (.int .i64 m) ∧ c.s 6 = .slice (some (N + 9)) ((bs ++ acc).map byteAV) ∧ c.σ (N + 9) = .row 5 1 (bs.length + acc.length) ∧ N + 10 ≤ c.n ∧ (∀ id, id < N → c.σ id = σ id) ∧ acc ++ leb m = leb n ∧ m ≤ 281474976710656)
  (fun c => match c.s 1 with | .lit (.int _ m) => m.toNat | _ => 0) ⟨n, [], by simp (disch := omega) [go_sem, *, -List.reduceReplicate], by simp (disch := omega) [go_sem, *, -List.reduceReplicate], by simp (disch := omega) [go_sem, *, -List.reduceReplicate], by simp, (fun id hid => by simp (disch := omega) only [upd_ne, wr_cons, wr_nil]; try exact hlow id hid), rfl, h⟩ ?_)
 rintro ⟨s, σ', n'⟩ ⟨m, acc, h0, h3, hr, hn', hlow, hacc, hm⟩
 simp only at h0 h3 hr hn' hlow
 have hal : acc.length ≤ 10 := by rw [← hacc, List.length_append] at hl; omega
 by_cases h : m < 128
 ·refine Wk ?_
  have hfin : (bs ++ leb n).map byteAV = (bs ++ acc).map byteAV ++ [.lit (.int .u8 (IntKind.u8.wrap (m : Int)))] := by
   rw [← hacc, leb_small h, ← List.append_assoc, List.map_append, List.map_cons, List.map_nil, byteAV_ofNat (by omega), IntKind.wrap_u8, Int.emod_eq_of_lt (by omega) (by omega)]
  have hlen : bs.length + (leb n).length = bs.length + acc.length + 1 := by rw [← hacc, leb_small h]; simp; omega
  rw [hfin, hlen]
  refine go_result1 (r0 := N+9) (by simp (disch := omega) [go_sem, *, -List.reduceReplicate]; rfl) (by omega) (by simp (disch := omega) [go_sem]; try rfl) (fun id hid => by simp (disch := omega) only [upd_ne]; try exact hlow id hid) (by simp (disch := omega) only [upd_same]; rfl) (by simp (disch := omega) [go_sem])
 ·have ha : bits .and .i64 (m : Int) 127 = (m : Int) % 128 := i64_and127 _ (by omega) (by omega)
  have ho : bits .or .i64 ((m : Int) % 128) 128 = (m : Int) % 128 + 128 := i64_or128 _ (by omega) (by omega)
  have hs : (m : Int).fdiv 128 = (m : Int) / 128 := by rw [Int.fdiv_eq_ediv]; simp
  have hb : IntKind.u8.wrap ((m : Int) % 128 + 128) = (m : Int) % 128 + 128 := by rw [IntKind.wrap_u8]; omega
  have hbv : byteAV (u8 (m % 128 + 128)) = .lit (.int .u8 ((m : Int) % 128 + 128)) := by rw [byteAV_ofNat (by omega)]; simp
  refine Wk ?_
  refine ⟨⟨m / 128, acc ++ [u8 (m % 128 + 128)], by simp (disch := omega) [go_sem, *, -List.reduceReplicate], by simp (disch := omega) [go_sem, *, -List.reduceReplicate], by simp (disch := omega) [go_sem, *, -List.reduceReplicate]; omega, by simp only; omega, (fun id hid => by simp (disch := omega) only [upd_ne]; try exact hlow id hid), by rw [← hacc, leb_big h]; simp, by omega⟩, ?_⟩
  simp (disch := omega) [go_sem, *, -List.reduceReplicate]
  omega
theorem Number_spec_f (n k : Nat) (hn : n < 128 ^ 9) : ACall Tryz.prog 75 [.lit (.int .i64 n)] k [] (.slice none ((leb n).map byteAV)) [] := by
 have hl := leb_len n 9 hn
 refine Bd Tryz.func75 Tryz.ntmps75 fun σ N hp hpn hk hkn hfree => ?_
 refine Wk ?_
 refine go_loop (ALoop.nilrow 3 5 1 (by simp (disch := omega) [go_sem, *, -List.reduceReplicate]) ?_)
 refine aloop mixed (by kernel_rfl) (fun c => ∃ (m : Nat) (acc : List UInt8), c.s 0 = .lit (.int .i64 m) ∧ c.s 3 = .slice (some (N + 2)) (acc.map byteAV) ∧ c.σ (N + 2) = .row 5 1 acc.length ∧ N + 3 ≤ c.n ∧ (∀ id, id < N → c.σ id = σ id) ∧ acc ++ leb m = leb n ∧ m < 128 ^ 9)
  (fun c => match c.s 0 with | .lit (.int _ m) => m.toNat | _ => 0) ⟨n, [], by simp (disch := omega) [go_sem, *, -List.reduceReplicate], by simp (disch := omega) [go_sem, *, -List.reduceReplicate], by simp (disch := omega) [go_sem, *, -List.reduceReplicate], by simp, by intro id hid; simp (disch := omega) only [upd_ne], rfl, hn⟩ ?_
 rintro ⟨s, σ', n'⟩ ⟨m, acc, h0, h3, hr, hn', hlow, hacc, hm⟩
 simp only at h0 h3 hr hn' hlow
 have hal : acc.length ≤ 10 := by rw [← hacc, List.length_append] at hl; omega
 refine Wk ?_
 by_cases h : m < 128
 ·refine go_condF (by simp (disch := omega) [go_sem, *, -List.reduceReplicate]; try first | rfl | omega) ?_
  refine Wk ?_
  have hfin : (leb n).map byteAV = acc.map byteAV ++ [.lit (.int .u8 (IntKind.u8.wrap (m : Int)))] := by
   rw [← hacc, leb_small h, List.map_append, List.map_cons, List.map_nil, byteAV_ofNat (by omega), IntKind.wrap_u8, Int.emod_eq_of_lt (by omega) (by omega)]
  have hlen : (leb n).length = acc.length + 1 := by rw [← hacc, leb_small h]; simp
  rw [hfin]
  refine go_resultI (by simp (disch := omega) [go_sem, *, -List.reduceReplicate]; rfl) (by first | exact AV.le_refl _ | ((first | apply AV.le_slices | apply AV.le_nilsE | apply AV.le_clipE); first | rfl | (simp (disch := omega) [go_sem, *, -List.reduceReplicate]; done))) (by simp (disch := omega) [go_sem]; try rfl) (fun id hid => by simp (disch := omega) only [upd_ne]; try exact hlow id hid)
 ·have ht : (m : Int).tmod 128 = (m : Int) % 128 := Int.tmod_eq_emod_of_nonneg (by omega)
  have hb : IntKind.u8.wrap ((m : Int) % 128 + 128) = (m : Int) % 128 + 128 := by rw [IntKind.wrap_u8]; omega
  have hbv : byteAV (u8 (m % 128 + 128)) = .lit (.int .u8 ((m : Int) % 128 + 128)) := by rw [byteAV_ofNat (by omega)]; simp
  refine Wk ?_
  refine ⟨⟨m / 128, acc ++ [u8 (m % 128 + 128)], by simp (disch := omega) [go_sem, *, -List.reduceReplicate], by simp (disch := omega) [go_sem, *, -List.reduceReplicate], by simp (disch := omega) [go_sem, *, -List.reduceReplicate], by simp only; omega, (fun id hid => by simp (disch := omega) only [upd_ne]; try exact hlow id hid), by rw [← hacc, leb_big h]; simp, by omega⟩, ?_⟩
  simp (disch := omega) [go_sem, *, -List.reduceReplicate]
  omega

@[go_sem] theorem renl_rep0 (f : Nat → Option Nat) (n : Nat) (v : Value) : AV.renl f (List.replicate n (.lit v)) = List.replicate n (.lit v) := by
 rw [AV.renl_map, List.map_replicate]; rfl
end Go.Proofs.YtemmlldpmgfblaaGreatDoor

namespace Go.Proofs.YtemmlldpmgfblaaGreatDoor
open Go.Ab
attribute [local irreducible] Go.Ab.tyAV Go.Ab.aw Go.Ab.aops Go.Ab.kReg Go.Ab.aThen Go.Ab.aBlk Go.Ab.acond Go.Ab.aguard Go.Ab.astep Go.Ab.AStepX Go.Ab.aRet
theorem V8_len (v : V8) : v.l.length = 8 := rfl
@[go_sem] theorem v8_sz (v : V8) : (v8AV v).sz = 8 := by rw [v8AV, uuAV_sz, V8_len]
@[go_sem] theorem v8_isAgg (v : V8) : (v8AV v).isAgg = true := by rw [v8AV, uuAV_isAgg]
@[go_sem] theorem v8_cell (v : V8) : (v8AV v).cell = true := by rw [v8AV, uuAV_cell]
@[go_sem] theorem v8_ren (f : Nat → Option Nat) (v : V8) : (v8AV v).ren f = v8AV v := by rw [v8AV, uuAV_ren]
attribute [local irreducible] v8AV shaG
section
variable [W : W32]
def comp : Nat → V8 → List UInt8 → V8
 | 0, h, _ => h
 | q + 1, h, L => comp q (chg h (L.take 64)) (L.drop 64)
theorem comp_step (h : V8) (L : List UInt8) (hl : 64 ≤ L.length) : comp (L.length / 64) h L = comp ((L.drop 64).length / 64) (chg h (L.take 64)) (L.drop 64) := by
 have : L.length / 64 = (L.drop 64).length / 64 + 1 := by rw [List.length_drop]; omega
 rw [this, comp]
end
end Go.Proofs.YtemmlldpmgfblaaGreatDoor

namespace Go.Proofs.YtemmlldpmgfblaaGreatDoor
open Go.Ab
attribute [local irreducible] Go.Ab.tyAV Go.Ab.aw Go.Ab.aops Go.Ab.kReg Go.Ab.aThen Go.Ab.aBlk Go.Ab.acond Go.Ab.aguard Go.Ab.astep Go.Ab.AStepX Go.Ab.aRet
def sh8 (m : Int) (s : Nat) : UInt8 := UInt8.ofNat ((m / (2 : Int) ^ s) % 256).toNat
theorem sh8_toNat (m : Int) (s : Nat) : ((sh8 m s).toNat : Int) = (m / (2 : Int) ^ s) % 256 := by
 unfold sh8
 rw [UInt8.toNat_ofNat']
 omega
theorem sh8_wrap (m : Int) (s : Nat) : IntKind.u8.wrap (m.fdiv ((2 : Int) ^ s)) = ((sh8 m s).toNat : Int) := by
 have hp : (0 : Int) ≤ 2 ^ s := Int.le_of_lt (Int.pow_pos (by decide))
 rw [sh8_toNat, IntKind.wrap_u8, Int.fdiv_eq_ediv, if_pos (.inl hp), Int.sub_zero]
def eightB (m : Int) : List UInt8 := [sh8 m 56, sh8 m 48, sh8 m 40, sh8 m 32, sh8 m 24, sh8 m 16, sh8 m 8, sh8 m 0]
theorem eightB_len (m : Int) : (eightB m).length = 8 := rfl
attribute [go_sem] ren_byteAV
theorem Eight_spec (m : Int) (_m0 : 0 ≤ m) (_m1 : m < 18446744073709551616) (k : Nat) :
  ACall Tryz.prog 144 [.lit (.int .u64 m)] k [] (.slice none ((eightB m).map byteAV)) [] := by
 have e7 := sh8_wrap m 56
 have e6 := sh8_wrap m 48
 have e5 := sh8_wrap m 40
 have e4 := sh8_wrap m 32
 have e3 := sh8_wrap m 24
 have e2 := sh8_wrap m 16
 have e1 := sh8_wrap m 8
 have e0 := sh8_wrap m 0
 simp only [Int.reducePow, Int.pow_zero, Int.fdiv_one] at e7 e6 e5 e4 e3 e2 e1 e0
 unfold eightB
 generalize sh8 m 56 = b7 at *
 generalize sh8 m 48 = b6 at *
 generalize sh8 m 40 = b5 at *
 generalize sh8 m 32 = b4 at *
 generalize sh8 m 24 = b3 at *
 generalize sh8 m 16 = b2 at *
 generalize sh8 m 8 = b1 at *
 generalize sh8 m 0 = b0 at *
 refine Bd Tryz.func144 Tryz.ntmps144 fun σ N hp hpn hk hkn hfree => ?_
 refine Wk ?_
 refine ALoop.nilrow 3 5 1 (by simp (disch := omega) [go_sem, *, -List.reduceReplicate]) ?_
 refine go_loopB (N) mixed (by kernel_rfl) [3, 4, 5, 6, 7, 8, 9, 10, 11, 12, 13, 14, 15, 16] [] (fun m_ s_ σ_ n_ => ∃ (u : Nat) (q : Nat) (acc : List UInt8), m_ = 8 - u ∧ s_ 4 = .lit (.int .i64 (56 - 8 * (u : Int))) ∧ s_ 3 = .slice (some q) (acc.map byteAV) ∧ σ_ (q) = .row 5 1 acc.length ∧ (u ≤ 8) ∧ (N ≤ q) ∧ (q < n_) ∧ (acc = [b7, b6, b5, b4, b3, b2, b1, b0].take u)) ⟨_, 0, _, [], rfl, WF, WF, WF, WC, WC, WC, WC⟩ ?_
 intro m_1 s_1 σ_1 n_1 hs_1 hf_1 hn_1 hI_1
 obtain ⟨u, q, acc, hm_1, h1_4, h1_3, e1_0, hu, hq, hqn, hacc⟩ := hI_1
 have h1_0 := KS hs_1 0
 have h1_2 := KS hs_1 2
 have hlow := KL (N := N) (σ := σ) hf_1
 have hb7 : byteAV b7 = .lit (.int .u8 b7.toNat) := rfl
 have hb6 : byteAV b6 = .lit (.int .u8 b6.toNat) := rfl
 have hb5 : byteAV b5 = .lit (.int .u8 b5.toNat) := rfl
 have hb4 : byteAV b4 = .lit (.int .u8 b4.toNat) := rfl
 have hb3 : byteAV b3 = .lit (.int .u8 b3.toNat) := rfl
 have hb2 : byteAV b2 = .lit (.int .u8 b2.toNat) := rfl
 have hb1 : byteAV b1 = .lit (.int .u8 b1.toNat) := rfl
 have hb0 : byteAV b0 = .lit (.int .u8 b0.toNat) := rfl
 have hcase : u = 0 ∨ u = 1 ∨ u = 2 ∨ u = 3 ∨ u = 4 ∨ u = 5 ∨ u = 6 ∨ u = 7 ∨ u = 8 := by omega
 rcases hcase with rfl | hcase
 ·simp only [List.take_zero] at hacc
  subst hacc
  refine Wk ?_
  exact ⟨WS, WG, WN, _, (show 8 - (1) < m_1 by omega), 1, q, [b7], rfl, WF, WF, WF, WC, WC, WC, WC⟩
 rcases hcase with rfl | hcase
 ·simp only [List.take_succ_cons, List.take_zero] at hacc
  subst hacc
  refine Wk ?_
  exact ⟨WS, WG, WN, _, (show 8 - (2) < m_1 by omega), 2, q, [b7, b6], rfl, WF, WF, WF, WC, WC, WC, WC⟩
 rcases hcase with rfl | hcase
 ·simp only [List.take_succ_cons, List.take_zero] at hacc
  subst hacc
  refine Wk ?_
  exact ⟨WS, WG, WN, _, (show 8 - (3) < m_1 by omega), 3, q, [b7, b6, b5], rfl, WF, WF, WF, WC, WC, WC, WC⟩
 rcases hcase with rfl | hcase
 ·simp only [List.take_succ_cons, List.take_zero] at hacc
  subst hacc
  refine Wk ?_
  exact ⟨WS, WG, WN, _, (show 8 - (4) < m_1 by omega), 4, q, [b7, b6, b5, b4], rfl, WF, WF, WF, WC, WC, WC, WC⟩
 rcases hcase with rfl | hcase
 ·simp only [List.take_succ_cons, List.take_zero] at hacc
  subst hacc
  refine Wk ?_
  exact ⟨WS, WG, WN, _, (show 8 - (5) < m_1 by omega), 5, q, [b7, b6, b5, b4, b3], rfl, WF, WF, WF, WC, WC, WC, WC⟩
 rcases hcase with rfl | hcase
 ·simp only [List.take_succ_cons, List.take_zero] at hacc
  subst hacc
  refine Wk ?_
  exact ⟨WS, WG, WN, _, (show 8 - (6) < m_1 by omega), 6, q, [b7, b6, b5, b4, b3, b2], rfl, WF, WF, WF, WC, WC, WC, WC⟩
 rcases hcase with rfl | hcase
 ·simp only [List.take_succ_cons, List.take_zero] at hacc
  subst hacc
  refine Wk ?_
  exact ⟨WS, WG, WN, _, (show 8 - (7) < m_1 by omega), 7, q, [b7, b6, b5, b4, b3, b2, b1], rfl, WF, WF, WF, WC, WC, WC, WC⟩
 rcases hcase with rfl | hcase
 ·simp only [List.take_succ_cons, List.take_zero] at hacc
  subst hacc
  refine Wk ?_
  exact ⟨WS, WG, WN, _, (show 8 - (8) < m_1 by omega), 8, q, [b7, b6, b5, b4, b3, b2, b1, b0], rfl, WF, WF, WF, WC, WC, WC, WC⟩
 subst hcase
 simp only [List.take_succ_cons, List.take_zero] at hacc
 subst hacc
 exact WM
end Go.Proofs.YtemmlldpmgfblaaGreatDoor

namespace Go.Proofs.YtemmlldpmgfblaaGreatDoor
open Go.Ab
attribute [local irreducible] Go.Ab.tyAV Go.Ab.aw Go.Ab.aops Go.Ab.kReg Go.Ab.aThen Go.Ab.aBlk Go.Ab.acond Go.Ab.aguard Go.Ab.astep Go.Ab.AStepX Go.Ab.aRet
attribute [local irreducible] v8AV shaG
def dig (v : V8) : List UInt8 := (List.range 32).map fun i => sh8 (v.l.getD (i / 4) 0) (24 - 8 * (i % 4))
theorem dig_len (v : V8) : (dig v).length = 32 := by simp [dig]
theorem dig_at (v : V8) (i c : Nat) (_hi : i < 8) (hc : c < 4) (h : 4 * i + c < (dig v).length := by simp only [dig_len]; omega) : (dig v)[4 * i + c] = sh8 (v.l.getD i 0) (24 - 8 * c) := by
 simp only [dig, List.getElem_map, List.getElem_range]
 have h1 : (4 * i + c) / 4 = i := by omega
 have h2 : (4 * i + c) % 4 = c := by omega
 rw [h1, h2]
def digT (v : V8) : Tg := ⟨dig v, dig_len v⟩
def pT (D : Tg) (i : Nat) : Tg := if h : i ≤ 32 then ⟨D.1.take i ++ List.replicate (32 - i) 0, by rw [List.length_append, List.length_take, List.length_replicate, D.2]; omega⟩ else D
theorem pT_0 (D : Tg) : pT D 0 = zeroTag := rfl
theorem pT_32 (D : Tg) : pT D 32 = D := by
 apply Subtype.ext
 simp only [pT, Nat.le_refl, dif_pos, Nat.sub_self, List.replicate_zero, List.append_nil]
 exact List.take_of_length_le (by rw [D.2]; omega)
theorem pT_step (D : Tg) (i : Nat) (h : i < 32) (b : UInt8) (hb : D.1[i]'(by rw [D.2]; exact h) = b) : setT (pT D i) i b = pT D (i + 1) := by
 apply Subtype.ext
 have hl : i < D.1.length := by rw [D.2]; exact h
 simp only [setT, pT, dif_pos (show i ≤ 32 by omega), dif_pos (show i + 1 ≤ 32 by omega)]
 rw [List.set_append_right _ _ (by rw [List.length_take]; omega), List.length_take, show i - min i D.1.length = 0 by omega, show 32 - i = (32 - (i + 1)) + 1 by omega, List.replicate_succ, List.set_cons_zero, List.take_add_one, List.getElem?_eq_getElem hl, hb]
 simp
def padB (rl n : Nat) : List UInt8 := 128 :: (List.replicate ((119 - rl % 64) % 64) 0 ++ eightB (8 * (n : Int)))
theorem padB_len (rl n : Nat) : (padB rl n).length = (119 - rl % 64) % 64 + 9 := by simp [padB, eightB]
section
variable [W : W32]
end

theorem Initial_spec (k : Nat) : ACall Tryz.prog 213 [] k [] (v8AV iv8) [] := by
 rw [v8AV]
 unfold iv8
 simp only [V8.l]
 refine Bd Tryz.func213 Tryz.ntmps213 fun σ N hp hpn hk hkn hfree => ?_
 exact W0
section
variable [W : W32]
def shaV (b : List UInt8) : V8 := comp ((b ++ padB b.length b.length).length / 64) iv8 (b ++ padB b.length b.length)
def shaT (b : List UInt8) : Tg := digT (shaV b)
set_option maxHeartbeats 2000000 in
theorem Sha_spec (b : List UInt8) (hl : b.length ≤ 1000000) (k : Nat) :
  ACall Tryz.prog 190 [.slice none (b.map byteAV)] k [] (tagAV (shaT b)) [] := by
 have c1 := Eight_spec (8 * (b.length : Int)) (by omega) (by omega)
 have c2 := Initial_spec
 have hpl := padB_len b.length b.length
 have hM : b ++ padB b.length b.length = b ++ 128 :: (List.replicate ((119 - b.length % 64) % 64) 0 ++ eightB (8 * (b.length : Int))) := rfl
 have hT : shaT b = digT (comp ((b ++ padB b.length b.length).length / 64) iv8 (b ++ padB b.length b.length)) := rfl
 rw [hT]
 have hel := eightB_len (8 * (b.length : Int))
 generalize eightB (8 * (b.length : Int)) = E at *
 generalize b ++ padB b.length b.length = M at *
 obtain ⟨K, hK⟩ : ∃ K, (119 - b.length % 64) % 64 = K := ⟨_, rfl⟩
 rw [hK] at hM
 refine Bd Tryz.func190 Tryz.ntmps190 fun σ N hp hpn hk hkn hfree => ?_
 refine Wk ?_
 refine go_loopB (N+1) mixed (by kernel_rfl) [3, 13, 14, 15, 16, 17, 18, 19] [] (fun m_ s_ σ_ n_ => ∃ (z : Nat) (q : Nat) (p : List UInt8), m_ = K - z ∧ s_ 3 = .slice (some q) (p.map byteAV) ∧ σ_ (q) = .row 5 1 p.length ∧ (z ≤ K) ∧ (p = b ++ 128 :: List.replicate z 0) ∧ (p.length = b.length + (z + 1)) ∧ (N + 1 ≤ q) ∧ (q < n_)) ⟨_, 0, _, b ++ [128], rfl, WF, WF, WC, WC, WC, WC, WC⟩ ?_
 intro m_1 s_1 σ_1 n_1 hs_1 hf_1 hn_1 hI_1
 obtain ⟨z, q, p, hm_1, h1_3, e1_0, hz, hp, hpz, hq, hqn⟩ := hI_1
 have h1_0 := KS hs_1 0
 have h1_2 := KS hs_1 2
 have k1_0 := KE hf_1 (N)
 have hlow := KL (N := N) (σ := σ) hf_1
 have hKb : K < 64 := by omega
 by_cases hzK : z = K
 ·subst hzK
  have htm : (p.length : Int).tmod 64 = 56 := by rw [Int.tmod_eq_emod_of_nonneg (by omega)]; omega
  have hPe : M = p ++ E := by rw [hM, hp]; simp
  have hpl2 : p.length ≤ 2000000 := by omega
  have hml : p.length + E.length = M.length := by rw [hPe, List.length_append]
  have hmm : p.map byteAV ++ E.map byteAV = M.map byteAV := by rw [hPe, List.map_append]
  have hM64 : M.length % 64 = 0 := by omega
  have hMl : M.length ≤ 3000000 := by omega
  have hw8 : IntKind.u64.wrap ((b.length : Int) * 8) = 8 * (b.length : Int) := by rw [wrap_u64r (by omega) (by omega)]; omega
  have hwn : IntKind.u64.wrap (b.length : Int) = (b.length : Int) := wrap_u64r (by omega) (by omega)
  have hcs := And.intro c1 (And.intro c2 True.intro)
  obtain ⟨H, hH⟩ : ∃ H, comp (M.length / 64) iv8 M = H := ⟨_, rfl⟩
  have hH0 : comp ((M.drop 0).length / 64) iv8 (M.drop 0) = H := hH
  rw [hH]
  clear hPe hp hpz c1 c2 hM hH
  refine Wk ?_
  refine go_loopF mixed (by kernel_rfl) [5, 28, 29, 30, 31, 32, 33, 34, 35, 36, 37, 38, 39, 40] [n_1+13] (fun m_ s_ σ_ n_ => ∃ (i : Nat) (v : V8), m_ = M.length - i ∧ s_ 5 = .lit (.int .i64 i) ∧ σ_ (n_1+13) = .box 251 (v8AV v) ∧ (i ≤ M.length) ∧ ((M.length - i) % 64 = 0) ∧ (comp ((M.drop i).length / 64) v (M.drop i) = H)) ⟨_, 0, iv8, rfl, WF, WF, WC, WC, WC⟩ ?_
  intro m_2 s_2 σ_2 n_2 hs_2 hf_2 hn_2 hI_2
  obtain ⟨i, v, hm_2, h2_5, e2_0, hi, hi64, hv⟩ := hI_2
  have h2_2 := KS hs_2 2
  have h2_3 := KS hs_2 3
  have h2_4 := KS hs_2 4
  have k2_0 := KE hf_2 (N)
  have hlow := KL (N := N) (σ := σ) hf_2
  by_cases hie : i = M.length
  ·subst hie
   have hvH : v = H := by rw [← hv]; simp [comp]
   subst hvH
   clear hv
   have hD0 : pT (digT v) 0 = zeroTag := pT_0 _
   refine Wk ?_
   refine go_loopF mixed (by kernel_rfl) [7, 41, 42, 43, 44, 45, 46, 47, 48, 49, 50, 51, 52, 53, 54, 55, 56, 57] [n_2+4] (fun m_ s_ σ_ n_ => ∃ (i : Nat) (P : Tg), m_ = 32 - i ∧ s_ 7 = .lit (.int .i64 i) ∧ σ_ (n_2+4) = .box 26 (tagAV P) ∧ (i ≤ 32) ∧ (pT (digT v) i = P)) ⟨_, 0, zeroTag, rfl, WF, WF, WC, WC⟩ ?_
   intro m_3 s_3 σ_3 n_3 hs_3 hf_3 hn_3 hI_3
   obtain ⟨i, P, hm_3, h3_7, e3_0, hi, hP⟩ := hI_3
   have h3_2 := KS hs_3 2
   have h3_4 := KS hs_3 4
   have h3_6 := KS hs_3 6
   have k3_0 := KE hf_3 (N)
   have k3_1 := KE hf_3 (n_1+13)
   have hlow := KL (N := N) (σ := σ) hf_3
   by_cases hi32 : i = 32
   ·subst hi32
    have : P = digT v := by rw [← hP]; exact pT_32 _
    subst this
    exact W0
   ·have hil : (i : Int) < 32 := by omega
    have hil' : i < 32 := by omega
    obtain ⟨w, c, hic, hc, hw⟩ : ∃ w c, i = 4 * w + c ∧ c < 4 ∧ w < 8 := ⟨i / 4, i % 4, by omega, by omega, by omega⟩
    have hdv : (i : Int).tdiv 4 = w := by rw [Int.tdiv_eq_ediv_of_nonneg (by omega)]; omega
    have hdm : (i : Int).tmod 4 = c := by rw [Int.tmod_eq_emod_of_nonneg (by omega)]; omega
    obtain ⟨x, hx⟩ : ∃ x, v.l.getD w 0 = x := ⟨_, rfl⟩
    have d0 := dig_at v w c hw hc
    rw [hx] at d0
    have hg : (v8AV v).get [w] = some (.lit (.int .u32 x)) := by rw [v8AV, uu_getD v.l w (by rw [V8_len]; exact hw), hx]
    have ho : (v8AV v).offs [w] = w := by rw [v8AV, uu_offs v.l w (by rw [V8_len]; exact hw)]
    have s0 := pT_step (digT v) (4 * w + c) (by omega) _ d0
    have e0 := sh8_wrap x (24 - 8 * c)
    rw [← hic, hP] at s0
    generalize sh8 x (24 - 8 * c) = b0 at *
    obtain ⟨P1, hP1⟩ : ∃ z, pT (digT v) (i + 1) = z := ⟨_, rfl⟩
    rw [hP1] at s0
    have t0 : (tagAV P).put [i] (.lit (.int .u8 (b0.toNat : Int))) = tagAV P1 := by rw [← s0]; exact tag_put P i b0 hil'
    have hw8 : (w : Int) < 8 := by omega
    clear hx d0 s0 hP hic
    have hcc : c = 0 ∨ c = 1 ∨ c = 2 ∨ c = 3 := by omega
    rcases hcc with rfl | rfl | rfl | rfl
    all_goals (
     simp only [Nat.mul_zero, Nat.mul_one, Nat.reduceMul, Nat.sub_zero, Nat.reduceSub, Int.reducePow, Int.pow_zero, Int.fdiv_one] at e0
     refine Wk ?_
     exact ⟨WS, WG, WN, _, (show 32 - (i + 1) < m_3 by omega), i + 1, P1, rfl, WF, WF, WC, WC⟩)
  ·have hi64' : i + 64 ≤ M.length := by omega
   have hil : (i : Int) < (M.length : Int) := by omega
   have hdl : (M.drop i).length = M.length - i := List.length_drop
   rw [comp_step v (M.drop i) (by omega), List.drop_drop] at hv
   have c4 := refblock_spec v ((M.drop i).take 64) (by rw [List.length_take]; omega)
   have hTm : ((M.map byteAV).take (i + 64)).drop i = ((M.drop i).take 64).map byteAV := by rw [← List.map_take, ← List.map_drop, List.drop_take, Nat.add_sub_cancel_left]
   have hTi : ((i : Int) + 64).toNat = i + 64 := by omega
   generalize chg v ((M.drop i).take 64) = v' at *
   generalize (M.drop i).take 64 = T at *
   have hcs := And.intro c4 True.intro
   clear c4 hdl
   refine Wk ?_
   exact ⟨WS, WG, WN, _, (show M.length - (i + 64) < m_2 by omega), i + 64, v', rfl, WF, WF, WC, WC, WC⟩
 ·have htm : (p.length : Int).tmod 64 = ((p.length % 64 : Nat) : Int) := by rw [Int.tmod_eq_emod_of_nonneg (by omega)]; omega
  have hM' : p.length % 64 ≠ 56 := by omega
  have hpl2 : p.length ≤ 2000000 := by omega
  have hpl3 : p.length + 1 = b.length + (z + 1 + 1) := by omega
  generalize p.length % 64 = Q at *
  have hM1 : ((Q : Int) != 56) = true := by simp; omega
  obtain ⟨p', hp'⟩ : ∃ x, p ++ [0] = x := ⟨_, rfl⟩
  have hp2 : p' = b ++ 128 :: List.replicate (z + 1) 0 := by rw [← hp', hp, List.append_assoc, List.cons_append, ← List.replicate_succ']
  have hp4 : p.map byteAV ++ [.lit (.int .u8 0)] = p'.map byteAV := by rw [← hp', List.map_append]; rfl
  have hp5 : p'.length = p.length + 1 := by rw [← hp', List.length_append]; rfl
  clear hp hp' hpz hM c1 c2
  refine Wk ?_
  exact ⟨WS, WG, WN, _, (show K - (z + 1) < m_1 by omega), z + 1, _, p', rfl, WF, WF, WC, WC, WC, WC, WC⟩
end
end Go.Proofs.YtemmlldpmgfblaaGreatDoor

namespace Go.Proofs.YtemmlldpmgfblaaGreatDoor
open Go.Ab
attribute [local irreducible] Go.Ab.tyAV Go.Ab.aw Go.Ab.aops Go.Ab.kReg Go.Ab.aThen Go.Ab.aBlk Go.Ab.acond Go.Ab.aguard Go.Ab.astep Go.Ab.AStepX Go.Ab.aRet
attribute [local irreducible] shaG
def x8 (a b : UInt8) : UInt8 := UInt8.ofNat (bits .xor .u8 (a.toNat : Int) (b.toNat : Int)).toNat
theorem x8_eq (a b : UInt8) : bits .xor .u8 (a.toNat : Int) (b.toNat : Int) = ((x8 a b).toNat : Int) := by
 have h := IntKind.wrap_u8 (bits .xor .u8 (a.toNat : Int) (b.toNat : Int))
 have hw : IntKind.u8.wrap (bits .xor .u8 (a.toNat : Int) (b.toNat : Int)) = bits .xor .u8 (a.toNat : Int) (b.toNat : Int) := by
  simp only [bits, IntKind.wrap_u8]; omega
 rw [hw] at h
 unfold x8
 rw [UInt8.toNat_ofNat']
 omega
def padK (key : List UInt8) (x : UInt8) : List UInt8 := (List.range 64).map fun i => if h : i < key.length then x8 key[i] x else x
theorem padK_len (key : List UInt8) (x : UInt8) : (padK key x).length = 64 := by simp [padK]
theorem padK_at (key : List UInt8) (x : UInt8) (i : Nat) (_hi : i < 64) (h : i < (padK key x).length) : (padK key x)[i] = if h : i < key.length then x8 key[i] x else x := by
 simp [padK]
def padC (key : List UInt8) (x : UInt8) (i : Nat) : List UInt8 := (padK key x).take i ++ List.replicate (64 - i) 0
theorem padC_0 (key : List UInt8) (x : UInt8) : padC key x 0 = List.replicate 64 0 := by simp [padC]
theorem padC_64 (key : List UInt8) (x : UInt8) : padC key x 64 = padK key x := by
 unfold padC
 rw [List.take_of_length_le (by rw [padK_len]; exact Nat.le_refl _)]; simp
theorem padC_len (key : List UInt8) (x : UInt8) (i : Nat) (hi : i ≤ 64) : (padC key x i).length = 64 := by
 unfold padC
 rw [List.length_append, List.length_take, padK_len, List.length_replicate]; omega
theorem padC_set (key : List UInt8) (x : UInt8) (i : Nat) (hi : i < 64) (v : UInt8) (hv : (padK key x)[i]'(by rw [padK_len]; exact hi) = v) : (padC key x i).set i v = padC key x (i + 1) := by
 unfold padC
 have hl : ((padK key x).take i).length = i := by rw [List.length_take, padK_len]; omega
 rw [List.set_append_right _ _ (by omega), hl, Nat.sub_self]
 obtain ⟨m, hm⟩ : ∃ m, 64 - i = m + 1 := ⟨63 - i, by omega⟩
 have hm2 : 64 - (i + 1) = m := by omega
 rw [hm, hm2, List.replicate_succ, List.set_cons_zero, List.take_succ_eq_append_getElem (by rw [padK_len]; exact hi), hv]
 simp
set_option maxHeartbeats 1000000 in
theorem padded_spec (key : List UInt8) (x : UInt8) (k : Nat) :
  ACall Tryz.prog 191 [.slice none (key.map byteAV), .lit (.int .u8 x.toNat)] k [] (.slice (some k) ((padK key x).map byteAV)) [(k, .row 5 1 64)] := by
 have hxb : byteAV x = .lit (.int .u8 x.toNat) := rfl
 have h0 : List.replicate 64 (AV.lit (.int .u8 0)) = (padC key x 0).map byteAV := by rw [padC_0, List.map_replicate]; rfl
 obtain ⟨q0, hq0⟩ : ∃ q, padC key x 0 = q := ⟨_, rfl⟩
 rw [hq0] at h0
 refine Bd Tryz.func191 Tryz.ntmps191 fun σ N hp hpn hk hkn hfree => ?_
 have M : Mut (N + 1) := ⟨⟩
 refine Wk ?_
 refine go_loopF mixed (by kernel_rfl) [6, 8, 9, 10, 11, 12, 13, 14, 15, 16, 17, 18, 19, 20, 21, 22, 23, 24, 25, 26, 27, 28] [N+1] (fun m_ s_ σ_ n_ => ∃ (i : Nat) (cur : List UInt8), m_ = 64 - i ∧ s_ 6 = .lit (.int .i64 i) ∧ s_ 5 = .ms (N + 1) 0 1 0 64 ∧ σ_ (N+1) = .mrow 0 5 1 (cur.map byteAV) ∧ (i ≤ 64) ∧ (padC key x i = cur)) ⟨_, 0, q0, rfl, WF, WF, WF, WC, WC⟩ ?_
 intro m_1 s_1 σ_1 n_1 hs_1 hf_1 hn_1 hI_1
 obtain ⟨i, cur, hm_1, h1_6, h1_5, e1_0, hi, hc⟩ := hI_1
 have h1_0 := KS hs_1 0
 have h1_1 := KS hs_1 1
 have h1_4 := KS hs_1 4
 have h1_5 := KS hs_1 5
 have hlow := KL (N := N) (σ := σ) hf_1
 have hcl := padC_len key x i hi
 rw [hc] at hcl
 by_cases h64 : i = 64
 ·subst h64
  rw [padC_64] at hc
  have hpl := padK_len key x
  rw [hc] at hpl ⊢
  clear hc h0 M hpl
  generalize hP : cur = P at *
  refine Wm ?_
  iterate 1 refine Wz ?_
  refine go_freeze 5 (id := N + 1) (ver := 0) (size := 1) (e := 5) (xs := P.map byteAV) (k := 64) (by simp (disch := omega) [go_sem, *, -List.reduceReplicate]) (by simp (disch := omega) [go_sem, *, -List.reduceReplicate]) (by simp (disch := omega) [go_sem, *, -List.reduceReplicate]) ?_
  refine Wk ?_
  refine go_result1 (r0 := N+1) (by simp (disch := omega) [go_sem, *, -List.reduceReplicate]; rfl) (by omega) (by simp (disch := omega) [go_sem]; try rfl) (fun id hid => by simp (disch := omega) only [upd_ne]; try exact hlow id hid) (by simp (disch := omega) [go_sem, *, -List.reduceReplicate]; rfl) (by simp (disch := omega) [go_sem])
 ·have hi2 : i < 64 := by omega
  have hi2i : (i : Int) < 64 := by omega
  have hat := padK_at key x i hi2 (by rw [padK_len]; exact hi2)
  by_cases hk : i < key.length
  ·rw [dif_pos hk] at hat
   have hki : (i : Int) < (key.length : Int) := by omega
   obtain ⟨z, hz⟩ : ∃ z, key[i] = z := ⟨_, rfl⟩
   rw [hz] at hat
   have hx := x8_eq z x
   have hs := padC_set key x i hi2 _ hat
   have hzb : byteAV z = .lit (.int .u8 z.toNat) := rfl
   rw [hc] at hs
   have hset1 := set_bytes cur i x
   obtain ⟨c1, hc1⟩ : ∃ c1, cur.set i x = c1 := ⟨_, rfl⟩
   have hset2 := set_bytes c1 i (x8 z x)
   rw [← hc1, List.set_set, hs, hc1] at hset2
   rw [hc1] at hset1
   have hl1 : c1.length = 64 := by rw [← hc1, List.length_set]; exact hcl
   generalize x8 z x = v at *
   have hvb : byteAV v = .lit (.int .u8 v.toNat) := rfl
   rw [hxb] at hset1
   rw [hvb] at hset2
   generalize hc' : padC key x (i + 1) = c2 at *
   clear hs hat hc hc1 h0 M hxb hzb hvb
   refine Wk ?_
   exact ⟨WS, WG, WN, _, (show 64 - (i + 1) < m_1 by omega), i + 1, c2, rfl, WF, WF, WF, WC, WC⟩
  ·rw [dif_neg hk] at hat
   have hki : ¬ (i : Int) < (key.length : Int) := by omega
   have hs := padC_set key x i hi2 _ hat
   have hset := set_bytes cur i x
   rw [hc] at hs
   rw [hs] at hset
   rw [hxb] at hset
   generalize hc' : padC key x (i + 1) = c2 at *
   clear hs hat hc h0 M hxb
   refine Wk ?_
   exact ⟨WS, WG, WN, _, (show 64 - (i + 1) < m_1 by omega), i + 1, c2, rfl, WF, WF, WF, WC, WC⟩

section
variable [W : W32]
def hmacT (key msg : List UInt8) : Tg := shaT (padK key 92 ++ (shaT (padK key 54 ++ msg)).1)
theorem Hmac_spec (key msg : List UInt8) (hk : key.length ≤ 64) (hm : msg.length ≤ 100000) (k : Nat) :
  ACall Tryz.prog 143 [.slice none (key.map byteAV), .slice none (msg.map byteAV)] k [] (tagAV (hmacT key msg)) [] := by
 have c1 := padded_spec key 54
 have c2 := padded_spec key 92
 have l1 := padK_len key 54
 have l2 := padK_len key 92
 unfold hmacT
 generalize padK key 54 = P1 at *
 generalize padK key 92 = P2 at *
 have c3 := Sha_spec (P1 ++ msg) (by rw [List.length_append]; omega)
 obtain ⟨A, hA⟩ : ∃ A, P1 ++ msg = A := ⟨_, rfl⟩
 have hAm : P1.map byteAV ++ msg.map byteAV = A.map byteAV := by rw [← hA, List.map_append]
 rw [hA] at c3 ⊢
 generalize shaT A = T1 at *
 have hs1 := tagAV_sz T1
 have hs2 := tagAV_cell T1
 obtain ⟨T1, hT1⟩ := T1
 simp only [tagAV] at c3 hs1 hs2 ⊢
 have c4 := Sha_spec (P2 ++ T1) (by rw [List.length_append]; omega)
 obtain ⟨B, hB⟩ : ∃ B, P2 ++ T1 = B := ⟨_, rfl⟩
 have hBm : P2.map byteAV ++ T1.map byteAV = B.map byteAV := by rw [← hB, List.map_append]
 rw [hB] at c4 ⊢
 generalize shaT B = T2 at *
 have hs3 := tagAV_sz T2
 have hs4 := tagAV_cell T2
 obtain ⟨T2, hT2⟩ := T2
 simp only [tagAV] at c4 hs3 hs4 ⊢
 have e54 : ((54 : UInt8).toNat : Int) = 54 := rfl
 have e92 : ((92 : UInt8).toNat : Int) = 92 := rfl
 rw [e54] at c1
 rw [e92] at c2
 have hki : ¬ (64 : Int) < (key.length : Int) := by omega
 clear hA hB
 refine Bd Tryz.func143 Tryz.ntmps143 fun σ N hp hpn hk hkn hfree => ?_
 have htk : (T1.map byteAV).take 32 = T1.map byteAV := List.take_of_length_le (by rw [List.length_map]; omega)
 have hcs := And.intro c1 (And.intro c3 (And.intro c2 (And.intro c4 True.intro)))
 clear c1 c2 c3 c4
 exact W0
end
end Go.Proofs.YtemmlldpmgfblaaGreatDoor
