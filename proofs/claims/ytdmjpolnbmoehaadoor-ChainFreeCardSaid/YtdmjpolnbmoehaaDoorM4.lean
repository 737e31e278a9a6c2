/- Texts C8, H3, H4, C10, S1, N1, H5, H6, N4, H7, H8, M1, joined. -/
import Derived.Test.YtdmjpolnbmoehaaDoorM3
import Derived.Lib.LaidTab

namespace Go.Ab
open Go.RowKit
theorem rep_tab {w : World} {h : Nat} {k : IntKind} {zs : List Int} (hpos : 0 < zs.length) (hc : ∀ i, i < zs.length → w.cell? ⟨h, i, none⟩ = some (.int k (zs.getD i 0))) : Rep (g0 w) (.view (.agg (zs.map fun z => .lit (.int k z)))) (.pointer (some ⟨h, 0, none⟩)) := by
 have hb : h < w.heap.size := World.block_lt_of_cell? w ⟨h, 0, none⟩ (hc 0 hpos)
 have hfl : flat (zs.map fun z => Value.int k z) = zs.map fun z => Value.int k z := flat_lits _ fun v hv => by obtain ⟨z, _, rfl⟩ := List.mem_map.1 hv; rfl
 refine .view _ (.agg (flat (zs.map fun z => Value.int k z)).toArray) h 0 (.agg _ (zs.map fun z => Value.int k z) (by simp) fun i x v hx hv => ?_) fun j u hu => ?_
 ·rw [List.getElem?_map] at hx hv
  cases hz : zs[i]? with
  | none => rw [hz] at hx; cases hx
  | some z => rw [hz] at hx hv; cases hx; cases hv; exact .lit _ rfl
 ·simp only [Value.cells, List.toList_toArray] at hu
  rw [hfl, List.getElem?_map] at hu
  cases hz : zs[j]? with
  | none => rw [hz] at hu; cases hu
  | some z =>
   rw [hz] at hu; cases hu
   have hj := (List.getElem?_eq_some_iff.1 hz).1
   have := hc j hj
   rw [List.getD_eq_getElem?_getD, hz] at this
   simp only [g0, if_pos hb, Nat.zero_add]
   exact this
def g1w (w : World) : Ghost := { g0 w with mr := fun i => if i = 1 then some (0, .bool true) else none }
theorem g1w_le (w : World) : (g0 w).le (g1w w) := ⟨fun _ _ _ h => h, fun _ _ h => h, fun _ _ h => (by cases h), fun _ _ h => (by cases h)⟩
theorem g1w_blk (w : World) (i b : Nat) : (g1w w).blk i ≠ some b := by
 unfold Ghost.blk g1w g0
 simp only
 by_cases h : i = 1
 ·simp [h, Value.ownBlock]
 ·simp [h]
theorem sim1 (w : World) (h : Nat) (X : AV) (hX : Rep (g0 w) (.view X) (.pointer (some ⟨h, 0, none⟩))) : Sim w (g1w w) (upd (fun _ => .none) 1 (.glob h X)) 2 w where
 below := Below.refl _ _
 imm := (sim0 w).imm
 bound := fun i hi => by rw [upd_ne _ _ _ _ (show i ≠ 1 by omega)]
 ents := fun i => by
  by_cases hi : i = 1
  ·subst hi; rw [upd_same]; exact ⟨rfl, rfl, rfl, ⟨(0, .bool true), by simp [g1w], rfl⟩, hX.mono (g1w_le w)⟩
  ·rw [upd_ne _ _ _ _ hi]; exact ⟨rfl, rfl, rfl, by simp [g1w, hi]⟩
 sep := fun i j b h _ => absurd h (g1w_blk w i b)
 fresh := fun i b h => absurd h (g1w_blk w i b)
theorem ACall.walksG {P : Program} {f : FuncId} {args : List AV} {v : Value} {h : Nat} {X : AV} (hcall : ACall P f args 0 [(1, .glob h X)] (.lit v) []) (w : World) (hX : Rep (g0 w) (.view X) (.pointer (some ⟨h, 0, none⟩))) {vals : List Value} (hr : Reps (g0 w) args vals) :
  Calls P f vals.toArray w fun e w' => e = .returned v ∧ Below w.heap.size w w' := by
 refine (hcall.2.2.2 w (g1w w) _ 2 w vals (sim1 w h X hX) hr.at.1 (fun i x u hx hu => (hr.at.2 i x u hx hu).mono (g1w_le w)) (upd_ne _ _ _ _ (by omega)) (by omega) (fun p hp => by simp at hp; subst hp; simp [upd_same])).mono ?_
 rintro e w' ⟨u, rfl, g', _, hS, hu⟩
 rw [rep_lit_inv hu]
 exact ⟨rfl, hS.below⟩
def g2w (w : World) : Ghost := { g0 w with mr := fun i => if i = 1 ∨ i = 2 then some (0, .bool true) else none }
theorem g2w_le (w : World) : (g0 w).le (g2w w) := ⟨fun _ _ _ h => h, fun _ _ h => h, fun _ _ h => (by cases h), fun _ _ h => (by cases h)⟩
theorem g2w_blk (w : World) (i b : Nat) : (g2w w).blk i ≠ some b := by
 unfold Ghost.blk g2w g0
 simp only
 by_cases h : i = 1 ∨ i = 2
 ·simp [h, Value.ownBlock]
 ·simp [h]
theorem sim2 (w : World) (h h' : Nat) (X X' : AV) (hX : Rep (g0 w) (.view X) (.pointer (some ⟨h, 0, none⟩))) (hX' : Rep (g0 w) (.view X') (.pointer (some ⟨h', 0, none⟩))) : Sim w (g2w w) (upd (upd (fun _ => .none) 1 (.glob h X)) 2 (.glob h' X')) 3 w where
 below := Below.refl _ _
 imm := (sim0 w).imm
 bound := fun i hi => by rw [upd_ne _ _ _ _ (show i ≠ 2 by omega), upd_ne _ _ _ _ (show i ≠ 1 by omega)]
 ents := fun i => by
  by_cases h2 : i = 2
  ·subst h2; rw [upd_same]; exact ⟨rfl, rfl, rfl, ⟨(0, .bool true), by simp [g2w], rfl⟩, hX'.mono (g2w_le w)⟩
  ·rw [upd_ne _ _ _ _ h2]
   by_cases hi : i = 1
   ·subst hi; rw [upd_same]; exact ⟨rfl, rfl, rfl, ⟨(0, .bool true), by simp [g2w], rfl⟩, hX.mono (g2w_le w)⟩
   ·rw [upd_ne _ _ _ _ hi]; exact ⟨rfl, rfl, rfl, by simp [g2w, hi, h2]⟩
 sep := fun i j b h _ => absurd h (g2w_blk w i b)
 fresh := fun i b h => absurd h (g2w_blk w i b)
theorem ACall.walksG2 {P : Program} {f : FuncId} {args : List AV} {v : Value} {h h' : Nat} {X X' : AV} (hcall : ACall P f args 0 [(1, .glob h X), (2, .glob h' X')] (.lit v) []) (w : World) (hX : Rep (g0 w) (.view X) (.pointer (some ⟨h, 0, none⟩))) (hX' : Rep (g0 w) (.view X') (.pointer (some ⟨h', 0, none⟩))) {vals : List Value} (hr : Reps (g0 w) args vals) :
  Calls P f vals.toArray w fun e w' => e = .returned v ∧ Below w.heap.size w w' := by
 refine (hcall.2.2.2 w (g2w w) _ 3 w vals (sim2 w h h' X X' hX hX') hr.at.1 (fun i x u hx hu => (hr.at.2 i x u hx hu).mono (g2w_le w)) (by rw [upd_ne _ _ _ _ (by omega), upd_ne _ _ _ _ (by omega)]) (by omega) (fun p hp => by
  simp at hp
  rcases hp with rfl | rfl
  ·simp only; rw [upd_ne _ _ _ _ (by omega), upd_same]
  ·simp only; rw [upd_same])).mono ?_
 rintro e w' ⟨u, rfl, g', _, hS, hu⟩
 rw [rep_lit_inv hu]
 exact ⟨rfl, hS.below⟩
end Go.Ab

namespace Go.Proofs.YtdmjpolnbmoehaaDoor
open Go.Ab
attribute [local irreducible] Go.Ab.tyAV Go.Ab.aw Go.Ab.aops Go.Ab.kReg Go.Ab.aThen Go.Ab.aBlk Go.Ab.acond Go.Ab.aguard Go.Ab.astep Go.Ab.AStepX Go.Ab.aRet
def shaZ : List Int := [1116352408, 1899447441, 3049323471, 3921009573, 961987163, 1508970993, 2453635748, 2870763221, 3624381080, 310598401, 607225278, 1426881987, 1925078388, 2162078206, 2614888103, 3248222580, 3835390401, 4022224774, 264347078, 604807628, 770255983, 1249150122, 1555081692, 1996064986, 2554220882, 2821834349, 2952996808, 3210313671, 3336571891, 3584528711, 113926993, 338241895, 666307205, 773529912, 1294757372, 1396182291, 1695183700, 1986661051, 2177026350, 2456956037, 2730485921, 2820302411, 3259730800, 3345764771, 3516065817, 3600352804, 4094571909, 275423344, 430227734, 506948616, 659060556, 883997877, 958139571, 1322822218, 1537002063, 1747873779, 1955562222, 2024104815, 2227730452, 2361852424, 2428436474, 2756734187, 3204031479, 3329325298]
def shaL : List AV := shaZ.map fun z => .lit (.int .u32 z)
def shaG : Ent := .glob 1 (.agg shaL)
@[simp, go_sem] theorem shaG_ne : (shaG = .none) = False := by simp [shaG]
theorem shaZ_len : shaZ.length = 64 := by simp only [shaZ, List.length_cons, List.length_nil]
theorem shaL_at (t : Nat) (h : t < 64) : shaL[t]? = some (.lit (.int .u32 (shaZ[t]'(by rw [shaZ_len]; exact h)))) := by
 rw [shaL, List.getElem?_map, List.getElem?_eq_getElem (by rw [shaZ_len]; exact h)]; rfl
theorem shaL_take (t : Nat) (h : t < 64) : AV.szl (shaL.take t) = t := by
 have : shaL = shaZ.map uAV := rfl
 rw [this, szl_take_us, shaZ_len]; omega
attribute [irreducible] shaZ shaL
structure V8 where
 a : Int
 b : Int
 c : Int
 d : Int
 e : Int
 f : Int
 g : Int
 h : Int
def V8.l (v : V8) : List Int := [v.a, v.b, v.c, v.d, v.e, v.f, v.g, v.h]
def v8AV (v : V8) : AV := uuAV v.l
@[go_sem] theorem agg_u8 (a b c d e f g h : Int) : AV.agg [.lit (.int .u32 a), .lit (.int .u32 b), .lit (.int .u32 c), .lit (.int .u32 d), .lit (.int .u32 e), .lit (.int .u32 f), .lit (.int .u32 g), .lit (.int .u32 h)] = uuAV [a, b, c, d, e, f, g, h] := rfl
@[go_sem] theorem set_u8 (a b c d e f g h : Int) : AV.agg (((((((((List.replicate 8 (AV.lit (.int .u32 0))).set 0 (.lit (.int .u32 a))).set 1 (.lit (.int .u32 b))).set 2 (.lit (.int .u32 c))).set 3 (.lit (.int .u32 d))).set 4 (.lit (.int .u32 e))).set 5 (.lit (.int .u32 f))).set 6 (.lit (.int .u32 g))).set 7 (.lit (.int .u32 h))) = uuAV [a, b, c, d, e, f, g, h] := rfl
def iv8 : V8 := ⟨1779033703, 3144134277, 1013904242, 2773480762, 1359893119, 2600822924, 528734635, 1541459225⟩
@[go_sem] theorem not32 : (if IntKind.u32.signed = true then (-1 : Int) else IntKind.u32.max) = 4294967295 := rfl
section
variable [W : W32]
def S1 (e : Int) : Int := W.x32 (W.x32 (W.rotr e 6) (W.rotr e 11)) (W.rotr e 25)
def S0 (a : Int) : Int := W.x32 (W.x32 (W.rotr a 2) (W.rotr a 13)) (W.rotr a 22)
def Ch (e f g : Int) : Int := W.x32 (W.n32 e f) (W.n32 (W.x32 4294967295 e) g)
def Maj (a b c : Int) : Int := W.x32 (W.x32 (W.n32 a b) (W.n32 a c)) (W.n32 b c)
def T1 (v : V8) (k w : Int) : Int := W.cv (W.cv (W.cv (W.cv (v.h + S1 v.e) + Ch v.e v.f v.g) + k) + w)
def T2 (v : V8) : Int := W.cv (S0 v.a + Maj v.a v.b v.c)
def rnd (v : V8) (k w : Int) : V8 := ⟨W.cv (T1 v k w + T2 v), v.a, v.b, v.c, W.cv (v.d + T1 v k w), v.e, v.f, v.g⟩
def Rd (w : List Int) (v : V8) : Nat → V8
 | 0 => v
 | n + 1 => rnd (Rd w v n) (shaZ.getD n 0) (w.getD n 0)
def addV (v o : V8) : V8 := ⟨W.cv (v.a + o.a), W.cv (v.b + o.b), W.cv (v.c + o.c), W.cv (v.d + o.d), W.cv (v.e + o.e), W.cv (v.f + o.f), W.cv (v.g + o.g), W.cv (v.h + o.h)⟩
def Ad (v o : List Int) : Nat → List Int
 | 0 => v
 | n + 1 => (Ad v o n).set n (W.cv ((Ad v o n).getD n 0 + o.getD n 0))
theorem Ad_len (v o : List Int) : ∀ n, (Ad v o n).length = v.length
 | 0 => rfl
 | n + 1 => by simp [Ad, Ad_len v o n]
theorem Ad_8 (v o : V8) : Ad v.l o.l 8 = (addV v o).l := by simp [Ad, V8.l, addV]
theorem Ad_8' (v o : V8) : Ad v.l o.l 8 = (addV o v).l := by simp [Ad, V8.l, addV, Int.add_comm]
def chg (o : V8) (b : List UInt8) : V8 := addV (Rd (Wd b 64) o 64) o
attribute [irreducible] S1 S0 Ch Maj
set_option maxHeartbeats 2000000 in
theorem change_spec (o : V8) (b : List UInt8) (hb : b.length = 64) (g k : Nat) :
  ACall Tryd.prog 139 [v8AV o, .slice none (b.map byteAV)] k [(g, shaG)] (v8AV (chg o b)) [] := by
 obtain ⟨w, hw⟩ : ∃ w, Wd b 64 = w := ⟨_, rfl⟩
 have hwl : w.length = 64 := by rw [← hw]; exact Wd_len b 64
 have c1 := schedule_spec b hb w hw
 obtain ⟨v, hv⟩ : ∃ v, Rd w o 64 = v := ⟨_, rfl⟩
 have hR : chg o b = addV v o := by rw [chg, hw, hv]
 rw [hR, v8AV, v8AV, ← Ad_8]
 unfold shaG
 clear hR
 obtain ⟨ol, hol⟩ : ∃ l, o.l = l := ⟨_, rfl⟩
 have holl : ol.length = 8 := by rw [← hol]; rfl
 rw [hol]
 refine Bd Tryd.func139 Tryd.ntmps139 fun σ N hp hpn hk hkn hfree => ?_
 obtain ⟨hd, hdn⟩ := HD0 hp hpn; clear hp hpn
 have hcs := And.intro c1 True.intro
 clear c1
 have hR0 : Rd w o 0 = o := rfl
 refine Wk ?_
 refine go_loopF mixed (by kernel_rfl) (7 :: 8 :: 9 :: 10 :: 11 :: 12 :: 13 :: 14 :: 15 :: 16 :: 17 :: 22 :: 23 :: 24 :: 25 :: 26 :: 27 :: 28 :: 29 :: 30 :: 31 :: 32 :: 33 :: 34 :: 35 :: 36 :: 37 :: 38 :: 39 :: 40 :: 41 :: 42 :: 43 :: 44 :: 45 :: 46 :: 47 :: 48 :: 49 :: 50 :: 51 :: 52 :: 53 :: 54 :: 55 :: 56 :: 57 :: 58 :: 59 :: 60 :: 61 :: 62 :: 63 :: 64 :: 65 :: 66 :: 67 :: 68 :: 69 :: 70 :: 71 :: 72 :: 73 :: 74 :: 75 :: 76 :: 77 :: 78 :: 79 :: 80 :: 81 :: 82 :: 83 :: 84 :: 85 :: 86 :: 87 :: 88 :: 89 :: 90 :: 91 :: 92 :: 93 :: 94 :: 95 :: 96 :: 97 :: 98 :: 99 :: 100 :: 101 :: []) [N+6] (fun m_ s_ σ_ n_ => ∃ (t : Nat) (x : V8), m_ = 64 - t ∧ s_ 22 = .lit (.int .i64 t) ∧ σ_ (N+6) = .box 178 (uuAV x.l) ∧ (t ≤ 64) ∧ (Rd w o t = x)) ⟨_, 0, o, rfl, WF, WF, WC, WC⟩ ?_
 intro m_1 s_1 σ_1 n_1 hs_1 hf_1 hn_1 hI_1
 obtain ⟨t, x, hm_1, h1_22, e1_0, ht, hx⟩ := hI_1
 have h1_2 := KS hs_1 2
 have h1_4 := KS hs_1 4
 have h1_5 := KS hs_1 5
 have h1_6 := KS hs_1 6
 have k1_0 := KE hf_1 (N)
 have k1_1 := KE hf_1 (N+1)
 have k1_2 := KE hf_1 (N+5)
 have k1_3 := KE hf_1 (g)
 have hlow := KL (N := N) (σ := σ) hf_1
 by_cases ht64 : t = 64
 ·subst ht64
  rw [hv] at hx
  subst hx
  generalize hvl : V8.l v = vl at *
  have hvll : vl.length = 8 := by rw [← hvl]; rfl
  have hR0 : Ad vl ol 0 = vl := rfl
  refine Wk ?_
  refine go_loopF mixed (by kernel_rfl) [18, 102, 103, 104, 105, 106, 107, 108, 109, 110, 111, 112, 113] [N+6] (fun m_ s_ σ_ n_ => ∃ (t : Nat) (L : List Int), m_ = 8 - t ∧ s_ 102 = .lit (.int .i64 t) ∧ σ_ (N+6) = .box 178 (uuAV L) ∧ (t ≤ 8) ∧ (Ad vl ol t = L)) ⟨_, 0, vl, rfl, WF, WF, WC, WC⟩ ?_
  intro m_2 s_2 σ_2 n_2 hs_2 hf_2 hn_2 hI_2
  obtain ⟨t, L, hm_2, h2_102, e2_0, ht, hL⟩ := hI_2
  have h2_2 := KS hs_2 2
  have h2_4 := KS hs_2 4
  have h2_6 := KS hs_2 6
  have k2_0 := KE hf_2 (N)
  have k2_1 := KE hf_2 (N+1)
  have hlow := KL (N := N) (σ := σ) hf_2
  have hlen : L.length = 8 := by rw [← hL, Ad_len, hvll]
  by_cases ht8 : t = 8
  ·subst ht8
   subst hL
   exact W0
  ·have htl : (t : Int) < 8 := by omega
   have htl' : t < 8 := by omega
   have htn : t < L.length := by omega
   have htn' : t < ol.length := by omega
   obtain ⟨p, hp⟩ : ∃ x, L[t] = x := ⟨_, rfl⟩
   obtain ⟨q, hq⟩ : ∃ x, ol[t] = x := ⟨_, rfl⟩
   have hS : Ad vl ol (t + 1) = L.set t (W.cv (p + q)) := by
    rw [Ad, hL, List.getD_eq_getElem?_getD, List.getElem?_eq_getElem htn, List.getD_eq_getElem?_getD, List.getElem?_eq_getElem htn', hp, hq]; rfl
   clear hL
   refine Wk ?_
   exact ⟨WS, WG, WN, _, (show 8 - (t + 1) < m_2 by omega), t + 1, L.set t (W.cv (p + q)), rfl, WF, WF, WC, WC⟩
 ·have htl : (t : Int) < 64 := by omega
  have htn : t < 64 := by omega
  have htw : t < w.length := by omega
  have hk1 := shaL_at t htn
  have hk2 := shaL_take t htn
  have hkd : shaZ.getD t 0 = shaZ[t]'(by rw [shaZ_len]; exact htn) := by
   rw [List.getD_eq_getElem?_getD, List.getElem?_eq_getElem (by rw [shaZ_len]; exact htn)]; rfl
  have hwd : w.getD t 0 = w[t] := by
   rw [List.getD_eq_getElem?_getD, List.getElem?_eq_getElem htw]; rfl
  generalize shaZ[t]'(by rw [shaZ_len]; exact htn) = kt at *
  obtain ⟨wt, hwt⟩ : ∃ x, w[t] = x := ⟨_, rfl⟩
  rw [hwt] at hwd
  have hS : Rd w o (t + 1) = rnd x kt wt := by rw [Rd, hx, hkd, hwd]
  clear hkd hwd hx
  obtain ⟨xa, xb, xc, xd, xe, xf, xg, xh⟩ := x
  simp only [V8.l] at *
  obtain ⟨s1, hs1⟩ : ∃ z, W.x32 (W.x32 (W.rotr xe 6) (W.rotr xe 11)) (W.rotr xe 25) = z := ⟨_, rfl⟩
  obtain ⟨s0, hs0⟩ : ∃ z, W.x32 (W.x32 (W.rotr xa 2) (W.rotr xa 13)) (W.rotr xa 22) = z := ⟨_, rfl⟩
  obtain ⟨ch, hch⟩ : ∃ z, W.x32 (W.n32 xe xf) (W.n32 (W.x32 4294967295 xe) xg) = z := ⟨_, rfl⟩
  obtain ⟨mj, hmj⟩ : ∃ z, W.x32 (W.x32 (W.n32 xa xb) (W.n32 xa xc)) (W.n32 xb xc) = z := ⟨_, rfl⟩
  obtain ⟨t1, ht1⟩ : ∃ z, W.cv (W.cv (W.cv (W.cv (xh + s1) + ch) + kt) + wt) = z := ⟨_, rfl⟩
  obtain ⟨t2, ht2⟩ : ∃ z, W.cv (s0 + mj) = z := ⟨_, rfl⟩
  have hS' : rnd ⟨xa, xb, xc, xd, xe, xf, xg, xh⟩ kt wt = ⟨W.cv (t1 + t2), xa, xb, xc, W.cv (xd + t1), xe, xf, xg⟩ := by
   unfold rnd T1 T2 S1 S0 Ch Maj
   simp only [hs1, hs0, hch, hmj, ht1, ht2]
  rw [hS'] at hS
  clear hS'
  have r1 := rot_spec xe 6 (by omega)
  have r2 := rot_spec xe 11 (by omega)
  have r3 := rot_spec xe 25 (by omega)
  have r4 := rot_spec xa 2 (by omega)
  have r5 := rot_spec xa 13 (by omega)
  have r6 := rot_spec xa 22 (by omega)
  have hcs := And.intro r1 (And.intro r2 (And.intro r3 (And.intro r4 (And.intro r5 (And.intro r6 True.intro)))))
  clear r1 r2 r3 r4 r5 r6
  have G : GlobAt g 1 := ⟨⟩
  refine Wk ?_
  clear hcs
  exact ⟨WS, WG, WN, _, (show 64 - (t + 1) < m_1 by omega), t + 1, V8.mk (W.cv (t1 + t2)) xa xb xc (W.cv (xd + t1)) xe xf xg, rfl, WF, WF, WC, WC⟩
end

theorem constants_spec (k : Nat) : ACall Tryd.prog 137 [] k [] (uuAV shaZ) [] := by
 refine Bd Tryd.func137 Tryd.ntmps137 fun σ N hp hpn hk hkn hfree => ?_
 repeat (first | apply go_nil | apply go_kreg | apply go_kreg0 | apply go_kreg1 | (apply go_kregT; · (first | (simp [addT, CF, CFy, Ind, DisjF]; done) | (simp only [addT, CF, CFy, Ind]; repeat' (first | exact trivial | apply And.intro | exact Or.inl (by decide +kernel) | (refine Or.inr ⟨?_, ?_⟩ <;> (simp; try omega)))))) | apply go_then | apply go_then_exit | apply go_then_ret | apply go_blk | apply go_blk_ret | apply go_blk_here | (apply go_blk_there; · rfl) | apply go_seq | (apply go_region; · (simp only [List.length_cons, List.length_nil, Nat.reduceAdd]; rfl)) | apply go_skip | apply go_block | apply go_scope | apply go_label | apply go_exit | apply go_ret)
 apply go_new
 ·rfl
 ·(simp (disch := omega) [go_sem, *, -List.reduceReplicate]; try first | rfl | exact ⟨rfl, rfl⟩ | exact ⟨rfl, rfl, rfl⟩)
 repeat (first | apply go_nil | apply go_kreg | apply go_kreg0 | apply go_kreg1 | (apply go_kregT; · (first | (simp [addT, CF, CFy, Ind, DisjF]; done) | (simp only [addT, CF, CFy, Ind]; repeat' (first | exact trivial | apply And.intro | exact Or.inl (by decide +kernel) | (refine Or.inr ⟨?_, ?_⟩ <;> (simp; try omega)))))) | apply go_then | apply go_then_exit | apply go_then_ret | apply go_blk | apply go_blk_ret | apply go_blk_here | (apply go_blk_there; · rfl) | apply go_seq | (apply go_region; · (simp only [List.length_cons, List.length_nil, Nat.reduceAdd, Nat.add_assoc]; rfl)) | apply go_skip | apply go_block | apply go_scope | apply go_label | apply go_exit | apply go_ret)
 refine go_pure (v := uuAV shaZ) rfl (by kernel_rfl) ?_
 have hzl := shaZ_len
 exact W0
section
variable [W : W32]
set_option maxHeartbeats 4000000 in
theorem refblock_spec (o : V8) (b : List UInt8) (hb : b.length = 64) (k : Nat) :
  ACall Tryd.prog 124 [v8AV o, .slice none (b.map byteAV)] k [] (v8AV (chg o b)) [] := by
 obtain ⟨w, hw⟩ : ∃ w, Wd b 64 = w := ⟨_, rfl⟩
 have hwl : w.length = 64 := by rw [← hw]; exact Wd_len b 64
 have hz : List.replicate 64 (0 : Int) = Wd b 0 := by unfold Wd; rfl
 obtain ⟨Z, hZ⟩ : ∃ Z, Wd b 0 = Z := ⟨_, rfl⟩
 have hZl : Z.length = 64 := by rw [← hZ]; exact Wd_len b 0
 rw [hZ] at hz
 have c1 := constants_spec
 obtain ⟨v, hv⟩ : ∃ v, Rd w o 64 = v := ⟨_, rfl⟩
 have hR : chg o b = addV v o := by rw [chg, hw, hv]
 rw [hR, v8AV, v8AV, ← Ad_8']
 clear hR
 obtain ⟨ol, hol⟩ : ∃ l, o.l = l := ⟨_, rfl⟩
 have holl : ol.length = 8 := by rw [← hol]; rfl
 rw [hol]
 refine Bd Tryd.func124 Tryd.ntmps124 fun σ N hp hpn hk hkn hfree => ?_
 refine Wk ?_
 refine go_loopF mixed (by kernel_rfl) [6, 22, 23, 24, 25, 26, 27, 28, 29, 30, 31, 32, 33, 34, 35, 36, 37, 38, 39, 40, 41, 42, 43, 44, 45, 46, 47, 48, 49, 50, 51, 52, 53, 54, 55, 56, 57, 58, 59, 60] [N+2] (fun m_ s_ σ_ n_ => ∃ (t : Nat) (L : List Int), m_ = 16 - t ∧ s_ 6 = .lit (.int .i64 t) ∧ σ_ (N+2) = .box 191 (uuAV L) ∧ (t ≤ 16) ∧ (Wd b t = L)) ⟨_, 0, Z, rfl, WF, WF, WC, WC⟩ ?_
 intro m_1 s_1 σ_1 n_1 hs_1 hf_1 hn_1 hI_1
 obtain ⟨t, L, hm_1, h1_6, e1_0, ht, hL⟩ := hI_1
 have h1_1 := KS hs_1 1
 have h1_2 := KS hs_1 2
 have h1_4 := KS hs_1 4
 have h1_5 := KS hs_1 5
 have k1_0 := KE hf_1 (N)
 have k1_1 := KE hf_1 (N+1)
 have hlow := KL (N := N) (σ := σ) hf_1
 have hlen : L.length = 64 := by rw [← hL]; exact Wd_len b t
 by_cases h16 : t < 16
 ·have h16' : (t : Int) < 16 := by omega
  have htl : t < 64 := by omega
  have hw := Wd_lo b t h16
  rw [hL] at hw
  have i0 : (4 * (t : Int)).toNat = 4 * t := by omega
  have i1 : (4 * (t : Int) + 1).toNat = 4 * t + 1 := by omega
  have i2 : (4 * (t : Int) + 2).toNat = 4 * t + 2 := by omega
  have i3 : (4 * (t : Int) + 3).toNat = 4 * t + 3 := by omega
  have hlt0 : 4 * t < b.length := by omega
  have hlt1 : 4 * t + 1 < b.length := by omega
  have hlt2 : 4 * t + 2 < b.length := by omega
  have hlt3 : 4 * t + 3 < b.length := by omega
  obtain ⟨c0, g0⟩ : ∃ c, b[4 * t] = c := ⟨_, rfl⟩
  obtain ⟨c1, g1⟩ : ∃ c, b[4 * t + 1] = c := ⟨_, rfl⟩
  obtain ⟨c2, g2⟩ : ∃ c, b[4 * t + 2] = c := ⟨_, rfl⟩
  obtain ⟨c3, g3⟩ : ∃ c, b[4 * t + 3] = c := ⟨_, rfl⟩
  have hwd := word_at hlt3 g0 g1 g2 g3
  generalize word b t = wt at *
  have e0 : byteAV c0 = .lit (.int .u8 c0.toNat) := rfl
  have e1 : byteAV c1 = .lit (.int .u8 c1.toNat) := rfl
  have e2 : byteAV c2 = .lit (.int .u8 c2.toNat) := rfl
  have e3 : byteAV c3 = .lit (.int .u8 c3.toNat) := rfl
  clear hL
  refine Wk ?_
  clear hwd e0 e1 e2 e3 g0 g1 g2 g3 i0 i1 i2 i3
  exact ⟨WS, WG, WN, _, (show 16 - (t + 1) < m_1 by omega), t + 1, L.set t wt, rfl, WF, WF, WC, WC⟩
 ·have ht16 : t = 16 := by omega
  subst ht16
  clear h16 ht
  refine Wk ?_
  refine go_loopF mixed (by kernel_rfl) [7, 8, 9, 61, 62, 63, 64, 65, 66, 67, 68, 69, 70, 71, 72, 73, 74, 75, 76, 77, 78, 79, 80, 81, 82, 83, 84, 85, 86, 87, 88, 89, 90, 91, 92, 93, 94, 95, 96, 97, 98, 99, 100, 101] [N+2] (fun m_ s_ σ_ n_ => ∃ (t : Nat) (L : List Int), m_ = 64 - t ∧ s_ 7 = .lit (.int .i64 t) ∧ σ_ (N+2) = .box 191 (uuAV L) ∧ (t ≤ 64) ∧ (¬ t < 16) ∧ (Wd b t = L)) ⟨_, 16, L, rfl, WF, WF, WC, WC, WC⟩ ?_
  intro m_2 s_2 σ_2 n_2 hs_2 hf_2 hn_2 hI_2
  obtain ⟨t, L, hm_2, h2_7, e2_0, ht, h16, hL⟩ := hI_2
  have h2_2 := KS hs_2 2
  have h2_4 := KS hs_2 4
  have h2_5 := KS hs_2 5
  have k2_0 := KE hf_2 (N)
  have k2_1 := KE hf_2 (N+1)
  have hlow := KL (N := N) (σ := σ) hf_2
  have hlen : L.length = 64 := by rw [← hL]; exact Wd_len b t
  by_cases ht64 : t = 64
  ·subst ht64
   rw [hw] at hL
   subst hL
   have hcs := And.intro c1 True.intro
   have hR0 : Rd w o 0 = o := rfl
   have hzl := shaZ_len
   refine Wk ?_
   refine go_loopF mixed (by kernel_rfl) (12 :: 13 :: 14 :: 15 :: 16 :: 17 :: 18 :: 19 :: 20 :: 104 :: 105 :: 106 :: 107 :: 108 :: 109 :: 110 :: 111 :: 112 :: 113 :: 114 :: 115 :: 116 :: 117 :: 118 :: 119 :: 120 :: 121 :: 122 :: 123 :: 124 :: 125 :: 126 :: 127 :: 128 :: 129 :: 130 :: 131 :: 132 :: 133 :: 134 :: 135 :: 136 :: 137 :: 138 :: 139 :: 140 :: 141 :: 142 :: 143 :: 144 :: 145 :: 146 :: 147 :: 148 :: 149 :: 150 :: 151 :: 152 :: 153 :: 154 :: 155 :: 156 :: 157 :: 158 :: 159 :: 160 :: 161 :: 162 :: 163 :: 164 :: 165 :: 166 :: 167 :: 168 :: 169 :: 170 :: 171 :: 172 :: 173 :: 174 :: 175 :: 176 :: 177 :: 178 :: 179 :: 180 :: 181 :: 182 :: 183 :: 184 :: 185 :: 186 :: 187 :: []) [n_2+6] (fun m_ s_ σ_ n_ => ∃ (t : Nat) (x : V8), m_ = 64 - t ∧ s_ 12 = .lit (.int .i64 t) ∧ σ_ (n_2+6) = .box 178 (uuAV x.l) ∧ (t ≤ 64) ∧ (Rd w o t = x)) ⟨_, 0, o, rfl, WF, WF, WC, WC⟩ ?_
   intro m_3 s_3 σ_3 n_3 hs_3 hf_3 hn_3 hI_3
   obtain ⟨t, x, hm_3, h3_12, e3_0, ht, hx⟩ := hI_3
   have h3_2 := KS hs_3 2
   have h3_4 := KS hs_3 4
   have h3_5 := KS hs_3 5
   have h3_10 := KS hs_3 10
   have h3_11 := KS hs_3 11
   have k3_0 := KE hf_3 (N)
   have k3_1 := KE hf_3 (N+1)
   have k3_2 := KE hf_3 (N+2)
   have k3_3 := KE hf_3 (n_2+3)
   have hlow := KL (N := N) (σ := σ) hf_3
   by_cases ht64 : t = 64
   ·subst ht64
    rw [hv] at hx
    subst hx
    generalize hvl : V8.l v = vl at *
    have hvll : vl.length = 8 := by rw [← hvl]; rfl
    have hR0 : Ad ol vl 0 = ol := rfl
    refine Wk ?_
    refine go_loopF mixed (by kernel_rfl) [21, 188, 189, 190, 191, 192, 193, 194, 195, 196, 197, 198, 199, 200] [N] (fun m_ s_ σ_ n_ => ∃ (t : Nat) (L : List Int), m_ = 8 - t ∧ s_ 21 = .lit (.int .i64 t) ∧ σ_ (N) = .box 178 (uuAV L) ∧ (t ≤ 8) ∧ (Ad ol vl t = L)) ⟨_, 0, ol, rfl, WF, WF, WC, WC⟩ ?_
    intro m_4 s_4 σ_4 n_4 hs_4 hf_4 hn_4 hI_4
    obtain ⟨t, L, hm_4, h4_21, e4_0, ht, hL⟩ := hI_4
    have h4_2 := KS hs_4 2
    have h4_4 := KS hs_4 4
    have h4_11 := KS hs_4 11
    have k4_0 := KE hf_4 (N+1)
    have k4_1 := KE hf_4 (n_2+6)
    have hlow := KL (N := N) (σ := σ) hf_4
    have hlen : L.length = 8 := by rw [← hL, Ad_len, holl]
    by_cases ht8 : t = 8
    ·subst ht8
     subst hL
     exact W0
    ·have htl : (t : Int) < 8 := by omega
     have htl' : t < 8 := by omega
     have htn : t < L.length := by omega
     have htn' : t < vl.length := by omega
     obtain ⟨p, hp⟩ : ∃ x, L[t] = x := ⟨_, rfl⟩
     obtain ⟨q, hq⟩ : ∃ x, vl[t] = x := ⟨_, rfl⟩
     have hS : Ad ol vl (t + 1) = L.set t (W.cv (p + q)) := by
      rw [Ad, hL, List.getD_eq_getElem?_getD, List.getElem?_eq_getElem htn, List.getD_eq_getElem?_getD, List.getElem?_eq_getElem htn', hp, hq]; rfl
     clear hL
     refine Wk ?_
     exact ⟨WS, WG, WN, _, (show 8 - (t + 1) < m_4 by omega), t + 1, L.set t (W.cv (p + q)), rfl, WF, WF, WC, WC⟩
   ·have htl : (t : Int) < 64 := by omega
    have htn : t < 64 := by omega
    have htw : t < w.length := by omega
    have htz : t < shaZ.length := by omega
    have hkd : shaZ.getD t 0 = shaZ[t] := by
     rw [List.getD_eq_getElem?_getD, List.getElem?_eq_getElem htz]; rfl
    have hwd : w.getD t 0 = w[t] := by
     rw [List.getD_eq_getElem?_getD, List.getElem?_eq_getElem htw]; rfl
    obtain ⟨kt, hkt⟩ : ∃ x, shaZ[t] = x := ⟨_, rfl⟩
    rw [hkt] at hkd
    obtain ⟨wt, hwt⟩ : ∃ x, w[t] = x := ⟨_, rfl⟩
    rw [hwt] at hwd
    have hS : Rd w o (t + 1) = rnd x kt wt := by rw [Rd, hx, hkd, hwd]
    clear hkd hwd hx
    obtain ⟨xa, xb, xc, xd, xe, xf, xg, xh⟩ := x
    simp only [V8.l] at *
    obtain ⟨s1, hs1⟩ : ∃ z, W.x32 (W.x32 (W.rotr xe 6) (W.rotr xe 11)) (W.rotr xe 25) = z := ⟨_, rfl⟩
    obtain ⟨s0, hs0⟩ : ∃ z, W.x32 (W.x32 (W.rotr xa 2) (W.rotr xa 13)) (W.rotr xa 22) = z := ⟨_, rfl⟩
    obtain ⟨ch, hch⟩ : ∃ z, W.x32 (W.n32 xe xf) (W.n32 (W.x32 4294967295 xe) xg) = z := ⟨_, rfl⟩
    obtain ⟨mj, hmj⟩ : ∃ z, W.x32 (W.x32 (W.n32 xa xb) (W.n32 xa xc)) (W.n32 xb xc) = z := ⟨_, rfl⟩
    obtain ⟨t1, ht1⟩ : ∃ z, W.cv (W.cv (W.cv (W.cv (xh + s1) + ch) + kt) + wt) = z := ⟨_, rfl⟩
    obtain ⟨t2, ht2⟩ : ∃ z, W.cv (s0 + mj) = z := ⟨_, rfl⟩
    have hS' : rnd ⟨xa, xb, xc, xd, xe, xf, xg, xh⟩ kt wt = ⟨W.cv (t1 + t2), xa, xb, xc, W.cv (xd + t1), xe, xf, xg⟩ := by
     unfold rnd T1 T2 S1 S0 Ch Maj
     simp only [hs1, hs0, hch, hmj, ht1, ht2]
    rw [hS'] at hS
    clear hS'
    have r1 := refrot_spec xe 6 (by omega)
    have r2 := refrot_spec xe 11 (by omega)
    have r3 := refrot_spec xe 25 (by omega)
    have r4 := refrot_spec xa 2 (by omega)
    have r5 := refrot_spec xa 13 (by omega)
    have r6 := refrot_spec xa 22 (by omega)
    have hcs := And.intro r1 (And.intro r2 (And.intro r3 (And.intro r4 (And.intro r5 (And.intro r6 True.intro)))))
    clear r1 r2 r3 r4 r5 r6 hZ hzl hol
    refine Wk ?_
    exact ⟨WS, WG, WN, _, (show 64 - (t + 1) < m_3 by omega), t + 1, V8.mk (W.cv (t1 + t2)) xa xb xc (W.cv (xd + t1)) xe xf xg, rfl, WF, WF, WC, WC⟩
  ·have htl : t < 64 := by omega
   have htl' : (t : Int) < 64 := by omega
   have hw := Wd_hi b t h16
   rw [hL] at hw
   have j15 : ((t : Int) - 15).toNat = t - 15 := by omega
   have j2 : ((t : Int) - 2).toNat = t - 2 := by omega
   have j7 : ((t : Int) - 7).toNat = t - 7 := by omega
   have j16 : ((t : Int) - 16).toNat = t - 16 := by omega
   have l15 : t - 15 < L.length := by omega
   have l2 : t - 2 < L.length := by omega
   have l7 : t - 7 < L.length := by omega
   have l16 : t - 16 < L.length := by omega
   obtain ⟨x15, g15⟩ : ∃ x, L[t - 15] = x := ⟨_, rfl⟩
   obtain ⟨x2, g2⟩ : ∃ x, L[t - 2] = x := ⟨_, rfl⟩
   obtain ⟨x7, g7⟩ : ∃ x, L[t - 7] = x := ⟨_, rfl⟩
   obtain ⟨x16, g16⟩ : ∃ x, L[t - 16] = x := ⟨_, rfl⟩
   rw [nextW_at (by omega) (by omega) g2 g7 g15 g16] at hw
   have r1 := refrot_spec x2 17 (by omega)
   have r2 := refrot_spec x2 19 (by omega)
   have r3 := refrot_spec x15 7 (by omega)
   have r4 := refrot_spec x15 18 (by omega)
   have s0 : W.x32 (W.x32 (W.rotr x15 7) (W.rotr x15 18)) (x15.fdiv 8) = sg0 x15 := by unfold sg0; rfl
   have s1 : W.x32 (W.x32 (W.rotr x2 17) (W.rotr x2 19)) (x2.fdiv 1024) = sg1 x2 := by unfold sg1; rfl
   have hcs := And.intro r1 (And.intro r2 (And.intro r3 (And.intro r4 True.intro)))
   clear r1 r2 r3 r4 hL
   refine Wk ?_
   exact ⟨WS, WG, WN, _, (show 64 - (t + 1) < m_2 by omega), t + 1, L.set t (W.cv (W.cv (W.cv (sg1 x2 + x7) + sg0 x15) + x16)), rfl, WF, WF, WC, WC, WC⟩
end
end Go.Proofs.YtdmjpolnbmoehaaDoor

namespace Go.Ab
open Go.RowKit
attribute [local irreducible] Go.Ab.tyAV Go.Ab.aw Go.Ab.aops Go.Ab.kReg Go.Ab.aThen Go.Ab.aBlk Go.Ab.acond Go.Ab.aguard Go.Ab.astep Go.Ab.AStepX Go.Ab.aRet
section
variable {P : Program} {o : Oper} {s : Slots} {id : Nat}
theorem holds_append_zerosM {t tn e : TypeId} {size bytes : Nat} {z : AV} {x y : Operand} {k kn : IntKind} {m : Int} (ho : o.op = .call { callee := .builtin .append, args := #[x, y], argTypes := #[t, tn] }) (ht : sliceTy P t = some e) (htn : intTy P tn = some kn) (hs : sizeIs P e size = true) (hb : bytesIs P e bytes = true)
  (hz : ztree P e = some z) (hzs : z.sz = size) (hpos : 0 < size) (hx : aeval s x = .nils) (hy : aeval s y = .lit (.int k m)) (h0 : 0 < m) (hbytes : m.toNat * bytes ≤ 140737488355328) (hmx : m.toNat ≤ 140737488355328) :
  OpHolds P o s id [] (.ms id 0 size 0 m.toNat) [(id, .mrow 0 e size (List.replicate m.toNat z))] := by
 refine ⟨fun p hp => (by cases hp), fun q hq => .inl (by simp at hq; subst hq; rfl), fun W0 g σ n w a hS hr hf hn _ => ?_⟩
 have h1 := hr x (by simp [ho, Op.operands, Call.operands])
 have h2 := hr y (by simp [ho, Op.operands, Call.operands])
 rw [hx] at h1
 rw [hy] at h2
 have hxu : a.eval x = .slice none 0 0 := by
  generalize hv : a.eval x = v at h1
  cases h1; rfl
 have e2 := rep_lit_inv h2
 obtain ⟨m, rfl⟩ := Int.eq_ofNat_of_zero_le (Int.le_of_lt h0)
 simp only [Int.toNat_natCast] at hbytes hmx ⊢
 have hm0 : 0 < m := by omega
 obtain ⟨cs, he⟩ := execOp_builtin (P := P) (a := a) ho w
 obtain ⟨i, hi, hsi⟩ := sizeIs_sound hs
 have hbi : i.bytes = bytes := by unfold bytesIs at hb; rw [hi] at hb; simpa using hb
 obtain ⟨i', zv, hi', hzv, hrz⟩ := ztree_sound hz g
 rw [hi] at hi'; cases hi'
 have hzc : zv.cells.size = size := by rw [hrz.size, hzs]
 have hrun := Go.Lib.run_append_nil_zeros (P := P) w t tn o.type e i zv k kn (sliceTy_sound ht) (intTy_sound htn) hi hzv m hm0 (by omega) (by omega) (by rw [hbi]; omega)
 have hge := grownCap_ge w m 0 e
 have hcm := grownCap_le_maxLen w m 0 e (by unfold maxLen; omega)
 have hall : ∀ v ∈ List.replicate m zv, v.cells.size = size := fun v hv => by rw [List.eq_of_mem_replicate hv]; exact hzc
 have hfl : flat (List.replicate m zv) = (Builtin.zeroCells zv.cells m).toList := by
  rw [← flat_replicate m zv size hzc hpos]
  simp [Builtin.zeroCells, hzc]
 have hzl : (Builtin.zeroCells zv.cells m).toList.length = m * size := by rw [Array.length_toList, size_zeroCells, hzc]
 obtain ⟨g', hle, hS', hrp⟩ := hS.drew.newM (e := e) (size := size) (xs := List.replicate m z) (vs := List.replicate m zv) hf hn (Builtin.zeroCells zv.cells m ++ Builtin.zeroCells zv.cells (grownCap w m 0 e - m)) (grownCap w m 0 e) (by simp) (rep_replicate hrz m) hall (by simp; omega) hcm
  (by simp only [Array.size_append, size_zeroCells, hzc, ← Nat.add_mul]; congr 1; omega)
  (by rw [Array.toList_append, List.length_replicate, ← hzl, List.take_left, hfl]) (noFz_zero _)
 unfold runsTo
 have hexec : (execOp a.eval o).run P w = .ok (.value (.slice (some ⟨w.heap.size, 0, none⟩) m (grownCap w m 0 e))) (w.drew.alloc (.cells (Builtin.zeroCells zv.cells m ++ Builtin.zeroCells zv.cells (grownCap w m 0 e - m)) e)) := by
  rw [he]
  simp [builtin, hxu, e2, hrun]
 rw [hexec]
 simp only [List.length_replicate] at hrp
 exact ⟨g', hle, hS', hrp⟩
theorem holds_cap_nils {t e : TypeId} {x : Operand} (ho : o.op = .call { callee := .builtin .cap, args := #[x], argTypes := #[t] }) (ht : sliceTy P t = some e) (hx : aeval s x = .nils) :
  OpHolds P o s id [] (.lit (.int .i64 0)) [] :=
 holds_pure fun g w a hr => by
  have h3 := hr x (by simp [ho, Op.operands, Call.operands])
  rw [hx] at h3
  generalize hv : a.eval x = v at h3
  cases h3 with
  | nils =>
   obtain ⟨cs, he⟩ := execOp_builtin (P := P) (a := a) ho w
   refine ⟨_, ?_, .lit _ rfl⟩
   rw [he]
   simp [builtin, Builtin.cap_, run_underlying (sliceTy_sound ht), hv, goInt]
def fieldTy (P : Program) (t : TypeId) (f : Nat) : Option (TypeId × Nat) :=
 match P.underlying t with
 | some (.struct fs) => match fs[f]? with
  | some fl => some (fl.type, fl.offset)
  | none => none
 | _ => none
theorem fieldTy_sound {t e : TypeId} {f k : Nat} (h : fieldTy P t f = some (e, k)) : ∃ fs fl, P.underlying t = some (.struct fs) ∧ fs[f]? = some fl ∧ fl.type = e ∧ fl.offset = k := by
 unfold fieldTy at h
 split at h
 ·rename_i fs hfs
  split at h
  ·rename_i fl hfl
   cases h
   exact ⟨fs, fl, hfs, hfl, rfl, rfl⟩
  ·cases h
 ·cases h
theorem holds_field {t e : TypeId} {x : Operand} {f k : Nat} {xs : List AV} {y : AV} (ho : o.op = .field t x f) (hf : fieldTy P t f = some (e, k)) (hx : aeval s x = .agg xs) (hy : xs[f]? = some y) (hk : AV.szl (xs.take f) = k) (hT : tyIs P e y.isAgg y.sz = true) (h1 : y.isAgg = true ∨ y.one = true) : OpHolds P o s id [] y [] :=
 holds_pure fun g w a hr => by
  have h1' := hr x (by simp [ho, Op.operands])
  rw [hx] at h1'
  generalize hv : a.eval x = v at h1'
  obtain ⟨fs, fl, k1, k2, k3, k4⟩ := fieldTy_sound hf
  cases h1' with
  | agg _ vs hvl hvr =>
   have hR : Rep g (.agg xs) (.agg (flat vs).toArray) := .agg xs vs hvl hvr
   obtain ⟨u, hu, hub, huc⟩ := hR.get (path := [f]) (y := y) (by simp [AV.get, hy])
   have ho' : (AV.agg xs).offs [f] = k := by simp [AV.offs, hy, hk]
   rw [ho'] at hub huc
   have hp := run_part (P := P) hu hT h1 (cs := (flat vs).toArray) (off := k) (fun j q hq => by simpa [cells_agg] using huc j q hq) (by simpa [cells_agg] using hub) w
   refine ⟨u, ?_, hu⟩
   simp [execOp, ho, hv, Instr.field, run_underlying k1, k2, k3, k4, asAgg, hp]
end
def evMutZ (P : Program) (id : Nat) (t tn : TypeId) (u v : AV) : Option Step :=
 match sliceInfo P t, intTy P tn, u, v with
 | some (e, size, bytes, z), some _, .nils, .lit (.int _ m) => if 0 < m ∧ m.toNat * bytes ≤ 140737488355328 ∧ m.toNat ≤ 140737488355328 then
   some ⟨[], .ms id 0 size 0 m.toNat, [(id, .mrow 0 e size (List.replicate m.toNat z))]⟩ else none
 | _, _, _, _ => none
theorem evMutZ_sound {P : Program} {o : Oper} {s : Slots} {σ : Nat → Ent} {id : Nat} {st : Step} {t tn : TypeId} {x y : Operand} (ho : o.op = .call { callee := .builtin .append, args := #[x, y], argTypes := #[t, tn] }) (h : evMutZ P id t tn (aeval s x) (aeval s y) = some st) : Gives P o s σ id st := by
 unfold evMutZ at h
 split at h
 ·rename_i ht htn hx hy
  split at h
  ·rename_i hc
   cases h
   obtain ⟨k1, k2, k3, k4, k5, k6⟩ := sliceInfo_sound ht
   exact .mk0 (holds_append_zerosM ho k1 htn k2 k3 k4 k5 k6 hx hy hc.1 hc.2.1 hc.2.2)
  ·cases h
 ·cases h
attribute [go_sem] evMutZ
section
variable {P : Program} {ops : Array Oper} {m i n : Nat} {T : Trace} {k : Cfg → Trace → Prop} {ty : TypeId} {pos : String} {after : Array Edge} {r : List Oper} {s : Slots} {σ : Nat → Ent}
theorem go_mutZ {t : Tmp} {x y : Operand} {t' tn : TypeId} {v : AV} {q : Nat × Ent} (he : evMutZ P (m + i) t' tn (aeval s x) (aeval s y) = some ⟨[], v, [q]⟩) (h : aops P ops m r (i + 1) ((i, [], [q]) :: T) k ⟨upd s t v, upd σ q.1 q.2, n⟩) :
  aops P ops m (⟨some t, .call { callee := .builtin .append, args := #[x, y], argTypes := #[t', tn] }, ty, pos, after, none⟩ :: r) i T k ⟨s, σ, n⟩ :=
 go_own (st := ⟨[], v, [q]⟩) (fun o ho => evMutZ_sound (by rw [ho]) he) h
theorem go_capnil {t : Tmp} {x : Operand} {t' e : TypeId} {size bytes : Nat} {z : AV} (ht : sliceInfo P t' = some (e, size, bytes, z)) (hx : aeval s x = .nils) (h : aops P ops m r (i + 1) T k ⟨upd s t (.lit (.int .i64 0)), σ, n⟩) :
  aops P ops m (⟨some t, .call { callee := .builtin .cap, args := #[x], argTypes := #[t'] }, ty, pos, after, none⟩ :: r) i T k ⟨s, σ, n⟩ :=
 go_own (st := ⟨[], .lit (.int .i64 0), []⟩) (fun _o ho => .mk0 (holds_cap_nils ho (sliceInfo_sound ht).1 hx)) h
theorem go_fieldA {t : Tmp} {x : Operand} {t' e : TypeId} {f q : Nat} {xs : List AV} {y : AV} (hf : fieldTy P t' f = some (e, q)) (hx : aeval s x = .agg xs) (hy : xs[f]? = some y) (hk : AV.szl (xs.take f) = q) (hT : tyIs P e y.isAgg y.sz = true) (h1 : y.isAgg = true ∨ y.one = true) (h : aops P ops m r (i + 1) T k ⟨upd s t y, σ, n⟩) :
  aops P ops m (⟨some t, .field t' x f, ty, pos, after, none⟩ :: r) i T k ⟨s, σ, n⟩ :=
 go_own (st := ⟨[], y, []⟩) (fun _o ho => .mk0 (holds_field ho hf hx hy hk hT h1)) h
end
end Go.Ab

namespace Go.Proofs.YtdmjpolnbmoehaaDoor
open Go.Ab
attribute [local irreducible] Go.Ab.tyAV Go.Ab.aw Go.Ab.aops Go.Ab.kReg Go.Ab.aThen Go.Ab.aBlk Go.Ab.acond Go.Ab.aguard Go.Ab.astep Go.Ab.AStepX Go.Ab.aRet
theorem Same_spec (cs bs : List UInt8) (ha : cs.length ≤ 140737488351232) (k : Nat) : ACall Tryd.prog 47 [.slice none (cs.map byteAV), .slice none (bs.map byteAV)] k [] (.lit (.bool (decide (cs = bs)))) [] := by
 by_cases hl : cs.length = bs.length
 ·refine Bd Tryd.func47 Tryd.ntmps47 fun σ N hp hpn hk hkn hfree => ?_
  refine Wk ?_
  refine go_loop (aloop mixed (by kernel_rfl) (fun c => ∃ (u : Nat), c.s 0 = .slice none (cs.map byteAV) ∧ c.s 1 = .slice none (bs.map byteAV) ∧ c.s 5 = .lit (.int .i64 u) ∧ (∀ id, id < N → c.σ id = σ id) ∧ N ≤ c.n ∧ u ≤ cs.length ∧ cs.take u = bs.take u)
   (fun c => match c.s 5 with | .lit (.int _ m) => cs.length - m.toNat | _ => 0) ⟨0, by simp (disch := omega) [go_sem, *, -List.reduceReplicate], by simp (disch := omega) [go_sem, *, -List.reduceReplicate], by simp (disch := omega) [go_sem, *, -List.reduceReplicate], (fun id hid => by simp (disch := omega) only; try exact hlow id hid), by simp only; omega, by omega, by simp⟩ ?_)
  rintro ⟨s, σ', n'⟩ ⟨u, h0, h1, h5, hlow, hn', hu, heq⟩
  simp only at h0 h1 h5 hlow hn'
  by_cases hul : u = cs.length
  ·have hr : decide (cs = bs) = true := by
    rw [hul, List.take_length, hl, List.take_length] at heq
    simp [heq]
   rw [hr]
   exact W0
  ·have hua : u < cs.length := by omega
   have hub : u < bs.length := by omega
   obtain ⟨x, hx⟩ : ∃ x, cs[u] = x := ⟨_, rfl⟩
   obtain ⟨y, hy⟩ : ∃ y, bs[u] = y := ⟨_, rfl⟩
   have hxx : byteAV x = .lit (.int .u8 x.toNat) := rfl
   have hyy : byteAV y = .lit (.int .u8 y.toNat) := rfl
   refine Wk ?_
   by_cases hxy : x = y
   ·subst hxy
    refine Wk ?_
    refine ⟨⟨u + 1, by simp (disch := omega) [go_sem, *, -List.reduceReplicate], by simp (disch := omega) [go_sem, *, -List.reduceReplicate], by simp (disch := omega) [go_sem, *, -List.reduceReplicate], (fun id hid => by simp (disch := omega) only; try exact hlow id hid), by simp only; omega, by omega, ?_⟩, ?_⟩
    ·rw [List.take_add_one, List.take_add_one, heq, List.getElem?_eq_getElem hua, List.getElem?_eq_getElem hub, hx, hy]
    ·simp (disch := omega) [go_sem, *, -List.reduceReplicate]
     omega
   ·have hne : ¬ x.toNat = y.toNat := fun h => hxy (UInt8.toNat_inj.1 h)
    have hr : decide (cs = bs) = false := by
     have : cs ≠ bs := fun h => by subst h; rw [hx] at hy; exact hxy hy
     simp [this]
    rw [hr]
    exact W0
 ·have hr : decide (cs = bs) = false := by
   have : cs ≠ bs := fun h => hl (by rw [h])
   simp [this]
  rw [hr]
  refine Bd Tryd.func47 Tryd.ntmps47 fun σ N hp hpn hk hkn hfree => ?_
  exact W0
theorem cutAt (c : Nat) (b : List UInt8) : ∃ (m : Nat) (t : List UInt8), (if (c : Int) < (b.length : Int) then (c : Int) else (b.length : Int)) = (m : Int) ∧ m ≤ b.length ∧ m ≤ c ∧ t.length = m ∧ (b.map byteAV).take m = t.map byteAV := by
 refine ⟨min c b.length, b.take c, ?_, Nat.min_le_right .., Nat.min_le_left .., by simp, ?_⟩
 ·split <;> omega
 ·rw [← List.map_take]
  congr 1
  by_cases h : c ≤ b.length
  ·rw [Nat.min_eq_left h]
  ·rw [Nat.min_eq_right (by omega), List.take_length, List.take_of_length_le (by omega)]

attribute [go_sem] bytes_all1 bytes_all2 List.isEmpty_map
theorem SClone_cons (bs : List UInt8) (he : bs.isEmpty = false) (hl : bs.length ≤ 100000000) (k : Nat) :
  ACall Tryd.prog 111 [.slice none (bs.map byteAV)] k [] (.slice (some k) (bs.map byteAV)) [(k, .row 5 1 bs.length)] := by
 refine Bd Tryd.func111 Tryd.ntmps111 fun σ N hp hpn hk hkn hfree => ?_
 refine Wk ?_
 refine go_result1 (r0 := N+3) (by simp (disch := omega) [go_sem, *, -List.reduceReplicate]; rfl) (by omega) (by simp (disch := omega) [go_sem]; try rfl) (fun id hid => by simp (disch := omega) only [upd_ne]; try exact hlow id hid) (by simp (disch := omega) only [upd_same]; rfl) (by simp (disch := omega) [go_sem])
theorem SClone_nil (c k : Nat) : ACall Tryd.prog 111 [.lit (.slice none 0 c)] k [] .nils [] := by
 refine Bd Tryd.func111 Tryd.ntmps111 fun σ N hp hpn hk hkn hfree => ?_
 exact W0
theorem SClone_empty (A : Addr) (c k : Nat) : ACall Tryd.prog 111 [.lit (.slice (some A) 0 c)] k [] (.slice (some k) []) [(k, .row 5 1 0)] := by
 refine Bd Tryd.func111 Tryd.ntmps111 fun σ N hp hpn hk hkn hfree => ?_
 refine Wk ?_
 refine go_result1 (r0 := N+3) (by simp (disch := omega) [go_sem, *, -List.reduceReplicate]; rfl) (by omega) (by simp (disch := omega) [go_sem]; try rfl) (fun id hid => by simp (disch := omega) only [upd_ne]; try exact hlow id hid) (by simp (disch := omega) only [upd_same]; rfl) (by simp (disch := omega) [go_sem])
theorem SClone_spec (bs : List UInt8) (hl : bs.length ≤ 100000000) (k : Nat) :
  ACall Tryd.prog 111 [.slice none (bs.map byteAV)] k [] (.slice (some k) (bs.map byteAV)) [(k, .row 5 1 bs.length)] := by
 cases bs with
 | cons b r => exact SClone_cons (b :: r) rfl hl k
 | nil =>
  refine ACall.empty fun A c => ?_
  cases A with
  | none => exact ACall.nilrow (SClone_nil c k)
  | some A => exact SClone_empty A c k
def u8 (n : Nat) : UInt8 := UInt8.ofNat n
def leb (n : Nat) : List UInt8 := if h : n < 128 then [u8 n] else u8 (n % 128 + 128) :: leb (n / 128)
termination_by n
theorem leb_small {n : Nat} (h : n < 128) : leb n = [u8 n] := by rw [leb, dif_pos h]
theorem leb_big {n : Nat} (h : ¬ n < 128) : leb n = u8 (n % 128 + 128) :: leb (n / 128) := by rw [leb, dif_neg h]
theorem leb_len (n : Nat) : ∀ k, n < 128 ^ k → (leb n).length ≤ k + 1 := by
 induction n using Nat.strongRecOn with
 | _ n ih =>
  intro k hk
  by_cases h : n < 128
  ·rw [leb_small h]; simp
  ·rw [leb_big h]
   cases k with
   | zero => simp at hk; omega
   | succ k =>
    have := ih (n / 128) (by omega) k (by rw [Nat.pow_succ] at hk; omega)
    simp; omega
theorem byteAV_ofNat {n : Nat} (h : n < 256) : byteAV (u8 n) = .lit (.int .u8 n) := by
 simp only [byteAV, u8]
 rw [UInt8.toNat_ofNat', Nat.mod_eq_of_lt h]
theorem Number_spec (n k : Nat) (hn : n < 128 ^ 9) : ACall Tryd.prog 60 [.lit (.int .i64 n)] k [] (.slice (some k) ((leb n).map byteAV)) [(k, .row 5 1 (leb n).length)] := by
 have hl := leb_len n 9 hn
 refine Bd Tryd.func60 Tryd.ntmps60 fun σ N hp hpn hk hkn hfree => ?_
 refine Wk ?_
 refine go_loop (ALoop.nilrow 3 5 1 (by simp (disch := omega) [go_sem, *, -List.reduceReplicate]) ?_)
 refine aloop mixed (by kernel_rfl) (fun c => ∃ (m : Nat) (acc : List UInt8), c.s 0 = .lit (.int .i64 m) ∧ c.s 3 = .slice (some (N + 2)) (acc.map byteAV) ∧ c.σ (N + 2) = .row 5 1 acc.length ∧ N + 3 ≤ c.n ∧ (∀ id, id < N → c.σ id = σ id) ∧ acc ++ leb m = leb n ∧ m < 128 ^ 9)
  (fun c => match c.s 0 with | .lit (.int _ m) => m.toNat | _ => 0) ⟨n, [], by simp (disch := omega) [go_sem, *, -List.reduceReplicate], by simp (disch := omega) [go_sem, *, -List.reduceReplicate], by simp (disch := omega) [go_sem, *, -List.reduceReplicate], by simp, by intro id hid; simp (disch := omega) only [upd_ne], rfl, hn⟩ ?_
 rintro ⟨s, σ', n'⟩ ⟨m, acc, h0, h3, hr, hn', hlow, hacc, hm⟩
 simp only at h0 h3 hr hn' hlow
 have hal : acc.length ≤ 10 := by rw [← hacc, List.length_append] at hl; omega
 refine Wk ?_
 by_cases h : m < 128
 ·refine go_condF (by simp (disch := omega) [go_sem, *, -List.reduceReplicate]; try first | rfl | omega) ?_
  refine Wk ?_
  have hfin : (leb n).map byteAV = acc.map byteAV ++ [.lit (.int .u8 (IntKind.u8.wrap (m : Int)))] := by
   rw [← hacc, leb_small h, List.map_append, List.map_cons, List.map_nil, byteAV_ofNat (by omega), IntKind.wrap_u8, Int.emod_eq_of_lt (by omega) (by omega)]
  have hlen : (leb n).length = acc.length + 1 := by rw [← hacc, leb_small h]; simp
  rw [hfin, hlen]
  refine go_result1 (r0 := N+2) (by simp (disch := omega) [go_sem, *, -List.reduceReplicate]; rfl) (by omega) (by simp (disch := omega) [go_sem]; try rfl) (fun id hid => by simp (disch := omega) only [upd_ne]; try exact hlow id hid) (by simp (disch := omega) only [upd_same]; rfl) (by simp (disch := omega) [go_sem])
 ·have ht : (m : Int).tmod 128 = (m : Int) % 128 := Int.tmod_eq_emod_of_nonneg (by omega)
  have hb : IntKind.u8.wrap ((m : Int) % 128 + 128) = (m : Int) % 128 + 128 := by rw [IntKind.wrap_u8]; omega
  have hbv : byteAV (u8 (m % 128 + 128)) = .lit (.int .u8 ((m : Int) % 128 + 128)) := by rw [byteAV_ofNat (by omega)]; simp
  refine Wk ?_
  refine ⟨⟨m / 128, acc ++ [u8 (m % 128 + 128)], by simp (disch := omega) [go_sem, *, -List.reduceReplicate], by simp (disch := omega) [go_sem, *, -List.reduceReplicate], by simp (disch := omega) [go_sem, *, -List.reduceReplicate], by simp only; omega, (fun id hid => by simp (disch := omega) only [upd_ne]; try exact hlow id hid), by rw [← hacc, leb_big h]; simp, by omega⟩, ?_⟩
  simp (disch := omega) [go_sem, *, -List.reduceReplicate]
  omega
theorem Append_ok (bs : List UInt8) (hb : bs.length ≤ 10000000) (n : Nat) (h : n ≤ 281474976710656) (k : Nat) :
  ACall Tryd.prog 82 [.slice none (bs.map byteAV), .lit (.int .i64 n)] k [] (.tup [.slice (some k) ((bs ++ leb n).map byteAV), .lit (.int .i64 0)]) [(k, .row 5 1 (bs.length + (leb n).length))] := by
 have hl := leb_len n 7 (by omega)
 have hc := SClone_spec bs (by omega)
 refine Bd Tryd.func82 Tryd.ntmps82 fun σ N hp hpn hk hkn hfree => ?_
 have g1 : ¬ (n : Int) < 0 := by omega
 have g2 : ¬ (281474976710656 : Int) < n := by omega
 have hcs := And.intro hc True.intro
 refine Wk ?_
 refine go_loop (aloop mixed (by kernel_rfl) (fun c => ∃ (m : Nat) (acc : List UInt8), c.s 1 = .lit (.int .i64 m) ∧ c.s 6 = .slice (some (N + 9)) ((bs ++ acc).map byteAV) ∧ c.σ (N + 9) = .row 5 1 (bs.length + acc.length) ∧ N + 10 ≤ c.n ∧ (∀ id, id < N → c.σ id = σ id) ∧ acc ++ leb m = leb n ∧ m ≤ 281474976710656)
  (fun c => match c.s 1 with | .lit (.int _ m) => m.toNat | _ => 0) ⟨n, [], by simp (disch := omega) [go_sem, *, -List.reduceReplicate], by simp (disch := omega) [go_sem, *, -List.reduceReplicate], by simp (disch := omega) [go_sem, *, -List.reduceReplicate], by simp, (fun id hid => by simp (disch := omega) only [upd_ne, wr_cons, wr_nil]; try exact hlow id hid), rfl, h⟩ ?_)
 rintro ⟨s, σ', n'⟩ ⟨m, acc, h0, h3, hr, hn', hlow, hacc, hm⟩
 simp only at h0 h3 hr hn' hlow
 have hal : acc.length ≤ 10 := by rw [← hacc, List.length_append] at hl; omega
 by_cases h : m < 128
 ·refine Wk ?_
  have hfin : (bs ++ leb n).map byteAV = (bs ++ acc).map byteAV ++ [.lit (.int .u8 (IntKind.u8.wrap (m : Int)))] := by
   rw [← hacc, leb_small h, ← List.append_assoc, List.map_append, List.map_cons, List.map_nil, byteAV_ofNat (by omega), IntKind.wrap_u8, Int.emod_eq_of_lt (by omega) (by omega)]
  have hlen : bs.length + (leb n).length = bs.length + acc.length + 1 := by rw [← hacc, leb_small h]; simp; omega
  rw [hfin, hlen]
  refine go_result1 (r0 := N+9) (by simp (disch := omega) [go_sem, *, -List.reduceReplicate]; rfl) (by omega) (by simp (disch := omega) [go_sem]; try rfl) (fun id hid => by simp (disch := omega) only [upd_ne]; try exact hlow id hid) (by simp (disch := omega) only [upd_same]; rfl) (by simp (disch := omega) [go_sem])
 ·have ha : bits .and .i64 (m : Int) 127 = (m : Int) % 128 := i64_and127 _ (by omega) (by omega)
  have ho : bits .or .i64 ((m : Int) % 128) 128 = (m : Int) % 128 + 128 := i64_or128 _ (by omega) (by omega)
  have hs : (m : Int).fdiv 128 = (m : Int) / 128 := by rw [Int.fdiv_eq_ediv]; simp
  have hb : IntKind.u8.wrap ((m : Int) % 128 + 128) = (m : Int) % 128 + 128 := by rw [IntKind.wrap_u8]; omega
  have hbv : byteAV (u8 (m % 128 + 128)) = .lit (.int .u8 ((m : Int) % 128 + 128)) := by rw [byteAV_ofNat (by omega)]; simp
  refine Wk ?_
  refine ⟨⟨m / 128, acc ++ [u8 (m % 128 + 128)], by simp (disch := omega) [go_sem, *, -List.reduceReplicate], by simp (disch := omega) [go_sem, *, -List.reduceReplicate], by simp (disch := omega) [go_sem, *, -List.reduceReplicate]; omega, by simp only; omega, (fun id hid => by simp (disch := omega) only [upd_ne]; try exact hlow id hid), by rw [← hacc, leb_big h]; simp, by omega⟩, ?_⟩
  simp (disch := omega) [go_sem, *, -List.reduceReplicate]
  omega
theorem Number_spec_f (n k : Nat) (hn : n < 128 ^ 9) : ACall Tryd.prog 60 [.lit (.int .i64 n)] k [] (.slice none ((leb n).map byteAV)) [] := by
 have hl := leb_len n 9 hn
 refine Bd Tryd.func60 Tryd.ntmps60 fun σ N hp hpn hk hkn hfree => ?_
 refine Wk ?_
 refine go_loop (ALoop.nilrow 3 5 1 (by simp (disch := omega) [go_sem, *, -List.reduceReplicate]) ?_)
 refine aloop mixed (by kernel_rfl) (fun c => ∃ (m : Nat) (acc : List UInt8), c.s 0 = .lit (.int .i64 m) ∧ c.s 3 = .slice (some (N + 2)) (acc.map byteAV) ∧ c.σ (N + 2) = .row 5 1 acc.length ∧ N + 3 ≤ c.n ∧ (∀ id, id < N → c.σ id = σ id) ∧ acc ++ leb m = leb n ∧ m < 128 ^ 9)
  (fun c => match c.s 0 with | .lit (.int _ m) => m.toNat | _ => 0) ⟨n, [], by simp (disch := omega) [go_sem, *, -List.reduceReplicate], by simp (disch := omega) [go_sem, *, -List.reduceReplicate], by simp (disch := omega) [go_sem, *, -List.reduceReplicate], by simp, by intro id hid; simp (disch := omega) only [upd_ne], rfl, hn⟩ ?_
 rintro ⟨s, σ', n'⟩ ⟨m, acc, h0, h3, hr, hn', hlow, hacc, hm⟩
 simp only at h0 h3 hr hn' hlow
 have hal : acc.length ≤ 10 := by rw [← hacc, List.length_append] at hl; omega
 refine Wk ?_
 by_cases h : m < 128
 ·refine go_condF (by simp (disch := omega) [go_sem, *, -List.reduceReplicate]; try first | rfl | omega) ?_
  refine Wk ?_
  have hfin : (leb n).map byteAV = acc.map byteAV ++ [.lit (.int .u8 (IntKind.u8.wrap (m : Int)))] := by
   rw [← hacc, leb_small h, List.map_append, List.map_cons, List.map_nil, byteAV_ofNat (by omega), IntKind.wrap_u8, Int.emod_eq_of_lt (by omega) (by omega)]
  have hlen : (leb n).length = acc.length + 1 := by rw [← hacc, leb_small h]; simp
  rw [hfin]
  refine go_resultI (by simp (disch := omega) [go_sem, *, -List.reduceReplicate]; rfl) (by first | exact AV.le_refl _ | ((first | apply AV.le_slices | apply AV.le_nilsE | apply AV.le_clipE); first | rfl | (simp (disch := omega) [go_sem, *, -List.reduceReplicate]; done))) (by simp (disch := omega) [go_sem]; try rfl) (fun id hid => by simp (disch := omega) only [upd_ne]; try exact hlow id hid)
 ·have ht : (m : Int).tmod 128 = (m : Int) % 128 := Int.tmod_eq_emod_of_nonneg (by omega)
  have hb : IntKind.u8.wrap ((m : Int) % 128 + 128) = (m : Int) % 128 + 128 := by rw [IntKind.wrap_u8]; omega
  have hbv : byteAV (u8 (m % 128 + 128)) = .lit (.int .u8 ((m : Int) % 128 + 128)) := by rw [byteAV_ofNat (by omega)]; simp
  refine Wk ?_
  refine ⟨⟨m / 128, acc ++ [u8 (m % 128 + 128)], by simp (disch := omega) [go_sem, *, -List.reduceReplicate], by simp (disch := omega) [go_sem, *, -List.reduceReplicate], by simp (disch := omega) [go_sem, *, -List.reduceReplicate], by simp only; omega, (fun id hid => by simp (disch := omega) only [upd_ne]; try exact hlow id hid), by rw [← hacc, leb_big h]; simp, by omega⟩, ?_⟩
  simp (disch := omega) [go_sem, *, -List.reduceReplicate]
  omega
theorem Append_ok_f (bs : List UInt8) (hb : bs.length ≤ 10000000) (n : Nat) (h : n ≤ 281474976710656) (k : Nat) :
  ACall Tryd.prog 82 [.slice none (bs.map byteAV), .lit (.int .i64 n)] k [] (.tup [.slice none ((bs ++ leb n).map byteAV), .lit (.int .i64 0)]) [] := by
 have hl := leb_len n 7 (by omega)
 have hc := SClone_spec bs (by omega)
 refine Bd Tryd.func82 Tryd.ntmps82 fun σ N hp hpn hk hkn hfree => ?_
 have g1 : ¬ (n : Int) < 0 := by omega
 have g2 : ¬ (281474976710656 : Int) < n := by omega
 have hcs := And.intro hc True.intro
 refine Wk ?_
 refine go_loop (aloop mixed (by kernel_rfl) (fun c => ∃ (m : Nat) (acc : List UInt8), c.s 1 = .lit (.int .i64 m) ∧ c.s 6 = .slice (some (N + 9)) ((bs ++ acc).map byteAV) ∧ c.σ (N + 9) = .row 5 1 (bs.length + acc.length) ∧ N + 10 ≤ c.n ∧ (∀ id, id < N → c.σ id = σ id) ∧ acc ++ leb m = leb n ∧ m ≤ 281474976710656)
  (fun c => match c.s 1 with | .lit (.int _ m) => m.toNat | _ => 0) ⟨n, [], by simp (disch := omega) [go_sem, *, -List.reduceReplicate], by simp (disch := omega) [go_sem, *, -List.reduceReplicate], by simp (disch := omega) [go_sem, *, -List.reduceReplicate], by simp, (fun id hid => by simp (disch := omega) only [upd_ne, wr_cons, wr_nil]; try exact hlow id hid), rfl, h⟩ ?_)
 rintro ⟨s, σ', n'⟩ ⟨m, acc, h0, h3, hr, hn', hlow, hacc, hm⟩
 simp only at h0 h3 hr hn' hlow
 have hal : acc.length ≤ 10 := by rw [← hacc, List.length_append] at hl; omega
 by_cases h : m < 128
 ·refine Wk ?_
  have hfin : (bs ++ leb n).map byteAV = (bs ++ acc).map byteAV ++ [.lit (.int .u8 (IntKind.u8.wrap (m : Int)))] := by
   rw [← hacc, leb_small h, ← List.append_assoc, List.map_append, List.map_cons, List.map_nil, byteAV_ofNat (by omega), IntKind.wrap_u8, Int.emod_eq_of_lt (by omega) (by omega)]
  have hlen : bs.length + (leb n).length = bs.length + acc.length + 1 := by rw [← hacc, leb_small h]; simp; omega
  rw [hfin]
  refine go_resultI (by simp (disch := omega) [go_sem, *, -List.reduceReplicate]; rfl) (AV.sub_tup (by repeat' first | exact ALe.nil | exact AV.le_refl _ | apply ALe.cons | ((first | apply AV.le_slices | apply AV.le_nilsE | apply AV.le_clipE); first | rfl | (simp (disch := omega) [go_sem, *, -List.reduceReplicate]; done)))) (by simp (disch := omega) [go_sem]; try rfl) (fun id hid => by simp (disch := omega) only [upd_ne]; try exact hlow id hid)
 ·have ha : bits .and .i64 (m : Int) 127 = (m : Int) % 128 := i64_and127 _ (by omega) (by omega)
  have ho : bits .or .i64 ((m : Int) % 128) 128 = (m : Int) % 128 + 128 := i64_or128 _ (by omega) (by omega)
  have hs : (m : Int).fdiv 128 = (m : Int) / 128 := by rw [Int.fdiv_eq_ediv]; simp
  have hb : IntKind.u8.wrap ((m : Int) % 128 + 128) = (m : Int) % 128 + 128 := by rw [IntKind.wrap_u8]; omega
  have hbv : byteAV (u8 (m % 128 + 128)) = .lit (.int .u8 ((m : Int) % 128 + 128)) := by rw [byteAV_ofNat (by omega)]; simp
  refine Wk ?_
  refine ⟨⟨m / 128, acc ++ [u8 (m % 128 + 128)], by simp (disch := omega) [go_sem, *, -List.reduceReplicate], by simp (disch := omega) [go_sem, *, -List.reduceReplicate], by simp (disch := omega) [go_sem, *, -List.reduceReplicate]; omega, by simp only; omega, (fun id hid => by simp (disch := omega) only [upd_ne]; try exact hlow id hid), by rw [← hacc, leb_big h]; simp, by omega⟩, ?_⟩
  simp (disch := omega) [go_sem, *, -List.reduceReplicate]
  omega

@[go_sem] theorem renl_rep0 (f : Nat → Option Nat) (n : Nat) (v : Value) : AV.renl f (List.replicate n (.lit v)) = List.replicate n (.lit v) := by
 rw [AV.renl_map, List.map_replicate]; rfl
theorem Grow_spec (n : Nat) (h0 : 0 < n) (hn : n ≤ 100000000) (k : Nat) :
  ACall Tryd.prog 140 [.nils, .lit (.int .i64 n)] k [] (.ms k 0 1 0 0) [(k, .mrow 0 5 1 (List.replicate n (.lit (.int .u8 0))))] := by
 have h1 : ¬ ((n : Int) < 0) := by omega
 have h2 : (0 : Int) < n := by omega
 refine Bd Tryd.func140 Tryd.ntmps140 fun σ N hp hpn hk hkn hfree => ?_
 refine Wk ?_
 apply go_capnil
 ·simp (disch := omega) [go_sem, *, -List.reduceReplicate]
  exact ⟨rfl, rfl, rfl, rfl⟩
 ·simp (disch := omega) [go_sem, *, -List.reduceReplicate]
 refine Wk ?_
 apply go_capnil
 ·simp (disch := omega) [go_sem, *, -List.reduceReplicate]
  exact ⟨rfl, rfl, rfl, rfl⟩
 ·simp (disch := omega) [go_sem, *, -List.reduceReplicate]
 refine Wk ?_
 apply go_mutZ
 ·(simp (disch := omega) [go_sem, *, -List.reduceReplicate]; try first | rfl | exact ⟨rfl, rfl⟩ | exact ⟨rfl, rfl, rfl⟩)
 refine Wk ?_
 refine go_result1 (r0 := N+18) (by simp (disch := omega) [go_sem, *, -List.reduceReplicate]; rfl) (by omega) (by simp (disch := omega) [go_sem]; try rfl) (fun id hid => by simp (disch := omega) only [upd_ne]; try exact hlow id hid) (by simp (disch := omega) only [upd_same]; rfl) (by simp (disch := omega) [go_sem])
theorem Concat_spec (a b : List UInt8) (h0 : 0 < a.length + b.length) (hl : a.length + b.length ≤ 100000000) (k : Nat) :
  ACall Tryd.prog 138 [.slice none [.slice none (a.map byteAV), .slice none (b.map byteAV)]] k [] (.slice (some k) ((a ++ b).map byteAV)) [(k, .row 5 1 (a ++ b).length)] := by
 obtain ⟨la, hla⟩ : ∃ x, a.length = x := ⟨_, rfl⟩
 obtain ⟨lb, hlb⟩ : ∃ x, b.length = x := ⟨_, rfl⟩
 rw [hla, hlb] at h0 hl
 have c1 := Grow_spec (la + lb) h0 hl
 have hab : a.map byteAV ++ b.map byteAV = (a ++ b).map byteAV := by rw [List.map_append]
 have hcl : (a ++ b).length = la + lb := by rw [List.length_append, hla, hlb]
 generalize a ++ b = c at *
 refine Bd Tryd.func138 Tryd.ntmps138 fun σ N hp hpn hk hkn hfree => ?_
 refine Wk ?_
 refine go_loopF mixed (by kernel_rfl) [3, 5, 11, 12, 13, 14, 15, 16, 17, 18, 19, 20, 21, 22] [] (fun m_ s_ σ_ n_ => ∃ (i : Nat) (z : Int), m_ = 2 - i ∧ s_ 11 = .lit (.int .i64 i) ∧ s_ 3 = .lit (.int .i64 z) ∧ ((i = 0 ∧ z = 0) ∨ (i = 1 ∧ z = la) ∨ (i = 2 ∧ z = la + lb))) ⟨_, 0, 0, rfl, WF, WF, WC⟩ ?_
 intro m_1 s_1 σ_1 n_1 hs_1 hf_1 hn_1 hI_1
 obtain ⟨i, z, hm_1, h1_11, h1_3, hi⟩ := hI_1
 have h1_0 := KS hs_1 0
 have h1_2 := KS hs_1 2
 have h1_9 := KS hs_1 9
 have h1_10 := KS hs_1 10
 have hlow := KL (N := N) (σ := σ) hf_1
 rcases hi with ⟨rfl, rfl⟩ | ⟨rfl, rfl⟩ | ⟨rfl, rfl⟩
 ·have hz : ¬ ((la : Int) < 0) := by omega
  refine Wk ?_
  exact ⟨WS, WG, WN, _, (show 2 - (1) < m_1 by omega), 1, la, rfl, WF, WF, WC⟩
 ·have hz : ¬ ((la : Int) + lb < 0) := by omega
  refine Wk ?_
  exact ⟨WS, WG, WN, _, (show 2 - (2) < m_1 by omega), 2, la + lb, rfl, WF, WF, WC⟩
 ·have hcs := And.intro c1 True.intro
  refine Wk ?_
  refine go_loopF mixed (by kernel_rfl) [6, 8, 27, 28, 29, 30, 31, 32, 33, 34] [n_1+2] (fun m_ s_ σ_ n_ => ∃ (i : Nat) (v : Nat) (m : Nat) (xs : List AV), m_ = 2 - i ∧ s_ 27 = .lit (.int .i64 i) ∧ s_ 6 = .ms (n_1 + 2) v 1 0 m ∧ σ_ (n_1+2) = .mrow v 5 1 xs ∧ ((i = 0 ∧ v = 0 ∧ m = 0 ∧ xs = List.replicate (la + lb) (.lit (.int .u8 0))) ∨ (i = 1 ∧ v = 1 ∧ la = m ∧ xs = a.map byteAV) ∨ (i = 2 ∧ v = 2 ∧ la + lb = m ∧ xs = c.map byteAV))) ⟨_, 0, 0, 0, List.replicate (la + lb) (.lit (.int .u8 0)), rfl, WF, WF, WF, WC⟩ ?_
  intro m_2 s_2 σ_2 n_2 hs_2 hf_2 hn_2 hI_2
  obtain ⟨i, v, m, xs, hm_2, h2_27, h2_6, e2_0, hi⟩ := hI_2
  have h2_2 := KS hs_2 2
  have h2_25 := KS hs_2 25
  have h2_26 := KS hs_2 26
  have hlow := KL (N := N) (σ := σ) hf_2
  rcases hi with ⟨rfl, rfl, rfl, rfl⟩ | ⟨rfl, rfl, rfl, rfl⟩ | ⟨rfl, rfl, rfl, rfl⟩
  ·refine Wk ?_
   exact ⟨WS, WG, WN, _, (show 2 - (1) < m_2 by omega), 1, 1, la, a.map byteAV, rfl, WF, WF, WF, WC⟩
  ·have ht : (a.map byteAV).take la = a.map byteAV := List.take_of_length_le (by simp [hla])
   refine Wk ?_
   exact ⟨WS, WG, WN, _, (show 2 - (2) < m_2 by omega), 2, 2, la + lb, c.map byteAV, rfl, WF, WF, WF, WC⟩
  ·clear hab
   refine go_freeze 6 (id := n_1 + 2) (xs := c.map byteAV) (k := la + lb) e2_0 h2_6 (by rw [List.length_map, hcl]) ?_
   refine Wk ?_
   refine go_result1 (r0 := n_1+2) (by simp (disch := omega) [go_sem, *, -List.reduceReplicate]; rfl) (by omega) (by simp (disch := omega) [go_sem]; try rfl) (fun id hid => by simp (disch := omega) only [upd_ne]; try exact hlow id hid) (by simp (disch := omega) only [upd_same]; rfl) (by simp (disch := omega) [go_sem])
end Go.Proofs.YtdmjpolnbmoehaaDoor

namespace Go.Proofs.YtdmjpolnbmoehaaDoor
open Go.Ab
attribute [local irreducible] Go.Ab.tyAV Go.Ab.aw Go.Ab.aops Go.Ab.kReg Go.Ab.aThen Go.Ab.aBlk Go.Ab.acond Go.Ab.aguard Go.Ab.astep Go.Ab.AStepX Go.Ab.aRet
theorem V8_len (v : V8) : v.l.length = 8 := rfl
@[go_sem] theorem v8_sz (v : V8) : (v8AV v).sz = 8 := by rw [v8AV, uuAV_sz, V8_len]
@[go_sem] theorem v8_isAgg (v : V8) : (v8AV v).isAgg = true := by rw [v8AV, uuAV_isAgg]
@[go_sem] theorem v8_cell (v : V8) : (v8AV v).cell = true := by rw [v8AV, uuAV_cell]
@[go_sem] theorem v8_ren (f : Nat → Option Nat) (v : V8) : (v8AV v).ren f = v8AV v := by rw [v8AV, uuAV_ren]
def hashAV (h : V8) (r : List UInt8) (n : Nat) : AV := .agg [v8AV h, .slice none (r.map byteAV), .lit (.int .i64 n)]
attribute [local irreducible] v8AV shaG
theorem drop_step (L : List UInt8) (hl : 64 ≤ L.length) : L.drop (64 * (L.length / 64)) = (L.drop 64).drop (64 * ((L.drop 64).length / 64)) := by
 rw [List.drop_drop, List.length_drop]; congr 1; omega
section
variable [W : W32]
def comp : Nat → V8 → List UInt8 → V8
 | 0, h, _ => h
 | q + 1, h, L => comp q (chg h (L.take 64)) (L.drop 64)
theorem comp_step (h : V8) (L : List UInt8) (hl : 64 ≤ L.length) : comp (L.length / 64) h L = comp ((L.drop 64).length / 64) (chg h (L.take 64)) (L.drop 64) := by
 have : L.length / 64 = (L.drop 64).length / 64 + 1 := by rw [List.length_drop]; omega
 rw [this, comp]
set_option maxHeartbeats 1000000 in
theorem Write_spec (h : V8) (r b : List UInt8) (n : Nat) (h0 : 0 < r.length + b.length) (hl : r.length + b.length ≤ 100000000) (hn : n ≤ 100000000) (k : Nat) {H : V8} {R : List UInt8} (hH : comp ((r ++ b).length / 64) h (r ++ b) = H) (hR : (r ++ b).drop (64 * ((r ++ b).length / 64)) = R) (g : Nat) :
  ACall Tryd.prog 130 [hashAV h r n, .slice none (b.map byteAV)] k [(g, shaG)] (hashAV H R (n + b.length)) [] := by
 have c1 := Concat_spec r b h0 hl
 have hbl : b.length ≤ 100000000 := by omega
 have hll : (r ++ b).length ≤ 100000000 := by rw [List.length_append]; exact hl
 obtain ⟨bl, hbl'⟩ : ∃ x, b.length = x := ⟨_, rfl⟩
 rw [hbl'] at hbl ⊢
 generalize r ++ b = L0 at *
 have hRl : R.length ≤ 100000000 := by rw [← hR, List.length_drop]; omega
 have c2 := SClone_spec R hRl
 have c3 : ∀ (v : V8) (B : List UInt8), B.length = 64 → ∀ k, ACall Tryd.prog 139 [v8AV v, .slice none (B.map byteAV)] k [(g, shaG)] (v8AV (chg v B)) [] := fun v B hB k => change_spec v B hB g k
 unfold hashAV
 refine Bd Tryd.func130 Tryd.ntmps130 fun σ N hp hpn hk hkn hfree => ?_
 obtain ⟨hd, hdn⟩ := HD0 hp hpn; clear hp hpn
 have hcs := And.intro c1 True.intro
 refine Wk ?_
 refine go_loopLF [5] mixed (by kernel_rfl) [5, 11, 12, 13, 14, 15, 16, 17, 18, 19, 20, 21] [N] (by decide) (fun m_ s_ σ_ n_ => ∃ (L : List UInt8) (v : V8), m_ = L.length ∧ s_ 5 = .slice none (L.map byteAV) ∧ σ_ (N) = .box 185 (.agg [v8AV v, .slice none (r.map byteAV), .lit (.int .i64 n)]) ∧ (L.length ≤ 100000000) ∧ (comp (L.length / 64) v L = H) ∧ (L.drop (64 * (L.length / 64)) = R)) ⟨_, L0, h, rfl, WF, WF, WC, WC, WC⟩ ?_
 intro m_1 s_1 σ_1 n_1 hs_1 hf_1 hn_1 hI_1
 obtain ⟨L, v, hm_1, h1_5, e1_0, hm, hH, hR⟩ := hI_1
 have h1_1 := KS hs_1 1
 have h1_2 := KS hs_1 2
 have h1_4 := KS hs_1 4
 have k1_0 := KE hf_1 (N+1)
 have k1_1 := KE hf_1 (g)
 have hlow := KL (N := N) (σ := σ) hf_1
 by_cases h64 : 64 ≤ L.length
 ·have h64' : (64 : Int) ≤ (L.length : Int) := by omega
  rw [comp_step v L h64] at hH
  rw [drop_step L h64] at hR
  have c4 := c3 v (L.take 64) (by rw [List.length_take]; omega)
  have hTm : (L.map byteAV).take 64 = (L.take 64).map byteAV := by rw [List.map_take]
  have hDm : (L.map byteAV).drop 64 = (L.drop 64).map byteAV := by rw [List.map_drop]
  have hDl : (L.drop 64).length = L.length - 64 := by rw [List.length_drop]
  generalize chg v (L.take 64) = v' at *
  generalize L.take 64 = T at *
  generalize L.drop 64 = D at *
  have hcs := And.intro c4 True.intro
  clear c1 c2 c3 c4
  refine Wk ?_
  clear hcs
  exact ⟨WS, WG, WN, _, (show (D).length < m_1 by omega), D, v', rfl, WF, WF, WC, WC, WC⟩
 ·have h64' : ¬ (64 : Int) ≤ (L.length : Int) := by omega
  have h0' : L.length / 64 = 0 := by omega
  rw [h0'] at hH hR
  simp only [comp, Nat.mul_zero, List.drop_zero] at hH hR
  subst hH hR
  have hwr : IntKind.i64.wrap ((n : Int) + bl) = n + bl := wrap_i64 (by omega) (by omega)
  have hcs := And.intro c2 True.intro
  clear c1 c2 c3
  rw [show ((n + bl : Nat) : Int) = (n : Int) + bl by omega]
  refine Wk ?_
  refine go_resultI (by simp (disch := omega) [go_sem, *, -List.reduceReplicate]; rfl) (AV.sub_agg (by repeat' first | exact ALe.nil | exact AV.le_refl _ | apply ALe.cons | ((first | apply AV.le_slices | apply AV.le_nilsE | apply AV.le_clipE); first | rfl | (simp (disch := omega) [go_sem, *, -List.reduceReplicate]; done)))) (by simp (disch := omega) [go_sem, -List.reduceReplicate]; try rfl) (fun id hid => by simp (disch := omega) only [upd_ne, wr_cons, wr_nil]; try exact hlow id hid)
end
end Go.Proofs.YtdmjpolnbmoehaaDoor

namespace Go.Proofs.YtdmjpolnbmoehaaDoor
open Go.Ab
attribute [local irreducible] Go.Ab.tyAV Go.Ab.aw Go.Ab.aops Go.Ab.kReg Go.Ab.aThen Go.Ab.aBlk Go.Ab.acond Go.Ab.aguard Go.Ab.astep Go.Ab.AStepX Go.Ab.aRet
def sh8 (m : Int) (s : Nat) : UInt8 := UInt8.ofNat ((m / (2 : Int) ^ s) % 256).toNat
theorem sh8_toNat (m : Int) (s : Nat) : ((sh8 m s).toNat : Int) = (m / (2 : Int) ^ s) % 256 := by
 unfold sh8
 rw [UInt8.toNat_ofNat']
 omega
theorem sh8_wrap (m : Int) (s : Nat) : IntKind.u8.wrap (m.fdiv ((2 : Int) ^ s)) = ((sh8 m s).toNat : Int) := by
 have hp : (0 : Int) ≤ 2 ^ s := Int.le_of_lt (Int.pow_pos (by decide))
 rw [sh8_toNat, IntKind.wrap_u8, Int.fdiv_eq_ediv, if_pos (.inl hp), Int.sub_zero]
def eightB (m : Int) : List UInt8 := [sh8 m 56, sh8 m 48, sh8 m 40, sh8 m 32, sh8 m 24, sh8 m 16, sh8 m 8, sh8 m 0]
theorem eightB_len (m : Int) : (eightB m).length = 8 := rfl
attribute [go_sem] ren_byteAV
theorem Eight_spec (m : Int) (_m0 : 0 ≤ m) (_m1 : m < 18446744073709551616) (k : Nat) :
  ACall Tryd.prog 61 [.lit (.int .u64 m)] k [] (.slice none ((eightB m).map byteAV)) [] := by
 have e7 := sh8_wrap m 56
 have e6 := sh8_wrap m 48
 have e5 := sh8_wrap m 40
 have e4 := sh8_wrap m 32
 have e3 := sh8_wrap m 24
 have e2 := sh8_wrap m 16
 have e1 := sh8_wrap m 8
 have e0 := sh8_wrap m 0
 simp only [Int.reducePow, Int.pow_zero, Int.fdiv_one] at e7 e6 e5 e4 e3 e2 e1 e0
 unfold eightB
 generalize sh8 m 56 = b7 at *
 generalize sh8 m 48 = b6 at *
 generalize sh8 m 40 = b5 at *
 generalize sh8 m 32 = b4 at *
 generalize sh8 m 24 = b3 at *
 generalize sh8 m 16 = b2 at *
 generalize sh8 m 8 = b1 at *
 generalize sh8 m 0 = b0 at *
 refine Bd Tryd.func61 Tryd.ntmps61 fun σ N hp hpn hk hkn hfree => ?_
 refine Wk ?_
 refine ALoop.nilrow 3 5 1 (by simp (disch := omega) [go_sem, *, -List.reduceReplicate]) ?_
 refine go_loopB (N) mixed (by kernel_rfl) [3, 4, 5, 6, 7, 8, 9, 10, 11, 12, 13, 14, 15, 16] [] (fun m_ s_ σ_ n_ => ∃ (u : Nat) (q : Nat) (acc : List UInt8), m_ = 8 - u ∧ s_ 4 = .lit (.int .i64 (56 - 8 * (u : Int))) ∧ s_ 3 = .slice (some q) (acc.map byteAV) ∧ σ_ (q) = .row 5 1 acc.length ∧ (u ≤ 8) ∧ (N ≤ q) ∧ (q < n_) ∧ (acc = [b7, b6, b5, b4, b3, b2, b1, b0].take u)) ⟨_, 0, _, [], rfl, WF, WF, WF, WC, WC, WC, WC⟩ ?_
 intro m_1 s_1 σ_1 n_1 hs_1 hf_1 hn_1 hI_1
 obtain ⟨u, q, acc, hm_1, h1_4, h1_3, e1_0, hu, hq, hqn, hacc⟩ := hI_1
 have h1_0 := KS hs_1 0
 have h1_2 := KS hs_1 2
 have hlow := KL (N := N) (σ := σ) hf_1
 have hb7 : byteAV b7 = .lit (.int .u8 b7.toNat) := rfl
 have hb6 : byteAV b6 = .lit (.int .u8 b6.toNat) := rfl
 have hb5 : byteAV b5 = .lit (.int .u8 b5.toNat) := rfl
 have hb4 : byteAV b4 = .lit (.int .u8 b4.toNat) := rfl
 have hb3 : byteAV b3 = .lit (.int .u8 b3.toNat) := rfl
 have hb2 : byteAV b2 = .lit (.int .u8 b2.toNat) := rfl
 have hb1 : byteAV b1 = .lit (.int .u8 b1.toNat) := rfl
 have hb0 : byteAV b0 = .lit (.int .u8 b0.toNat) := rfl
 have hcase : u = 0 ∨ u = 1 ∨ u = 2 ∨ u = 3 ∨ u = 4 ∨ u = 5 ∨ u = 6 ∨ u = 7 ∨ u = 8 := by omega
 rcases hcase with rfl | hcase
 ·simp only [List.take_zero] at hacc
  subst hacc
  refine Wk ?_
  exact ⟨WS, WG, WN, _, (show 8 - (1) < m_1 by omega), 1, q, [b7], rfl, WF, WF, WF, WC, WC, WC, WC⟩
 rcases hcase with rfl | hcase
 ·simp only [List.take_succ_cons, List.take_zero] at hacc
  subst hacc
  refine Wk ?_
  exact ⟨WS, WG, WN, _, (show 8 - (2) < m_1 by omega), 2, q, [b7, b6], rfl, WF, WF, WF, WC, WC, WC, WC⟩
 rcases hcase with rfl | hcase
 ·simp only [List.take_succ_cons, List.take_zero] at hacc
  subst hacc
  refine Wk ?_
  exact ⟨WS, WG, WN, _, (show 8 - (3) < m_1 by omega), 3, q, [b7, b6, b5], rfl, WF, WF, WF, WC, WC, WC, WC⟩
 rcases hcase with rfl | hcase
 ·simp only [List.take_succ_cons, List.take_zero] at hacc
  subst hacc
  refine Wk ?_
  exact ⟨WS, WG, WN, _, (show 8 - (4) < m_1 by omega), 4, q, [b7, b6, b5, b4], rfl, WF, WF, WF, WC, WC, WC, WC⟩
 rcases hcase with rfl | hcase
 ·simp only [List.take_succ_cons, List.take_zero] at hacc
  subst hacc
  refine Wk ?_
  exact ⟨WS, WG, WN, _, (show 8 - (5) < m_1 by omega), 5, q, [b7, b6, b5, b4, b3], rfl, WF, WF, WF, WC, WC, WC, WC⟩
 rcases hcase with rfl | hcase
 ·simp only [List.take_succ_cons, List.take_zero] at hacc
  subst hacc
  refine Wk ?_
  exact ⟨WS, WG, WN, _, (show 8 - (6) < m_1 by omega), 6, q, [b7, b6, b5, b4, b3, b2], rfl, WF, WF, WF, WC, WC, WC, WC⟩
 rcases hcase with rfl | hcase
 ·simp only [List.take_succ_cons, List.take_zero] at hacc
  subst hacc
  refine Wk ?_
  exact ⟨WS, WG, WN, _, (show 8 - (7) < m_1 by omega), 7, q, [b7, b6, b5, b4, b3, b2, b1], rfl, WF, WF, WF, WC, WC, WC, WC⟩
 rcases hcase with rfl | hcase
 ·simp only [List.take_succ_cons, List.take_zero] at hacc
  subst hacc
  refine Wk ?_
  exact ⟨WS, WG, WN, _, (show 8 - (8) < m_1 by omega), 8, q, [b7, b6, b5, b4, b3, b2, b1, b0], rfl, WF, WF, WF, WC, WC, WC, WC⟩
 subst hcase
 simp only [List.take_succ_cons, List.take_zero] at hacc
 subst hacc
 exact WM
end Go.Proofs.YtdmjpolnbmoehaaDoor

namespace Go.Proofs.YtdmjpolnbmoehaaDoor
open Go.Ab
attribute [local irreducible] Go.Ab.tyAV Go.Ab.aw Go.Ab.aops Go.Ab.kReg Go.Ab.aThen Go.Ab.aBlk Go.Ab.acond Go.Ab.aguard Go.Ab.astep Go.Ab.AStepX Go.Ab.aRet
attribute [local irreducible] v8AV shaG
theorem shaNew_spec (k : Nat) : ACall Tryd.prog 131 [] k [] (hashAV iv8 [] 0) [] := by
 unfold hashAV iv8
 rw [v8AV]
 simp only [V8.l, List.map_nil]
 refine Bd Tryd.func131 Tryd.ntmps131 fun σ N hp hpn hk hkn hfree => ?_
 refine Wk ?_
 refine go_resultI (by simp (disch := omega) [go_sem, *, -List.reduceReplicate]; rfl) (AV.sub_agg (by repeat' first | exact ALe.nil | exact AV.le_refl _ | apply ALe.cons | ((first | apply AV.le_slices | apply AV.le_nilsE | apply AV.le_clipE); first | rfl | (simp (disch := omega) [go_sem, *, -List.reduceReplicate]; done)))) (by simp (disch := omega) [go_sem, -List.reduceReplicate]; try rfl) (fun id hid => by simp (disch := omega) only [upd_ne]; try exact hlow id hid)
def dig (v : V8) : List UInt8 := (List.range 32).map fun i => sh8 (v.l.getD (i / 4) 0) (24 - 8 * (i % 4))
theorem dig_len (v : V8) : (dig v).length = 32 := by simp [dig]
theorem dig_at (v : V8) (i c : Nat) (_hi : i < 8) (hc : c < 4) (h : 4 * i + c < (dig v).length := by simp only [dig_len]; omega) : (dig v)[4 * i + c] = sh8 (v.l.getD i 0) (24 - 8 * c) := by
 simp only [dig, List.getElem_map, List.getElem_range]
 have h1 : (4 * i + c) / 4 = i := by omega
 have h2 : (4 * i + c) % 4 = c := by omega
 rw [h1, h2]
def digT (v : V8) : Tg := ⟨dig v, dig_len v⟩
def pT (D : Tg) (i : Nat) : Tg := if h : i ≤ 32 then ⟨D.1.take i ++ List.replicate (32 - i) 0, by rw [List.length_append, List.length_take, List.length_replicate, D.2]; omega⟩ else D
theorem pT_0 (D : Tg) : pT D 0 = zeroTag := rfl
theorem pT_32 (D : Tg) : pT D 32 = D := by
 apply Subtype.ext
 simp only [pT, Nat.le_refl, dif_pos, Nat.sub_self, List.replicate_zero, List.append_nil]
 exact List.take_of_length_le (by rw [D.2]; omega)
theorem pT_step (D : Tg) (i : Nat) (h : i < 32) (b : UInt8) (hb : D.1[i]'(by rw [D.2]; exact h) = b) : setT (pT D i) i b = pT D (i + 1) := by
 apply Subtype.ext
 have hl : i < D.1.length := by rw [D.2]; exact h
 simp only [setT, pT, dif_pos (show i ≤ 32 by omega), dif_pos (show i + 1 ≤ 32 by omega)]
 rw [List.set_append_right _ _ (by rw [List.length_take]; omega), List.length_take, show i - min i D.1.length = 0 by omega, show 32 - i = (32 - (i + 1)) + 1 by omega, List.replicate_succ, List.set_cons_zero, List.take_add_one, List.getElem?_eq_getElem hl, hb]
 simp
def padB (rl n : Nat) : List UInt8 := 128 :: (List.replicate ((119 - rl % 64) % 64) 0 ++ eightB (8 * (n : Int)))
theorem padB_len (rl n : Nat) : (padB rl n).length = (119 - rl % 64) % 64 + 9 := by simp [padB, eightB]
theorem idx8 (H : V8) (i : Nat) (hi : i < 8) {u v : AV} (hu : u = v8AV H) (hv : v = .lit (.int .i64 i)) : evIndexA Tryd.prog 178 u v = some (.lit (.int .u32 (H.l.getD i 0))) := by
 subst hu hv
 have hT : tyInfo Tryd.prog 177 = some (false, 1) := by kernel_rfl
 have hA : arrInfo Tryd.prog 178 = some (8, 177, 1) := by kernel_rfl
 have hl : i < H.l.length := by rw [V8_len]; exact hi
 have hg : (H.l.map uAV)[i]? = some (.lit (.int .u32 (H.l.getD i 0))) := by
  rw [List.getElem?_map, List.getElem?_eq_getElem hl, List.getD_eq_getElem?_getD, List.getElem?_eq_getElem hl]; rfl
 have hs : AV.szl ((H.l.map uAV).take i) = i := by rw [szl_take_us, V8_len]; omega
 rw [v8AV, uuAV]
 simp only [evIndexA, Int.toNat_natCast, hA, hg]
 simp [hT, hs, hi, AV.isAgg, AV.sz, AV.one]
section
variable [W : W32]
set_option maxHeartbeats 2000000 in
theorem Sum_spec (h : V8) (r : List UInt8) (n : Nat) (hl : r.length ≤ 10000000) (hn : n ≤ 10000000) {H : V8} (hH : comp ((r ++ padB r.length n).length / 64) h (r ++ padB r.length n) = H) (g k : Nat) :
  ACall Tryd.prog 129 [hashAV h r n] k [(g, shaG)] (tagAV (digT H)) [] := by
 obtain ⟨R, hR⟩ : ∃ R, (r ++ padB r.length n).drop (64 * ((r ++ padB r.length n).length / 64)) = R := ⟨_, rfl⟩
 have hpl := padB_len r.length n
 have c1 := Write_spec h r (padB r.length n) n (by omega) (by omega) (by omega) (hH := hH) (hR := hR) (g := g)
 obtain ⟨pl, hpl'⟩ : ∃ x, (padB r.length n).length = x := ⟨_, rfl⟩
 rw [hpl'] at c1
 clear hpl'
 clear hH hR
 generalize hrl : r.length = rl at hl hpl c1
 obtain ⟨K, hK⟩ : ∃ K, (119 - rl % 64) % 64 = K := ⟨_, rfl⟩
 unfold padB at c1
 rw [hK] at c1
 unfold hashAV at *
 refine Bd Tryd.func129 Tryd.ntmps129 fun σ N hp hpn hk hkn hfree => ?_
 obtain ⟨hd, hdn⟩ := HD0 hp hpn; clear hp hpn
 refine Wk ?_
 refine go_loopB (N+2) mixed (by kernel_rfl) [3, 10, 11, 12, 13, 14, 15, 16, 17, 18, 19, 20] [] (fun m_ s_ σ_ n_ => ∃ (z : Nat) (q : Nat) (p : List UInt8), m_ = K - z ∧ s_ 3 = .slice (some q) (p.map byteAV) ∧ σ_ (q) = .row 5 1 p.length ∧ (z ≤ K) ∧ (p = 128 :: List.replicate z 0) ∧ (N + 2 ≤ q) ∧ (q < n_)) ⟨_, 0, _, [128], rfl, WF, WF, WC, WC, WC, WC⟩ ?_
 intro m_1 s_1 σ_1 n_1 hs_1 hf_1 hn_1 hI_1
 obtain ⟨z, q, p, hm_1, h1_3, e1_0, hz, hp, hq, hqn⟩ := hI_1
 have h1_1 := KS hs_1 1
 have h1_2 := KS hs_1 2
 have k1_0 := KE hf_1 (N)
 have k1_1 := KE hf_1 (N+1)
 have k1_2 := KE hf_1 (g)
 have hlow := KL (N := N) (σ := σ) hf_1
 have hpz : p.length = z + 1 := by rw [hp]; simp
 have hKb : K < 64 := by omega
 have htm : ((rl : Int) + (p.length : Int)).tmod 64 = (((rl + p.length) % 64 : Nat) : Int) := by rw [Int.tmod_eq_emod_of_nonneg (by omega)]; omega
 by_cases hzK : z = K
 ·subst hzK
  have hM : (rl + p.length) % 64 = 56 := by omega
  rw [hM] at htm
  obtain ⟨P, hP⟩ : ∃ P, p = P := ⟨_, rfl⟩
  have hPl : p.length ≤ 64 := by omega
  have hPe : (128 :: (List.replicate z 0 ++ eightB (8 * (n : Int)))) = p ++ eightB (8 * (n : Int)) := by rw [hp]; rfl
  rw [hPe] at c1
  clear hPe hp hM hpz hP
  have hw8 : IntKind.u64.wrap ((n : Int) * 8) = 8 * (n : Int) := by rw [wrap_u64r (by omega) (by omega)]; omega
  have hwn : IntKind.u64.wrap (n : Int) = (n : Int) := wrap_u64r (by omega) (by omega)
  have e7 := sh8_wrap (8 * (n : Int)) 56
  have e6 := sh8_wrap (8 * (n : Int)) 48
  have e5 := sh8_wrap (8 * (n : Int)) 40
  have e4 := sh8_wrap (8 * (n : Int)) 32
  have e3 := sh8_wrap (8 * (n : Int)) 24
  have e2 := sh8_wrap (8 * (n : Int)) 16
  have e1 := sh8_wrap (8 * (n : Int)) 8
  have e0 := sh8_wrap (8 * (n : Int)) 0
  simp only [Int.reducePow, Int.pow_zero, Int.fdiv_one] at e7 e6 e5 e4 e3 e2 e1 e0
  unfold eightB at c1
  generalize sh8 (8 * (n : Int)) 56 = b7 at *
  generalize sh8 (8 * (n : Int)) 48 = b6 at *
  generalize sh8 (8 * (n : Int)) 40 = b5 at *
  generalize sh8 (8 * (n : Int)) 32 = b4 at *
  generalize sh8 (8 * (n : Int)) 24 = b3 at *
  generalize sh8 (8 * (n : Int)) 16 = b2 at *
  generalize sh8 (8 * (n : Int)) 8 = b1 at *
  generalize sh8 (8 * (n : Int)) 0 = b0 at *
  generalize 8 * (n : Int) = m at *
  refine Wk ?_
  refine go_loopB (N+2) mixed (by kernel_rfl) [3, 5, 25, 26, 27, 28, 29, 30, 31, 32, 33, 34, 35] [] (fun m_ s_ σ_ n_ => ∃ (u : Nat) (q' : Nat) (acc : List UInt8), m_ = 8 - u ∧ s_ 5 = .lit (.int .i64 (56 - 8 * (u : Int))) ∧ s_ 3 = .slice (some q') ((p ++ acc).map byteAV) ∧ σ_ (q') = .row 5 1 (p.length + acc.length) ∧ (u ≤ 8) ∧ (N + 2 ≤ q') ∧ (q' < n_) ∧ (acc = [b7, b6, b5, b4, b3, b2, b1, b0].take u)) ⟨_, 0, q, [], rfl, WF, WF, WF, WC, WC, WC, WC⟩ ?_
  intro m_2 s_2 σ_2 n_2 hs_2 hf_2 hn_2 hI_2
  obtain ⟨u, q', acc, hm_2, h2_5, h2_3, e2_0, hu, hq', hqn', hacc⟩ := hI_2
  have h2_1 := KS hs_2 1
  have h2_2 := KS hs_2 2
  have h2_4 := KS hs_2 4
  have k2_0 := KE hf_2 (N)
  have k2_1 := KE hf_2 (N+1)
  have k2_2 := KE hf_2 (g)
  have hlow := KL (N := N) (σ := σ) hf_2
  have hb7 : byteAV b7 = .lit (.int .u8 b7.toNat) := rfl
  have hb6 : byteAV b6 = .lit (.int .u8 b6.toNat) := rfl
  have hb5 : byteAV b5 = .lit (.int .u8 b5.toNat) := rfl
  have hb4 : byteAV b4 = .lit (.int .u8 b4.toNat) := rfl
  have hb3 : byteAV b3 = .lit (.int .u8 b3.toNat) := rfl
  have hb2 : byteAV b2 = .lit (.int .u8 b2.toNat) := rfl
  have hb1 : byteAV b1 = .lit (.int .u8 b1.toNat) := rfl
  have hb0 : byteAV b0 = .lit (.int .u8 b0.toNat) := rfl
  have hcase : u = 0 ∨ u = 1 ∨ u = 2 ∨ u = 3 ∨ u = 4 ∨ u = 5 ∨ u = 6 ∨ u = 7 ∨ u = 8 := by omega
  rcases hcase with rfl | hcase
  ·simp only [List.take_zero] at hacc
   subst hacc
   refine Wk ?_
   exact ⟨WS, WG, WN, _, (show 8 - (1) < m_2 by omega), 1, _, [b7], rfl, WF, WF, WF, WC, WC, WC, WC⟩
  rcases hcase with rfl | hcase
  ·simp only [List.take_succ_cons, List.take_zero] at hacc
   subst hacc
   refine Wk ?_
   exact ⟨WS, WG, WN, _, (show 8 - (2) < m_2 by omega), 2, _, [b7, b6], rfl, WF, WF, WF, WC, WC, WC, WC⟩
  rcases hcase with rfl | hcase
  ·simp only [List.take_succ_cons, List.take_zero] at hacc
   subst hacc
   refine Wk ?_
   exact ⟨WS, WG, WN, _, (show 8 - (3) < m_2 by omega), 3, _, [b7, b6, b5], rfl, WF, WF, WF, WC, WC, WC, WC⟩
  rcases hcase with rfl | hcase
  ·simp only [List.take_succ_cons, List.take_zero] at hacc
   subst hacc
   refine Wk ?_
   exact ⟨WS, WG, WN, _, (show 8 - (4) < m_2 by omega), 4, _, [b7, b6, b5, b4], rfl, WF, WF, WF, WC, WC, WC, WC⟩
  rcases hcase with rfl | hcase
  ·simp only [List.take_succ_cons, List.take_zero] at hacc
   subst hacc
   refine Wk ?_
   exact ⟨WS, WG, WN, _, (show 8 - (5) < m_2 by omega), 5, _, [b7, b6, b5, b4, b3], rfl, WF, WF, WF, WC, WC, WC, WC⟩
  rcases hcase with rfl | hcase
  ·simp only [List.take_succ_cons, List.take_zero] at hacc
   subst hacc
   refine Wk ?_
   exact ⟨WS, WG, WN, _, (show 8 - (6) < m_2 by omega), 6, _, [b7, b6, b5, b4, b3, b2], rfl, WF, WF, WF, WC, WC, WC, WC⟩
  rcases hcase with rfl | hcase
  ·simp only [List.take_succ_cons, List.take_zero] at hacc
   subst hacc
   refine Wk ?_
   exact ⟨WS, WG, WN, _, (show 8 - (7) < m_2 by omega), 7, _, [b7, b6, b5, b4, b3, b2, b1], rfl, WF, WF, WF, WC, WC, WC, WC⟩
  rcases hcase with rfl | hcase
  ·simp only [List.take_succ_cons, List.take_zero] at hacc
   subst hacc
   refine Wk ?_
   exact ⟨WS, WG, WN, _, (show 8 - (8) < m_2 by omega), 8, _, [b7, b6, b5, b4, b3, b2, b1, b0], rfl, WF, WF, WF, WC, WC, WC, WC⟩
  subst hcase
  simp only [List.take_succ_cons, List.take_zero] at hacc
  subst hacc
  have hcs := And.intro c1 True.intro
  clear c1
  clear e0 e1 e2 e3 e4 e5 e6 e7 hb0 hb1 hb2 hb3 hb4 hb5 hb6 hb7
  refine Wk ?_
  refine go_fieldA (e := 178) (q := 0) (xs := [v8AV H, .slice none (R.map byteAV), .lit (.int .i64 ((n + pl : Nat) : Int))]) (y := v8AV H) (by kernel_rfl) (by simp (disch := omega) [go_sem, *, -List.reduceReplicate]) rfl rfl (by rw [v8_isAgg, v8_sz]; kernel_rfl) (.inl (v8_isAgg H)) ?_
  have hD0 : pT (digT H) (4 * 0) = zeroTag := pT_0 _
  refine Wk ?_
  refine go_loopF mixed (by kernel_rfl) [7, 8, 40, 41, 42, 43, 44, 45, 46, 47, 48, 49, 50, 51, 52, 53, 54, 55, 56, 57, 58, 59, 60, 61, 62, 63, 64, 65, 66, 67, 68, 69, 70] [n_2+2] (fun m_ s_ σ_ n_ => ∃ (i : Nat) (P : Tg), m_ = 8 - i ∧ s_ 40 = .lit (.int .i64 i) ∧ σ_ (n_2+2) = .box 24 (tagAV P) ∧ (i ≤ 8) ∧ (pT (digT H) (4 * i) = P)) ⟨_, 0, zeroTag, rfl, WF, WF, WC, WC⟩ ?_
  intro m_3 s_3 σ_3 n_3 hs_3 hf_3 hn_3 hI_3
  obtain ⟨i, P, hm_3, h3_40, e3_0, hi, hP⟩ := hI_3
  have h3_2 := KS hs_3 2
  have h3_6 := KS hs_3 6
  have h3_39 := KS hs_3 39
  have k3_0 := KE hf_3 (N+1)
  have k3_1 := KE hf_3 (g)
  have hlow := KL (N := N) (σ := σ) hf_3
  by_cases hi8 : i = 8
  ·subst hi8
   have : P = digT H := by rw [← hP]; exact pT_32 _
   subst this
   exact W0
  ·have hil : (i : Int) < 8 := by omega
   have hil' : i < 8 := by omega
   obtain ⟨x, hx⟩ : ∃ x, H.l.getD i 0 = x := ⟨_, rfl⟩
   have d0 := dig_at H i 0 hil' (by omega)
   have d1 := dig_at H i 1 hil' (by omega)
   have d2 := dig_at H i 2 hil' (by omega)
   have d3 := dig_at H i 3 hil' (by omega)
   rw [hx] at d0 d1 d2 d3
   have s0 := pT_step (digT H) (4 * i) (by omega) _ d0
   have s1 := pT_step (digT H) (4 * i + 1) (by omega) _ d1
   have s2 := pT_step (digT H) (4 * i + 2) (by omega) _ d2
   have s3 := pT_step (digT H) (4 * i + 3) (by omega) _ d3
   have e0 := sh8_wrap x 24
   have e1 := sh8_wrap x 16
   have e2 := sh8_wrap x 8
   have e3 := sh8_wrap x 0
   simp only [Nat.mul_zero, Nat.mul_one, Nat.reduceMul, Nat.sub_zero, Nat.reduceSub] at s0 s1 s2 s3
   simp only [Int.reducePow, Int.pow_zero, Int.fdiv_one] at e0 e1 e2 e3
   clear d0 d1 d2 d3
   have h4 : 4 * (i + 1) = 4 * i + 3 + 1 := by omega
   rw [hP] at s0
   generalize sh8 x 24 = b0 at *
   generalize sh8 x 16 = b1 at *
   generalize sh8 x 8 = b2 at *
   generalize sh8 x 0 = b3 at *
   obtain ⟨P1, hP1⟩ : ∃ z, pT (digT H) (4 * i + 1) = z := ⟨_, rfl⟩
   obtain ⟨P2, hP2⟩ : ∃ z, pT (digT H) (4 * i + 2) = z := ⟨_, rfl⟩
   obtain ⟨P3, hP3⟩ : ∃ z, pT (digT H) (4 * i + 3) = z := ⟨_, rfl⟩
   obtain ⟨P4, hP4⟩ : ∃ z, pT (digT H) (4 * (i + 1)) = z := ⟨_, rfl⟩
   rw [show 4 * i + 3 + 1 = 4 * (i + 1) by omega, hP3, hP4] at s3
   rw [show 4 * i + 1 + 1 = 4 * i + 2 by omega, hP1, hP2] at s1
   rw [show 4 * i + 2 + 1 = 4 * i + 3 by omega, hP2, hP3] at s2
   rw [hP1] at s0
   clear hP1 hP2 hP3 hP h4
   have i0 : (4 * (i : Int)).toNat = 4 * i := by omega
   have i1 : (4 * (i : Int) + 1).toNat = 4 * i + 1 := by omega
   have i2 : (4 * (i : Int) + 2).toNat = 4 * i + 2 := by omega
   have i3 : (4 * (i : Int) + 3).toNat = 4 * i + 3 := by omega
   have l0 : 4 * i < 32 := by omega
   have l1 : 4 * i + 1 < 32 := by omega
   have l2 : 4 * i + 2 < 32 := by omega
   have l3 : 4 * i + 3 < 32 := by omega
   have t0 : (tagAV P).put [4 * i] (.lit (.int .u8 (b0.toNat : Int))) = tagAV P1 := by rw [← s0]; exact tag_put P (4 * i) b0 l0
   have t1 : (tagAV P1).put [4 * i + 1] (.lit (.int .u8 (b1.toNat : Int))) = tagAV P2 := by rw [← s1]; exact tag_put P1 (4 * i + 1) b1 l1
   have t2 : (tagAV P2).put [4 * i + 2] (.lit (.int .u8 (b2.toNat : Int))) = tagAV P3 := by rw [← s2]; exact tag_put P2 (4 * i + 2) b2 l2
   have t3 : (tagAV P3).put [4 * i + 3] (.lit (.int .u8 (b3.toNat : Int))) = tagAV P4 := by rw [← s3]; exact tag_put P3 (4 * i + 3) b3 l3
   clear s0 s1 s2 s3
   refine Wk ?_
   refine go_indexA (v := .lit (.int .u32 x)) (by rw [← hx]; exact idx8 H i hil' (by simp (disch := omega) [go_sem, *, -List.reduceReplicate]) (by simp (disch := omega) [go_sem, *, -List.reduceReplicate])) ?_
   clear hx
   refine Wk ?_
   exact ⟨WS, WG, WN, _, (show 8 - (i + 1) < m_3 by omega), i + 1, P4, rfl, WF, WF, WC, WC⟩
 ·have hM : (rl + p.length) % 64 ≠ 56 := by omega
  have htm2 : ((rl : Int) + ((z : Int) + 1)).tmod 64 = (((rl + p.length) % 64 : Nat) : Int) := by rw [← htm]; congr 1; omega
  clear htm
  generalize (rl + p.length) % 64 = M at *
  have hM1 : ((M : Int) != 56) = true := by simp; omega
  have hp2 : 128 :: List.replicate (z + 1) 0 = p ++ [0] := by rw [hp, List.replicate_succ']; rfl
  have hb0 : byteAV 0 = .lit (.int .u8 0) := rfl
  clear hp
  have hpl3 : (p ++ [0]).length = z + 1 + 1 := by simp; omega
  obtain ⟨p', hp'⟩ : ∃ x, p ++ [0] = x := ⟨_, rfl⟩
  have hp4 : p.map byteAV ++ [.lit (.int .u8 0)] = p'.map byteAV := by rw [← hp', List.map_append]; rfl
  rw [hp'] at hp2 hpl3
  have hp5 := hp2.symm
  clear hp2 hp'
  refine Wk ?_
  exact ⟨WS, WG, WN, _, (show K - (z + 1) < m_1 by omega), z + 1, _, p', rfl, WF, WF, WC, WC, WC, WC⟩
end

theorem padB_mod {a b : Nat} (h : a % 64 = b % 64) (n : Nat) : padB a n = padB b n := by rw [padB, padB, h]
theorem Initial_spec (k : Nat) : ACall Tryd.prog 123 [] k [] (v8AV iv8) [] := by
 rw [v8AV]
 unfold iv8
 simp only [V8.l]
 refine Bd Tryd.func123 Tryd.ntmps123 fun σ N hp hpn hk hkn hfree => ?_
 exact W0
section
variable [W : W32]
theorem comp_add (h : V8) (L : List UInt8) : ∀ (q1 q2 : Nat), comp (q1 + q2) h L = comp q2 (comp q1 h L) (L.drop (64 * q1)) := by
 intro q1
 induction q1 generalizing h L with
 | zero => intro q2; simp [comp]
 | succ q1 ih =>
  intro q2
  rw [show q1 + 1 + q2 = (q1 + q2) + 1 by omega, comp, comp, ih, List.drop_drop, show 64 + 64 * q1 = 64 * (q1 + 1) by omega]
theorem comp_app (h : V8) (b p : List UInt8) : ∀ (q : Nat), 64 * q ≤ b.length → comp q h (b ++ p) = comp q h b := by
 intro q
 induction q generalizing h b with
 | zero => intro _; rfl
 | succ q ih =>
  intro hq
  rw [comp, comp, List.take_append_of_le_length (by omega), List.drop_append_of_le_length (by omega), ih _ _ (by rw [List.length_drop]; omega)]
def shaV (b : List UInt8) : V8 := comp ((b ++ padB b.length b.length).length / 64) iv8 (b ++ padB b.length b.length)
def shaT (b : List UInt8) : Tg := digT (shaV b)
theorem shaV_split (b : List UInt8) (H : V8) (R : List UInt8) (hH : comp (b.length / 64) iv8 b = H) (hR : b.drop (64 * (b.length / 64)) = R) :
  comp ((R ++ padB R.length b.length).length / 64) H (R ++ padB R.length b.length) = shaV b := by
 have hRl : R.length = b.length % 64 := by rw [← hR, List.length_drop]; omega
 have hp : padB R.length b.length = padB b.length b.length := padB_mod (by rw [hRl]; omega) _
 have hpl := padB_len b.length b.length
 rw [shaV, hp]
 generalize padB b.length b.length = p at *
 have e1 : (b ++ p).length / 64 = b.length / 64 + (R ++ p).length / 64 := by rw [List.length_append, List.length_append, hRl]; omega
 rw [e1, comp_add, comp_app iv8 b p (b.length / 64) (by omega), hH, List.drop_append_of_le_length (by omega), hR]
set_option maxHeartbeats 2000000 in
theorem Sha_spec (b : List UInt8) (hl : b.length ≤ 1000000) (k : Nat) :
  ACall Tryd.prog 95 [.slice none (b.map byteAV)] k [] (tagAV (shaT b)) [] := by
 have c1 := Eight_spec (8 * (b.length : Int)) (by omega) (by omega)
 have c2 := Initial_spec
 have hpl := padB_len b.length b.length
 have hM : b ++ padB b.length b.length = b ++ 128 :: (List.replicate ((119 - b.length % 64) % 64) 0 ++ eightB (8 * (b.length : Int))) := rfl
 have hT : shaT b = digT (comp ((b ++ padB b.length b.length).length / 64) iv8 (b ++ padB b.length b.length)) := rfl
 rw [hT]
 have hel := eightB_len (8 * (b.length : Int))
 generalize eightB (8 * (b.length : Int)) = E at *
 generalize b ++ padB b.length b.length = M at *
 obtain ⟨K, hK⟩ : ∃ K, (119 - b.length % 64) % 64 = K := ⟨_, rfl⟩
 rw [hK] at hM
 refine Bd Tryd.func95 Tryd.ntmps95 fun σ N hp hpn hk hkn hfree => ?_
 refine Wk ?_
 refine go_loopB (N+1) mixed (by kernel_rfl) [3, 13, 14, 15, 16, 17, 18, 19] [] (fun m_ s_ σ_ n_ => ∃ (z : Nat) (q : Nat) (p : List UInt8), m_ = K - z ∧ s_ 3 = .slice (some q) (p.map byteAV) ∧ σ_ (q) = .row 5 1 p.length ∧ (z ≤ K) ∧ (p = b ++ 128 :: List.replicate z 0) ∧ (p.length = b.length + (z + 1)) ∧ (N + 1 ≤ q) ∧ (q < n_)) ⟨_, 0, _, b ++ [128], rfl, WF, WF, WC, WC, WC, WC, WC⟩ ?_
 intro m_1 s_1 σ_1 n_1 hs_1 hf_1 hn_1 hI_1
 obtain ⟨z, q, p, hm_1, h1_3, e1_0, hz, hp, hpz, hq, hqn⟩ := hI_1
 have h1_0 := KS hs_1 0
 have h1_2 := KS hs_1 2
 have k1_0 := KE hf_1 (N)
 have hlow := KL (N := N) (σ := σ) hf_1
 have hKb : K < 64 := by omega
 by_cases hzK : z = K
 ·subst hzK
  have htm : (p.length : Int).tmod 64 = 56 := by rw [Int.tmod_eq_emod_of_nonneg (by omega)]; omega
  have hPe : M = p ++ E := by rw [hM, hp]; simp
  have hpl2 : p.length ≤ 2000000 := by omega
  have hml : p.length + E.length = M.length := by rw [hPe, List.length_append]
  have hmm : p.map byteAV ++ E.map byteAV = M.map byteAV := by rw [hPe, List.map_append]
  have hM64 : M.length % 64 = 0 := by omega
  have hMl : M.length ≤ 3000000 := by omega
  have hw8 : IntKind.u64.wrap ((b.length : Int) * 8) = 8 * (b.length : Int) := by rw [wrap_u64r (by omega) (by omega)]; omega
  have hwn : IntKind.u64.wrap (b.length : Int) = (b.length : Int) := wrap_u64r (by omega) (by omega)
  have hcs := And.intro c1 (And.intro c2 True.intro)
  obtain ⟨H, hH⟩ : ∃ H, comp (M.length / 64) iv8 M = H := ⟨_, rfl⟩
  have hH0 : comp ((M.drop 0).length / 64) iv8 (M.drop 0) = H := hH
  rw [hH]
  clear hPe hp hpz c1 c2 hM hH
  refine Wk ?_
  refine go_loopF mixed (by kernel_rfl) [5, 28, 29, 30, 31, 32, 33, 34, 35, 36, 37, 38, 39, 40] [n_1+13] (fun m_ s_ σ_ n_ => ∃ (i : Nat) (v : V8), m_ = M.length - i ∧ s_ 5 = .lit (.int .i64 i) ∧ σ_ (n_1+13) = .box 178 (v8AV v) ∧ (i ≤ M.length) ∧ ((M.length - i) % 64 = 0) ∧ (comp ((M.drop i).length / 64) v (M.drop i) = H)) ⟨_, 0, iv8, rfl, WF, WF, WC, WC, WC⟩ ?_
  intro m_2 s_2 σ_2 n_2 hs_2 hf_2 hn_2 hI_2
  obtain ⟨i, v, hm_2, h2_5, e2_0, hi, hi64, hv⟩ := hI_2
  have h2_2 := KS hs_2 2
  have h2_3 := KS hs_2 3
  have h2_4 := KS hs_2 4
  have k2_0 := KE hf_2 (N)
  have hlow := KL (N := N) (σ := σ) hf_2
  by_cases hie : i = M.length
  ·subst hie
   have hvH : v = H := by rw [← hv]; simp [comp]
   subst hvH
   clear hv
   have hD0 : pT (digT v) 0 = zeroTag := pT_0 _
   refine Wk ?_
   refine go_loopF mixed (by kernel_rfl) [7, 41, 42, 43, 44, 45, 46, 47, 48, 49, 50, 51, 52, 53, 54, 55, 56, 57] [n_2+4] (fun m_ s_ σ_ n_ => ∃ (i : Nat) (P : Tg), m_ = 32 - i ∧ s_ 7 = .lit (.int .i64 i) ∧ σ_ (n_2+4) = .box 24 (tagAV P) ∧ (i ≤ 32) ∧ (pT (digT v) i = P)) ⟨_, 0, zeroTag, rfl, WF, WF, WC, WC⟩ ?_
   intro m_3 s_3 σ_3 n_3 hs_3 hf_3 hn_3 hI_3
   obtain ⟨i, P, hm_3, h3_7, e3_0, hi, hP⟩ := hI_3
   have h3_2 := KS hs_3 2
   have h3_4 := KS hs_3 4
   have h3_6 := KS hs_3 6
   have k3_0 := KE hf_3 (N)
   have k3_1 := KE hf_3 (n_1+13)
   have hlow := KL (N := N) (σ := σ) hf_3
   by_cases hi32 : i = 32
   ·subst hi32
    have : P = digT v := by rw [← hP]; exact pT_32 _
    subst this
    exact W0
   ·have hil : (i : Int) < 32 := by omega
    have hil' : i < 32 := by omega
    obtain ⟨w, c, hic, hc, hw⟩ : ∃ w c, i = 4 * w + c ∧ c < 4 ∧ w < 8 := ⟨i / 4, i % 4, by omega, by omega, by omega⟩
    have hdv : (i : Int).tdiv 4 = w := by rw [Int.tdiv_eq_ediv_of_nonneg (by omega)]; omega
    have hdm : (i : Int).tmod 4 = c := by rw [Int.tmod_eq_emod_of_nonneg (by omega)]; omega
    obtain ⟨x, hx⟩ : ∃ x, v.l.getD w 0 = x := ⟨_, rfl⟩
    have d0 := dig_at v w c hw hc
    rw [hx] at d0
    have hg : (v8AV v).get [w] = some (.lit (.int .u32 x)) := by rw [v8AV, uu_getD v.l w (by rw [V8_len]; exact hw), hx]
    have ho : (v8AV v).offs [w] = w := by rw [v8AV, uu_offs v.l w (by rw [V8_len]; exact hw)]
    have s0 := pT_step (digT v) (4 * w + c) (by omega) _ d0
    have e0 := sh8_wrap x (24 - 8 * c)
    rw [← hic, hP] at s0
    generalize sh8 x (24 - 8 * c) = b0 at *
    obtain ⟨P1, hP1⟩ : ∃ z, pT (digT v) (i + 1) = z := ⟨_, rfl⟩
    rw [hP1] at s0
    have t0 : (tagAV P).put [i] (.lit (.int .u8 (b0.toNat : Int))) = tagAV P1 := by rw [← s0]; exact tag_put P i b0 hil'
    have hw8 : (w : Int) < 8 := by omega
    clear hx d0 s0 hP hic
    have hcc : c = 0 ∨ c = 1 ∨ c = 2 ∨ c = 3 := by omega
    rcases hcc with rfl | rfl | rfl | rfl
    all_goals (
     simp only [Nat.mul_zero, Nat.mul_one, Nat.reduceMul, Nat.sub_zero, Nat.reduceSub, Int.reducePow, Int.pow_zero, Int.fdiv_one] at e0
     refine Wk ?_
     exact ⟨WS, WG, WN, _, (show 32 - (i + 1) < m_3 by omega), i + 1, P1, rfl, WF, WF, WC, WC⟩)
  ·have hi64' : i + 64 ≤ M.length := by omega
   have hil : (i : Int) < (M.length : Int) := by omega
   have hdl : (M.drop i).length = M.length - i := List.length_drop
   rw [comp_step v (M.drop i) (by omega), List.drop_drop] at hv
   have c4 := refblock_spec v ((M.drop i).take 64) (by rw [List.length_take]; omega)
   have hTm : ((M.map byteAV).take (i + 64)).drop i = ((M.drop i).take 64).map byteAV := by rw [← List.map_take, ← List.map_drop, List.drop_take, Nat.add_sub_cancel_left]
   have hTi : ((i : Int) + 64).toNat = i + 64 := by omega
   generalize chg v ((M.drop i).take 64) = v' at *
   generalize (M.drop i).take 64 = T at *
   have hcs := And.intro c4 True.intro
   clear c4 hdl
   refine Wk ?_
   exact ⟨WS, WG, WN, _, (show M.length - (i + 64) < m_2 by omega), i + 64, v', rfl, WF, WF, WC, WC, WC⟩
 ·have htm : (p.length : Int).tmod 64 = ((p.length % 64 : Nat) : Int) := by rw [Int.tmod_eq_emod_of_nonneg (by omega)]; omega
  have hM' : p.length % 64 ≠ 56 := by omega
  have hpl2 : p.length ≤ 2000000 := by omega
  have hpl3 : p.length + 1 = b.length + (z + 1 + 1) := by omega
  generalize p.length % 64 = Q at *
  have hM1 : ((Q : Int) != 56) = true := by simp; omega
  obtain ⟨p', hp'⟩ : ∃ x, p ++ [0] = x := ⟨_, rfl⟩
  have hp2 : p' = b ++ 128 :: List.replicate (z + 1) 0 := by rw [← hp', hp, List.append_assoc, List.cons_append, ← List.replicate_succ']
  have hp4 : p.map byteAV ++ [.lit (.int .u8 0)] = p'.map byteAV := by rw [← hp', List.map_append]; rfl
  have hp5 : p'.length = p.length + 1 := by rw [← hp', List.length_append]; rfl
  clear hp hp' hpz hM c1 c2
  refine Wk ?_
  exact ⟨WS, WG, WN, _, (show K - (z + 1) < m_1 by omega), z + 1, _, p', rfl, WF, WF, WC, WC, WC, WC, WC⟩
end
end Go.Proofs.YtdmjpolnbmoehaaDoor

namespace Go.Proofs.YtdmjpolnbmoehaaDoor
open Go.Ab
attribute [local irreducible] Go.Ab.tyAV Go.Ab.aw Go.Ab.aops Go.Ab.kReg Go.Ab.aThen Go.Ab.aBlk Go.Ab.acond Go.Ab.aguard Go.Ab.astep Go.Ab.AStepX Go.Ab.aRet
attribute [local irreducible] shaG
def x8 (a b : UInt8) : UInt8 := UInt8.ofNat (bits .xor .u8 (a.toNat : Int) (b.toNat : Int)).toNat
theorem x8_eq (a b : UInt8) : bits .xor .u8 (a.toNat : Int) (b.toNat : Int) = ((x8 a b).toNat : Int) := by
 have h := IntKind.wrap_u8 (bits .xor .u8 (a.toNat : Int) (b.toNat : Int))
 have hw : IntKind.u8.wrap (bits .xor .u8 (a.toNat : Int) (b.toNat : Int)) = bits .xor .u8 (a.toNat : Int) (b.toNat : Int) := by
  simp only [bits, IntKind.wrap_u8]; omega
 rw [hw] at h
 unfold x8
 rw [UInt8.toNat_ofNat']
 omega
def padK (key : List UInt8) (x : UInt8) : List UInt8 := (List.range 64).map fun i => if h : i < key.length then x8 key[i] x else x
theorem padK_len (key : List UInt8) (x : UInt8) : (padK key x).length = 64 := by simp [padK]
theorem padK_at (key : List UInt8) (x : UInt8) (i : Nat) (_hi : i < 64) (h : i < (padK key x).length) : (padK key x)[i] = if h : i < key.length then x8 key[i] x else x := by
 simp [padK]
def padC (key : List UInt8) (x : UInt8) (i : Nat) : List UInt8 := (padK key x).take i ++ List.replicate (64 - i) 0
theorem padC_0 (key : List UInt8) (x : UInt8) : padC key x 0 = List.replicate 64 0 := by simp [padC]
theorem padC_64 (key : List UInt8) (x : UInt8) : padC key x 64 = padK key x := by
 unfold padC
 rw [List.take_of_length_le (by rw [padK_len]; exact Nat.le_refl _)]; simp
theorem padC_len (key : List UInt8) (x : UInt8) (i : Nat) (hi : i ≤ 64) : (padC key x i).length = 64 := by
 unfold padC
 rw [List.length_append, List.length_take, padK_len, List.length_replicate]; omega
theorem padC_set (key : List UInt8) (x : UInt8) (i : Nat) (hi : i < 64) (v : UInt8) (hv : (padK key x)[i]'(by rw [padK_len]; exact hi) = v) : (padC key x i).set i v = padC key x (i + 1) := by
 unfold padC
 have hl : ((padK key x).take i).length = i := by rw [List.length_take, padK_len]; omega
 rw [List.set_append_right _ _ (by omega), hl, Nat.sub_self]
 obtain ⟨m, hm⟩ : ∃ m, 64 - i = m + 1 := ⟨63 - i, by omega⟩
 have hm2 : 64 - (i + 1) = m := by omega
 rw [hm, hm2, List.replicate_succ, List.set_cons_zero, List.take_succ_eq_append_getElem (by rw [padK_len]; exact hi), hv]
 simp
set_option maxHeartbeats 1000000 in
theorem padded_spec (key : List UInt8) (x : UInt8) (k : Nat) :
  ACall Tryd.prog 96 [.slice none (key.map byteAV), .lit (.int .u8 x.toNat)] k [] (.slice (some k) ((padK key x).map byteAV)) [(k, .row 5 1 64)] := by
 have hxb : byteAV x = .lit (.int .u8 x.toNat) := rfl
 have h0 : List.replicate 64 (AV.lit (.int .u8 0)) = (padC key x 0).map byteAV := by rw [padC_0, List.map_replicate]; rfl
 obtain ⟨q0, hq0⟩ : ∃ q, padC key x 0 = q := ⟨_, rfl⟩
 rw [hq0] at h0
 refine Bd Tryd.func96 Tryd.ntmps96 fun σ N hp hpn hk hkn hfree => ?_
 have M : Mut (N + 1) := ⟨⟩
 refine Wk ?_
 refine go_loopF mixed (by kernel_rfl) [6, 8, 9, 10, 11, 12, 13, 14, 15, 16, 17, 18, 19, 20, 21, 22, 23, 24, 25, 26, 27, 28] [N+1] (fun m_ s_ σ_ n_ => ∃ (i : Nat) (cur : List UInt8), m_ = 64 - i ∧ s_ 6 = .lit (.int .i64 i) ∧ s_ 5 = .ms (N + 1) 0 1 0 64 ∧ σ_ (N+1) = .mrow 0 5 1 (cur.map byteAV) ∧ (i ≤ 64) ∧ (padC key x i = cur)) ⟨_, 0, q0, rfl, WF, WF, WF, WC, WC⟩ ?_
 intro m_1 s_1 σ_1 n_1 hs_1 hf_1 hn_1 hI_1
 obtain ⟨i, cur, hm_1, h1_6, h1_5, e1_0, hi, hc⟩ := hI_1
 have h1_0 := KS hs_1 0
 have h1_1 := KS hs_1 1
 have h1_4 := KS hs_1 4
 have h1_5 := KS hs_1 5
 have hlow := KL (N := N) (σ := σ) hf_1
 have hcl := padC_len key x i hi
 rw [hc] at hcl
 by_cases h64 : i = 64
 ·subst h64
  rw [padC_64] at hc
  have hpl := padK_len key x
  rw [hc] at hpl ⊢
  clear hc h0 M hpl
  generalize hP : cur = P at *
  refine Wm ?_
  iterate 1 refine Wz ?_
  refine go_freeze 5 (id := N + 1) (ver := 0) (size := 1) (e := 5) (xs := P.map byteAV) (k := 64) (by simp (disch := omega) [go_sem, *, -List.reduceReplicate]) (by simp (disch := omega) [go_sem, *, -List.reduceReplicate]) (by simp (disch := omega) [go_sem, *, -List.reduceReplicate]) ?_
  refine Wk ?_
  refine go_result1 (r0 := N+1) (by simp (disch := omega) [go_sem, *, -List.reduceReplicate]; rfl) (by omega) (by simp (disch := omega) [go_sem]; try rfl) (fun id hid => by simp (disch := omega) only [upd_ne]; try exact hlow id hid) (by simp (disch := omega) [go_sem, *, -List.reduceReplicate]; rfl) (by simp (disch := omega) [go_sem])
 ·have hi2 : i < 64 := by omega
  have hi2i : (i : Int) < 64 := by omega
  have hat := padK_at key x i hi2 (by rw [padK_len]; exact hi2)
  by_cases hk : i < key.length
  ·rw [dif_pos hk] at hat
   have hki : (i : Int) < (key.length : Int) := by omega
   obtain ⟨z, hz⟩ : ∃ z, key[i] = z := ⟨_, rfl⟩
   rw [hz] at hat
   have hx := x8_eq z x
   have hs := padC_set key x i hi2 _ hat
   have hzb : byteAV z = .lit (.int .u8 z.toNat) := rfl
   rw [hc] at hs
   have hset1 := set_bytes cur i x
   obtain ⟨c1, hc1⟩ : ∃ c1, cur.set i x = c1 := ⟨_, rfl⟩
   have hset2 := set_bytes c1 i (x8 z x)
   rw [← hc1, List.set_set, hs, hc1] at hset2
   rw [hc1] at hset1
   have hl1 : c1.length = 64 := by rw [← hc1, List.length_set]; exact hcl
   generalize x8 z x = v at *
   have hvb : byteAV v = .lit (.int .u8 v.toNat) := rfl
   rw [hxb] at hset1
   rw [hvb] at hset2
   generalize hc' : padC key x (i + 1) = c2 at *
   clear hs hat hc hc1 h0 M hxb hzb hvb
   refine Wk ?_
   exact ⟨WS, WG, WN, _, (show 64 - (i + 1) < m_1 by omega), i + 1, c2, rfl, WF, WF, WF, WC, WC⟩
  ·rw [dif_neg hk] at hat
   have hki : ¬ (i : Int) < (key.length : Int) := by omega
   have hs := padC_set key x i hi2 _ hat
   have hset := set_bytes cur i x
   rw [hc] at hs
   rw [hs] at hset
   rw [hxb] at hset
   generalize hc' : padC key x (i + 1) = c2 at *
   clear hs hat hc h0 M hxb
   refine Wk ?_
   exact ⟨WS, WG, WN, _, (show 64 - (i + 1) < m_1 by omega), i + 1, c2, rfl, WF, WF, WF, WC, WC⟩
end Go.Proofs.YtdmjpolnbmoehaaDoor
