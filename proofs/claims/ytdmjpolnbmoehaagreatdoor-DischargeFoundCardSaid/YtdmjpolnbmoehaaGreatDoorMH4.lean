/- Texts X4, X5, X6, C16, X7, X8, X9, X16, X21, U16p, U9, U17, joined. -/
import Derived.Test.YtdmjpolnbmoehaaGreatDoorMH3

namespace Go.Proofs.YtdmjpolnbmoehaaGreatDoor
open Go.Ab
attribute [local irreducible] Go.Ab.tyAV Go.Ab.aw Go.Ab.aops Go.Ab.kReg Go.Ab.aThen Go.Ab.aBlk Go.Ab.acond Go.Ab.aguard Go.Ab.astep Go.Ab.AStepX Go.Ab.aRet
attribute [local irreducible] shaG
section
variable [W : W32]
end

section
variable [W : W32]
end

def o8 (a b : UInt8) : UInt8 := a ||| b
theorem o8_eq (a b : UInt8) : bits .or .u8 (a.toNat : Int) (b.toNat : Int) = ((o8 a b).toNat : Int) := by
 have ha := a.toNat_lt
 have hb := b.toNat_lt
 have h2 := (a ||| b).toNat_lt
 have h3 : (BitVec.ofInt 8 (a.toNat : Int) ||| BitVec.ofInt 8 (b.toNat : Int)).toNat = (a ||| b).toNat := by
  rw [UInt8.toNat_or, BitVec.toNat_or]
  congr 1
  ·rw [BitVec.ofInt_natCast, BitVec.toNat_ofNat]; exact Nat.mod_eq_of_lt ha
  ·rw [BitVec.ofInt_natCast, BitVec.toNat_ofNat]; exact Nat.mod_eq_of_lt hb
 show IntKind.u8.wrap (((BitVec.ofInt 8 (a.toNat : Int) ||| BitVec.ofInt 8 (b.toNat : Int)).toNat : Nat) : Int) = _
 rw [h3, IntKind.wrap_u8]
 unfold o8
 omega
theorem x8_zero {a b : UInt8} : x8 a b = 0 ↔ a = b := by
 rw [x8_xor]; exact UInt8.xor_eq_zero_iff
theorem o8_zero {a b : UInt8} : o8 a b = 0 ↔ a = 0 ∧ b = 0 := by
 unfold o8; exact UInt8.or_eq_zero_iff
theorem hEqual_spec (a b : List UInt8) (ha : a.length ≤ 100000) (_hb : b.length ≤ 100000) (k : Nat) :
  ACall Tryz.prog 144 [.slice none (a.map byteAV), .slice none (b.map byteAV)] k [] (.lit (.bool (decide (a = b)))) [] := by
 by_cases hl : a.length = b.length
 ·refine Bd Tryz.func144 Tryz.ntmps144 fun σ N hp hpn hk hkn hfree => ?_
  refine Wk ?_
  refine go_loopF mixed (by kernel_rfl) [5, 6, 14, 15, 16, 17, 18, 19, 20, 21, 22, 23, 24, 25, 26, 27, 28] [] (fun m_ s_ σ_ n_ => ∃ (u : Nat) (d : UInt8), m_ = a.length - u ∧ s_ 14 = .lit (.int .i64 u) ∧ s_ 5 = .lit (.int .u8 d.toNat) ∧ (u ≤ a.length) ∧ (d = 0 ↔ a.take u = b.take u)) ⟨_, 0, 0, rfl, WF, WF, WC, WC⟩ ?_
  intro m_1 s_1 σ_1 n_1 hs_1 hf_1 hn_1 hI_1
  obtain ⟨u, d, hm_1, h1_14, h1_5, hu, hd⟩ := hI_1
  have h1_0 := KS hs_1 0
  have h1_1 := KS hs_1 1
  have h1_4 := KS hs_1 4
  have h1_13 := KS hs_1 13
  have hlow := KL (N := N) (σ := σ) hf_1
  by_cases hul : u = a.length
  ·have hr : decide (d = 0) = decide (a = b) := by
    have : (d = 0) ↔ a = b := by
     rw [hd, hul, List.take_length, hl, List.take_length]
    simp only [this]
   have hr2 : ((d.toNat : Int) == 0) = decide (a = b) := by
    rw [← hr]
    by_cases h0 : d = 0
    ·subst h0; rfl
    ·rw [decide_eq_false h0, beq_eq_false_iff_ne]
     intro h1
     exact h0 (UInt8.toNat_inj.1 (by simpa using h1))
   have hr3 : decide ((d.toNat : Int) = 0) = decide (a = b) := hr2
   generalize decide (a = b) = R at *
   subst hul
   clear hd hr
   exact W0
  ·have hua : u < a.length := by omega
   have hub : u < b.length := by omega
   obtain ⟨x, hx⟩ : ∃ x, a[u] = x := ⟨_, rfl⟩
   obtain ⟨y, hy⟩ : ∃ y, b[u] = y := ⟨_, rfl⟩
   have hxx : byteAV x = .lit (.int .u8 x.toNat) := rfl
   have hyy : byteAV y = .lit (.int .u8 y.toNat) := rfl
   have h1 := x8_eq x y
   have h2 := o8_eq d (x8 x y)
   have h3 : o8 d (x8 x y) = 0 ↔ a.take (u + 1) = b.take (u + 1) := by
    rw [o8_zero, x8_zero, hd, List.take_succ_eq_append_getElem hua, List.take_succ_eq_append_getElem hub, hx, hy]
    constructor
    ·rintro ⟨e1, e2⟩; rw [e1, e2]
    ·intro e
     have := List.append_inj e (by rw [List.length_take, List.length_take]; omega)
     exact ⟨this.1, by simpa using this.2⟩
   clear hd
   generalize x8 x y = v at *
   generalize o8 d v = w at *
   refine Wk ?_
   exact ⟨WS, WG, WN, _, (show a.length - (u + 1) < m_1 by omega), u + 1, w, rfl, WF, WF, WC, WC⟩
 ·rw [decide_eq_false (fun h => hl (by rw [h]))]
  have hl2 : ((a.length : Int) != (b.length : Int)) = true := by simp; omega
  refine Bd Tryz.func144 Tryz.ntmps144 fun σ N hp hpn hk hkn hfree => ?_
  exact W0
section
variable [W : W32]
set_option maxHeartbeats 1000000 in
theorem pOpen_free (sd : Tg) (fs : Int) (L : List MacE) (B : List BoxE) (key : Tg) (b : List UInt8) (hl : B.length ≤ 1000000) (hm : ∀ e ∈ B, e.plain.length ≤ 100000 ∧ e.box.length ≤ 100000) (hb : b.length ≤ 100000) (g k : Nat) :
  ACall Tryz.prog 68 [algAV ⟨true, sd, fs, L, B⟩, tagAV key, .slice none (b.map byteAV)] k [(g, shaG)] (soAV (openS ⟨true, sd, fs, L, B⟩ key b)) [] := by
 unfold openS
 rw [if_pos rfl]
 simp only
 generalize hR : openL key b B = R
 refine Bd Tryz.func68 Tryz.ntmps68 fun σ N hp hpn hk hkn hfree => ?_
 obtain ⟨hd, hdn⟩ := HD0 hp hpn; clear hp hpn
 have haA : algAV ⟨true, sd, fs, L, B⟩ = .agg [.lit (.bool true), tagAV sd, .lit (.int .i64 fs), .slice none (L.map macAV), .slice none (B.map sealAV)] := rfl
 refine Wk ?_
 refine go_loopF mixed (by kernel_rfl) [6, 7, 9, 17, 18, 19, 20, 21, 22, 23, 24, 25, 26, 27, 28, 29, 30, 31, 32, 33, 34] [N, N+1] (fun m_ s_ σ_ n_ => ∃ (u : Nat), m_ = B.length - u ∧ s_ 17 = .lit (.int .i64 u) ∧ σ_ (N) = .box 38 (.agg [.lit (.bool true), tagAV sd, .lit (.int .i64 fs), .slice none (L.map macAV), .slice none (B.map sealAV)]) ∧ σ_ (N+1) = .box 29 (tagAV key) ∧ (u ≤ B.length) ∧ (openL key b (B.drop u) = R)) ⟨_, 0, rfl, WF, WF, WF, WC, WC⟩ ?_
 intro m_2 s_2 σ_2 n_2 hs_2 hf_2 hn_2 hI_2
 obtain ⟨u, hm_2, h2_17, e2_0, e2_1, hu, hd⟩ := hI_2
 have h2_2 := KS hs_2 2
 have h2_4 := KS hs_2 4
 have h2_15 := KS hs_2 15
 have h2_16 := KS hs_2 16
 have k2_0 := KE hf_2 (g)
 have hlow := KL (N := N) (σ := σ) hf_2
 clear haA
 by_cases hul : u = B.length
 ·subst hul
  rw [List.drop_length] at hd
  simp only [openL] at hd
  subst hd
  clear hR hm
  unfold soAV
  simp only [List.map_nil]
  exact WL
 ·have hu1 : u < B.length := by omega
  rw [List.drop_eq_getElem_cons hu1, openL] at hd
  have hmz := hm _ (List.getElem_mem hu1)
  obtain ⟨z, hz⟩ : ∃ z, B[u] = z := ⟨_, rfl⟩
  rw [hz] at hd hmz
  obtain ⟨zk, zn, zp, zb⟩ := z
  simp only at hd hmz
  have hzd : sealAV ⟨zk, zn, zp, zb⟩ = .agg [tagAV zk, .lit (.int .i64 zn), bAV zp, bAV zb] := rfl
  have hzb := bAV_def zp
  have hzb2 := bAV_def zb
  obtain ⟨hmz1, hmz2⟩ := hmz
  have c1 := Equal_spec zb b (by omega) (by omega)
  have c2 := Clone_spec zp (by omega)
  clear hR hm
  by_cases h1 : zk = key
  ·by_cases h3 : zb = b
   ·rw [if_pos ⟨h1, h3⟩] at hd
    subst hd
    rw [decide_eq_true h3] at c1
    have hcs := And.intro c1 (And.intro c2 True.intro)
    clear c1 c2
    subst h1
    subst h3
    unfold soAV
    simp only
    exact WL
   ·rw [if_neg (fun h => h3 h.2)] at hd
    rw [decide_eq_false h3] at c1
    have hcs := And.intro c1 True.intro
    clear c1 c2
    subst h1
    refine Wk ?_
    exact ⟨WS, WG, WN, _, (show B.length - (u + 1) < m_2 by omega), u + 1, rfl, WF, WF, WF, WC, WC⟩
  ·rw [if_neg (fun h => h1 h.1)] at hd
   have d1 : decide (zk = key) = false := decide_eq_false h1
   clear c1 c2
   refine Wk ?_
   exact ⟨WS, WG, WN, _, (show B.length - (u + 1) < m_2 by omega), u + 1, rfl, WF, WF, WF, WC, WC⟩
set_option maxHeartbeats 1000000 in
theorem pOpen_real (sd : Tg) (fs : Int) (L : List MacE) (B : List BoxE) (key : Tg) (b : List UInt8) (hb : b.length ≤ 100000) (g k : Nat) :
  ACall Tryz.prog 68 [algAV ⟨false, sd, fs, L, B⟩, tagAV key, .slice none (b.map byteAV)] k [(g, shaG)] (soAV (openS ⟨false, sd, fs, L, B⟩ key b)) [] := by
 unfold openS
 rw [if_neg (by simp)]
 have haA : algAV ⟨false, sd, fs, L, B⟩ = .agg [.lit (.bool false), tagAV sd, .lit (.int .i64 fs), .slice none (L.map macAV), .slice none (B.map sealAV)] := rfl
 unfold soAV
 by_cases h1 : b.length < 40
 ·rw [if_pos (.inl h1)]
  have h1i : (b.length : Int) < 40 := by omega
  simp only [List.map_nil]
  refine Bd Tryz.func68 Tryz.ntmps68 fun σ N hp hpn hk hkn hfree => ?_
  obtain ⟨hd, hdn⟩ := HD0 hp hpn; clear hp hpn
  exact WL
 have h1i : ¬ (b.length : Int) < 40 := by omega
 by_cases h2 : 296 < b.length
 ·rw [if_pos (.inr h2)]
  have h2i : (296 : Int) < (b.length : Int) := by omega
  simp only [List.map_nil]
  refine Bd Tryz.func68 Tryz.ntmps68 fun σ N hp hpn hk hkn hfree => ?_
  obtain ⟨hd, hdn⟩ := HD0 hp hpn; clear hp hpn
  exact WL
 have h2i : ¬ (296 : Int) < (b.length : Int) := by omega
 rw [if_neg (by omega)]
 have hn32 : ((b.length : Int) - 32).toNat = b.length - 32 := by omega
 have hn32i : (0 : Int) ≤ (b.length : Int) - 32 := by omega
 have hA1 : (b.map byteAV).take (b.length - 32) = (b.take (b.length - 32)).map byteAV := by rw [List.map_take]
 have hD1 : (b.map byteAV).drop (b.length - 32) = (b.drop (b.length - 32)).map byteAV := by rw [List.map_drop]
 have hD2 : ((b.take (b.length - 32)).map byteAV).drop 8 = ((b.take (b.length - 32)).drop 8).map byteAV := by rw [List.map_drop]
 have hl1 : (b.take (b.length - 32)).length = b.length - 32 := by rw [List.length_take]; omega
 have hl2 : (b.drop (b.length - 32)).length = 32 := by rw [List.length_drop]; omega
 have hL8 : (b.take 8).length = 8 := by rw [List.length_take]; omega
 have hT8 : (b.take (b.length - 32)).take 8 = b.take 8 := by rw [List.take_take, Nat.min_eq_left (by omega)]
 have hE8 := eight_be8 (b.take 8) hL8
 have c1 := bCheck_spec key (b.take (b.length - 32)) (by omega) g
 have c3 := bCrypt_spec key (be8 (b.take 8) : Int) ((b.take (b.length - 32)).drop 8) (by rw [List.length_drop]; omega) g
 rw [hE8] at c3
 have hD3 : ((b.take (b.length - 32)).map byteAV).take 8 = (b.take 8).map byteAV := by rw [← List.map_take, hT8]
 generalize hmacT key.1 ([98, 111, 120] ++ b.take (b.length - 32)) = T at *
 have c2 := hEqual_spec T.1 (b.drop (b.length - 32)) (by rw [T.2]; decide) (by omega)
 have ht1 := tagAV_sz T
 have ht2 := tagAV_cell T
 obtain ⟨T, hT⟩ := T
 have htA : tagAV ⟨T, hT⟩ = .agg (T.map byteAV) := rfl
 simp only [htA] at ht1 ht2 c1 c2 ⊢
 clear htA hE8 hT8
 have htk2 : (T.map byteAV).take 32 = T.map byteAV := List.take_of_length_le (by rw [List.length_map]; omega)
 generalize b.take 8 = N8 at *
 by_cases h3 : T = b.drop (b.length - 32)
 ·rw [if_pos h3]
  rw [decide_eq_true h3] at c2
  simp only
  generalize strmB key.1 (be8 N8 : Int) ((b.take (b.length - 32)).drop 8) = St at *
  clear h3
  generalize (b.take (b.length - 32)).drop 8 = Bq at *
  generalize b.drop (b.length - 32) = Dr at *
  generalize b.take (b.length - 32) = Tk at *
  have hTk : (Tk.map byteAV).take (b.length - 32) = Tk.map byteAV := List.take_of_length_le (by rw [List.length_map]; omega)
  refine Bd Tryz.func68 Tryz.ntmps68 fun σ N hp hpn hk hkn hfree => ?_
  obtain ⟨hd, hdn⟩ := HD0 hp hpn; clear hp hpn
  have hcs := And.intro c1 (And.intro c2 (And.intro c3 True.intro))
  clear c1 c2 c3
  exact WL
 ·rw [if_neg h3]
  rw [decide_eq_false h3] at c2
  simp only [List.map_nil]
  clear h3 c3
  generalize b.drop (b.length - 32) = Dr at *
  generalize b.take (b.length - 32) = Tk at *
  refine Bd Tryz.func68 Tryz.ntmps68 fun σ N hp hpn hk hkn hfree => ?_
  obtain ⟨hd, hdn⟩ := HD0 hp hpn; clear hp hpn
  have hcs := And.intro c1 (And.intro c2 True.intro)
  clear c1 c2
  exact WL
theorem pOpen_spec (a : Alg) (m : Nat) (ha : AlgIn a m) (hm : m ≤ 900000) (key : Tg) (b : List UInt8) (hb : b.length ≤ 100000) (g k : Nat) :
  ACall Tryz.prog 68 [algAV a, tagAV key, .slice none (b.map byteAV)] k [(g, shaG)] (soAV (openS a key b)) [] := by
 obtain ⟨fr, sd, fs, L, B⟩ := a
 cases fr with
 | true => exact pOpen_free sd fs L B key b (by have := ha.bl; simp only at this; omega) ha.bm hb g k
 | false => exact pOpen_real sd fs L B key b hb g k
end
end Go.Proofs.YtdmjpolnbmoehaaGreatDoor

namespace Go.Ab
open Go.RowKit
def LQP (W0 : World) (g : Ghost) (N : Nat) (D : List Deferred) (Q : AExit → Cfg → Prop) (QP : List PanicEntry → Cfg → Prop) : Exit → Act → World → Prop := fun e a w =>
 ∃ c g', g.le g' ∧ SimA W0 g' N c a w ∧ a.defers = D ∧ match e with
  | .normal => Q .normal c
  | .exit id => Q (.exit id) c
  | .ret => Q .ret c
  | .panic ch => QP ch c
  | _ => False
theorem LQP.mono {W0 : World} {g g' : Ghost} {N : Nat} {D D' : List Deferred} {Q : AExit → Cfg → Prop} {QP : List PanicEntry → Cfg → Prop} (hg : g.le g') (hD : D' = D) {e : Exit} {a : Act} {w : World} (h : LQP W0 g' N D' Q QP e a w) : LQP W0 g N D Q QP e a w :=
 let ⟨c, g'', hle, hs, hm, hq⟩ := h
 ⟨c, g'', hg.trans hle, hs, hm.trans hD, hq⟩
def awP (P : Program) (N : Nat) (b : Code) (Q : AExit → Cfg → Prop) (QP : List PanicEntry → Cfg → Prop) (c : Cfg) : Prop :=
 codeOK N b = true → P.follows .mixedOrders = true → ∀ W0 g a w, SimA W0 g N c a w → b.wpIn (wideAt none) 0 P (LQP W0 g N a.defers Q QP) a w
section
variable {P : Program} {N : Nat} {Q : AExit → Cfg → Prop} {QP : List PanicEntry → Cfg → Prop} {c : Cfg}
theorem goP_skip (h : Q .normal c) : awP P N .skip Q QP c := fun _ _ _ g _ _ hS => wpIn_skip ⟨c, g, g.le_refl, hS, rfl, h⟩
theorem goP_ret (h : Q .ret c) : awP P N .ret Q QP c := fun _ _ _ g _ _ hS => wpIn_ret ⟨c, g, g.le_refl, hS, rfl, h⟩
theorem goP_seq {x y : Code} (h : awP P N x (aThen (awP P N y Q QP) Q) QP c) : awP P N (.seq x y) Q QP c := fun hok hmix W0 g a w hS => by
 simp only [codeOK, Bool.and_eq_true] at hok
 refine wpIn_seq (wpIn_mono (h hok.1 hmix W0 g a w hS) fun e a' w' hq => ?_)
 obtain ⟨c', g', hle, hS', hM, hq⟩ := hq
 cases e with
 | normal => exact wpIn_mono (hq hok.2 hmix W0 g' a' w' hS') fun e a w hq => hq.mono hle hM
 | exit id => exact ⟨c', g', hle, hS', hM, hq⟩
 | ret => exact ⟨c', g', hle, hS', hM, hq⟩
 | panic => exact ⟨c', g', hle, hS', hM, hq⟩
 | goto => exact hq.elim
 | outgrown => exact hq.elim
theorem goP_condT {x : Operand} {y z : Code} (hv : aeval c.s x = .lit (.bool true)) (h : awP P N y Q QP c) : awP P N (.cond x y z) Q QP c := fun hok hmix W0 g a w hS => by
 simp only [codeOK, Bool.and_eq_true] at hok
 have hr := hS.eval hok.1.1
 rw [hv] at hr
 exact wpIn_cond_split (rep_lit_inv hr) (fun _ => h hok.1.2 hmix W0 g a w hS) (fun hb' => by cases hb')
theorem goP_condF {x : Operand} {y z : Code} (hv : aeval c.s x = .lit (.bool false)) (h : awP P N z Q QP c) : awP P N (.cond x y z) Q QP c := fun hok hmix W0 g a w hS => by
 simp only [codeOK, Bool.and_eq_true] at hok
 have hr := hS.eval hok.1.1
 rw [hv] at hr
 exact wpIn_cond_split (rep_lit_inv hr) (fun hb' => by cases hb') (fun _ => h hok.2 hmix W0 g a w hS)
theorem goP_block {id : Nat} {b : Code} (h : awP P N b (aBlk id Q) QP c) : awP P N (.block id b) Q QP c := fun hok hmix W0 g a w hS => by
 refine wpIn_block (wpIn_mono (h hok hmix W0 g a w hS) fun e a' w' hq => ?_)
 obtain ⟨c', g', hle, hS', hM, hq⟩ := hq
 cases e with
 | normal => exact ⟨c', g', hle, hS', hM, hq⟩
 | exit id' =>
  simp only [aBlk] at hq
  simp only [Exit.inBlock]
  split at hq
  ·rename_i he; rw [if_pos he]; exact ⟨c', g', hle, hS', hM, hq⟩
  ·rename_i he; rw [if_neg he]; exact ⟨c', g', hle, hS', hM, hq⟩
 | ret => exact ⟨c', g', hle, hS', hM, hq⟩
 | panic => exact ⟨c', g', hle, hS', hM, hq⟩
 | goto => exact hq.elim
 | outgrown => exact hq.elim
theorem goP_scope {b : Code} (h : awP P N b Q QP c) : awP P N (.scope b) Q QP c := fun hok hmix W0 g a w hS => by
 refine wpIn_scope_straight (wpIn_mono (h hok hmix W0 g a w hS) fun e a' w' hq => ?_)
 obtain ⟨c', g', hle, hS', hM, hq⟩ := hq
 cases e with
 | normal => exact ⟨c', g', hle, hS', hM, hq⟩
 | exit id => exact ⟨c', g', hle, hS', hM, hq⟩
 | ret => exact ⟨c', g', hle, hS', hM, hq⟩
 | panic => exact ⟨c', g', hle, hS', hM, hq⟩
 | goto => exact hq.elim
 | outgrown => exact hq.elim
theorem goP_region {id : Nat} {l : List Oper} {draw : Bool} {s : Slots} {σ : Nat → Ent} {n n' : Nat} (hn : n + l.length = n') (h : aops P l.toArray n l 0 [] (kReg l.toArray draw Q) ⟨s, σ, n'⟩) : awP P N (.region id l.toArray draw) Q QP ⟨s, σ, n⟩ := fun hok hmix W0 g a w hS => by
 subst hn
 simp only [codeOK, Bool.and_eq_true, Bool.or_eq_true, Bool.not_eq_true'] at hok
 exact wp_region_ab hmix hok.1 (fun hd => hok.2.resolve_left (by simp [hd])) hS h fun c g' a w hg hs hd hq => ⟨c, g', hg, hs, hd, hq⟩
theorem region_rest {l1 l2 : List Oper} {s : Slots} {σ : Nat → Ent} {n n' : Nat} {K : Cfg → Prop} (hn : n + (l1 ++ l2).length = n') (h : aops P (l1 ++ l2).toArray n l1 0 [] (fun c' _ => K c') ⟨s, σ, n'⟩)
  {W0 : World} {g : Ghost} {a : Act} {w : World} {Q' : Exit → Act → World → Prop} (hN : shapeOK N (l1 ++ l2).toArray = true) (hS : SimA W0 g N ⟨s, σ, n⟩ a w) {id : Nat}
  (hK : ∀ c' g' a' w', g.le g' → SimA W0 g' N c' a' w' → a'.defers = a.defers → n + (l1 ++ l2).length ≤ c'.n → (∀ j, l1.length ≤ j → j < (l1 ++ l2).length → c'.σ (n + j) = .none) → K c' → wpOpsIn (wideAt none) 0 P (l1 ++ l2).toArray Q' (List.range' l1.length l2.length) a' w') :
  (Code.region id (l1 ++ l2).toArray false).wpIn (wideAt none) 0 P Q' a w := by
 subst hn
 obtain ⟨outs, hl, hr⟩ := aops_lex _ _ _ _ h
 have hlex := hr (fun j => outs.getD j default) fun j _ => by simp
 have hS' : SimA W0 g N ⟨s, σ, n + (l1 ++ l2).length⟩ a w := ⟨hS.sim.more (Nat.le_add_right _ _), hS.size, hS.slots⟩
 have hfree : ∀ j, σ (n + j) = .none := fun j => hS.sim.bound _ (Nat.le_add_right _ _)
 refine wpIn_region ?_
 have key := lexA_prefix (ro := none) (m := n) (P := P) (ops := (l1 ++ l2).toArray) (out := fun j => outs.getD j default) (Q := K) (Q' := Q') (W0 := W0) (tl := List.range' l1.length l2.length) g hN l1.length
  (fun c g' a w hg hs hd hn hf hq => hK c g' a w hg hs hd (by simpa using hn) (fun j h1 h2 => hf j h1 (by simpa using h2)) hq) l1 0 ⟨s, σ, n + (l1 ++ l2).length⟩ g a w
  (fun j hj => by simp [List.getElem?_append_left hj]) (Nat.zero_add _) (by simp) g.le_refl hS' rfl (by simp) (fun j _ _ => hfree j) hlex
 have hrg : List.range (l1 ++ l2).toArray.size = List.range' 0 l1.length ++ List.range' l1.length l2.length := by
  have h1 := List.range'_append_1 (s := 0) (m := l1.length) (n := l2.length)
  rw [Nat.zero_add] at h1
  rw [List.range_eq_range', show (l1 ++ l2).toArray.size = l1.length + l2.length by simp, h1]
 rw [hrg]
 exact key
theorem goP_panic {id : Nat} {l1 l2 : List Oper} {s : Slots} {σ : Nat → Ent} {n n' : Nat} {x : Operand} {ty : TypeId} {pos : String} {after : Array Edge} {d : Option Tmp} {T : TypeId}
  (hn : n + (l1 ++ (⟨d, .panic x, ty, pos, after, none⟩ : Oper) :: l2).length = n')
  (h : aops P (l1 ++ (⟨d, .panic x, ty, pos, after, none⟩ : Oper) :: l2).toArray n l1 0 [] (fun c' _ => aeval c'.s x = .iface T (.agg []) ∧ QP [{ v := .iface T (.agg #[]), recovered := false }] c') ⟨s, σ, n'⟩) :
  awP P N (.region id (l1 ++ (⟨d, .panic x, ty, pos, after, none⟩ : Oper) :: l2).toArray false) Q QP ⟨s, σ, n⟩ := fun hok hmix W0 g a w hS => by
 simp only [codeOK, Bool.and_eq_true, Bool.or_eq_true, Bool.not_eq_true'] at hok
 refine region_rest hn h hok.1 hS fun c' g' a' w' hle hS' hd hn' hf hK => ?_
 simp only [List.length_cons]
 rw [List.range'_succ, wpOpsIn_cons]
 have h0 : (l1 ++ (⟨d, .panic x, ty, pos, after, none⟩ : Oper) :: l2).toArray[l1.length]? = some ⟨d, .panic x, ty, pos, after, none⟩ := by simp
 obtain ⟨hop, hdst⟩ := shapeOK_at hok.1 h0
 have hr := hS'.eval (hop x (by simp [Op.operands]))
 rw [hK.1] at hr
 generalize hv : a'.eval x = v at hr
 cases hr with
 | iface _ _ v0 hv0 =>
  cases hv0 with
  | agg _ vs hl _ =>
   have hvs : vs = [] := by simpa using hl
   subst hvs
   unfold wpOpIn
   simp only [h0]
   rw [if_pos (by simp [Region.wanted])]
   refine ⟨fun _ _ => trivial, ?_⟩
   rw [Oper.semAt_none]
   have hrun : (execOp a'.eval (⟨d, .panic x, ty, pos, after, none⟩ : Oper)).run P w' = .halt (.panic (.iface T (.agg (flat []).toArray))) w' := by
    simp only [execOp, hv, Sem.run_bind]
    rfl
   rw [hrun]
   exact ⟨c', g', hle, hS', hd, hK.2⟩
def APanic (P : Program) (f : FuncId) (args : List AV) (k : Nat) (ch : List PanicEntry) : Prop :=
 callable P f = true ∧ ∀ (W0 : World) (g : Ghost) (σ : Nat → Ent) (n : Nat) (w : World) (vals : List Value), Sim W0 g σ n w → vals.length = args.length → (∀ (i : Nat) (x : AV) (v : Value), args[i]? = some x → vals[i]? = some v → Rep g x v) →
  σ k = .none → k < n → Calls P f vals.toArray w fun e w' => e = .panicked ch ∧ ∃ g', g.le g' ∧ Sim W0 g' σ n w'
theorem goP_callPanic {id : Nat} {l1 l2 : List Oper} {s : Slots} {σ : Nat → Ent} {n n' : Nat} {x : Operand} {ty : TypeId} {pos : String} {after : Array Edge} {d : Option Tmp} {args : Array Operand} {ts : Array TypeId} {ch : List PanicEntry}
  (hn : n + (l1 ++ (⟨d, .call { callee := .value x, args := args, argTypes := ts }, ty, pos, after, none⟩ : Oper) :: l2).length = n')
  (h : aops P (l1 ++ (⟨d, .call { callee := .value x, args := args, argTypes := ts }, ty, pos, after, none⟩ : Oper) :: l2).toArray n l1 0 [] (fun c' _ => (∃ f caps, aeval c'.s x = .fn f caps ∧ APanic P f (args.toList.map (aeval c'.s) ++ caps) (n + l1.length) ch) ∧ QP ch c') ⟨s, σ, n'⟩) :
  awP P N (.region id (l1 ++ (⟨d, .call { callee := .value x, args := args, argTypes := ts }, ty, pos, after, none⟩ : Oper) :: l2).toArray false) Q QP ⟨s, σ, n⟩ := fun hok hmix W0 g a w hS => by
 simp only [codeOK, Bool.and_eq_true, Bool.or_eq_true, Bool.not_eq_true'] at hok
 refine region_rest hn h hok.1 hS fun c' g' a' w' hle hS' hd hn' hf hK => ?_
 simp only [List.length_cons]
 rw [List.range'_succ, wpOpsIn_cons]
 have h0 : (l1 ++ (⟨d, .call { callee := .value x, args := args, argTypes := ts }, ty, pos, after, none⟩ : Oper) :: l2).toArray[l1.length]? = some ⟨d, .call { callee := .value x, args := args, argTypes := ts }, ty, pos, after, none⟩ := by simp
 obtain ⟨hop, hdst⟩ := shapeOK_at hok.1 h0
 obtain ⟨⟨f, caps, hx, hc, hrun⟩, hQ⟩ := hK
 have hr := hS'.eval (hop x (by simp [Op.operands, Call.operands]))
 have h2 : ∀ y ∈ args, Rep g' (aeval c'.s y) (a'.eval y) := fun y hy => hS'.eval (hop y (by simp [Op.operands, Call.operands, hy]))
 rw [hx] at hr
 generalize hv : a'.eval x = v at hr
 cases hr with
 | fn _ _ vs hvl hvr =>
  have hexec : (execOp a'.eval (⟨d, .call { callee := .value x, args := args, argTypes := ts }, ty, pos, after, none⟩ : Oper)).run P w' = .ok (.enter f ((args.toList.map a'.eval ++ vs).toArray)) w' := by
   simp only [execOp, resolve, hv, Deferred.ofValue, Sem.run_bind, Sem.run_pure, Result.andThen_ok, invoke]
   rw [run_callFunc hc]
   congr 2
   simp [← Array.toList_map]
  unfold wpOpIn
  simp only [h0]
  rw [if_pos (by simp [Region.wanted])]
  refine ⟨fun _ _ => trivial, ?_⟩
  rw [Oper.semAt_none, hexec]
  have hfr := hf l1.length (Nat.le_refl _) (by simp)
  have hcalls := hrun W0 g' c'.σ c'.n w' (args.toList.map a'.eval ++ vs) hS'.sim (by simp [hvl]) (fun i y u hy hu => by
   by_cases hi : i < args.toList.length
   ·rw [List.getElem?_append_left (by simpa using hi), List.getElem?_map] at hy hu
    cases hz : args.toList[i]? with
    | none => rw [hz] at hy; cases hy
    | some z =>
     rw [hz] at hy hu
     cases hy; cases hu
     exact h2 z (by have := List.mem_of_getElem? hz; simpa using this)
   ·rw [List.getElem?_append_right (by simpa using hi)] at hy hu
    simp only [List.length_map] at hy hu
    exact hvr _ y u hy hu) hfr (by simp at hn'; omega)
  have h' : CallsIn (wideAt none) (0 - 1) P _ _ w' _ := callsIn_wide.2 hcalls
  refine ⟨fun hd => (by cases hd), h'.mono fun e w'' ⟨he, g'', hle', hS''⟩ => ?_⟩
  subst he
  exact ⟨c', g'', hle.trans hle', ⟨hS'', hS'.size, fun t => (hS'.slots t).mono hle'⟩, hd, hQ⟩
end
theorem SimA.init {W0 : World} {g : Ghost} {σ : Nat → Ent} {n : Nat} {w : World} {args : List AV} {vals : List Value} {N : Nat} (hS : Sim W0 g σ n w) (hl : vals.length = args.length) (hv : ∀ (i : Nat) (x : AV) (v : Value), args[i]? = some x → vals[i]? = some v → Rep g x v) (hargs : args.length ≤ N) :
  SimA W0 g N ⟨initS args, σ, n⟩ { tmps := vals.toArray ++ Array.replicate (N - vals.toArray.size) undef, defers := [] } w := by
 refine ⟨hS, by simp; omega, fun t => ?_⟩
 show Rep g (args.getD t (.tup [])) ((vals.toArray ++ Array.replicate (N - vals.toArray.size) undef).getD t undef)
 by_cases ht : t < args.length
 ·have ht' : t < vals.length := by omega
  have := hv t args[t] vals[t] (List.getElem?_eq_getElem ht) (List.getElem?_eq_getElem ht')
  have e1 : args.getD t (.tup []) = args[t] := by simp [List.getD, List.getElem?_eq_getElem ht]
  have e2 : (vals.toArray ++ Array.replicate (N - vals.toArray.size) undef).getD t undef = vals[t] := by simp [Array.getElem?_append, ht']
  rw [e1, e2]; exact this
 ·have e1 : args.getD t (.tup []) = .tup [] := by simp [List.getD, List.getElem?_eq_none (Nat.not_lt.1 ht)]
  have e2 : (vals.toArray ++ Array.replicate (N - vals.toArray.size) undef).getD t undef = undef := by
   rw [Array.getD_eq_getD_getElem?, Array.getElem?_append]
   rw [if_neg (by simp; omega), Array.getElem?_replicate]
   split <;> rfl
  rw [e1, e2]
  exact .tup [] [] rfl fun i x v h _ => by simp at h
theorem APanic.of_body {P : Program} {f : FuncId} {fn : Func} {body : Code} {args : List AV} {k : Nat} {ch : List PanicEntry} (hmix : P.follows .mixedOrders = true) (hf : P.funcs[f]? = some fn) (hb : fn.body = some body)
  (hname : (fn.name == "runtime.NumGoroutine") = false) {N : Nat} (hN : fn.ntmps = N) (hok : codeOK N body = true) (hargs : args.length ≤ N)
  (h : ∀ (σ : Nat → Ent) (n : Nat), σ k = .none → k < n → (∀ id, n ≤ id → σ id = .none) → awP P N body (fun _ _ => False) (fun ch' c' => ch' = ch ∧ ∀ id, id < n → c'.σ id = σ id) ⟨initS args, σ, n⟩) : APanic P f args k ch := by
 refine ⟨by simp [callable, hf, hb, hname], fun W0 g σ n w vals hS hl hv hk hkn => ?_⟩
 subst hN
 refine callsIn_wide.1 (callsIn_of_wp_marks (n := 0) hf hb trivial (wpIn_mono (h σ n hk hkn hS.bound hok hmix W0 g _ w (SimA.init hS hl hv hargs)) fun e a' w' hq => ?_))
 obtain ⟨c', g', hle, hS', hD, hq⟩ := hq
 cases e with
 | panic ch' =>
  obtain ⟨rfl, h3⟩ := hq
  obtain ⟨g2, hle2, hS2, _⟩ := hS.leave hS'.sim hle hk hkn (ws := []) (post := []) (fresh := none) h3 (fun q hq => by cases hq) rfl
  show LeavesInM Fence.wide 0 P fn a'.tmps _ a'.defers (.panicking ch') w'
  rw [hD]
  exact ⟨rfl, g2, hle2, hS2⟩
 | normal => exact hq.elim
 | ret => exact hq.elim
 | exit id => exact hq.elim
 | goto => exact hq.elim
 | outgrown => exact hq.elim
theorem ARet.of {P : Program} {rs : List ResultVar} {k : Nat} {σ0 : Nat → Ent} {n0 : Nat} {pre : Foot} {r : AV} {post : Foot} {c : Cfg} (h : aRet P rs k σ0 n0 pre r post .ret c) : ARet P rs k σ0 n0 pre r post c := h
def ADef (P : Program) (f : FuncId) (caps : List AV) (u u2 : FrameMode) (pre post : Foot) : Prop :=
 callable P f = true ∧ ∀ (W0 : World) (g : Ghost) (σ : Nat → Ent) (n : Nat) (w : World) (vals : List Value), Sim W0 g σ n w → vals.length = caps.length → (∀ (i : Nat) (x : AV) (v : Value), caps[i]? = some x → vals[i]? = some v → Rep g x v) → (∀ p ∈ pre, σ p.1 = p.2) →
  CallsDIn Fence.wide 0 P f vals.toArray u w fun e u' w' => ∃ v, e = .returned v ∧ u' = u2 ∧ ∃ (g' : Ghost) (σ' : Nat → Ent) (n' : Nat), g.le g' ∧ Sim W0 g' σ' n' w' ∧ ∀ id, id < n → σ' id = wr σ post id
theorem ADef.of_recover {P : Program} {f : FuncId} {fn : Func} {idr : Nat} {t : Tmp} {rest : Code} {caps : List AV} {u u2 : FrameMode} {pre post : Foot} {ty : TypeId} {pos : String} {after : Array Edge} {ts : Array TypeId} (rv : AV)
  (hmix : P.follows .mixedOrders = true) (hf : P.funcs[f]? = some fn) (hb : fn.body = some (.seq (.region idr #[(⟨some t, .call { callee := .builtin .recover, args := #[], argTypes := ts }, ty, pos, after, none⟩ : Oper)] false) rest))
  (hname : (fn.name == "runtime.NumGoroutine") = false) {N : Nat} (hN : fn.ntmps = N) (hok1 : codeOK N rest = true) (ht : t < N) (hrs : fn.results = #[]) (hargs : caps.length ≤ N) (hpre : ∀ p ∈ pre, p.2 ≠ .none)
  (hrec : (u = .returning ∧ u2 = .returning ∧ rv = .lit .nilIface) ∨ ∃ T, u = .panicking [{ v := .iface T (.agg #[]), recovered := false }] ∧ u2 = .panicking [{ v := .iface T (.agg #[]), recovered := true }] ∧ rv = .iface T (.agg []))
  (h : ∀ (σ : Nat → Ent) (n : Nat), (∀ p ∈ pre, σ p.1 = p.2) → (∀ p ∈ pre, p.1 < n) → (∀ id, n ≤ id → σ id = .none) → awP P N rest (fun e c => (match e with | .exit _ => False | _ => True) ∧ ∀ id, id < n → c.σ id = wr σ post id) (fun _ _ => False) ⟨upd (initS caps) t rv, σ, n⟩) : ADef P f caps u u2 pre post := by
 refine ⟨by simp [callable, hf, hb, hname], fun W0 g σ n w vals hS hl hv hp => ?_⟩
 subst hN
 have hpn : ∀ p ∈ pre, p.1 < n := fun p hpm => by
  rcases Nat.lt_or_ge p.1 n with h' | h'
  ·exact h'
  ·exact absurd ((hp p hpm).symm.trans (hS.bound p.1 h')) (hpre p hpm)
 have h := h σ n hp hpn hS.bound
 have hSA := SimA.init hS hl hv hargs
 refine callsDIn_of_wpSIn hf hb trivial fun c₀ cs hu => ?_
 generalize ha0 : ({ tmps := vals.toArray ++ Array.replicate (fn.ntmps - vals.toArray.size) undef, defers := [] } : Act) = a0 at *
 have hd0 : a0.defers = [] := by rw [← ha0]
 have go : ∀ (v : Value) (u' : FrameMode), Rep g rv v → rest.wpSIn Fence.wide 0 P (bodyPostS P fn c₀ cs fun e u' w' => ∃ v, e = .returned v ∧ u' = u2 ∧ ∃ (g' : Ghost) (σ' : Nat → Ent) (n' : Nat), g.le g' ∧ Sim W0 g' σ' n' w' ∧ ∀ id, id < n → σ' id = wr σ post id) (a0.put (some t) v) ({ c₀ with mode := u2 } :: cs) w := by
  intro v u' hrv
  refine wpSIn_of_wpIn rfl ?_
  have hSA1 : SimA W0 g fn.ntmps ⟨upd (initS caps) t rv, σ, n⟩ (a0.put (some t) v) w := ⟨hS, by rw [put_size]; exact hSA.size, putA_rep (s := initS caps) (d := some t) hSA.slots hSA.size (fun _ h => by cases h; exact ht) hrv⟩
  refine wpIn_mono (h hok1 hmix W0 g _ w hSA1) fun e a' w' hq => ?_
  obtain ⟨c', g', hle, hS', hD, hq⟩ := hq
  have hfin : (∀ id, id < n → c'.σ id = wr σ post id) → a'.defers = [] ∧ ∃ u', ({ c₀ with mode := u2 } :: cs : List Frame) = { c₀ with mode := u' } :: cs ∧ ∃ v, (results fn a'.tmps).run P w' = .ok v w' ∧ (∃ v', Ending.returned v = .returned v' ∧ u' = u2 ∧ ∃ (g' : Ghost) (σ' : Nat → Ent) (n' : Nat), g.le g' ∧ Sim W0 g' σ' n' w' ∧ ∀ id, id < n → σ' id = wr σ post id) := fun hag =>
   ⟨by rw [hD, put_defers, hd0], u2, rfl, .tuple #[], by rw [results_eq, hrs]; simp [Sem.run_pure], _, rfl, rfl, g', c'.σ, c'.n, hle, hS'.sim, hag⟩
  cases e with
  | normal => exact hfin hq.2
  | ret => exact hfin hq.2
  | exit id => exact hq.1.elim
  | goto => exact hq.elim
  | panic => exact hq.elim
  | outgrown => exact hq.elim
 refine wpSIn_seq (wpSIn_region ?_)
 have hrun : (execOp a0.eval (⟨some t, .call { callee := .builtin .recover, args := #[], argTypes := ts }, ty, pos, after, none⟩ : Oper)).run P w = .ok .recover w := by
  first | rfl | simp [execOp, resolve, Sem.run_bind, Sem.run_pure, Result.andThen] | simp [execOp, go_sem]
 show wpOpsSIn Fence.wide 0 P _ _ [0] a0 (c₀ :: cs) w
 simp only [wpOpsSIn]
 refine ⟨fun _ _ => trivial, ?_⟩
 rw [if_pos (by simp [Region.wanted])]
 have hrun' : (execOp a0.eval #[(⟨some t, .call { callee := .builtin .recover, args := #[], argTypes := ts }, ty, pos, after, none⟩ : Oper)][0]).run P w = .ok .recover w := hrun
 rw [hrun']
 rcases hrec with ⟨rfl, rfl, rfl⟩ | ⟨T, rfl, rfl, rfl⟩
 ·have hc : ({ c₀ with mode := FrameMode.returning } : Frame) = c₀ := by cases c₀; simp only at hu; subst hu; rfl
  have hrc : recoverD (c₀ :: cs) = none := by simp only [recoverD, hu]
  simp only [hrc]
  have key := go .nilIface .returning (.lit _ rfl)
  rw [hc] at key
  exact key
 ·have hrc : recoverD (c₀ :: cs) = some (.iface T (.agg #[]), { c₀ with mode := .panicking [{ v := .iface T (.agg #[]), recovered := true }] } :: cs) := by simp only [recoverD, hu]
  simp only [hrc]
  exact go (.iface T (.agg #[])) .returning (.iface T _ _ (.agg [] [] rfl fun i x v h _ => by simp at h))
theorem ACall.of_bodyD {P : Program} {f : FuncId} {fn : Func} {r0 rest : Code} {idr : Nat} {l : List Oper} {args : List AV} {k : Nat} {pre post : Foot} {r : AV} {x : Operand} {ty : TypeId} {pos : String} {after : Array Edge}
  (hmix : P.follows .mixedOrders = true) (hf : P.funcs[f]? = some fn) (hb : fn.body = some (.seq r0 (.seq (.region idr (l ++ [(⟨none, .defer { callee := .value x, args := #[], argTypes := #[] }, ty, pos, after, none⟩ : Oper)]).toArray false) rest)))
  (hname : (fn.name == "runtime.NumGoroutine") = false) {N : Nat} (hN : fn.ntmps = N) (hok0 : codeOK N r0 = true) (hsh : shapeOK N (l ++ [(⟨none, .defer { callee := .value x, args := #[], argTypes := #[] }, ty, pos, after, none⟩ : Oper)]).toArray = true) (hx0 : opndOK x = true) (hok1 : codeOK N rest = true) {rs : List ResultVar} (hrs : fn.results.toList = rs) (hargs : args.length ≤ N) (hpre : ∀ p ∈ pre, p.2 ≠ .none) (hpost : ∀ q ∈ post, q.1 = k ∨ ∃ p ∈ pre, p.1 = q.1)
  (h : ∀ (σ : Nat → Ent) (n : Nat), (∀ p ∈ pre, σ p.1 = p.2) → (∀ p ∈ pre, p.1 < n) → σ k = .none → k < n → (∀ id, n ≤ id → σ id = .none) →
   awP P N r0 (fun e c => e = .normal ∧ aops P (l ++ [(⟨none, .defer { callee := .value x, args := #[], argTypes := #[] }, ty, pos, after, none⟩ : Oper)]).toArray c.n l 0 [] (fun c1 _ => ∃ fd caps, aeval c1.s x = .fn fd caps ∧
    awP P N rest (fun e c2 => e = .ret ∧ (∃ pr, (∀ p ∈ pr, c2.σ p.1 = p.2) ∧ ADef P fd caps .returning .returning pr []) ∧ ∀ σ' n', (∀ id, id < c2.n → σ' id = c2.σ id) → ARet P rs k σ n pre r post ⟨c2.s, σ', n'⟩)
     (fun ch c2 => ∃ ch2 pr po, (∀ p ∈ pr, c2.σ p.1 = p.2) ∧ settle (.panicking ch2) = .returning ∧ ADef P fd caps (.panicking ch) (.panicking ch2) pr po ∧ ∀ σ' n', (∀ id, id < c2.n → σ' id = wr c2.σ po id) → ARet P rs k σ n pre r post ⟨c2.s, σ', n'⟩) c1) ⟨c.s, c.σ, c.n + (l.length + 1)⟩) (fun _ _ => False) ⟨initS args, σ, n⟩) :
  ACall P f args k pre r post := by
 refine ⟨by simp [callable, hf, hb, hname], hpre, hpost, fun W0 g σ n w vals hS hl hv hk hkn hp => ?_⟩
 have hpn : ∀ p ∈ pre, p.1 < n := fun p hpm => by
  rcases Nat.lt_or_ge p.1 n with h' | h'
  ·exact h'
  ·exact absurd ((hp p hpm).symm.trans (hS.bound p.1 h')) (hpre p hpm)
 have h := h σ n hp hpn hk hkn hS.bound
 subst hN
 have fin : ∀ (c2 : Cfg) (g2 : Ghost) (a2 : Act) (w2 : World), g.le g2 → SimA W0 g2 fn.ntmps c2 a2 w2 → ARet P rs k σ n pre r post c2 →
   ∃ v, (results fn a2.tmps).run P w2 = .ok v w2 ∧ ∃ u, Ending.returned v = .returned u ∧ ∃ g', g.le g' ∧ Sim W0 g' (wr σ post) n w2 ∧ Rep g' r u := by
  intro c2 g2 a2 w2 hle hS2 hA
  obtain ⟨r0', r', ws, fresh, h1, hrle, h2, h3, h4, h5⟩ := hA
  have hws : ∀ q ∈ ws, σ q.1 ≠ .none := fun q hq => by obtain ⟨p, hp1, hp2⟩ := h4 q hq; rw [← hp2, hp p hp1]; exact hpre p hp1
  obtain ⟨g3, hle3, hS3, hrep, _⟩ := hS.leave hS2.sim hle hk hkn h3 hws (post := post) (fresh := fresh) (by
   cases fresh with
   | none => exact h5
   | some r0 => exact ⟨h5.1, h5.2.1⟩)
  obtain ⟨u, hu, hrun⟩ := aresults_sound (fn := fn) hS2 (w2 := w2) (fun _ _ _ _ => rfl) (by rw [hrs]; exact h1)
  exact ⟨u, hrun, u, rfl, g3, hle3, hS3, by rw [h2]; exact hrep _ _ (hrle _ _ hu)⟩
 refine callsIn_wide.1 (callsIn_of_wp_marks (n := 0) hf hb trivial ?_)
 refine wpIn_seq (wpIn_mono (h hok0 hmix W0 g _ w (SimA.init hS hl hv hargs)) fun e a1 w1 hq => ?_)
 obtain ⟨c, g1, hle1, hS1, hD1, hq⟩ := hq
 have hnorm : ∀ {e' : AExit}, (e' = AExit.normal ∧ aops P (l ++ [(⟨none, .defer { callee := .value x, args := #[], argTypes := #[] }, ty, pos, after, none⟩ : Oper)]).toArray c.n l 0 [] (fun c1 _ => ∃ fd caps, aeval c1.s x = .fn fd caps ∧
       awP P fn.ntmps rest (fun e c2 => e = .ret ∧ (∃ pr, (∀ p ∈ pr, c2.σ p.1 = p.2) ∧ ADef P fd caps .returning .returning pr []) ∧ ∀ σ' n', (∀ id, id < c2.n → σ' id = c2.σ id) → ARet P rs k σ n pre r post ⟨c2.s, σ', n'⟩)
         (fun ch c2 => ∃ ch2 pr po, (∀ p ∈ pr, c2.σ p.1 = p.2) ∧ settle (.panicking ch2) = .returning ∧ ADef P fd caps (.panicking ch) (.panicking ch2) pr po ∧ ∀ σ' n', (∀ id, id < c2.n → σ' id = wr c2.σ po id) → ARet P rs k σ n pre r post ⟨c2.s, σ', n'⟩) c1) ⟨c.s, c.σ, c.n + (l.length + 1)⟩) → e' ≠ .normal → False := fun h he => he h.1
 cases e with
 | normal =>
  obtain ⟨_, hops⟩ := hq
  show (Code.seq _ _).wpIn _ _ _ _ _ _
  refine wpIn_seq ?_
  obtain ⟨cs, cσ, cn⟩ := c
  refine region_rest (n := cn) (K := fun c1 => ∃ fd caps, aeval c1.s x = .fn fd caps ∧ _) (by simp) hops hsh hS1 fun c1 g2 a2 w2 hle2 hS2 hD2 hn2 hf2 hK => ?_
  obtain ⟨fd, caps, hx, hrest⟩ := hK
  rw [List.length_singleton, List.range'_one, wpOpsIn_cons]
  have h0 : (l ++ [(⟨none, .defer { callee := .value x, args := #[], argTypes := #[] }, ty, pos, after, none⟩ : Oper)]).toArray[l.length]? = some ⟨none, .defer { callee := .value x, args := #[], argTypes := #[] }, ty, pos, after, none⟩ := by simp
  have hr := hS2.eval hx0
  rw [hx] at hr
  generalize hvx : a2.eval x = vx at hr
  cases hr with
  | fn _ _ vs hvl hvr =>
   unfold wpOpIn
   simp only [h0]
   rw [if_pos (by simp [Region.wanted])]
   refine ⟨fun _ _ => trivial, ?_⟩
   rw [Oper.semAt_none]
   have hexec : (execOp a2.eval (⟨none, .defer { callee := .value x, args := #[], argTypes := #[] }, ty, pos, after, none⟩ : Oper)).run P w2 = .ok (.defer { target := .fn (.func fd) vs.toArray, args := #[] }) w2 := by
    simp [execOp, resolve, hvx, Deferred.ofValue, Sem.run_pure]
   rw [hexec, Oper.uponIn_defer]
   show Exit.then _ _ .normal _ _
   have hput : (({ a2 with defers := { target := .fn (.func fd) vs.toArray, args := #[] } :: a2.defers } : Act).put none undef) = { a2 with defers := { target := .fn (.func fd) vs.toArray, args := #[] } :: a2.defers } := rfl
   rw [hput]
   have hdef : a2.defers = [] := hD2.trans hD1
   have hS2' : SimA W0 g2 fn.ntmps c1 { a2 with defers := { target := .fn (.func fd) vs.toArray, args := #[] } :: a2.defers } w2 := ⟨hS2.sim, hS2.size, hS2.slots⟩
   refine wpIn_mono (hrest hok1 hmix W0 g2 _ w2 hS2') fun e a3 w3 hq3 => ?_
   obtain ⟨c2, g3, hle3, hS3, hD3, hq3⟩ := hq3
   have hD4 : a3.defers = [{ target := .fn (.func fd) vs.toArray, args := #[] }] := by rw [hD3, hdef]
   have hle : g.le g3 := (hle1.trans hle2).trans hle3
   have hcaps : ∀ (i : Nat) (y : AV) (u : Value), caps[i]? = some y → vs[i]? = some u → Rep g3 y u := fun i y u hy hu => (hvr i y u hy hu).mono hle3
   have hinv : callable P fd = true → (invoke (.fn (.func fd) vs.toArray) #[]).run P w3 = .ok (.enter fd vs.toArray) w3 := fun hc => by
    simp only [invoke]
    rw [run_callFunc hc]
    simp
   cases e with
   | ret =>
    obtain ⟨_, ⟨pr, hpr, hc, hdf⟩, hA⟩ := hq3
    show LeavesInM Fence.wide 0 P fn a3.tmps _ a3.defers .returning w3
    rw [hD4]
    refine ⟨by simp, .inr ⟨fun hd => (by cases hd), _, _, fd, vs.toArray, rfl, hinv hc, fun _ _ => trivial, ?_⟩⟩
    refine CallsDIn.mono (hdf W0 g3 c2.σ c2.n w3 vs hS3.sim hvl hcaps hpr) fun e u' w4 hh => ?_
    obtain ⟨v, rfl, rfl, g4, σ4, n4, hle4, hS4, hag⟩ := hh
    exact fin ⟨c2.s, σ4, n4⟩ g4 a3 w4 (hle.trans hle4) ⟨hS4, hS3.size, fun t => (hS3.slots t).mono hle4⟩ (hA σ4 n4 hag)
   | panic ch =>
    obtain ⟨ch2, pr, po, hpr, hset, ⟨hc, hdf⟩, hA⟩ := hq3
    show LeavesInM Fence.wide 0 P fn a3.tmps _ a3.defers (.panicking ch) w3
    rw [hD4]
    refine ⟨by simp, .inr ⟨fun hd => (by cases hd), _, _, fd, vs.toArray, rfl, hinv hc, fun _ _ => trivial, ?_⟩⟩
    refine CallsDIn.mono (hdf W0 g3 c2.σ c2.n w3 vs hS3.sim hvl hcaps hpr) fun e u' w4 hh => ?_
    obtain ⟨v, rfl, rfl, g4, σ4, n4, hle4, hS4, hag⟩ := hh
    show LeavesInM Fence.wide 0 P fn a3.tmps _ [] (settle (.panicking ch2)) w4
    rw [hset]
    exact fin ⟨c2.s, σ4, n4⟩ g4 a3 w4 (hle.trans hle4) ⟨hS4, hS3.size, fun t => (hS3.slots t).mono hle4⟩ (hA σ4 n4 hag)
   | normal => exact absurd hq3.1 (by simp)
   | exit id => exact absurd hq3.1 (by simp)
   | goto => exact hq3.elim
   | outgrown => exact hq3.elim
 | exit id => exact (hnorm hq (by simp)).elim
 | ret => exact (hnorm hq (by simp)).elim
 | panic => exact hq.elim
 | goto => exact hq.elim
 | outgrown => exact hq.elim
def ifTy (P : Program) (t : TypeId) : Bool :=
 match P.underlying t with
 | some (.interface _) => true
 | _ => false
theorem run_equalIn_inil {P : Program} {t : TypeId} {ms : Array (String × TypeId)} (hu : P.underlying t = some (.interface ms)) {a : Value} {r : Bool} (ha : (a = .nilIface ∧ r = true) ∨ ∃ T v, a = .iface T v ∧ r = false) (d : Nat) (w : World) : (Op.equalIn (d + 1) t a .nilIface).run P w = .ok r w := by
 rcases ha with ⟨rfl, rfl⟩ | ⟨T, v, rfl, rfl⟩
 ·simp [Op.equalIn, run_underlying hu]
 ·simp [Op.equalIn, run_underlying hu]
theorem holds_ifaceNil {P : Program} {o : Oper} {s : Slots} {id : Nat} {t yt : TypeId} {x : Operand} {r : Bool} (ho : o.op = .binOp .eql t x (.const .nilIface) yt) (ht : ifTy P t = true)
  (hx : (aeval s x = .lit .nilIface ∧ r = true) ∨ ∃ T z, aeval s x = .iface T z ∧ r = false) : OpHolds P o s id [] (.lit (.bool r)) [] :=
 holds_pure fun g w a hr => by
  have h1 := hr x (by simp [ho, Op.operands])
  have hu : ∃ ms, P.underlying t = some (.interface ms) := by
   unfold ifTy at ht
   split at ht
   ·exact ⟨_, by assumption⟩
   ·cases ht
  obtain ⟨ms, hu⟩ := hu
  refine ⟨.bool r, ?_, .lit _ rfl⟩
  have hc : a.eval (.const .nilIface) = .nilIface := rfl
  simp only [execOp, ho, hc]
  rcases hx with ⟨hx, rfl⟩ | ⟨T, z, hx, rfl⟩
  ·rw [hx] at h1
   have hv := rep_lit_inv h1
   rw [hv]
   have hg : eqGuard .eql t x (.const .nilIface) .nilIface .nilIface = pure () := by simp [eqGuard]
   have hb : binOp .eql t .nilIface .nilIface = (do pure (.bool (← Op.equal t .nilIface .nilIface))) := rfl
   rw [hg, hb]
   have he : (Op.equal t .nilIface .nilIface).run P w = .ok true w := run_equalIn_inil hu (.inl ⟨rfl, rfl⟩) 9999 w
   simp only [Sem.run_bind, Sem.run_pure, Result.andThen_ok, he]
  ·rw [hx] at h1
   generalize hv : a.eval x = v at h1
   cases h1 with
   | iface _ _ v0 h0 =>
    have hg : eqGuard .eql t x (.const .nilIface) (.iface T v0) .nilIface = pure () := by simp [eqGuard]
    have hb : binOp .eql t (.iface T v0) .nilIface = (do pure (.bool (← Op.equal t (.iface T v0) .nilIface))) := rfl
    rw [hg, hb]
    have he : (Op.equal t (.iface T v0) .nilIface).run P w = .ok false w := run_equalIn_inil hu (.inr ⟨T, v0, rfl, rfl⟩) 9999 w
    simp only [Sem.run_bind, Sem.run_pure, Result.andThen_ok, he]
theorem go_ifNilT {P : Program} {ops : Array Oper} {m i : Nat} {r : List Oper} {T : Trace} {k : Cfg → Trace → Prop} {s : Slots} {σ : Nat → Ent} {n : Nat} {ty : TypeId} {pos : String} {after : Array Edge} {t : Tmp} {x : Operand} {tx ty2 : TypeId} (ht : ifTy P tx = true) (hx : aeval s x = .lit .nilIface)
  (h : aops P ops m r (i + 1) T k ⟨upd s t (.lit (.bool true)), σ, n⟩) : aops P ops m (⟨some t, .binOp .eql tx x (.const .nilIface) ty2, ty, pos, after, none⟩ :: r) i T k ⟨s, σ, n⟩ :=
 go_own (st := ⟨[], .lit (.bool true), []⟩) (fun o ho => ⟨holds_ifaceNil ho ht (.inl ⟨hx, rfl⟩), fun p hp => by cases hp⟩) h
theorem go_ifNilF {P : Program} {ops : Array Oper} {m i : Nat} {r : List Oper} {T : Trace} {k : Cfg → Trace → Prop} {s : Slots} {σ : Nat → Ent} {n : Nat} {ty : TypeId} {pos : String} {after : Array Edge} {t : Tmp} {x : Operand} {tx ty2 T2 : TypeId} {z : AV} (ht : ifTy P tx = true) (hx : aeval s x = .iface T2 z)
  (h : aops P ops m r (i + 1) T k ⟨upd s t (.lit (.bool false)), σ, n⟩) : aops P ops m (⟨some t, .binOp .eql tx x (.const .nilIface) ty2, ty, pos, after, none⟩ :: r) i T k ⟨s, σ, n⟩ :=
 go_own (st := ⟨[], .lit (.bool false), []⟩) (fun o ho => ⟨holds_ifaceNil ho ht (.inr ⟨T2, z, hx, rfl⟩), fun p hp => by cases hp⟩) h
end Go.Ab

namespace Go.Proofs.YtdmjpolnbmoehaaGreatDoor
open Go.Ab
attribute [local irreducible] Go.Ab.tyAV Go.Ab.aw Go.Ab.aops Go.Ab.kReg Go.Ab.aThen Go.Ab.aBlk Go.Ab.acond Go.Ab.aguard Go.Ab.astep Go.Ab.AStepX Go.Ab.aRet
attribute [local irreducible] shaG
theorem Wst {p q : Prop} (h : q) (h2 : Later q → p := by intro hq; (repeat (first | (apply go_mut; (· assumption); · (simp (disch := omega) [go_sem, *, -List.reduceReplicate]; first | exact ⟨rfl, rfl⟩ | (simp [go_sem, *]; exact ⟨rfl, rfl⟩))) | (apply go_mutP; (· assumption); · (simp (disch := omega) [go_sem, *, -List.reduceReplicate]; try first | rfl | exact ⟨rfl, rfl⟩ | exact ⟨rfl, rfl, rfl⟩)) | (apply go_guard_in; (· rfl); · (simp (disch := omega) [go_sem, *, -List.reduceReplicate]; try first | rfl | omega)) | (apply go_guard_off; (· rfl); · (simp (disch := omega) [go_sem, *, -List.reduceReplicate]; try first | rfl | omega)) | (apply go_guard_no; (· rfl); · (simp (disch := omega) [go_sem, *, -List.reduceReplicate]; try rfl)) | ((first | apply go_move | apply go_assign | apply go_load | apply go_store | apply go_append | apply go_copy | apply go_copy0 | apply go_clear0 | apply go_slice3 | apply go_indexA); · (simp (disch := omega) [go_sem, *, -List.reduceReplicate]; try first | rfl | exact ⟨rfl, rfl⟩ | exact ⟨rfl, rfl, rfl⟩)) | ((first | apply go_loadv | apply go_append0 | apply go_beyond); · (simp (disch := omega) [go_sem, *, -List.reduceReplicate]; try first | rfl | exact ⟨rfl, rfl⟩ | exact ⟨rfl, rfl, rfl⟩)) | (apply go_appself; · (simp (disch := omega) [go_sem, *, -List.reduceReplicate]; try first | rfl | exact ⟨rfl, rfl⟩ | exact ⟨rfl, rfl, rfl⟩)) | ((first | (apply go_appendz; · rfl) | (apply go_new; · rfl) | (apply go_pure; · rfl)); · (simp (disch := omega) [go_sem, *, -List.reduceReplicate]; try first | rfl | exact ⟨rfl, rfl⟩ | exact ⟨rfl, rfl, rfl⟩)) | ((apply go_glob; · assumption); · (simp (disch := omega) [go_sem, *, -List.reduceReplicate]; try first | rfl | exact ⟨rfl, rfl⟩ | exact ⟨rfl, rfl, rfl⟩)) | (apply go_read1; (· rfl); · (simp (disch := omega) [go_sem, *, -List.reduceReplicate]; try first | rfl | exact ⟨rfl, rfl⟩ | exact ⟨rfl, rfl, rfl⟩)) | (apply go_rw1; (· rfl); · (simp (disch := omega) [go_sem, *, -List.reduceReplicate]; try first | rfl | exact ⟨rfl, rfl⟩ | exact ⟨rfl, rfl, rfl⟩)) | (apply go_new1; (· rfl); · (simp (disch := omega) [go_sem, *, -List.reduceReplicate]; try first | rfl | exact ⟨rfl, rfl⟩ | exact ⟨rfl, rfl, rfl⟩)) | (apply go_conv; · (simp (disch := omega) [go_sem, *, -List.reduceReplicate]; try first | rfl | exact ⟨rfl, rfl⟩ | exact ⟨rfl, rfl, rfl⟩)) | ((first | (apply go_new; · rfl) | (apply go_pure; · rfl)); · (simp (disch := omega) [go_sem, *, -List.reduceReplicate]; simp [go_sem, *]; try first | rfl | exact ⟨rfl, rfl⟩)))); exact hq.out) : p := h2 ⟨h⟩
theorem Wgs {p q : Prop} (h : q) (h2 : Later q → p := by intro hq; (repeat (first | apply go_nil | apply go_kreg | (apply go_mut; (· assumption); · (simp (disch := omega) [go_sem, *, -List.reduceReplicate]; first | exact ⟨rfl, rfl⟩ | (simp [go_sem, *]; exact ⟨rfl, rfl⟩))) | (apply go_mutP; (· assumption); · (simp (disch := omega) [go_sem, *, -List.reduceReplicate]; try first | rfl | exact ⟨rfl, rfl⟩ | exact ⟨rfl, rfl, rfl⟩)) | (apply go_guard_in; (· rfl); · (simp (disch := omega) [go_sem, *, -List.reduceReplicate]; try first | rfl | omega)) | (apply go_guard_off; (· rfl); · (simp (disch := omega) [go_sem, *, -List.reduceReplicate]; try first | rfl | omega)) | (apply go_guard_no; (· rfl); · (simp (disch := omega) [go_sem, *, -List.reduceReplicate]; try rfl)) | ((first | apply go_move | apply go_assign | apply go_load | apply go_store | apply go_append | apply go_copy | apply go_copy0 | apply go_clear0 | apply go_slice3 | apply go_indexA); · (simp (disch := omega) [go_sem, *, -List.reduceReplicate]; try first | rfl | exact ⟨rfl, rfl⟩ | exact ⟨rfl, rfl, rfl⟩)) | ((first | apply go_loadv | apply go_append0 | apply go_beyond); · (simp (disch := omega) [go_sem, *, -List.reduceReplicate]; try first | rfl | exact ⟨rfl, rfl⟩ | exact ⟨rfl, rfl, rfl⟩)) | (apply go_appself; · (simp (disch := omega) [go_sem, *, -List.reduceReplicate]; try first | rfl | exact ⟨rfl, rfl⟩ | exact ⟨rfl, rfl, rfl⟩)) | ((first | (apply go_appendz; · rfl) | (apply go_new; · rfl) | (apply go_pure; · rfl)); · (simp (disch := omega) [go_sem, *, -List.reduceReplicate]; try first | rfl | exact ⟨rfl, rfl⟩ | exact ⟨rfl, rfl, rfl⟩)) | ((apply go_glob; · assumption); · (simp (disch := omega) [go_sem, *, -List.reduceReplicate]; try first | rfl | exact ⟨rfl, rfl⟩ | exact ⟨rfl, rfl, rfl⟩)) | (apply go_read1; (· rfl); · (simp (disch := omega) [go_sem, *, -List.reduceReplicate]; try first | rfl | exact ⟨rfl, rfl⟩ | exact ⟨rfl, rfl, rfl⟩)) | (apply go_rw1; (· rfl); · (simp (disch := omega) [go_sem, *, -List.reduceReplicate]; try first | rfl | exact ⟨rfl, rfl⟩ | exact ⟨rfl, rfl, rfl⟩)) | (apply go_new1; (· rfl); · (simp (disch := omega) [go_sem, *, -List.reduceReplicate]; try first | rfl | exact ⟨rfl, rfl⟩ | exact ⟨rfl, rfl, rfl⟩)) | (apply go_conv; · (simp (disch := omega) [go_sem, *, -List.reduceReplicate]; try first | rfl | exact ⟨rfl, rfl⟩ | exact ⟨rfl, rfl, rfl⟩)) | ((first | (apply go_new; · rfl) | (apply go_pure; · rfl)); · (simp (disch := omega) [go_sem, *, -List.reduceReplicate]; simp [go_sem, *]; try first | rfl | exact ⟨rfl, rfl⟩)))); exact hq.out) : p := h2 ⟨h⟩
theorem Wpp {p q : Prop} (h : q) (h2 : Later q → p := by intro hq; (repeat (first | apply goP_seq | apply goP_block | apply goP_scope | apply goP_skip | apply goP_ret | (apply goP_region; · (simp only [List.length_cons, List.length_nil, Nat.reduceAdd, Nat.add_assoc]; rfl)) | apply go_nil | apply go_kreg | apply go_kreg0 | apply go_kreg1 | (apply go_kregT; · (first | (simp [addT, CF, CFy, Ind, DisjF]; done) | (simp only [addT, CF, CFy, Ind]; repeat' (first | exact trivial | apply And.intro | exact Or.inl (by decide +kernel) | (refine Or.inr ⟨?_, ?_⟩ <;> (simp; try omega)))))) | apply go_then | apply go_then_exit | apply go_then_ret | apply go_blk | apply go_blk_ret | apply go_blk_here | (apply go_blk_there; · rfl) | (apply go_ifNilT; (· (kernel_rfl)); (· (simp (disch := omega) [go_sem, *, -List.reduceReplicate]; first | done | rfl))) | (apply go_ifNilF; (· (kernel_rfl)); (· (first | rfl | (simp (disch := omega) [go_sem, *, -List.reduceReplicate]; first | done | rfl | exact ⟨rfl, rfl⟩)))) | (apply go_mut; (· assumption); · (simp (disch := omega) [go_sem, *, -List.reduceReplicate]; first | exact ⟨rfl, rfl⟩ | (simp [go_sem, *]; exact ⟨rfl, rfl⟩))) | (apply go_mutP; (· assumption); · (simp (disch := omega) [go_sem, *, -List.reduceReplicate]; try first | rfl | exact ⟨rfl, rfl⟩ | exact ⟨rfl, rfl, rfl⟩)) | (apply go_guard_in; (· rfl); · (simp (disch := omega) [go_sem, *, -List.reduceReplicate]; try first | rfl | omega)) | (apply go_guard_off; (· rfl); · (simp (disch := omega) [go_sem, *, -List.reduceReplicate]; try first | rfl | omega)) | (apply go_guard_no; (· rfl); · (simp (disch := omega) [go_sem, *, -List.reduceReplicate]; try rfl)) | ((first | apply go_move | apply go_assign | apply go_load | apply go_store | apply go_append | apply go_copy | apply go_copy0 | apply go_clear0 | apply go_slice3 | apply go_indexA); · (simp (disch := omega) [go_sem, *, -List.reduceReplicate]; try first | rfl | exact ⟨rfl, rfl⟩ | exact ⟨rfl, rfl, rfl⟩)) | ((first | apply go_loadv | apply go_append0 | apply go_beyond); · (simp (disch := omega) [go_sem, *, -List.reduceReplicate]; try first | rfl | exact ⟨rfl, rfl⟩ | exact ⟨rfl, rfl, rfl⟩)) | (apply go_appself; · (simp (disch := omega) [go_sem, *, -List.reduceReplicate]; try first | rfl | exact ⟨rfl, rfl⟩ | exact ⟨rfl, rfl, rfl⟩)) | ((first | (apply go_appendz; · rfl) | (apply go_new; · rfl) | (apply go_pure; · rfl)); · (simp (disch := omega) [go_sem, *, -List.reduceReplicate]; try first | rfl | exact ⟨rfl, rfl⟩ | exact ⟨rfl, rfl, rfl⟩)) | ((apply go_glob; · assumption); · (simp (disch := omega) [go_sem, *, -List.reduceReplicate]; try first | rfl | exact ⟨rfl, rfl⟩ | exact ⟨rfl, rfl, rfl⟩)) | (apply go_read1; (· rfl); · (simp (disch := omega) [go_sem, *, -List.reduceReplicate]; try first | rfl | exact ⟨rfl, rfl⟩ | exact ⟨rfl, rfl, rfl⟩)) | (apply go_rw1; (· rfl); · (simp (disch := omega) [go_sem, *, -List.reduceReplicate]; try first | rfl | exact ⟨rfl, rfl⟩ | exact ⟨rfl, rfl, rfl⟩)) | (apply go_new1; (· rfl); · (simp (disch := omega) [go_sem, *, -List.reduceReplicate]; try first | rfl | exact ⟨rfl, rfl⟩ | exact ⟨rfl, rfl, rfl⟩)) | (apply go_conv; · (simp (disch := omega) [go_sem, *, -List.reduceReplicate]; try first | rfl | exact ⟨rfl, rfl⟩ | exact ⟨rfl, rfl, rfl⟩)) | ((first | (apply go_new; · rfl) | (apply go_pure; · rfl)); · (simp (disch := omega) [go_sem, *, -List.reduceReplicate]; simp [go_sem, *]; try first | rfl | exact ⟨rfl, rfl⟩)) | (apply goP_condT; · (simp (disch := omega) [go_sem, *, -List.reduceReplicate]; try first | rfl | omega; done)) | (apply goP_condF; · (simp (disch := omega) [go_sem, *, -List.reduceReplicate]; try first | rfl | omega; done)) | (obtain ⟨hcall, hcs⟩ := hcs; (first | refine go_callw (hcall _) (by simp (disch := omega) [go_sem, *, -List.reduceReplicate]; try rfl) (by simp (disch := omega) [go_sem, *, -List.reduceReplicate]; repeat' first | exact ALe.nil | exact AV.le_refl _ | exact AV.le_nils | exact AV.le_own _ _ | apply ALe.cons | apply AV.sub_agg) (by simp (disch := omega) [go_sem, *, -List.reduceReplicate]) ?_ | refine go_yieldw (hcall _) (by simp (disch := omega) [go_sem, *, -List.reduceReplicate]; try rfl) (by simp (disch := omega) [go_sem, *, -List.reduceReplicate]; repeat' first | exact ALe.nil | exact AV.le_refl _ | exact AV.le_nils | exact AV.le_own _ _ | apply ALe.cons | apply AV.sub_agg) (by simp (disch := omega) [go_sem, *, -List.reduceReplicate]) ?_); clear hcall))); exact hq.out) : p := h2 ⟨h⟩
theorem Wpm {p q : Prop} (h : q) (h2 : Later q → p := by intro hq; (repeat (first | apply goP_seq | apply goP_block | apply goP_scope | apply goP_skip | apply goP_ret | apply go_nil | apply go_kreg | apply go_kreg0 | apply go_kreg1 | (apply go_kregT; · (first | (simp [addT, CF, CFy, Ind, DisjF]; done) | (simp only [addT, CF, CFy, Ind]; repeat' (first | exact trivial | apply And.intro | exact Or.inl (by decide +kernel) | (refine Or.inr ⟨?_, ?_⟩ <;> (simp; try omega)))))) | apply go_then | apply go_then_exit | apply go_then_ret | apply go_blk | apply go_blk_ret | apply go_blk_here | (apply go_blk_there; · rfl) | (apply go_mut; (· assumption); · (simp (disch := omega) [go_sem, *, -List.reduceReplicate]; first | exact ⟨rfl, rfl⟩ | (simp [go_sem, *]; exact ⟨rfl, rfl⟩))) | (apply go_mutP; (· assumption); · (simp (disch := omega) [go_sem, *, -List.reduceReplicate]; try first | rfl | exact ⟨rfl, rfl⟩ | exact ⟨rfl, rfl, rfl⟩)) | (apply go_guard_in; (· rfl); · (simp (disch := omega) [go_sem, *, -List.reduceReplicate]; try first | rfl | omega)) | (apply go_guard_off; (· rfl); · (simp (disch := omega) [go_sem, *, -List.reduceReplicate]; try first | rfl | omega)) | (apply go_guard_no; (· rfl); · (simp (disch := omega) [go_sem, *, -List.reduceReplicate]; try rfl)) | ((first | apply go_move | apply go_assign | apply go_load | apply go_store | apply go_append | apply go_copy | apply go_copy0 | apply go_clear0 | apply go_slice3 | apply go_indexA); · (simp (disch := omega) [go_sem, *, -List.reduceReplicate]; try first | rfl | exact ⟨rfl, rfl⟩ | exact ⟨rfl, rfl, rfl⟩)) | ((first | apply go_loadv | apply go_append0 | apply go_beyond); · (simp (disch := omega) [go_sem, *, -List.reduceReplicate]; try first | rfl | exact ⟨rfl, rfl⟩ | exact ⟨rfl, rfl, rfl⟩)) | (apply go_appself; · (simp (disch := omega) [go_sem, *, -List.reduceReplicate]; try first | rfl | exact ⟨rfl, rfl⟩ | exact ⟨rfl, rfl, rfl⟩)) | ((first | (apply go_appendz; · rfl) | (apply go_new; · rfl) | (apply go_pure; · rfl)); · (simp (disch := omega) [go_sem, *, -List.reduceReplicate]; try first | rfl | exact ⟨rfl, rfl⟩ | exact ⟨rfl, rfl, rfl⟩)) | ((apply go_glob; · assumption); · (simp (disch := omega) [go_sem, *, -List.reduceReplicate]; try first | rfl | exact ⟨rfl, rfl⟩ | exact ⟨rfl, rfl, rfl⟩)) | (apply go_read1; (· rfl); · (simp (disch := omega) [go_sem, *, -List.reduceReplicate]; try first | rfl | exact ⟨rfl, rfl⟩ | exact ⟨rfl, rfl, rfl⟩)) | (apply go_rw1; (· rfl); · (simp (disch := omega) [go_sem, *, -List.reduceReplicate]; try first | rfl | exact ⟨rfl, rfl⟩ | exact ⟨rfl, rfl, rfl⟩)) | (apply go_new1; (· rfl); · (simp (disch := omega) [go_sem, *, -List.reduceReplicate]; try first | rfl | exact ⟨rfl, rfl⟩ | exact ⟨rfl, rfl, rfl⟩)) | (apply go_conv; · (simp (disch := omega) [go_sem, *, -List.reduceReplicate]; try first | rfl | exact ⟨rfl, rfl⟩ | exact ⟨rfl, rfl, rfl⟩)) | ((first | (apply go_new; · rfl) | (apply go_pure; · rfl)); · (simp (disch := omega) [go_sem, *, -List.reduceReplicate]; simp [go_sem, *]; try first | rfl | exact ⟨rfl, rfl⟩)) | (apply goP_condT; · (simp (disch := omega) [go_sem, *, -List.reduceReplicate]; try first | rfl | omega; done)) | (apply goP_condF; · (simp (disch := omega) [go_sem, *, -List.reduceReplicate]; try first | rfl | omega; done)) | (first | (apply go_yieldw (hcs.1 _); (focus (simp (disch := omega) [go_sem, *, -List.reduceReplicate]; (try rfl); done)); (focus (simp (disch := omega) [go_sem, *, -List.reduceReplicate]; (repeat' first | exact ALe.nil | exact AV.le_refl _ | exact AV.le_nils | exact AV.le_own _ _ | apply ALe.cons | apply AV.sub_agg); done)); (focus (simp (disch := omega) [go_sem, *, -List.reduceReplicate]; done)); have hcs := hcs.2) | (first | (apply go_callw (hcs.1 _); (focus (simp (disch := omega) [go_sem, *, -List.reduceReplicate]; (try rfl); done)); (focus (simp (disch := omega) [go_sem, *, -List.reduceReplicate]; (repeat' first | exact ALe.nil | exact AV.le_refl _ | exact AV.le_nils | exact AV.le_own _ _ | apply ALe.cons | apply AV.sub_agg); done)); (focus (simp (disch := omega) [go_sem, *, -List.reduceReplicate]; done)); have hcs := hcs.2) | (have hcs := hcs.2; (first | (apply go_callw (hcs.1 _); (focus (simp (disch := omega) [go_sem, *, -List.reduceReplicate]; (try rfl); done)); (focus (simp (disch := omega) [go_sem, *, -List.reduceReplicate]; (repeat' first | exact ALe.nil | exact AV.le_refl _ | exact AV.le_nils | exact AV.le_own _ _ | apply ALe.cons | apply AV.sub_agg); done)); (focus (simp (disch := omega) [go_sem, *, -List.reduceReplicate]; done)); have hcs := hcs.2) | (have hcs := hcs.2; (first | (apply go_callw (hcs.1 _); (focus (simp (disch := omega) [go_sem, *, -List.reduceReplicate]; (try rfl); done)); (focus (simp (disch := omega) [go_sem, *, -List.reduceReplicate]; (repeat' first | exact ALe.nil | exact AV.le_refl _ | exact AV.le_nils | exact AV.le_own _ _ | apply ALe.cons | apply AV.sub_agg); done)); (focus (simp (disch := omega) [go_sem, *, -List.reduceReplicate]; done)); have hcs := hcs.2) | (have hcs := hcs.2; (first | (apply go_callw (hcs.1 _); (focus (simp (disch := omega) [go_sem, *, -List.reduceReplicate]; (try rfl); done)); (focus (simp (disch := omega) [go_sem, *, -List.reduceReplicate]; (repeat' first | exact ALe.nil | exact AV.le_refl _ | exact AV.le_nils | exact AV.le_own _ _ | apply ALe.cons | apply AV.sub_agg); done)); (focus (simp (disch := omega) [go_sem, *, -List.reduceReplicate]; done)); have hcs := hcs.2) | (have hcs := hcs.2; (first | (apply go_callw (hcs.1 _); (focus (simp (disch := omega) [go_sem, *, -List.reduceReplicate]; (try rfl); done)); (focus (simp (disch := omega) [go_sem, *, -List.reduceReplicate]; (repeat' first | exact ALe.nil | exact AV.le_refl _ | exact AV.le_nils | exact AV.le_own _ _ | apply ALe.cons | apply AV.sub_agg); done)); (focus (simp (disch := omega) [go_sem, *, -List.reduceReplicate]; done)); have hcs := hcs.2) | (have hcs := hcs.2; (first | (apply go_callw (hcs.1 _); (focus (simp (disch := omega) [go_sem, *, -List.reduceReplicate]; (try rfl); done)); (focus (simp (disch := omega) [go_sem, *, -List.reduceReplicate]; (repeat' first | exact ALe.nil | exact AV.le_refl _ | exact AV.le_nils | exact AV.le_own _ _ | apply ALe.cons | apply AV.sub_agg); done)); (focus (simp (disch := omega) [go_sem, *, -List.reduceReplicate]; done)); have hcs := hcs.2) | (have hcs := hcs.2; (first | (apply go_callw (hcs.1 _); (focus (simp (disch := omega) [go_sem, *, -List.reduceReplicate]; (try rfl); done)); (focus (simp (disch := omega) [go_sem, *, -List.reduceReplicate]; (repeat' first | exact ALe.nil | exact AV.le_refl _ | exact AV.le_nils | exact AV.le_own _ _ | apply ALe.cons | apply AV.sub_agg); done)); (focus (simp (disch := omega) [go_sem, *, -List.reduceReplicate]; done)); have hcs := hcs.2) | (have hcs := hcs.2; (apply go_callw (hcs.1 _); (focus (simp (disch := omega) [go_sem, *, -List.reduceReplicate]; (try rfl); done)); (focus (simp (disch := omega) [go_sem, *, -List.reduceReplicate]; (repeat' first | exact ALe.nil | exact AV.le_refl _ | exact AV.le_nils | exact AV.le_own _ _ | apply ALe.cons | apply AV.sub_agg); done)); (focus (simp (disch := omega) [go_sem, *, -List.reduceReplicate]; done)); have hcs := hcs.2)))))))))))))))))); exact hq.out) : p := h2 ⟨h⟩
theorem Wpo {p q : Prop} (h : q) (h2 : Later q → p := by intro hq; (apply goP_region; · (simp only [List.length_cons, List.length_nil, Nat.reduceAdd, Nat.add_assoc]; rfl)); refine Wpm ?_; exact hq.out) : p := h2 ⟨h⟩
theorem pTerms_spec (t : Te) (k : Nat) : ACall Tryz.prog 135 [teAV t] k [] (.lit (.bool (teB t))) [] := by
 obtain ⟨x, y⟩ := t
 unfold teAV
 by_cases h1 : 0 ≤ x
 ·by_cases h2 : x ≤ y
  ·by_cases h3 : y ≤ 150
   ·have hr : teB ⟨x, y⟩ = true := by simp [teB, *]
    rw [hr]
    refine Bd Tryz.func135 Tryz.ntmps135 fun σ N hp hpn hk hkn hfree => ?_
    exact W0
   ·have hr : teB ⟨x, y⟩ = false := by simp [teB, *]
    rw [hr]
    refine Bd Tryz.func135 Tryz.ntmps135 fun σ N hp hpn hk hkn hfree => ?_
    exact W0
  ·have hr : teB ⟨x, y⟩ = false := by simp [teB, *]
   rw [hr]
   refine Bd Tryz.func135 Tryz.ntmps135 fun σ N hp hpn hk hkn hfree => ?_
   exact W0
 ·have hr : teB ⟨x, y⟩ = false := by simp [teB, *]
  rw [hr]
  refine Bd Tryz.func135 Tryz.ntmps135 fun σ N hp hpn hk hkn hfree => ?_
  exact W0
theorem number_ok (b : List UInt8) (hb : b.length ≤ 100000) (n u : Nat) (h : rdS b = (n, u, 0)) (k : Nat) :
  ACall Tryz.prog 210 [.slice none (b.map byteAV)] k [] (.tup [.lit (.int .i64 n), .slice none ((b.drop u).map byteAV)]) [] := by
 have c1 := Read_spec b (by omega)
 have hu := rdS_le b
 rw [h] at c1 hu
 unfold rdAV at c1
 simp only at c1 hu
 have hD : (b.map byteAV).drop u = (b.drop u).map byteAV := by rw [List.map_drop]
 obtain ⟨y, hy⟩ : ∃ y, b.drop u = y := ⟨_, rfl⟩
 rw [hy] at hD ⊢
 clear h hy
 refine Bd Tryz.func210 Tryz.ntmps210 fun σ N hp hpn hk hkn hfree => ?_
 have hcs := And.intro c1 True.intro
 clear c1
 exact W0
def malE (r : Bool) : List PanicEntry := [{ v := .iface 248 (.agg #[]), recovered := r }]
theorem number_bad (b : List UInt8) (hb : b.length ≤ 100000) (h : (rdS b).2.2 ≠ 0) (k : Nat) :
  APanic Tryz.prog 210 [.slice none (b.map byteAV)] k (malE false) := by
 have c1 := Read_spec b (by omega)
 unfold rdAV at c1
 generalize rdS b = X at *
 obtain ⟨n, u, e⟩ := X
 simp only at c1 h
 have hei : ((e : Int) != 0) = true := by simp; omega
 refine APanic.of_body mixed Tryz.func210 rfl (by kernel_rfl) Tryz.ntmps210 (by kernel_rfl) (by simp) fun σ N hk hkn hfree => ?_
 have hcs := And.intro c1 True.intro
 clear c1
 refine Wpm ?_
 iterate 3 (refine Wpo ?_)
 refine goP_panic (T := 248) (l1 := [_, _]) (l2 := []) rfl ?_
 refine Wst ?_
 apply go_nil
 refine ⟨by simp (disch := omega) [go_sem, *, -List.reduceReplicate], rfl, fun id hid => ?_⟩
 simp (disch := omega) only [wr_nil]
theorem read1_ret (i j q : Nat) : ADef Tryz.prog 209 [.ptr i [] 0, .ptr j [] 0, .ptr q [] 0] .returning .returning [] [] := by
 refine ADef.of_recover (.lit .nilIface) mixed Tryz.func209 rfl (by kernel_rfl) Tryz.ntmps209 (by kernel_rfl) (by decide) rfl (by simp) (by simp) (.inl ⟨rfl, rfl, rfl⟩) fun σ N hp hpn hfree => ?_
 refine Wpp ?_
 refine ⟨trivial, fun id hid => ?_⟩
 simp (disch := omega) only [wr_nil]
theorem read1_mal (T1 : Tg) (t1 : Te) (z1 : Int) (i j q : Nat) (hij : i ≠ j) (hiq : i ≠ q) (hjq : j ≠ q) : ADef Tryz.prog 209 [.ptr i [] 0, .ptr j [] 0, .ptr q [] 0] (.panicking (malE false)) (.panicking (malE true))
  [(i, .box 29 (tagAV T1)), (j, .box 104 (teAV t1)), (q, .box 57 (.lit (.int .i64 z1)))] [(i, .box 29 (tagAV zeroTag)), (j, .box 104 (teAV te0)), (q, .box 57 (.lit (.int .i64 5)))] := by
 obtain ⟨ta, tb⟩ := t1
 unfold teAV
 simp only [te0]
 refine ADef.of_recover (.iface 248 (.agg [])) mixed Tryz.func209 rfl (by kernel_rfl) Tryz.ntmps209 (by kernel_rfl) (by decide) rfl (by simp) (by simp) (.inr ⟨_, rfl, rfl, rfl⟩) fun σ N hp hpn hfree => ?_
 simp only [List.mem_cons, List.not_mem_nil, or_false, forall_eq_or_imp, forall_eq] at hp hpn; obtain ⟨hd1, hd2, hd3⟩ := hp; obtain ⟨hdn1, hdn2, hdn3⟩ := hpn
 refine Wpp ?_
 refine ⟨trivial, fun id hid => ?_⟩
 simp only [wr_cons, wr_nil]
 by_cases h1 : id = q
 ·subst h1; simp (disch := omega) only [upd_same]
 by_cases h2 : id = j
 ·subst h2; simp (disch := omega) only [upd_same, upd_ne]
 by_cases h3 : id = i
 ·subst h3; simp (disch := omega) only [upd_same, upd_ne]
 simp (disch := omega) only [upd_ne]
theorem read_short (b : List UInt8) (hb : b.length ≤ 100000) (h : ¬ 32 ≤ b.length) (k : Nat) :
  ACall Tryz.prog 180 [.slice none (b.map byteAV)] k [] (.tup [tagAV zeroTag, teAV te0, .lit (.int .i64 5)]) [] := by
 have hi : (b.length : Int) < 32 := by omega
 refine ACall.of_bodyD (l := [_]) mixed Tryz.func180 rfl (by kernel_rfl) Tryz.ntmps180 (by kernel_rfl) (by kernel_rfl) rfl (by kernel_rfl) rfl (by simp) (by simp) (by simp) fun σ N hp hpn hk hkn hfree => ?_
 (apply goP_region; (· (simp only [List.length_cons, List.length_nil, Nat.reduceAdd]; rfl)))
 refine Wgs ?_
 refine ⟨rfl, ?_⟩
 refine Wst ?_
 apply go_nil
 refine ⟨_, _, rfl, ?_⟩
 refine Wpm ?_
 refine Wpo ?_
 refine goP_panic (T := 248) (l1 := [_, _]) (l2 := []) rfl ?_
 refine Wst ?_
 apply go_nil
 refine ⟨by simp (disch := omega) [go_sem, *, -List.reduceReplicate], ?_⟩
 refine ⟨malE true, _, _, ?_, rfl, read1_mal zeroTag ⟨0, 0⟩ 0 N (N + 1) (N + 2) (by omega) (by omega) (by omega), fun σ' n' hag => ?_⟩
 ·intro p hp
  simp only [List.mem_cons, List.not_mem_nil, or_false] at hp
  rcases hp with rfl | rfl | rfl <;> (simp only [teAV]; simp (disch := omega) [go_sem, *, -List.reduceReplicate])
 ·have q1 : σ' N = .box 29 (tagAV zeroTag) := (hag N (by simp only; omega)).trans (by simp (disch := omega) only [wr_cons, wr_nil, upd_same, upd_ne])
  have q2 : σ' (N + 1) = .box 104 (teAV te0) := (hag (N + 1) (by simp only; omega)).trans (by simp (disch := omega) only [wr_cons, wr_nil, upd_same, upd_ne])
  have q3 : σ' (N + 2) = .box 57 (.lit (.int .i64 5)) := (hag (N + 2) (by simp only; omega)).trans (by simp (disch := omega) only [wr_cons, wr_nil, upd_same])
  have hlow : ∀ id, id < N → σ' id = σ id := fun id hid => (hag id (by simp only; omega)).trans (by simp (disch := omega) only [wr_cons, wr_nil, upd_ne])
  simp only [teAV, te0] at q2 ⊢
  refine ARet.of ?_
  exact go_result (by simp (disch := omega) [go_sem, *, -List.reduceReplicate]; rfl) (by simp (disch := omega) [go_sem]; try rfl) hlow
theorem read_bad1 (b : List UInt8) (hb : b.length ≤ 100000) (h : 32 ≤ b.length) (h1 : (rdS (b.drop 32)).2.2 ≠ 0) (k : Nat) :
  ACall Tryz.prog 180 [.slice none (b.map byteAV)] k [] (.tup [tagAV zeroTag, teAV te0, .lit (.int .i64 5)]) [] := by
 have hi : ¬ (b.length : Int) < 32 := by omega
 have hmin : Nat.min b.length 32 = 32 := Nat.min_eq_right h
 obtain ⟨T, hT⟩ : ∃ T : Tg, T = ⟨b.take 32, by rw [List.length_take]; omega⟩ := ⟨⟨b.take 32, by rw [List.length_take]; omega⟩, rfl⟩
 have hT1 : (b.map byteAV).take 32 = T.1.map byteAV := by rw [hT, List.map_take]
 have hD1 : (b.map byteAV).drop 32 = (b.drop 32).map byteAV := by rw [List.map_drop]
 have hDl : (b.drop 32).length = b.length - 32 := List.length_drop ..
 have c1 := number_bad (b.drop 32) (by omega) h1
 obtain ⟨y, hy⟩ : ∃ y, b.drop 32 = y := ⟨_, rfl⟩
 rw [hy] at hD1 hDl
 rw [hy] at c1
 clear h1 hy hT
 obtain ⟨T, hTl⟩ := T
 have hTA : tagAV ⟨T, hTl⟩ = .agg (T.map byteAV) := rfl
 have hs1 : (AV.agg (T.map byteAV)).sz = 32 := by simp only [AV.sz, szl_bytes]; exact hTl
 have hs2 : (AV.agg (T.map byteAV)).cell = true := celll_bytes T
 have hz32 : (zeroTag.val.map byteAV).drop 32 = [] := rfl
 simp only at hT1
 refine ACall.of_bodyD (l := [_]) mixed Tryz.func180 rfl (by kernel_rfl) Tryz.ntmps180 (by kernel_rfl) (by kernel_rfl) rfl (by kernel_rfl) rfl (by simp) (by simp) (by simp) fun σ N hp hpn hk hkn hfree => ?_
 (apply goP_region; (· (simp only [List.length_cons, List.length_nil, Nat.reduceAdd]; rfl)))
 refine Wgs ?_
 refine ⟨rfl, ?_⟩
 refine Wst ?_
 apply go_nil
 refine ⟨_, _, rfl, ?_⟩
 have M : Mut (N + 8) := ⟨⟩
 refine Wpm ?_
 iterate 3 (refine Wpo ?_)
 refine goP_callPanic (ch := malE false) (l1 := [_]) (l2 := [_, _, _, _, _, _]) rfl ?_
 refine Wst ?_
 apply go_nil
 refine ⟨⟨_, _, rfl, ?_⟩, ?_⟩
 ·refine Eq.mpr (congrArg (fun l => APanic Tryz.prog _ l _ _) ?_) (c1 _)
  simp (disch := omega) [go_sem, *, -List.reduceReplicate]
 ·refine ⟨malE true, _, _, ?_, rfl, read1_mal ⟨T, hTl⟩ ⟨0, 0⟩ 0 N (N + 1) (N + 2) (by omega) (by omega) (by omega), fun σ' n' hag => ?_⟩
  ·intro p hp
   simp only [List.mem_cons, List.not_mem_nil, or_false] at hp
   rcases hp with rfl | rfl | rfl <;> (simp only [teAV]; simp (disch := omega) [go_sem, *, -List.reduceReplicate])
  ·have q1 : σ' N = .box 29 (tagAV zeroTag) := (hag N (by simp only; omega)).trans (by simp (disch := omega) only [wr_cons, wr_nil, upd_same, upd_ne])
   have q2 : σ' (N + 1) = .box 104 (teAV te0) := (hag (N + 1) (by simp only; omega)).trans (by simp (disch := omega) only [wr_cons, wr_nil, upd_same, upd_ne])
   have q3 : σ' (N + 2) = .box 57 (.lit (.int .i64 5)) := (hag (N + 2) (by simp only; omega)).trans (by simp (disch := omega) only [wr_cons, wr_nil, upd_same])
   have hlow : ∀ id, id < N → σ' id = σ id := fun id hid => (hag id (by simp only; omega)).trans (by simp (disch := omega) only [wr_cons, wr_nil, upd_ne])
   simp only [teAV, te0] at q2 ⊢
   refine ARet.of ?_
   exact go_result (by simp (disch := omega) [go_sem, *, -List.reduceReplicate]; rfl) (by simp (disch := omega) [go_sem]; try rfl) hlow
theorem read_bad2 (b : List UInt8) (hb : b.length ≤ 100000) (h : 32 ≤ b.length) (n1 q1 : Nat) (h1 : rdS (b.drop 32) = (n1, q1, 0)) (h2 : (rdS ((b.drop 32).drop q1)).2.2 ≠ 0) (k : Nat) :
  ACall Tryz.prog 180 [.slice none (b.map byteAV)] k [] (.tup [tagAV zeroTag, teAV te0, .lit (.int .i64 5)]) [] := by
 have hi : ¬ (b.length : Int) < 32 := by omega
 have hmin : Nat.min b.length 32 = 32 := Nat.min_eq_right h
 obtain ⟨T, hT⟩ : ∃ T : Tg, T = ⟨b.take 32, by rw [List.length_take]; omega⟩ := ⟨⟨b.take 32, by rw [List.length_take]; omega⟩, rfl⟩
 have hT1 : (b.map byteAV).take 32 = T.1.map byteAV := by rw [hT, List.map_take]
 have hD1 : (b.map byteAV).drop 32 = (b.drop 32).map byteAV := by rw [List.map_drop]
 have hDl : (b.drop 32).length = b.length - 32 := List.length_drop ..
 have hle1 := rdS_le (b.drop 32)
 rw [h1] at hle1
 simp only at hle1
 have c1 := number_ok (b.drop 32) (by omega) n1 q1 h1
 obtain ⟨y2, hy2⟩ : ∃ z, (b.drop 32).drop q1 = z := ⟨_, rfl⟩
 have hy2l : y2.length ≤ b.length := by rw [← hy2, List.length_drop]; omega
 rw [hy2] at c1 h2
 have c2 := number_bad y2 (by omega) h2
 obtain ⟨y, hy⟩ : ∃ y, b.drop 32 = y := ⟨_, rfl⟩
 rw [hy] at hD1 hDl
 rw [hy] at c1
 clear h1 h2 hy hT hy2 hle1
 obtain ⟨T, hTl⟩ := T
 have hTA : tagAV ⟨T, hTl⟩ = .agg (T.map byteAV) := rfl
 have hs1 : (AV.agg (T.map byteAV)).sz = 32 := by simp only [AV.sz, szl_bytes]; exact hTl
 have hs2 : (AV.agg (T.map byteAV)).cell = true := celll_bytes T
 have hz32 : (zeroTag.val.map byteAV).drop 32 = [] := rfl
 simp only at hT1
 have hcs := And.intro c1 True.intro
 clear c1
 refine ACall.of_bodyD (l := [_]) mixed Tryz.func180 rfl (by kernel_rfl) Tryz.ntmps180 (by kernel_rfl) (by kernel_rfl) rfl (by kernel_rfl) rfl (by simp) (by simp) (by simp) fun σ N hp hpn hk hkn hfree => ?_
 (apply goP_region; (· (simp only [List.length_cons, List.length_nil, Nat.reduceAdd]; rfl)))
 refine Wgs ?_
 refine ⟨rfl, ?_⟩
 refine Wst ?_
 apply go_nil
 refine ⟨_, _, rfl, ?_⟩
 have M : Mut (N + 8) := ⟨⟩
 refine Wpm ?_
 iterate 4 (refine Wpo ?_)
 refine goP_callPanic (ch := malE false) (l1 := [_]) (l2 := [_, _, _, _, _, _]) rfl ?_
 refine Wst ?_
 apply go_nil
 refine ⟨⟨_, _, rfl, ?_⟩, ?_⟩
 ·refine Eq.mpr (congrArg (fun l => APanic Tryz.prog _ l _ _) ?_) (c2 _)
  simp (disch := omega) [go_sem, *, -List.reduceReplicate]
 ·refine ⟨malE true, _, _, ?_, rfl, read1_mal ⟨T, hTl⟩ ⟨(n1 : Nat), 0⟩ 0 N (N + 1) (N + 2) (by omega) (by omega) (by omega), fun σ' n' hag => ?_⟩
  ·intro p hp
   simp only [List.mem_cons, List.not_mem_nil, or_false] at hp
   rcases hp with rfl | rfl | rfl <;> (simp only [teAV]; simp (disch := omega) [go_sem, *, -List.reduceReplicate])
  ·have q1 : σ' N = .box 29 (tagAV zeroTag) := (hag N (by simp only; omega)).trans (by simp (disch := omega) only [wr_cons, wr_nil, upd_same, upd_ne])
   have q2 : σ' (N + 1) = .box 104 (teAV te0) := (hag (N + 1) (by simp only; omega)).trans (by simp (disch := omega) only [wr_cons, wr_nil, upd_same, upd_ne])
   have q3 : σ' (N + 2) = .box 57 (.lit (.int .i64 5)) := (hag (N + 2) (by simp only; omega)).trans (by simp (disch := omega) only [wr_cons, wr_nil, upd_same])
   have hlow : ∀ id, id < N → σ' id = σ id := fun id hid => (hag id (by simp only; omega)).trans (by simp (disch := omega) only [wr_cons, wr_nil, upd_ne])
   simp only [teAV, te0] at q2 ⊢
   refine ARet.of ?_
   exact go_result (by simp (disch := omega) [go_sem, *, -List.reduceReplicate]; rfl) (by simp (disch := omega) [go_sem]; try rfl) hlow
theorem read_long (b : List UInt8) (hb : b.length ≤ 100000) (h : 32 ≤ b.length) (n1 q1 : Nat) (h1 : rdS (b.drop 32) = (n1, q1, 0)) (n2 q2 : Nat) (h2 : rdS ((b.drop 32).drop q1) = (n2, q2, 0)) (h3 : 0 < (((b.drop 32).drop q1).drop q2).length) (k : Nat) :
  ACall Tryz.prog 180 [.slice none (b.map byteAV)] k [] (.tup [tagAV zeroTag, teAV te0, .lit (.int .i64 5)]) [] := by
 have hi : ¬ (b.length : Int) < 32 := by omega
 have hmin : Nat.min b.length 32 = 32 := Nat.min_eq_right h
 obtain ⟨T, hT⟩ : ∃ T : Tg, T = ⟨b.take 32, by rw [List.length_take]; omega⟩ := ⟨⟨b.take 32, by rw [List.length_take]; omega⟩, rfl⟩
 have hT1 : (b.map byteAV).take 32 = T.1.map byteAV := by rw [hT, List.map_take]
 have hD1 : (b.map byteAV).drop 32 = (b.drop 32).map byteAV := by rw [List.map_drop]
 have hDl : (b.drop 32).length = b.length - 32 := List.length_drop ..
 have hle1 := rdS_le (b.drop 32)
 rw [h1] at hle1
 simp only at hle1
 have c1 := number_ok (b.drop 32) (by omega) n1 q1 h1
 obtain ⟨y2, hy2⟩ : ∃ z, (b.drop 32).drop q1 = z := ⟨_, rfl⟩
 have hy2l : y2.length ≤ b.length := by rw [← hy2, List.length_drop]; omega
 rw [hy2] at c1 h2
 have hle2 := rdS_le y2
 rw [h2] at hle2
 simp only at hle2
 have c2 := number_ok y2 (by omega) n2 q2 h2
 obtain ⟨z, hzz⟩ : ∃ z, y2.drop q2 = z := ⟨_, rfl⟩
 rw [hy2] at h3
 rw [hzz] at c2 h3
 obtain ⟨y, hy⟩ : ∃ y, b.drop 32 = y := ⟨_, rfl⟩
 rw [hy] at hD1 hDl
 rw [hy] at c1
 clear h1 h2 hy hT hy2 hle1 hzz hle2
 obtain ⟨T, hTl⟩ := T
 have hTA : tagAV ⟨T, hTl⟩ = .agg (T.map byteAV) := rfl
 have hs1 : (AV.agg (T.map byteAV)).sz = 32 := by simp only [AV.sz, szl_bytes]; exact hTl
 have hs2 : (AV.agg (T.map byteAV)).cell = true := celll_bytes T
 have hz32 : (zeroTag.val.map byteAV).drop 32 = [] := rfl
 simp only at hT1
 have h3i : (0 : Int) < (z.length : Int) := by omega
 have hcs := And.intro c1 (And.intro c2 True.intro)
 clear c1 c2
 refine ACall.of_bodyD (l := [_]) mixed Tryz.func180 rfl (by kernel_rfl) Tryz.ntmps180 (by kernel_rfl) (by kernel_rfl) rfl (by kernel_rfl) rfl (by simp) (by simp) (by simp) fun σ N hp hpn hk hkn hfree => ?_
 (apply goP_region; (· (simp only [List.length_cons, List.length_nil, Nat.reduceAdd]; rfl)))
 refine Wgs ?_
 refine ⟨rfl, ?_⟩
 refine Wst ?_
 apply go_nil
 refine ⟨_, _, rfl, ?_⟩
 have M : Mut (N + 8) := ⟨⟩
 refine Wpm ?_
 iterate 6 (refine Wpo ?_)
 refine goP_panic (T := 248) (l1 := [_, _]) (l2 := []) rfl ?_
 refine Wst ?_
 apply go_nil
 refine ⟨by simp (disch := omega) [go_sem, *, -List.reduceReplicate], ?_⟩
 refine ⟨malE true, _, _, ?_, rfl, read1_mal ⟨T, hTl⟩ ⟨(n1 : Nat), (n2 : Nat)⟩ 0 N (N + 1) (N + 2) (by omega) (by omega) (by omega), fun σ' n' hag => ?_⟩
 ·intro p hp
  simp only [List.mem_cons, List.not_mem_nil, or_false] at hp
  rcases hp with rfl | rfl | rfl <;> (simp only [teAV]; simp (disch := omega) [go_sem, *, -List.reduceReplicate])
 ·have q1 : σ' N = .box 29 (tagAV zeroTag) := (hag N (by simp only; omega)).trans (by simp (disch := omega) only [wr_cons, wr_nil, upd_same, upd_ne])
  have q2 : σ' (N + 1) = .box 104 (teAV te0) := (hag (N + 1) (by simp only; omega)).trans (by simp (disch := omega) only [wr_cons, wr_nil, upd_same, upd_ne])
  have q3 : σ' (N + 2) = .box 57 (.lit (.int .i64 5)) := (hag (N + 2) (by simp only; omega)).trans (by simp (disch := omega) only [wr_cons, wr_nil, upd_same])
  have hlow : ∀ id, id < N → σ' id = σ id := fun id hid => (hag id (by simp only; omega)).trans (by simp (disch := omega) only [wr_cons, wr_nil, upd_ne])
  simp only [teAV, te0] at q2 ⊢
  refine ARet.of ?_
  exact go_result (by simp (disch := omega) [go_sem, *, -List.reduceReplicate]; rfl) (by simp (disch := omega) [go_sem]; try rfl) hlow
theorem read_inv (b : List UInt8) (hb : b.length ≤ 100000) (h : 32 ≤ b.length) (n1 q1 : Nat) (h1 : rdS (b.drop 32) = (n1, q1, 0)) (n2 q2 : Nat) (h2 : rdS ((b.drop 32).drop q1) = (n2, q2, 0)) (h3 : ((b.drop 32).drop q1).drop q2 = []) (h4 : teB ⟨(n1 : Nat), (n2 : Nat)⟩ = false) (k : Nat) :
  ACall Tryz.prog 180 [.slice none (b.map byteAV)] k [] (.tup [tagAV zeroTag, teAV te0, .lit (.int .i64 5)]) [] := by
 have c3 := pTerms_spec ⟨(n1 : Nat), (n2 : Nat)⟩
 rw [h4] at c3
 unfold teAV at c3
 simp only at c3
 have hi : ¬ (b.length : Int) < 32 := by omega
 have hmin : Nat.min b.length 32 = 32 := Nat.min_eq_right h
 obtain ⟨T, hT⟩ : ∃ T : Tg, T = ⟨b.take 32, by rw [List.length_take]; omega⟩ := ⟨⟨b.take 32, by rw [List.length_take]; omega⟩, rfl⟩
 have hT1 : (b.map byteAV).take 32 = T.1.map byteAV := by rw [hT, List.map_take]
 have hD1 : (b.map byteAV).drop 32 = (b.drop 32).map byteAV := by rw [List.map_drop]
 have hDl : (b.drop 32).length = b.length - 32 := List.length_drop ..
 have hle1 := rdS_le (b.drop 32)
 rw [h1] at hle1
 simp only at hle1
 have c1 := number_ok (b.drop 32) (by omega) n1 q1 h1
 obtain ⟨y2, hy2⟩ : ∃ z, (b.drop 32).drop q1 = z := ⟨_, rfl⟩
 have hy2l : y2.length ≤ b.length := by rw [← hy2, List.length_drop]; omega
 rw [hy2] at c1 h2
 have hle2 := rdS_le y2
 rw [h2] at hle2
 simp only at hle2
 have c2 := number_ok y2 (by omega) n2 q2 h2
 obtain ⟨z, hzz⟩ : ∃ z, y2.drop q2 = z := ⟨_, rfl⟩
 rw [hy2] at h3
 rw [hzz] at c2 h3
 obtain ⟨y, hy⟩ : ∃ y, b.drop 32 = y := ⟨_, rfl⟩
 rw [hy] at hD1 hDl
 rw [hy] at c1
 clear h1 h2 hy hT hy2 hle1 hzz hle2
 obtain ⟨T, hTl⟩ := T
 have hTA : tagAV ⟨T, hTl⟩ = .agg (T.map byteAV) := rfl
 have hs1 : (AV.agg (T.map byteAV)).sz = 32 := by simp only [AV.sz, szl_bytes]; exact hTl
 have hs2 : (AV.agg (T.map byteAV)).cell = true := celll_bytes T
 have hz32 : (zeroTag.val.map byteAV).drop 32 = [] := rfl
 simp only at hT1
 subst h3
 have hcs := And.intro c1 (And.intro c2 (And.intro c3 True.intro))
 clear c1 c2 c3 h4
 refine ACall.of_bodyD (l := [_]) mixed Tryz.func180 rfl (by kernel_rfl) Tryz.ntmps180 (by kernel_rfl) (by kernel_rfl) rfl (by kernel_rfl) rfl (by simp) (by simp) (by simp) fun σ N hp hpn hk hkn hfree => ?_
 (apply goP_region; (· (simp only [List.length_cons, List.length_nil, Nat.reduceAdd]; rfl)))
 refine Wgs ?_
 refine ⟨rfl, ?_⟩
 refine Wst ?_
 apply go_nil
 refine ⟨_, _, rfl, ?_⟩
 have M : Mut (N + 8) := ⟨⟩
 refine Wpm ?_
 iterate 6 (refine Wpo ?_)
 refine goP_panic (T := 248) (l1 := [_, _]) (l2 := []) rfl ?_
 refine Wst ?_
 apply go_nil
 refine ⟨by simp (disch := omega) [go_sem, *, -List.reduceReplicate], ?_⟩
 refine ⟨malE true, _, _, ?_, rfl, read1_mal ⟨T, hTl⟩ ⟨(n1 : Nat), (n2 : Nat)⟩ 0 N (N + 1) (N + 2) (by omega) (by omega) (by omega), fun σ' n' hag => ?_⟩
 ·intro p hp
  simp only [List.mem_cons, List.not_mem_nil, or_false] at hp
  rcases hp with rfl | rfl | rfl <;> (simp only [teAV]; simp (disch := omega) [go_sem, *, -List.reduceReplicate])
 ·have q1 : σ' N = .box 29 (tagAV zeroTag) := (hag N (by simp only; omega)).trans (by simp (disch := omega) only [wr_cons, wr_nil, upd_same, upd_ne])
  have q2 : σ' (N + 1) = .box 104 (teAV te0) := (hag (N + 1) (by simp only; omega)).trans (by simp (disch := omega) only [wr_cons, wr_nil, upd_same, upd_ne])
  have q3 : σ' (N + 2) = .box 57 (.lit (.int .i64 5)) := (hag (N + 2) (by simp only; omega)).trans (by simp (disch := omega) only [wr_cons, wr_nil, upd_same])
  have hlow : ∀ id, id < N → σ' id = σ id := fun id hid => (hag id (by simp only; omega)).trans (by simp (disch := omega) only [wr_cons, wr_nil, upd_ne])
  simp only [teAV, te0] at q2 ⊢
  refine ARet.of ?_
  exact go_result (by simp (disch := omega) [go_sem, *, -List.reduceReplicate]; rfl) (by simp (disch := omega) [go_sem]; try rfl) hlow
theorem read_ok (b : List UInt8) (hb : b.length ≤ 100000) (h : 32 ≤ b.length) (n1 q1 : Nat) (h1 : rdS (b.drop 32) = (n1, q1, 0)) (n2 q2 : Nat) (h2 : rdS ((b.drop 32).drop q1) = (n2, q2, 0)) (h3 : ((b.drop 32).drop q1).drop q2 = []) (h4 : teB ⟨(n1 : Nat), (n2 : Nat)⟩ = true) (T : Tg) (hT0 : T.1 = b.take 32) (k : Nat) :
  ACall Tryz.prog 180 [.slice none (b.map byteAV)] k [] (.tup [tagAV T, teAV ⟨(n1 : Nat), (n2 : Nat)⟩, .lit (.int .i64 0)]) [] := by
 have c3 := pTerms_spec ⟨(n1 : Nat), (n2 : Nat)⟩
 rw [h4] at c3
 unfold teAV at *
 simp only at c3 ⊢
 have hi : ¬ (b.length : Int) < 32 := by omega
 have hmin : Nat.min b.length 32 = 32 := Nat.min_eq_right h
 have hT1 : (b.map byteAV).take 32 = T.1.map byteAV := by rw [hT0, List.map_take]
 have hD1 : (b.map byteAV).drop 32 = (b.drop 32).map byteAV := by rw [List.map_drop]
 have hDl : (b.drop 32).length = b.length - 32 := List.length_drop ..
 have hle1 := rdS_le (b.drop 32)
 rw [h1] at hle1
 simp only at hle1
 have c1 := number_ok (b.drop 32) (by omega) n1 q1 h1
 obtain ⟨y2, hy2⟩ : ∃ z, (b.drop 32).drop q1 = z := ⟨_, rfl⟩
 have hy2l : y2.length ≤ b.length := by rw [← hy2, List.length_drop]; omega
 rw [hy2] at c1 h2
 have hle2 := rdS_le y2
 rw [h2] at hle2
 simp only at hle2
 have c2 := number_ok y2 (by omega) n2 q2 h2
 obtain ⟨z, hzz⟩ : ∃ z, y2.drop q2 = z := ⟨_, rfl⟩
 rw [hy2] at h3
 rw [hzz] at c2 h3
 obtain ⟨y, hy⟩ : ∃ y, b.drop 32 = y := ⟨_, rfl⟩
 rw [hy] at hD1 hDl
 rw [hy] at c1
 clear h1 h2 hy hT0 hy2 hle1 hzz hle2
 obtain ⟨T, hTl⟩ := T
 have hTA : tagAV ⟨T, hTl⟩ = .agg (T.map byteAV) := rfl
 have hs1 : (AV.agg (T.map byteAV)).sz = 32 := by simp only [AV.sz, szl_bytes]; exact hTl
 have hs2 : (AV.agg (T.map byteAV)).cell = true := celll_bytes T
 have hz32 : (zeroTag.val.map byteAV).drop 32 = [] := rfl
 simp only at hT1
 rw [hTA]
 subst h3
 have hcs := And.intro c1 (And.intro c2 (And.intro c3 True.intro))
 clear c1 c2 c3 h4
 refine ACall.of_bodyD (l := [_]) mixed Tryz.func180 rfl (by kernel_rfl) Tryz.ntmps180 (by kernel_rfl) (by kernel_rfl) rfl (by kernel_rfl) rfl (by simp) (by simp) (by simp) fun σ N hp hpn hk hkn hfree => ?_
 (apply goP_region; (· (simp only [List.length_cons, List.length_nil, Nat.reduceAdd]; rfl)))
 refine Wgs ?_
 refine ⟨rfl, ?_⟩
 refine Wst ?_
 apply go_nil
 refine ⟨_, _, rfl, ?_⟩
 have M : Mut (N + 8) := ⟨⟩
 refine Wpm ?_
 iterate 7 (refine Wpo ?_)
 refine ⟨rfl, ⟨[], (fun p hp => by cases hp), read1_ret N (N + 1) (N + 2)⟩, fun σ' n' hag => ?_⟩
 have q1 : σ' N = .box 29 (.agg (T.map byteAV)) := (hag N (by simp only; omega)).trans (by simp (disch := omega) [go_sem, *, -List.reduceReplicate])
 have q2 : σ' (N + 1) = .box 104 (.agg [.lit (.int .i64 n1), .lit (.int .i64 n2)]) := (hag (N + 1) (by simp only; omega)).trans (by simp (disch := omega) [go_sem, *, -List.reduceReplicate])
 have q3 : σ' (N + 2) = .box 57 (.lit (.int .i64 0)) := (hag (N + 2) (by simp only; omega)).trans (by simp (disch := omega) [go_sem, *, -List.reduceReplicate])
 have hlow : ∀ id, id < N → σ' id = σ id := fun id hid => (hag id (by simp only; omega)).trans (by simp (disch := omega) only [wr_nil, upd_ne])
 refine ARet.of ?_
 exact go_result (by simp (disch := omega) [go_sem, *, -List.reduceReplicate]; rfl) (by simp (disch := omega) [go_sem]; try rfl) hlow
theorem read_spec (b : List UInt8) (hb : b.length ≤ 100000) (k : Nat) : ACall Tryz.prog 180 [.slice none (b.map byteAV)] k [] (moAV (readT b)) [] := by
 unfold readT moAV
 by_cases h : 32 ≤ b.length
 ·have ht := tagR_ok (b := b) (u := 0) (by omega)
  rw [ht]
  rw [if_neg (by simp)]
  have hn : ∀ u, numR b u = ((rdS (b.drop u)).1, u + (rdS (b.drop u)).2.1, (rdS (b.drop u)).2.2) := fun _ => rfl
  by_cases h1 : (rdS (b.drop 32)).2.2 ≠ 0
  ·rw [if_pos (by rw [hn]; exact h1)]
   exact read_bad1 b hb h h1 k
  ·rw [if_neg (by rw [hn]; exact h1)]
   have h1e : rdS (b.drop 32) = ((rdS (b.drop 32)).1, (rdS (b.drop 32)).2.1, 0) := by
    have : (rdS (b.drop 32)).2.2 = 0 := by omega
    rw [← this]
   have hle1 := rdS_le (b.drop 32)
   generalize (rdS (b.drop 32)).1 = n1 at *
   generalize (rdS (b.drop 32)).2.1 = q1 at *
   have hu1 : numR b 32 = (n1, 32 + q1, 0) := by rw [hn, h1e]
   rw [hu1]
   simp only
   have hdd : b.drop (32 + q1) = (b.drop 32).drop q1 := by rw [List.drop_drop]
   by_cases h2 : (rdS ((b.drop 32).drop q1)).2.2 ≠ 0
   ·rw [if_pos (by rw [hn, hdd]; exact h2)]
    exact read_bad2 b hb h n1 q1 h1e h2 k
   ·rw [if_neg (by rw [hn, hdd]; exact h2)]
    have h2e : rdS ((b.drop 32).drop q1) = ((rdS ((b.drop 32).drop q1)).1, (rdS ((b.drop 32).drop q1)).2.1, 0) := by
     have : (rdS ((b.drop 32).drop q1)).2.2 = 0 := by omega
     rw [← this]
    have hle2 := rdS_le ((b.drop 32).drop q1)
    generalize (rdS ((b.drop 32).drop q1)).1 = n2 at *
    generalize (rdS ((b.drop 32).drop q1)).2.1 = q2 at *
    have hu2 : numR b (32 + q1) = (n2, 32 + q1 + q2, 0) := by rw [hn, hdd, h2e]
    rw [hu2]
    simp only
    rw [List.length_drop, List.length_drop] at hle2
    rw [List.length_drop] at hle1
    have hl3 : (((b.drop 32).drop q1).drop q2).length = b.length - (32 + q1 + q2) := by simp only [List.length_drop]; omega
    by_cases h3 : 32 + q1 + q2 = b.length
    ·have h3e : ((b.drop 32).drop q1).drop q2 = [] := List.length_eq_zero_iff.1 (by omega)
     cases h4 : teB ⟨(n1 : Nat), (n2 : Nat)⟩ with
     | false =>
      rw [if_pos (.inr rfl)]
      exact read_inv b hb h n1 q1 h1e n2 q2 h2e h3e h4 k
     | true =>
      rw [if_neg (by rintro (h5 | h5); · exact h5 h3
                     ·cases h5)]
      exact read_ok b hb h n1 q1 h1e n2 q2 h2e h3e h4 _ (by simp) k
    ·rw [if_pos (.inl h3)]
     exact read_long b hb h n1 q1 h1e n2 q2 h2e (by omega) k
 ·have ht := tagR_bad (b := b) (u := 0) (by omega)
  rw [ht, if_pos (by simp)]
  exact read_short b hb h k

section
variable [W : W32]
end

section
variable [W : W32]
set_option maxHeartbeats 4000000 in
theorem tOpen_spec (a : Alg) (m : Nat) (ha : AlgIn a m) (hm : m ≤ 900000) (c : Co) (t : List UInt8) (ht : t.length ≤ 100000) (g k : Nat) :
  ACall Tryz.prog 124 [algAV a, concAV c, .slice none (t.map byteAV)] k [(g, shaG)] (moAV (openT a c t)) [] := by
 have c0 := pOpen_spec a m ha hm c.key t ht g
 have hol := openS_len a m ha c.key t ht
 have haA : algAV a = .agg [.lit (.bool a.free), tagAV a.seed, .lit (.int .i64 a.fresh), .slice none (a.macs.map macAV), .slice none (a.boxes.map sealAV)] := rfl
 unfold openT
 unfold soAV at c0
 generalize openS a c.key t = X at *
 obtain ⟨b, e⟩ := X
 simp only at c0 hol ⊢
 obtain ⟨cp, ck, cs⟩ := c
 simp only at c0
 clear ha
 by_cases he : e = 0
 ·subst he
  rw [if_neg (by simp)]
  have c1 := read_spec b (by omega)
  generalize readT b = Y at *
  obtain ⟨y1, y2, y3⟩ := Y
  unfold moAV at c1 ⊢
  simp only at c1 ⊢
  refine Bd Tryz.func124 Tryz.ntmps124 fun σ N hp hpn hk hkn hfree => ?_
  obtain ⟨hd, hdn⟩ := HD0 hp hpn; clear hp hpn
  have hcs := And.intro c0 (And.intro c1 True.intro)
  clear c0 c1
  refine Wk ?_
  exact WD
 ·rw [if_pos he]
  have h1i : ((e : Int) != 0) = true := by rw [bne_iff_ne]; omega
  unfold moAV
  simp only [te0_eq]
  refine Bd Tryz.func124 Tryz.ntmps124 fun σ N hp hpn hk hkn hfree => ?_
  obtain ⟨hd, hdn⟩ := HD0 hp hpn; clear hp hpn
  have hcs := And.intro c0 True.intro
  clear c0
  refine Wk ?_
  exact WD
end

def note (b : Bool) (f e : Nat) : Nat := if b = true then e else if e = 0 then f else e
theorem note_err {b : Bool} {f e : Nat} (h : e ≠ 0) : note b f e = e := by unfold note; rw [if_neg h, ite_self]
theorem note_t {f e : Nat} : note true f e = e := rfl
theorem note_f {f : Nat} : note false f 0 = f := rfl
def minB (n : Int) : Bool := decide (0 ≤ n) && decide (n ≤ 67108864)
theorem predB_hold (h : List UInt8) : predB (holdP h) = nameB h := by
 unfold predB holdP
 simp
section
variable [W : W32]
def grE (a : Alg) (c : Co) (t holder : List UInt8) (minute : Int) : Nat :=
 note (decide (¬ (openT a c t).2.1.most < ageS (findP c.ps holder).1.born minute)) 25
  (note (decide (¬ ageS (findP c.ps holder).1.born minute < (openT a c t).2.1.least)) 25
  (note (findP c.ps holder).2 12 (note (decide ((openT a c t).2.2 = 0)) (openT a c t).2.2 (note (minB minute) 1 (note (nameB holder) 7 0)))))
def grM (a : Alg) (e : Nat) (kt : Tg) (t : List UInt8) : Alg × Nat × Tg := mMac a e kt (grantM t)
def grC (a : Alg) (e : Nat) (kt : Tg) (t holder : List UInt8) : Alg × Nat × Di := condP (grM a e kt t).1 (grM a e kt t).2.1 ⟨t, [], (grM a e kt t).2.2⟩ (holdP holder)
theorem grC_err {a : Alg} {e : Nat} (kt : Tg) (t holder : List UInt8) (h : e ≠ 0) : (grC a e kt t holder).2.1 = e := by
 unfold grC grM
 rw [mMac_err h]
 unfold condP
 simp only
 rw [if_neg h, mMac_err h]
theorem grantS_C (a : Alg) (c : Co) (t holder : List UInt8) (minute : Int) :
  grantS a c t holder minute = if (grC a (grE a c t holder minute) (openT a c t).1 t holder).2.1 = 0 then ((grC a (grE a c t holder minute) (openT a c t).1 t holder).1, (grC a (grE a c t holder minute) (openT a c t).1 t holder).2.2, 0) else (alg0, di0, (grC a (grE a c t holder minute) (openT a c t).1 t holder).2.1) := by
 have bad : ∀ e : Nat, grE a c t holder minute = e → e ≠ 0 → (alg0, di0, e) = if (grC a (grE a c t holder minute) (openT a c t).1 t holder).2.1 = 0 then ((grC a (grE a c t holder minute) (openT a c t).1 t holder).1, (grC a (grE a c t holder minute) (openT a c t).1 t holder).2.2, 0) else (alg0, di0, (grC a (grE a c t holder minute) (openT a c t).1 t holder).2.1) := fun e h he => by
  rw [h, grC_err _ _ _ he, if_neg he]
 unfold grantS
 cases hn : nameB holder with
 | false =>
  rw [if_pos rfl]
  exact bad 7 (by unfold grE; rw [hn, note_f]; simp only [note_err (show (7 : Nat) ≠ 0 by decide)]) (by decide)
 | true =>
  rw [if_neg (by simp)]
  by_cases hm : minute < 0 ∨ 67108864 < minute
  ·rw [if_pos hm]
   have hb : minB minute = false := by unfold minB; rcases hm with h | h <;> simp <;> omega
   exact bad 1 (by unfold grE; rw [hn, note_t, hb, note_f]; simp only [note_err (show (1 : Nat) ≠ 0 by decide)]) (by decide)
  ·rw [if_neg hm]
   have hb : minB minute = true := by unfold minB; simp; omega
   by_cases ho : (openT a c t).2.2 ≠ 0
   ·rw [if_pos ho]
    have h1 : decide ((openT a c t).2.2 = 0) = false := by simpa using ho
    exact bad _ (by unfold grE; rw [hn, note_t, hb, note_t, h1, note_f]; simp only [note_err ho]) ho
   ·rw [if_neg ho]
    have h1 : decide ((openT a c t).2.2 = 0) = true := by simpa using ho
    cases hf : (findP c.ps holder).2 with
    | false =>
     rw [if_pos rfl]
     exact bad 12 (by unfold grE; rw [hn, note_t, hb, note_t, h1, note_t, hf, note_f]; simp only [note_err (show (12 : Nat) ≠ 0 by decide)]) (by decide)
    | true =>
     rw [if_neg (by simp)]
     by_cases h3 : ageS (findP c.ps holder).1.born minute < (openT a c t).2.1.least
     ·rw [if_pos (.inl h3)]
      have h2 : decide (¬ ageS (findP c.ps holder).1.born minute < (openT a c t).2.1.least) = false := by simpa using h3
      exact bad 25 (by unfold grE; rw [hn, note_t, hb, note_t, h1, note_t, hf, note_t, h2, note_f]; simp only [note_err (show (25 : Nat) ≠ 0 by decide)]) (by decide)
     ·have h2 : decide (¬ ageS (findP c.ps holder).1.born minute < (openT a c t).2.1.least) = true := by simpa using h3
      by_cases h4 : (openT a c t).2.1.most < ageS (findP c.ps holder).1.born minute
      ·rw [if_pos (.inr h4)]
       have h5 : decide (¬ (openT a c t).2.1.most < ageS (findP c.ps holder).1.born minute) = false := by simpa using h4
       exact bad 25 (by unfold grE; rw [hn, note_t, hb, note_t, h1, note_t, hf, note_t, h2, note_t, h5, note_f]) (by decide)
      ·rw [if_neg (by rintro (h | h); · exact h3 h
                      ·exact h4 h)]
       have h5 : decide (¬ (openT a c t).2.1.most < ageS (findP c.ps holder).1.born minute) = true := by simpa using h4
       have he : grE a c t holder minute = 0 := by unfold grE; rw [hn, note_t, hb, note_t, h1, note_t, hf, note_t, h2, note_t, h5, note_t]
       rw [he]
       unfold grC grM
       by_cases hk : (macS a (openT a c t).1 (grantM t)).2.2 = 0
       ·have hM : mMac a 0 (openT a c t).1 (grantM t) = ((macS a (openT a c t).1 (grantM t)).1, 0, (macS a (openT a c t).1 (grantM t)).2.1) := by unfold mMac; rw [if_neg (by simp), if_pos hk]
        rw [if_pos hk, hM, restrS_cond]
        have hr : ∀ x : Tg, resE ⟨t, [], x⟩ (holdP holder) = 0 := fun x => by
         unfold resE
         rw [predB_hold, hn, if_neg (by simp), if_neg (by simp [holdP]), if_neg (by simp)]
        rw [hr]
       ·have hM : mMac a 0 (openT a c t).1 (grantM t) = (a, (macS a (openT a c t).1 (grantM t)).2.2, zeroTag) := by unfold mMac; rw [if_neg (by simp), if_neg hk]
        rw [if_neg hk, hM]
        have h6 : (condP a (macS a (openT a c t).1 (grantM t)).2.2 ⟨t, [], zeroTag⟩ (holdP holder)).2.1 = (macS a (openT a c t).1 (grantM t)).2.2 := by
         unfold condP
         simp only
         rw [if_neg hk, mMac_err hk]
        simp only
        rw [h6, if_neg hk]
end

section
variable [W : W32]
omit W in
theorem note_open (f e : Nat) : (if e = 0 then f else e) = note (decide (f = 0)) f e := by
 unfold note
 by_cases h : f = 0
 ·rw [decide_eq_true h, if_pos rfl, h]
  split
  ·rename_i h2; exact h2.symm
  ·rfl
 ·rw [decide_eq_false h]; rfl
set_option maxHeartbeats 8000000 in
theorem Grant_spec (a : Alg) (m : Nat) (ha : AlgIn a m) (hm : m ≤ 800000) (c : Co) (hc : c.ps.length ≤ 1000000) (hcw : ∀ p ∈ c.ps, (Lit.int .i64 p.born).wf = true) (t : List UInt8) (ht : t.length ≤ 90000) (holder : List UInt8) (hh : holder.length ≤ 100000) (minute : Int) (g h : Nat) (_hgh : g ≠ h) (k : Nat) :
  ACall Tryz.prog 53 [algAV a, concAV c, .slice none (t.map byteAV), strAV holder, .lit (.int .i64 minute)] k [(g, shaG), (h, bitsG)] (mdAV (grantS a c t holder minute)) [] := by
 have hpo : PrOk (holdP holder) := ⟨by simp [holdP], by simp [holdP], by simp only [holdP]; omega⟩
 have cb := Begin_spec a (by have := ha.ml; omega) (by have := ha.bl; omega)
 have cv := predValid_spec (holdP holder) hpo h
 rw [predB_hold] at cv
 have cm := minutes_spec minute
 rw [show (decide (0 ≤ minute) && decide (minute ≤ 67108864)) = minB minute from rfl] at cm
 have co := tOpen_spec a m ha (by omega) c t (by omega) g
 have cf := Find_spec c.party c.key c.ps holder hc
 have hfw : (Lit.int .i64 (findP c.ps holder).1.born).wf = true := by
  unfold findP
  split
  ·rename_i p hp; exact hcw p (List.mem_of_find?_eq_some hp)
  ·decide
 have ca := Age_spec (findP c.ps holder).1.name (findP c.ps holder).1.born minute hfw
 have cM := Message_spec [103, 114, 97, 110, 116] t (by decide) (by omega)
 rw [show [103, 114, 97, 110, 116] ++ t = grantM t from rfl] at cM
 have cx : ∀ e q r1 r2 k, ACall Tryz.prog 126 [.ptr q [] 0, tagAV (openT a c t).1, .slice none ((grantM t).map byteAV)] k (makE a e q r1 r2 ++ [(g, shaG)]) (tagAV (grM a e (openT a c t).1 t).2.2) [(q, makB (grM a e (openT a c t).1 t).1 (grM a e (openT a c t).1 t).2.1 r1 r2), (r1, rowM (grM a e (openT a c t).1 t).1.macs.length)] := fun e q r1 r2 k =>
  mMac_spec a e (openT a c t).1 (grantM t) (by have := ha.ml; omega) ha.mm (fun _ => by simp [grantM]) (by simp [grantM]; omega) q r1 r2 g k
 have hbx : ∀ e, (grM a e (openT a c t).1 t).1.boxes = a.boxes := fun e => mMac_boxes _ _ _ _
 have hbx2 : ∀ e, (grC a e (openT a c t).1 t holder).1.boxes = (grM a e (openT a c t).1 t).1.boxes := fun e => mMac_boxes _ _ _ _
 have cc : ∀ e q r1 r2 k, ACall Tryz.prog 83 [.ptr q [] 0, diAV ⟨t, [], (grM a e (openT a c t).1 t).2.2⟩, prAV (holdP holder)] k (makE (grM a e (openT a c t).1 t).1 (grM a e (openT a c t).1 t).2.1 q r1 r2 ++ [(g, shaG), (h, bitsG)]) (diAV (grC a e (openT a c t).1 t holder).2.2) [(q, makB (grC a e (openT a c t).1 t holder).1 (grC a e (openT a c t).1 t holder).2.1 r1 r2), (r1, rowM (grC a e (openT a c t).1 t holder).1.macs.length)] := fun e q r1 r2 k =>
  dCond_spec (grM a e (openT a c t).1 t).1 (m + 1) (mMac_in ha e _ _) (by omega) (grM a e (openT a c t).1 t).2.1 ⟨t, [], (grM a e (openT a c t).1 t).2.2⟩ (by simp only; omega) (by simp) (holdP holder) hpo q r1 r2 g h k
 rw [grantS_C]
 obtain ⟨E, hE⟩ : ∃ E, grE a c t holder minute = E := ⟨_, rfl⟩
 rw [hE]
 unfold grE at hE
 replace cc := cc E
 replace cx := cx E
 replace hbx := hbx E
 replace hbx2 := hbx2 E
 have hcA : concAV c = .agg [.lit (.int .i64 c.party), tagAV c.key, .slice none (c.ps.map persAV)] := rfl
 rw [show (⟨c.party, c.key, c.ps⟩ : Co) = c from rfl] at cf
 generalize nameB holder = b1 at *
 generalize minB minute = b2 at *
 generalize findP c.ps holder = F at *
 obtain ⟨⟨pn, pb⟩, b3⟩ := F
 generalize grC a E (openT a c t).1 t holder = Z at *
 generalize grM a E (openT a c t).1 t = Y at *
 generalize openT a c t = O at *
 obtain ⟨kt, ⟨x, y⟩, oe⟩ := O
 obtain ⟨a2, e6, t2⟩ := Y
 obtain ⟨a3, e7, d3⟩ := Z
 simp only at *
 generalize ageS pb minute = A at *
 generalize grantM t = gm at *
 obtain ⟨e1, he1⟩ : ∃ e1, note b1 7 0 = e1 := ⟨_, rfl⟩
 rw [he1] at hE
 obtain ⟨e2, he2⟩ : ∃ e2, note b2 1 e1 = e2 := ⟨_, rfl⟩
 rw [he2] at hE
 obtain ⟨e3, he3⟩ : ∃ e3, note (decide (oe = 0)) oe e2 = e3 := ⟨_, rfl⟩
 rw [he3] at hE
 obtain ⟨e4, he4⟩ : ∃ e4, note b3 12 e3 = e4 := ⟨_, rfl⟩
 rw [he4] at hE
 rw [← note_open] at he3
 obtain ⟨v, hv, hvi⟩ : ∃ v, (if e7 = 0 then (a3, d3, 0) else (alg0, di0, e7)) = v ∧ ∀ q r1 r2 k, ACall Tryz.prog 82 [.ptr q [] 0, diAV d3] k (makE a3 e7 q r1 r2) (mdAV v) [] := by
  by_cases h1 : e7 = 0
  ·subst h1
   exact ⟨_, if_pos rfl, fun q r1 r2 k => dDone_ok a3 d3 q r1 r2 k⟩
  ·exact ⟨_, if_neg h1, fun q r1 r2 k => dDone_bad a3 e7 h1 d3 q r1 r2 k⟩
 rw [hv]
 clear hv ha hc hcw hfw hpo
 obtain ⟨av, dv, ev⟩ := v
 unfold mdAV at hvi ⊢
 unfold moAV teAV at co
 simp only at hvi co ⊢
 have hpA : prAV (holdP holder) = .agg [.lit (.int .i64 6), .lit (.int .u64 0), .lit (.int .i64 0), .lit (.int .i64 0), .lit (.string ⟨holder.toArray⟩), .lit (.int .i64 0)] := rfl
 have hnv : strAV holder = .lit (.string ⟨holder.toArray⟩) := rfl
 have hdA : diAV ⟨t, [], t2⟩ = .agg [.slice none (t.map byteAV), .slice none [], tagAV t2] := rfl
 rw [hpA] at cv cc
 rw [hnv] at cf ⊢
 rw [hdA] at cc
 unfold makAV at cb
 unfold makE at cx cc hvi
 simp only [List.cons_append, List.nil_append] at *
 rw [hbx2] at *
 simp only [makB_def, rowM_eq, rowB_eq, hbx] at *
 clear hbx hbx2 hpA hdA hcA
 have e00 : ((0 : Nat) : Int) = 0 := rfl
 rw [e00] at cb
 refine Bd Tryz.func53 Tryz.ntmps53 fun σ N hp hpn hk hkn hfree => ?_
 simp only [List.mem_cons, List.not_mem_nil, or_false, forall_eq_or_imp, forall_eq] at hp hpn; obtain ⟨hd1, hd2⟩ := hp; obtain ⟨hdn1, hdn2⟩ := hpn
 have hcs := And.intro cb True.intro
 refine Wm ?_
 iterate 2 refine Wz ?_
 clear hcs cb
 refine go_cliprowIn (N + 5 + 1) [0, 3] 149 65 (bt := 203) (c := .agg [.agg [.lit (.bool a.free), tagAV a.seed, .lit (.int .i64 a.fresh), .clip (a.macs.map macAV), .clip (a.boxes.map sealAV)], .lit (.int .i64 ((0 : Nat) : Int))]) (xs := a.macs.map macAV) (by simp (disch := omega) [go_sem, *, -List.reduceReplicate]) rfl (all_macs1 _) ?_; refine go_cliprowIn (N + 5 + 1) [0, 4] 151 35 (bt := 203) (c := .agg [.agg [.lit (.bool a.free), tagAV a.seed, .lit (.int .i64 a.fresh), .slice (some (N + 5 + 3)) (a.macs.map macAV), .clip (a.boxes.map sealAV)], .lit (.int .i64 ((0 : Nat) : Int))]) (xs := a.boxes.map sealAV) (by simp (disch := omega) [go_sem, *, -List.reduceReplicate]) rfl (all_boxes1 _) ?_
 have hcs := And.intro cv True.intro
 clear cv
 refine Wk ?_
 clear hcs
 refine go_if [29, 30] [N + 5 + 1] (fun σ' => σ' (N + 5 + 1) = (.box 203 (.agg [.agg [.lit (.bool a.free), tagAV a.seed, .lit (.int .i64 a.fresh), .slice (some (N + 5 + 3)) (a.macs.map macAV), .slice (some (N + 5 + 3 + 1)) (a.boxes.map sealAV)], .lit (.int .i64 (e1 : Int))]))) (fun hs_0 hf_0 => ?_) (fun s0 σ0 m0 hs_1 hf_1 hn0 g7 => ?_)
 ·cases b1 with
  | true =>
   have h1 : 0 = e1 := he1
   subst h1
   refine Wk ?_
   exact ⟨WS, hf_0, WN, WF⟩
  | false =>
   have h1 : (if 0 = 0 then 7 else 0) = e1 := he1
   have cF := Fail_spec a 0 7 (N + 5 + 1) (N + 5 + 3) (N + 5 + 3 + 1)
   rw [h1] at cF
   unfold makE at cF
   simp only [makB_def, rowM_eq, rowB_eq] at cF
   rw [show ((7 : Nat) : Int) = 7 from rfl] at cF
   rw [e00] at cF
   have hcs := And.intro cF True.intro
   clear cF
   refine Wk ?_
   exact ⟨WS, by simp only [wr_cons, wr_nil]; exact EKeep.updL (by simp) hf_0, WN, WF⟩
 have g2_1 := KS hs_1 2
 have g3_1 := KS hs_1 3
 have g4_1 := KS hs_1 4
 have g5_1 := KS hs_1 5
 have g6_1 := KS hs_1 6
 have g10_1 := KS hs_1 10
 have g11_1 := KS hs_1 11
 have g12_1 := KS hs_1 12
 have g13_1 := KS hs_1 13
 have g14_1 := KS hs_1 14
 have q0_1 := KE hf_1 N
 have q1_1 := KE hf_1 (N + 1)
 have q2_1 := KE hf_1 (N + 2)
 have q3_1 := KE hf_1 (N + 3)
 have q8_1 := KE hf_1 (N + 5 + 3)
 have q9_1 := KE hf_1 (N + 5 + 3 + 1)
 have qp_1 := KE hf_1 (N + 10 + 2)
 have qg_1 := KE hf_1 g
 have qh_1 := KE hf_1 h
 have hlow := KL (N := N) (σ := σ) hf_1
 clear hs_1 hf_1
 have hcs := And.intro cm True.intro
 clear cm
 refine Wk ?_
 clear hcs
 refine go_if [34, 35] [N + 5 + 1] (fun σ' => σ' (N + 5 + 1) = (.box 203 (.agg [.agg [.lit (.bool a.free), tagAV a.seed, .lit (.int .i64 a.fresh), .slice (some (N + 5 + 3)) (a.macs.map macAV), .slice (some (N + 5 + 3 + 1)) (a.boxes.map sealAV)], .lit (.int .i64 (e2 : Int))]))) (fun hs_0 hf_0 => ?_) (fun s2 σ2 m2 hs_2 hf_2 hn2 g7_2 => ?_)
 ·cases b2 with
  | true =>
   have h1 : e1 = e2 := he2
   subst h1
   refine Wk ?_
   exact ⟨WS, hf_0, WN, by simp (disch := omega) [go_sem, *, -List.reduceReplicate]⟩
  | false =>
   have h1 : (if e1 = 0 then 1 else e1) = e2 := he2
   have cF := Fail_spec a e1 1 (N + 5 + 1) (N + 5 + 3) (N + 5 + 3 + 1)
   rw [h1] at cF
   unfold makE at cF
   simp only [makB_def, rowM_eq, rowB_eq] at cF
   rw [show ((1 : Nat) : Int) = 1 from rfl] at cF
   have hcs := And.intro cF True.intro
   clear cF
   refine Wk ?_
   exact ⟨WS, by simp only [wr_cons, wr_nil]; exact EKeep.updL (by simp) hf_0, WN, WF⟩
 have g2_2 := KS hs_2 2
 have g3_2 := KS hs_2 3
 have g4_2 := KS hs_2 4
 have g5_2 := KS hs_2 5
 have g6_2 := KS hs_2 6
 have g10_2 := KS hs_2 10
 have g11_2 := KS hs_2 11
 have g12_2 := KS hs_2 12
 have g13_2 := KS hs_2 13
 have g14_2 := KS hs_2 14
 have q0_2 := KE hf_2 N
 have q1_2 := KE hf_2 (N + 1)
 have q2_2 := KE hf_2 (N + 2)
 have q3_2 := KE hf_2 (N + 3)
 have q4_2 := KE hf_2 (N + 5 + 3)
 have q5_2 := KE hf_2 (N + 5 + 3 + 1)
 have q6_2 := KE hf_2 (N + 10 + 2)
 have q7_2 := KE hf_2 g
 have q8_2 := KE hf_2 h
 replace hlow := KL (N := N) (σ := σ) hf_2
 clear hs_2 hf_2
 have cF := Fail_spec a e2 oe (N + 5 + 1) (N + 5 + 3) (N + 5 + 3 + 1)
 rw [he3] at cF
 unfold makE at cF
 simp only [makB_def, rowM_eq, rowB_eq] at cF
 have hcs := And.intro co (And.intro cF (And.intro cf True.intro))
 clear co cF cf
 refine Wk ?_
 clear hcs
 refine go_if [55, 56] [N + 5 + 1] (fun σ' => σ' (N + 5 + 1) = (.box 203 (.agg [.agg [.lit (.bool a.free), tagAV a.seed, .lit (.int .i64 a.fresh), .slice (some (N + 5 + 3)) (a.macs.map macAV), .slice (some (N + 5 + 3 + 1)) (a.boxes.map sealAV)], .lit (.int .i64 (e4 : Int))]))) (fun hs_0 hf_0 => ?_) (fun s3 σ3 m3 hs_3 hf_3 hn3 g7_3 => ?_)
 ·cases b3 with
  | true =>
   have h1 : e3 = e4 := he4
   subst h1
   refine Wk ?_
   exact ⟨WS, hf_0, WN, by simp (disch := omega) [go_sem, *, -List.reduceReplicate]⟩
  | false =>
   have h1 : (if e3 = 0 then 12 else e3) = e4 := he4
   have cF := Fail_spec a e3 12 (N + 5 + 1) (N + 5 + 3) (N + 5 + 3 + 1)
   rw [h1] at cF
   unfold makE at cF
   simp only [makB_def, rowM_eq, rowB_eq] at cF
   rw [show ((12 : Nat) : Int) = 12 from rfl] at cF
   have hcs := And.intro cF True.intro
   clear cF
   refine Wk ?_
   exact ⟨WS, by simp only [wr_cons, wr_nil]; exact EKeep.updL (by simp) hf_0, WN, WF⟩
 have g2_3 := KS hs_3 2
 have g3_3 := KS hs_3 3
 have g4_3 := KS hs_3 4
 have g5_3 := KS hs_3 5
 have g6_3 := KS hs_3 6
 have g10_3 := KS hs_3 10
 have g11_3 := KS hs_3 11
 have g12_3 := KS hs_3 12
 have g13_3 := KS hs_3 13
 have g14_3 := KS hs_3 14
 have g15_3 := KS hs_3 15
 have g16_3 := KS hs_3 16
 have g18_3 := KS hs_3 18
 have q0_3 := KE hf_3 N
 have q1_3 := KE hf_3 (N + 1)
 have q2_3 := KE hf_3 (N + 2)
 have q3_3 := KE hf_3 (N + 3)
 have q4_3 := KE hf_3 (N + 5 + 3)
 have q5_3 := KE hf_3 (N + 5 + 3 + 1)
 have q6_3 := KE hf_3 (N + 10 + 2)
 have q7_3 := KE hf_3 g
 have q8_3 := KE hf_3 h
 have q9_3 := KE hf_3 (m2 + 8)
 have q10_3 := KE hf_3 (m2 + 9)
 have q11_3 := KE hf_3 (m2 + 16 + 6)
 replace hlow := KL (N := N) (σ := σ) hf_3
 clear hs_3 hf_3
 obtain hA | ⟨hA, hB⟩ | ⟨hA, hB⟩ : A < x ∨ (¬ A < x ∧ y < A) ∨ (¬ A < x ∧ ¬ y < A) := by omega
 ·have h1 : (if e4 = 0 then 25 else e4) = E := by
   rw [← hE, decide_eq_false (show ¬ ¬ A < x from fun hn => hn hA)]
   by_cases h4 : e4 = 0
   ·subst h4
    rw [note_f, note_err (by decide)]; rfl
   ·rw [note_err h4, note_err h4, if_neg h4]
  have cF := Fail_spec a e4 25 (N + 5 + 1) (N + 5 + 3) (N + 5 + 3 + 1)
  rw [h1] at cF
  unfold makE at cF
  simp only [makB_def, rowM_eq, rowB_eq] at cF
  rw [show ((25 : Nat) : Int) = 25 from rfl] at cF
  have hcs := And.intro ca (And.intro cF (And.intro cM (And.intro (cx (N + 5 + 1) (N + 5 + 3) (N + 5 + 3 + 1)) (And.intro (cc (N + 5 + 1) (N + 5 + 3) (N + 5 + 3 + 1)) (And.intro (hvi (N + 5 + 1) (N + 5 + 3) (N + 5 + 3 + 1)) True.intro)))))
  clear ca cF cM cx cc hvi
  refine Wk ?_
  exact WD
 ·have h1 : (if e4 = 0 then 25 else e4) = E := by
   rw [← hE, decide_eq_true (show ¬ A < x from hA), note_t, decide_eq_false (show ¬ ¬ y < A from fun hn => hn hB)]; rfl
  have cF := Fail_spec a e4 25 (N + 5 + 1) (N + 5 + 3) (N + 5 + 3 + 1)
  rw [h1] at cF
  unfold makE at cF
  simp only [makB_def, rowM_eq, rowB_eq] at cF
  rw [show ((25 : Nat) : Int) = 25 from rfl] at cF
  have hcs := And.intro ca (And.intro cF (And.intro cM (And.intro (cx (N + 5 + 1) (N + 5 + 3) (N + 5 + 3 + 1)) (And.intro (cc (N + 5 + 1) (N + 5 + 3) (N + 5 + 3 + 1)) (And.intro (hvi (N + 5 + 1) (N + 5 + 3) (N + 5 + 3 + 1)) True.intro)))))
  clear ca cF cM cx cc hvi
  refine Wk ?_
  exact WD
 ·have h1 : e4 = E := by
   rw [← hE, decide_eq_true (show ¬ A < x from hA), note_t, decide_eq_true (show ¬ y < A from hB), note_t]
  subst h1
  have hcs := And.intro ca (And.intro cM (And.intro (cx (N + 5 + 1) (N + 5 + 3) (N + 5 + 3 + 1)) (And.intro (cc (N + 5 + 1) (N + 5 + 3) (N + 5 + 3 + 1)) (And.intro (hvi (N + 5 + 1) (N + 5 + 3) (N + 5 + 3 + 1)) True.intro))))
  clear ca cM cx cc hvi
  refine Wk ?_
  exact WD
end

section
variable [W : W32]
structure ScV (s : Sc) : Prop where
 good : ∃ se : Int, Good s.con se ⟨s.alg, s.pass, s.grants⟩ 5 1000 ∧ 1 ≤ se ∧ se ≤ 50
 rq : rqB s.req = true
 cp : 0 ≤ s.con.party ∧ s.con.party ≤ 7
 ri : ∃ root : Tg, s.ring = ⟨[⟨2, root⟩], 3⟩ ∧ pathIn s.alg.macs root (mintM s.pass.serial.toNat :: s.pass.cavs.map cavM) s.pass.tag
end



section
variable [W : W32]
end
end Go.Proofs.YtdmjpolnbmoehaaGreatDoor
