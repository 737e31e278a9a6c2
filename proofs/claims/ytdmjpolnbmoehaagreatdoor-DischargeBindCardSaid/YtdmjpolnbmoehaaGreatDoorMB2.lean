/- Texts W12, M10p, D9p, U9, O0, O4, O5, O7, O8, C13, U15, U17, joined. -/
import Derived.Test.YtdmjpolnbmoehaaGreatDoorMB1

namespace Go.Proofs.YtdmjpolnbmoehaaGreatDoor
open Go.Ab
attribute [local irreducible] Go.Ab.tyAV Go.Ab.aw Go.Ab.aops Go.Ab.kReg Go.Ab.aThen Go.Ab.aBlk Go.Ab.acond Go.Ab.aguard Go.Ab.astep Go.Ab.AStepX Go.Ab.aRet
attribute [local irreducible] shaG
theorem pEncS_spec (p : Pr) (hp0 : PrOk p) (d k : Nat) : ACall Tryz.prog 96 [prAV p] k [(d, bitsG)] (encAV (encPS p)) [] := by
 unfold encPS
 split
 ·rename_i h; exact Enc_spec p hp0 h d k
 ·rename_i h
  exact (Enc_bad p hp0 (by simpa using h) d k).result (AV.sub_tup (.cons AV.le_nils0 (.cons (AV.le_refl _) .nil)))
section
variable [W : W32]
end

section
variable [W : W32]
theorem refLook_spec (a : Alg) (key : Tg) (msg : List UInt8) (hl : a.macs.length ≤ 1000000) (hm : ∀ e ∈ a.macs, e.msg.length ≤ 100000) (k : Nat) :
  ACall Tryz.prog 94 [algAV a, tagAV key, .slice none (msg.map byteAV)] k [] (entAV (lookO a key msg)) [] := by
 have c1 := entry_spec a key msg hl hm
 obtain ⟨fr, sd, fs, L, B⟩ := a
 simp only at hl hm c1
 unfold lookO
 cases fr with
 | true =>
  simp only [if_true]
  generalize entL key msg L = R at *
  unfold entAV at *
  simp only [algAV] at *
  clear hm
  refine Bd Tryz.func94 Tryz.ntmps94 fun σ N hp hpn hk hkn hfree => ?_
  have hcs := And.intro c1 True.intro
  clear c1
  exact W0
 | false =>
  simp only [Bool.false_eq_true, if_false]
  clear c1 hm
  by_cases h1 : 4096 < msg.length
  ·rw [if_pos h1]
   have h1i : (4096 : Int) < (msg.length : Int) := by omega
   unfold entAV
   simp only [Option.getD_none, Option.isSome_none, algAV]
   refine Bd Tryz.func94 Tryz.ntmps94 fun σ N hp hpn hk hkn hfree => ?_
   exact W0
  ·rw [if_neg h1]
   have h1i : ¬ (4096 : Int) < (msg.length : Int) := by omega
   have c2 := Hmac_spec key.1 msg (by rw [key.2]; decide) (by omega)
   generalize hmacT key.1 msg = t at *
   have hs1 := tagAV_sz key
   have hs2 := tagAV_cell key
   obtain ⟨K, hK⟩ := key
   have hkA : tagAV ⟨K, hK⟩ = .agg (K.map byteAV) := rfl
   simp only [hkA] at hs1 hs2 c2 ⊢
   clear hkA
   have hs3 : AV.celll (K.map byteAV) = true := celll_bytes K
   have htk : (K.map byteAV).take 32 = K.map byteAV := List.take_of_length_le (by rw [List.length_map]; omega)
   unfold entAV
   simp only [Option.getD_some, Option.isSome_some, algAV]
   refine Bd Tryz.func94 Tryz.ntmps94 fun σ N hp hpn hk hkn hfree => ?_
   have hcs := And.intro c2 True.intro
   clear c2
   exact W0
end
end Go.Proofs.YtdmjpolnbmoehaaGreatDoor

namespace Go.Proofs.YtdmjpolnbmoehaaGreatDoor
open Go.Ab
attribute [local irreducible] Go.Ab.tyAV Go.Ab.aw Go.Ab.aops Go.Ab.kReg Go.Ab.aThen Go.Ab.aBlk Go.Ab.acond Go.Ab.aguard Go.Ab.astep Go.Ab.AStepX Go.Ab.aRet
theorem age_A (n : List UInt8) (b m : Int) (h : (decide (0 ≤ m) && decide (m ≤ 67108864)) = false) (k : Nat) :
  ACall Tryz.prog 70 [persAV ⟨n, b⟩, .lit (.int .i64 m)] k [] (.lit (.int .i64 0)) [] := by
 have c1 := minutes_spec m
 rw [h] at c1
 clear h
 refine Bd Tryz.func70 Tryz.ntmps70 fun σ N hp hpn hk hkn hfree => ?_
 have hcs := And.intro c1 True.intro
 exact W0
theorem age_C (n : List UInt8) (b m w x : Int) (h : (decide (0 ≤ m) && decide (m ≤ 67108864)) = true) (hw : IntKind.i64.wrap (-b) = w) (hx : (if b < w then w else b) = x) (h2 : (decide (0 ≤ x) && decide (x ≤ 67108864)) = true) (h3 : m < b) (k : Nat) :
  ACall Tryz.prog 70 [persAV ⟨n, b⟩, .lit (.int .i64 m)] k [] (.lit (.int .i64 0)) [] := by
 have c1 := minutes_spec m
 rw [h] at c1
 have c2 := minutes_spec x
 rw [h2] at c2
 clear h h2
 refine Bd Tryz.func70 Tryz.ntmps70 fun σ N hp hpn hk hkn hfree => ?_
 have hcs := And.intro c1 (And.intro c2 True.intro)
 exact W0
theorem age_D (n : List UInt8) (b m w x r : Int) (h : (decide (0 ≤ m) && decide (m ≤ 67108864)) = true) (hw : IntKind.i64.wrap (-b) = w) (hx : (if b < w then w else b) = x) (h2 : (decide (0 ≤ x) && decide (x ≤ 67108864)) = true) (h3 : ¬ m < b) (h4 : -67108864 ≤ b) (h5 : m ≤ 67108864)
  (hr : (if (150 : Int) < (m - b).tdiv 525600 then (150 : Int) else (m - b).tdiv 525600) = r) (k : Nat) :
  ACall Tryz.prog 70 [persAV ⟨n, b⟩, .lit (.int .i64 m)] k [] (.lit (.int .i64 r)) [] := by
 have c1 := minutes_spec m
 rw [h] at c1
 have c2 := minutes_spec x
 rw [h2] at c2
 have hwr : IntKind.i64.wrap (m - b) = m - b := wrap_i64 (by omega) (by omega)
 have hq : (m - b).tdiv 525600 = (m - b) / 525600 := Int.tdiv_eq_ediv_of_nonneg (by omega)
 rw [hq] at hr
 clear h h2
 refine Bd Tryz.func70 Tryz.ntmps70 fun σ N hp hpn hk hkn hfree => ?_
 have hcs := And.intro c1 (And.intro c2 True.intro)
 exact W0
theorem Age_spec (n : List UInt8) (b m : Int) (w : (Lit.int .i64 b).wf = true) (k : Nat) :
  ACall Tryz.prog 70 [persAV ⟨n, b⟩, .lit (.int .i64 m)] k [] (.lit (.int .i64 (ageS b m))) [] := by
 have wb : -9223372036854775808 ≤ b ∧ b ≤ 9223372036854775807 := i64_of_wf w
 unfold ageS
 by_cases h1 : m < 0 ∨ 67108864 < m
 ·rw [if_pos (by unfold ageBad; omega)]
  refine age_A n b m ?_ k
  rw [Bool.and_eq_false_iff, decide_eq_false_iff_not, decide_eq_false_iff_not]; omega
 ·have hm : (decide (0 ≤ m) && decide (m ≤ 67108864)) = true := by
   rw [Bool.and_eq_true, decide_eq_true_iff, decide_eq_true_iff]; omega
  by_cases h2 : b < -67108864 ∨ 67108864 < b
  ·rw [if_pos (by unfold ageBad; omega)]
   by_cases h3 : b = -9223372036854775808
   ·subst h3
    refine age_B n _ m (-9223372036854775808) (-9223372036854775808) hm (by decide +kernel) (by decide +kernel) (by decide +kernel) k
   ·refine age_B n b m (-b) (if b < -b then -b else b) hm (wrap_i64 (by omega) (by omega)) rfl ?_ k
    rw [Bool.and_eq_false_iff, decide_eq_false_iff_not, decide_eq_false_iff_not]; split <;> omega
  ·have hx : (decide (0 ≤ (if b < -b then -b else b)) && decide ((if b < -b then -b else b) ≤ 67108864)) = true := by
    rw [Bool.and_eq_true, decide_eq_true_iff, decide_eq_true_iff]; split <;> omega
   by_cases h3 : m < b
   ·rw [if_pos (by unfold ageBad; omega)]
    exact age_C n b m (-b) _ hm (wrap_i64 (by omega) (by omega)) rfl hx h3 k
   ·rw [if_neg (by unfold ageBad; omega)]
    refine age_D n b m (-b) _ _ hm (wrap_i64 (by omega) (by omega)) rfl hx h3 (by omega) (by omega) ?_ k
    rw [Int.tdiv_eq_ediv_of_nonneg (by omega)]
    split <;> split <;> omega
end Go.Proofs.YtdmjpolnbmoehaaGreatDoor

namespace Go.Proofs.YtdmjpolnbmoehaaGreatDoor
open Go.Ab
attribute [local irreducible] Go.Ab.tyAV Go.Ab.aw Go.Ab.aops Go.Ab.kReg Go.Ab.aThen Go.Ab.aBlk Go.Ab.acond Go.Ab.aguard Go.Ab.astep Go.Ab.AStepX Go.Ab.aRet
attribute [local irreducible] shaG
theorem Same_refl (b : List UInt8) (hb : b.length ≤ 140737488351232) (k : Nat) : ACall Tryz.prog 69 [.slice none (b.map byteAV), .slice none (b.map byteAV)] k [] (.lit (.bool true)) [] := by
 have := Same_spec b b hb k
 rw [decide_eq_true rfl] at this
 exact this
set_option maxHeartbeats 1000000 in
theorem SameAlg_refl (a : Alg) (m : Nat) (ha : AlgIn a m) (hm : m ≤ 1000000) (k : Nat) :
  ACall Tryz.prog 22 [algAV a, algAV a] k [] (.lit (.bool true)) [] := by
 obtain ⟨fr, sd, fs, L, B⟩ := a
 have hL := ha.ml
 have hB := ha.bl
 have hmm := ha.mm
 have hbm := ha.bm
 simp only at hL hB hmm hbm
 clear ha
 simp only [algAV]
 refine Bd Tryz.func22 Tryz.ntmps22 fun σ N hp hpn hk hkn hfree => ?_
 refine Wk ?_
 refine go_loopF mixed (by kernel_rfl) (4 :: 5 :: 46 :: 47 :: 48 :: 49 :: 50 :: 51 :: 52 :: 53 :: 54 :: 55 :: 56 :: 57 :: 58 :: 59 :: 60 :: 61 :: 62 :: 63 :: 64 :: 65 :: 66 :: 67 :: 68 :: 69 :: 70 :: 71 :: 72 :: 73 :: 74 :: 75 :: 76 :: 77 :: 78 :: 79 :: 80 :: 81 :: 82 :: 83 :: 84 :: 85 :: 86 :: 87 :: 88 :: 89 :: 90 :: 91 :: 92 :: 93 :: 94 :: 95 :: 96 :: []) [N, N+1] (fun m_ s_ σ_ n_ => ∃ (u : Nat), m_ = L.length - u ∧ s_ 5 = .lit (.int .i64 u) ∧ σ_ (N) = .box 38 (.agg [.lit (.bool fr), tagAV sd, .lit (.int .i64 fs), .slice none (L.map macAV), .slice none (B.map sealAV)]) ∧ σ_ (N+1) = .box 38 (.agg [.lit (.bool fr), tagAV sd, .lit (.int .i64 fs), .slice none (L.map macAV), .slice none (B.map sealAV)]) ∧ (u ≤ L.length)) ⟨_, 0, rfl, WF, WF, WF, WC⟩ ?_
 intro m_1 s_1 σ_1 n_1 hs_1 hf_1 hn_1 hI_1
 obtain ⟨u, hm_1, h1_5, e1_0, e1_1, hu⟩ := hI_1
 have h1_2 := KS hs_1 2
 have h1_3 := KS hs_1 3
 have hlow := KL (N := N) (σ := σ) hf_1
 by_cases hul : u = L.length
 ·subst hul
  refine Wk ?_
  refine go_loopF mixed (by kernel_rfl) [4, 6, 7, 8, 97, 98, 99, 100, 101, 102, 103, 104, 105, 106, 107, 108, 109, 110, 111, 112, 113, 114, 115, 116, 117, 118, 119, 120, 121, 122, 123, 124, 125, 126, 127, 128, 129, 130, 131, 132, 133, 134, 135, 136, 137, 138, 139, 140, 141] [N, N+1] (fun m_ s_ σ_ n_ => ∃ (v : Nat), m_ = B.length - v ∧ s_ 6 = .lit (.int .i64 v) ∧ σ_ (N) = .box 38 (.agg [.lit (.bool fr), tagAV sd, .lit (.int .i64 fs), .slice none (L.map macAV), .slice none (B.map sealAV)]) ∧ σ_ (N+1) = .box 38 (.agg [.lit (.bool fr), tagAV sd, .lit (.int .i64 fs), .slice none (L.map macAV), .slice none (B.map sealAV)]) ∧ (v ≤ B.length)) ⟨_, 0, rfl, WF, WF, WF, WC⟩ ?_
  intro m_2 s_2 σ_2 n_2 hs_2 hf_2 hn_2 hI_2
  obtain ⟨v, hm_2, h2_6, e2_0, e2_1, hv⟩ := hI_2
  have h2_2 := KS hs_2 2
  have h2_3 := KS hs_2 3
  have hlow := KL (N := N) (σ := σ) hf_2
  by_cases hvl : v = B.length
  ·subst hvl
   exact W0
  ·have hv1 : v < B.length := by omega
   have hmz := hbm _ (List.getElem_mem hv1)
   obtain ⟨z, hz⟩ : ∃ z, B[v] = z := ⟨_, rfl⟩
   rw [hz] at hmz
   obtain ⟨zk, zn, zp, zb⟩ := z
   simp only at hmz
   have hzd : sealAV ⟨zk, zn, zp, zb⟩ = .agg [tagAV zk, .lit (.int .i64 zn), bAV zp, bAV zb] := rfl
   have hzb := bAV_def zp
   have hzb2 := bAV_def zb
   have c1 := Same_refl zp (by omega)
   have c2 := Same_refl zb (by omega)
   have hcs := And.intro c1 (And.intro c2 True.intro)
   clear c1 c2 hmm hbm
   refine Wk ?_
   exact ⟨WS, WG, WN, _, (show B.length - (v + 1) < m_2 by omega), v + 1, rfl, WF, WF, WF, WC⟩
 ·have hu1 : u < L.length := by omega
  have hmz := hmm _ (List.getElem_mem hu1)
  obtain ⟨z, hz⟩ : ∃ z, L[u] = z := ⟨_, rfl⟩
  rw [hz] at hmz
  obtain ⟨zk, zm, zt⟩ := z
  simp only at hmz
  have hzd : macAV ⟨zk, zm, zt⟩ = .agg [tagAV zk, bAV zm, tagAV zt] := rfl
  have hzb := bAV_def zm
  have c1 := Same_refl zm (by omega)
  have hcs := And.intro c1 True.intro
  clear c1 hmm hbm
  refine Wk ?_
  exact ⟨WS, WG, WN, _, (show L.length - (u + 1) < m_1 by omega), u + 1, rfl, WF, WF, WF, WC⟩
theorem SameDis_refl (p : Di) (hp : p.ticket.length ≤ 100000000) (hc : p.conds.length ≤ 100000) (k : Nat) :
  ACall Tryz.prog 23 [diAV p, diAV p] k [] (.lit (.bool true)) [] := by
 have c1 := Same_refl p.ticket (by omega)
 have c2 := SamePredicates_refl p.conds hc
 obtain ⟨ti, L, tg⟩ := p
 unfold diAV
 simp only at c1 c2 ⊢
 refine Bd Tryz.func23 Tryz.ntmps23 fun σ N hp hpn hk hkn hfree => ?_
 have hcs := And.intro c1 (And.intro c2 True.intro)
 clear c1 c2
 exact W0
theorem SameBound_refl (p : Bo) (hp : p.ticket.length ≤ 100000000) (hc : p.conds.length ≤ 100000) (k : Nat) :
  ACall Tryz.prog 28 [boAV p, boAV p] k [] (.lit (.bool true)) [] := by
 have c1 := Same_refl p.ticket (by omega)
 have c2 := SamePredicates_refl p.conds hc
 obtain ⟨ti, L, tg⟩ := p
 unfold boAV
 simp only at c1 c2 ⊢
 refine Bd Tryz.func28 Tryz.ntmps28 fun σ N hp hpn hk hkn hfree => ?_
 have hcs := And.intro c1 (And.intro c2 True.intro)
 clear c1 c2
 exact W0
end Go.Proofs.YtdmjpolnbmoehaaGreatDoor

namespace Go.Proofs.YtdmjpolnbmoehaaGreatDoor
open Go.Ab
attribute [local irreducible] Go.Ab.tyAV Go.Ab.aw Go.Ab.aops Go.Ab.kReg Go.Ab.aThen Go.Ab.aBlk Go.Ab.acond Go.Ab.aguard Go.Ab.astep Go.Ab.AStepX Go.Ab.aRet

theorem Req_spec (r : Rq) (k : Nat) : ACall Tryz.prog 92 [rqAV r] k [] (.lit (.bool (rqB r))) [] := by
 obtain ⟨x, y⟩ := r
 unfold rqAV
 by_cases h1 : 0 ≤ x
 ·by_cases h2 : x < 8
  ·by_cases h3 : 1 ≤ y
   ·by_cases h4 : y ≤ 281474976710656
    ·have hr : rqB ⟨x, y⟩ = true := by simp [rqB, *]
     rw [hr]
     refine Bd Tryz.func92 Tryz.ntmps92 fun σ N hp hpn hk hkn hfree => ?_
     exact W0
    ·have hr : rqB ⟨x, y⟩ = false := by simp [rqB, *]
     rw [hr]
     refine Bd Tryz.func92 Tryz.ntmps92 fun σ N hp hpn hk hkn hfree => ?_
     exact W0
   ·have hr : rqB ⟨x, y⟩ = false := by simp [rqB, *]
    rw [hr]
    refine Bd Tryz.func92 Tryz.ntmps92 fun σ N hp hpn hk hkn hfree => ?_
    exact W0
  ·have hr : rqB ⟨x, y⟩ = false := by simp [rqB, *]
   rw [hr]
   refine Bd Tryz.func92 Tryz.ntmps92 fun σ N hp hpn hk hkn hfree => ?_
   exact W0
 ·have hr : rqB ⟨x, y⟩ = false := by simp [rqB, *]
  rw [hr]
  refine Bd Tryz.func92 Tryz.ntmps92 fun σ N hp hpn hk hkn hfree => ?_
  exact W0
structure BoIn (d : Bo) : Prop where
 tl : d.ticket.length ≤ 9223372036854775807
 cl : d.conds.length ≤ 9223372036854775807
 ok : ∀ p ∈ d.conds, PrOk p
structure BuIn (b : Bu) : Prop where
 cl : b.cavs.length ≤ 1000
 dl : b.dis.length ≤ 1000
 ok : ∀ c ∈ b.cavs, PrOk c.first
 di : ∀ d ∈ b.dis, BoIn d





end Go.Proofs.YtdmjpolnbmoehaaGreatDoor

namespace Go.Ab
open Go.RowKit
attribute [local irreducible] Go.Ab.tyAV Go.Ab.aw Go.Ab.aops Go.Ab.kReg Go.Ab.aThen Go.Ab.aBlk Go.Ab.acond Go.Ab.aguard Go.Ab.astep Go.Ab.AStepX Go.Ab.aRet
mutual
def AV.shut : AV → Bool
 | .any => true
 | .lit _ => true
 | .nils => true
 | .slice none xs => AV.shutl xs
 | .slice (some _) _ => false
 | .agg xs => AV.shutl xs
 | .ptr _ _ _ => false
 | .view x => AV.shut x
 | .fn _ xs => AV.shutl xs
 | .tup xs => AV.shutl xs
 | .clip xs => AV.shutl xs
 | .ms _ _ _ _ _ => false
 | .mp _ _ _ _ => false
 | .bs _ _ _ _ _ => false
 | .iface _ x => AV.shut x
def AV.shutl : List AV → Bool
 | [] => true
 | x :: r => AV.shut x && AV.shutl r
end
theorem AV.shutl_at {xs : List AV} (h : AV.shutl xs = true) : ∀ {i : Nat} {x : AV}, xs[i]? = some x → x.shut = true := by
 induction xs with
 | nil => intro i x hx; simp at hx
 | cons y r ih =>
  intro i x hx
  simp only [AV.shutl, Bool.and_eq_true] at h
  cases i with
  | zero => simp at hx; subst hx; exact h.1
  | succ i => exact ih h.2 (by simpa using hx)
theorem AV.shutl_map {α : Type} (f : α → AV) (hf : ∀ x, (f x).shut = true) : ∀ l : List α, AV.shutl (l.map f) = true
 | [] => rfl
 | x :: r => by simp only [List.map_cons, AV.shutl, hf x, AV.shutl_map f hf r, Bool.and_self]
theorem Rep.shut {g g' : Ghost} (hG : ∀ b o u, g.G b o = some u → g'.G b o = some u) {x : AV} {v : Value} (h : Rep g x v) : x.shut = true → Rep g' x v := by
 induction h with
 | any v h => exact fun _ => .any v h
 | lit v h => exact fun _ => .lit v h
 | nils => exact fun _ => .nils
 | slice own xs vs A c size hl hc hm h hs hcell hown ih =>
  intro hx
  cases own with
  | some o => simp [AV.shut] at hx
  | none =>
   simp only [AV.shut] at hx
   exact .slice none xs vs A c size hl hc hm (fun i x v h1 h2 => ih i x v h1 h2 (AV.shutl_at hx h1)) hs (hcell.imp (fun h => h) (fun ⟨b, o, h1, h2⟩ => ⟨b, o, h1, fun j u hu => hG _ _ _ (h2 j u hu)⟩)) (fun id hid => by cases hid)
 | agg xs vs hl h ih => exact fun hx => .agg xs vs hl fun i x v h1 h2 => ih i x v h1 h2 (AV.shutl_at (by simpa only [AV.shut] using hx) h1)
 | ptr id path off b h => intro hx; simp [AV.shut] at hx
 | view x v b o h hc ih => exact fun hx => .view x v b o (ih (by simpa only [AV.shut] using hx)) fun j u hu => hG _ _ _ (hc j u hu)
 | fn f xs vs hl h ih => exact fun hx => .fn f xs vs hl fun i x v h1 h2 => ih i x v h1 h2 (AV.shutl_at (by simpa only [AV.shut] using hx) h1)
 | tup xs vs hl h ih => exact fun hx => .tup xs vs hl fun i x v h1 h2 => ih i x v h1 h2 (AV.shutl_at (by simpa only [AV.shut] using hx) h1)
 | clip xs A n h ih => exact fun hx => .clip xs A n (ih (by simpa only [AV.shut] using hx))
 | ms id ver size lo len ver' u A c hm hv hl hc h => intro hx; simp [AV.shut] at hx
 | mp id ver path off ver' u a hm hv h => intro hx; simp [AV.shut] at hx
 | bs id path lo off len b c h hl hc => intro hx; simp [AV.shut] at hx
 | iface t x v h ih => exact fun hx => .iface t x v (ih (by simpa only [AV.shut] using hx))
theorem Sim.grown {W0 : World} {g : Ghost} {σ : Nat → Ent} {n : Nat} {w w' : World} (h : Sim W0 g σ n w) (hb : Below w.heap.size w w') : Sim W0 g σ n w' := by
 refine ⟨h.below.trans (hb.mono h.below.size), fun b o v hv => ?_, h.bound, fun id => (h.ents id).same g.le_refl rfl rfl rfl rfl fun b hbk => ⟨hb.block b (h.fresh id b hbk).2, fun _ => rfl⟩, h.sep, fun i b hbk => ⟨(h.fresh i b hbk).1, Nat.lt_of_lt_of_le (h.fresh i b hbk).2 hb.size⟩⟩
 have hc := h.imm b o v hv
 have hlt : b < w.heap.size := World.block_lt_of_cell? w ⟨b, o, none⟩ hc
 unfold World.cell? at hc ⊢
 rw [hb.block b hlt]
 exact hc
mutual
inductive Lend (pre : Foot) : AV → AV → Prop where
 | shut {x y : AV} : AV.le x y → y.shut = true → Lend pre x y
 | ms {r ver size k : Nat} {e : TypeId} {xs : List AV} : (r, Ent.mrow ver e size xs) ∈ pre → k = xs.length → AV.shutl xs = true → Lend pre (.ms r ver size 0 k) (.slice none xs)
 | agg {xs ys : List AV} : LendL pre xs ys → Lend pre (.agg xs) (.agg ys)
inductive LendL (pre : Foot) : List AV → List AV → Prop where
 | nil : LendL pre [] []
 | cons {x y : AV} {xs ys : List AV} : Lend pre x y → LendL pre xs ys → LendL pre (x :: xs) (y :: ys)
end
section
variable {P : Program} {o : Oper} {s : Slots} {id : Nat}
end
section
variable {P : Program} {ops : Array Oper} {m i n : Nat} {T : Trace} {k : Cfg → Trace → Prop} {ty : TypeId} {pos : String} {after : Array Edge} {r : List Oper} {s : Slots} {σ : Nat → Ent}
end
attribute [go_sem] AV.shut AV.shutl
end Go.Ab

namespace Go.Proofs.YtdmjpolnbmoehaaGreatDoor
open Go.Ab
attribute [local irreducible] Go.Ab.tyAV Go.Ab.aw Go.Ab.aops Go.Ab.kReg Go.Ab.aThen Go.Ab.aBlk Go.Ab.acond Go.Ab.aguard Go.Ab.astep Go.Ab.AStepX Go.Ab.aRet
attribute [local irreducible] shaG
@[go_sem] theorem tagAV_shut (t : Tg) : (tagAV t).shut = true := AV.shutl_map byteAV (fun _ => rfl) t.1
@[go_sem] theorem bytes_shut (l : List UInt8) : AV.shutl (l.map byteAV) = true := AV.shutl_map byteAV (fun _ => rfl) l
@[go_sem] theorem prAV_shut (p : Pr) : (prAV p).shut = true := by simp only [prAV, AV.shut, AV.shutl, Bool.and_self]
@[go_sem] theorem prs_shut (l : List Pr) : AV.shutl (l.map prAV) = true := AV.shutl_map prAV prAV_shut l
@[go_sem] theorem caAV_shut (p : Ca) : (caAV p).shut = true := by simp only [caAV, AV.shut, AV.shutl, prAV_shut, bytes_shut, Bool.and_self]
@[go_sem] theorem cas_shut (l : List Ca) : AV.shutl (l.map caAV) = true := AV.shutl_map caAV caAV_shut l
@[go_sem] theorem boAV_shut (p : Bo) : (boAV p).shut = true := by simp only [boAV, AV.shut, AV.shutl, tagAV_shut, prs_shut, bytes_shut, Bool.and_self]
@[go_sem] theorem bos_shut (l : List Bo) : AV.shutl (l.map boAV) = true := AV.shutl_map boAV boAV_shut l
section
variable [W : W32]
theorem bindS_ok {a : Alg} {m : Nat} (ha : AlgIn a m) (hm : m ≤ 60000) (d : Di) (leaf : Tg) {r : Rq} (hr : rqB r = true) :
  (macS a d.tag (bindM leaf r.gate.toNat r.nonce.toNat)).2.2 = 0 ∧ bindS a d leaf r = ((macS a d.tag (bindM leaf r.gate.toNat r.nonce.toNat)).1, ⟨d.ticket, d.conds, (macS a d.tag (bindM leaf r.gate.toNat r.nonce.toNat)).2.1⟩, 0) := by
 obtain ⟨⟨r1, r2⟩, r3, r4⟩ := rqB_iff.1 hr
 have hl := bindM_len leaf (g := r.gate.toNat) (n := r.nonce.toNat) (by omega) (by omega)
 have h0 := macS_ok (a := a) d.tag (msg := bindM leaf r.gate.toNat r.nonce.toNat) (by omega) (by have := ha.ml; omega)
 refine ⟨h0, ?_⟩
 unfold bindS
 rw [if_neg (by rw [hr]; simp), if_pos h0]
end

section
variable [W : W32]
end
end Go.Proofs.YtdmjpolnbmoehaaGreatDoor
