/- Texts W4, X11, U9, W2, Q6, W8, W9, W17, X13, joined. -/
import Derived.Test.YtdmjpolnbmoehaaGreatDoorMA2

namespace Go.Proofs.YtdmjpolnbmoehaaGreatDoor
open Go.Ab
attribute [local irreducible] Go.Ab.tyAV Go.Ab.aw Go.Ab.aops Go.Ab.kReg Go.Ab.aThen Go.Ab.aBlk Go.Ab.acond Go.Ab.aguard Go.Ab.astep Go.Ab.AStepX Go.Ab.aRet
attribute [local irreducible] shaG
section
variable [W : W32]
def aF : Alg := ⟨true, zeroTag, 0, [], []⟩
omit W in
theorem aF_eq : algAV aF = .agg [.lit (.bool true), tagAV zeroTag, .lit (.int .i64 0), .slice none [], .slice none []] := rfl
omit W in
theorem aF_in : AlgIn aF 0 := ⟨by simp [aF], by simp [aF], by simp [aF], by simp [aF], fun e he => by simp [aF] at he, fun e he => by simp [aF] at he⟩
def L2 : List MacE := [⟨zeroTag, mintM 1, symT 109 1⟩, ⟨symT 109 1, nodeB, symT 109 2⟩]
end

def tg9 : Tg := ⟨9 :: List.replicate 31 0, by decide⟩
def tg8 : Tg := ⟨8 :: List.replicate 31 0, by decide⟩
def co9 : Co := ⟨1, tg9, []⟩
def co8 : Co := ⟨1, tg8, []⟩
section
variable [W : W32]
def bl14 : Alg × Bl × Nat := blankS aF co9 ⟨18, 150⟩
theorem aw14_facts : bl14.2.2 = 0 ∧ bl14.2.1.party = 1 ∧ bl14.2.1.ticket.length ≤ 1000 ∧ (openT bl14.1 co9 bl14.2.1.ticket).1 = bl14.2.1.key ∧ (openT bl14.1 co9 bl14.2.1.ticket).2.1.least = 18 ∧ (openT bl14.1 co9 bl14.2.1.ticket).2.2 = 0 ∧ (openT bl14.1 co8 bl14.2.1.ticket).2.2 = 14 := by
 have h3 : bl14.2.1.ticket.length = 75 := by kernel_rfl
 refine ⟨by kernel_rfl, by kernel_rfl, by omega, by kernel_rfl, by kernel_rfl, by kernel_rfl, by kernel_rfl⟩
set_option maxHeartbeats 2000000 in
theorem awake14_spec (g k : Nat) : ACall Tryz.prog 63 [] k [(g, shaG)] (.lit (.bool true)) [] := by
 obtain ⟨f1, f2, f3, f4, f5, f6, f7⟩ := aw14_facts
 have hin : AlgIn bl14.1 2 := blankS_in aF_in co9 ⟨18, 150⟩
 have c1 := Blank_spec aF 0 aF_in (by decide) co9 ⟨18, 150⟩ g
 rw [show blankS aF co9 ⟨18, 150⟩ = bl14 from rfl] at c1
 have c2 := tOpen_spec bl14.1 2 hin (by decide) co9 bl14.2.1.ticket (by omega) g
 have c3 := tOpen_spec bl14.1 2 hin (by decide) co8 bl14.2.1.ticket (by omega) g
 unfold mlAV at c1
 unfold moAV at c2 c3
 rw [f1, aF_eq] at c1
 rw [f4, f6] at c2
 rw [f7] at c3
 have hb : blAV bl14.2.1 = .agg [.lit (.int .i64 1), tagAV bl14.2.1.key, .slice none (bl14.2.1.ticket.map byteAV)] := by unfold blAV; rw [f2]
 have ht : teAV (openT bl14.1 co9 bl14.2.1.ticket).2.1 = .agg [.lit (.int .i64 18), .lit (.int .i64 (openT bl14.1 co9 bl14.2.1.ticket).2.1.most)] := by unfold teAV; rw [f5]
 rw [hb] at c1
 rw [ht] at c2
 have hc9 : concAV co9 = .agg [.lit (.int .i64 1), tagAV tg9, .slice none []] := rfl
 have hc8 : concAV co8 = .agg [.lit (.int .i64 1), tagAV tg8, .slice none []] := rfl
 have hz9 : AV.agg ((List.map byteAV zeroTag.val).set 0 (.lit (.int .u8 9))) = tagAV tg9 := rfl
 have hz8 : AV.agg ((List.map byteAV zeroTag.val).set 0 (.lit (.int .u8 8))) = tagAV tg8 := rfl
 have hte : teAV ⟨18, 150⟩ = .agg [.lit (.int .i64 18), .lit (.int .i64 150)] := rfl
 simp only [hc9, hc8, hte] at c1 c2 c3
 generalize (openT bl14.1 co9 bl14.2.1.ticket).2.1.most = M9 at *
 generalize openT bl14.1 co8 bl14.2.1.ticket = Z at *
 generalize bl14.1 = A1 at *
 generalize bl14.2.1.key = K1 at *
 generalize bl14.2.1.ticket = T1 at *
 clear hin hb ht f1 f2 f4 f5 f6 f7 hc9 hc8 hte
 generalize tg9 = G9 at *
 generalize tg8 = G8 at *
 refine Bd Tryz.func63 Tryz.ntmps63 fun σ N hp hpn hk hkn hfree => ?_
 obtain ⟨hd, hdn⟩ := HD0 hp hpn; clear hp hpn
 have hcs := And.intro c1 (And.intro c2 (And.intro c3 True.intro))
 clear c1 c2 c3
 exact W0
end

theorem Same_refl (b : List UInt8) (hb : b.length ≤ 140737488351232) (k : Nat) : ACall Tryz.prog 69 [.slice none (b.map byteAV), .slice none (b.map byteAV)] k [] (.lit (.bool true)) [] := by
 have := Same_spec b b hb k
 rw [decide_eq_true rfl] at this
 exact this
set_option maxHeartbeats 1000000 in
theorem SameAlg_refl (a : Alg) (m : Nat) (ha : AlgIn a m) (hm : m ≤ 1000000) (k : Nat) :
  ACall Tryz.prog 22 [algAV a, algAV a] k [] (.lit (.bool true)) [] := by
 obtain ⟨fr, sd, fs, L, B⟩ := a
 have hL := ha.ml
 have hB := ha.bl
 have hmm := ha.mm
 have hbm := ha.bm
 simp only at hL hB hmm hbm
 clear ha
 simp only [algAV]
 refine Bd Tryz.func22 Tryz.ntmps22 fun σ N hp hpn hk hkn hfree => ?_
 refine Wk ?_
 refine go_loopF mixed (by kernel_rfl) (4 :: 5 :: 46 :: 47 :: 48 :: 49 :: 50 :: 51 :: 52 :: 53 :: 54 :: 55 :: 56 :: 57 :: 58 :: 59 :: 60 :: 61 :: 62 :: 63 :: 64 :: 65 :: 66 :: 67 :: 68 :: 69 :: 70 :: 71 :: 72 :: 73 :: 74 :: 75 :: 76 :: 77 :: 78 :: 79 :: 80 :: 81 :: 82 :: 83 :: 84 :: 85 :: 86 :: 87 :: 88 :: 89 :: 90 :: 91 :: 92 :: 93 :: 94 :: 95 :: 96 :: []) [N, N+1] (fun m_ s_ σ_ n_ => ∃ (u : Nat), m_ = L.length - u ∧ s_ 5 = .lit (.int .i64 u) ∧ σ_ (N) = .box 38 (.agg [.lit (.bool fr), tagAV sd, .lit (.int .i64 fs), .slice none (L.map macAV), .slice none (B.map sealAV)]) ∧ σ_ (N+1) = .box 38 (.agg [.lit (.bool fr), tagAV sd, .lit (.int .i64 fs), .slice none (L.map macAV), .slice none (B.map sealAV)]) ∧ (u ≤ L.length)) ⟨_, 0, rfl, WF, WF, WF, WC⟩ ?_
 intro m_1 s_1 σ_1 n_1 hs_1 hf_1 hn_1 hI_1
 obtain ⟨u, hm_1, h1_5, e1_0, e1_1, hu⟩ := hI_1
 have h1_2 := KS hs_1 2
 have h1_3 := KS hs_1 3
 have hlow := KL (N := N) (σ := σ) hf_1
 by_cases hul : u = L.length
 ·subst hul
  refine Wk ?_
  refine go_loopF mixed (by kernel_rfl) [4, 6, 7, 8, 97, 98, 99, 100, 101, 102, 103, 104, 105, 106, 107, 108, 109, 110, 111, 112, 113, 114, 115, 116, 117, 118, 119, 120, 121, 122, 123, 124, 125, 126, 127, 128, 129, 130, 131, 132, 133, 134, 135, 136, 137, 138, 139, 140, 141] [N, N+1] (fun m_ s_ σ_ n_ => ∃ (v : Nat), m_ = B.length - v ∧ s_ 6 = .lit (.int .i64 v) ∧ σ_ (N) = .box 38 (.agg [.lit (.bool fr), tagAV sd, .lit (.int .i64 fs), .slice none (L.map macAV), .slice none (B.map sealAV)]) ∧ σ_ (N+1) = .box 38 (.agg [.lit (.bool fr), tagAV sd, .lit (.int .i64 fs), .slice none (L.map macAV), .slice none (B.map sealAV)]) ∧ (v ≤ B.length)) ⟨_, 0, rfl, WF, WF, WF, WC⟩ ?_
  intro m_2 s_2 σ_2 n_2 hs_2 hf_2 hn_2 hI_2
  obtain ⟨v, hm_2, h2_6, e2_0, e2_1, hv⟩ := hI_2
  have h2_2 := KS hs_2 2
  have h2_3 := KS hs_2 3
  have hlow := KL (N := N) (σ := σ) hf_2
  by_cases hvl : v = B.length
  ·subst hvl
   exact W0
  ·have hv1 : v < B.length := by omega
   have hmz := hbm _ (List.getElem_mem hv1)
   obtain ⟨z, hz⟩ : ∃ z, B[v] = z := ⟨_, rfl⟩
   rw [hz] at hmz
   obtain ⟨zk, zn, zp, zb⟩ := z
   simp only at hmz
   have hzd : sealAV ⟨zk, zn, zp, zb⟩ = .agg [tagAV zk, .lit (.int .i64 zn), bAV zp, bAV zb] := rfl
   have hzb := bAV_def zp
   have hzb2 := bAV_def zb
   have c1 := Same_refl zp (by omega)
   have c2 := Same_refl zb (by omega)
   have hcs := And.intro c1 (And.intro c2 True.intro)
   clear c1 c2 hmm hbm
   refine Wk ?_
   exact ⟨WS, WG, WN, _, (show B.length - (v + 1) < m_2 by omega), v + 1, rfl, WF, WF, WF, WC⟩
 ·have hu1 : u < L.length := by omega
  have hmz := hmm _ (List.getElem_mem hu1)
  obtain ⟨z, hz⟩ : ∃ z, L[u] = z := ⟨_, rfl⟩
  rw [hz] at hmz
  obtain ⟨zk, zm, zt⟩ := z
  simp only at hmz
  have hzd : macAV ⟨zk, zm, zt⟩ = .agg [tagAV zk, bAV zm, tagAV zt] := rfl
  have hzb := bAV_def zm
  have c1 := Same_refl zm (by omega)
  have hcs := And.intro c1 True.intro
  clear c1 hmm hbm
  refine Wk ?_
  exact ⟨WS, WG, WN, _, (show L.length - (u + 1) < m_1 by omega), u + 1, rfl, WF, WF, WF, WC⟩
theorem SamePass_refl (p : Pa) (hp : p.cavs.length ≤ 100000) (hc : ∀ c ∈ p.cavs, CaSm c) (k : Nat) :
  ACall Tryz.prog 38 [paAV p, paAV p] k [] (.lit (.bool true)) [] := by
 have c1 := refSame_cav p.cavs p.cavs hc hc hp hp
 rw [decide_eq_true rfl] at c1
 obtain ⟨ep, se, L, tg⟩ := p
 unfold paAV
 simp only at c1 ⊢
 refine Bd Tryz.func38 Tryz.ntmps38 fun σ N hp hpn hk hkn hfree => ?_
 have hcs := And.intro c1 True.intro
 clear c1
 exact W0

section
variable [W : W32]
end

section
variable [W : W32]
end

section
variable [W : W32]
end

section
variable [W : W32]
end
end Go.Proofs.YtdmjpolnbmoehaaGreatDoor

namespace Go.Proofs.YtdmjpolnbmoehaaGreatDoor
open Go.Ab
attribute [local irreducible] Go.Ab.tyAV Go.Ab.aw Go.Ab.aops Go.Ab.kReg Go.Ab.aThen Go.Ab.aBlk Go.Ab.acond Go.Ab.aguard Go.Ab.astep Go.Ab.AStepX Go.Ab.aRet
structure DiW (d : Di) : Prop where
 tl : d.ticket.length ≤ 140737488351232
 cl : d.conds.length ≤ 9223372036854775807
 ok : ∀ p ∈ d.conds, PrOk p
theorem blankW_of {x : AV} (h : tyAV Tryz.prog 8 108 x) : ∃ b : Bl, b.ticket.length ≤ 140737488351232 ∧ x = blAV b := by
 obtain ⟨ys, rfl, h3, h4⟩ := ty_struct Tryz.underlying108 h
 obtain ⟨a, b, c, rfl⟩ : ∃ a b c, ys = [a, b, c] := by
  match ys, h3 with
  | [a, b, c], _ => exact ⟨a, b, c, rfl⟩
 obtain ⟨v1, _, rfl⟩ := ty_int it3 (h4 0 _ _ rfl rfl)
 obtain ⟨v2, _, rfl⟩ := ty_tag ar29 by5 (h4 1 _ _ rfl rfl)
 obtain ⟨v3, w3, rfl⟩ := ty_bytesW sl26 by5 (by kernel_rfl) (h4 2 _ _ rfl rfl)
 exact ⟨⟨v1, v2, v3⟩, w3, rfl⟩
def CaW (c : Ca) : Prop := PrOk c.first ∧ CaSm c
structure PaW (p : Pa) : Prop where
 cl : p.cavs.length ≤ 9223372036854775807
 ok : ∀ c ∈ p.cavs, CaW c
end Go.Proofs.YtdmjpolnbmoehaaGreatDoor

namespace Go.Proofs.YtdmjpolnbmoehaaGreatDoor
open Go.Ab
attribute [local irreducible] Go.Ab.tyAV Go.Ab.aw Go.Ab.aops Go.Ab.kReg Go.Ab.aThen Go.Ab.aBlk Go.Ab.acond Go.Ab.aguard Go.Ab.astep Go.Ab.AStepX Go.Ab.aRet
attribute [local irreducible] shaG
theorem cutW (c : Nat) (b : List UInt8) : ∃ (m : Nat) (t : List UInt8), (if (c : Int) < (b.length : Int) then (c : Int) else (b.length : Int)) = (m : Int) ∧ m ≤ b.length ∧ m ≤ c ∧ t.length = m ∧ (b.map byteAV).take m = t.map byteAV := by
 refine ⟨min c b.length, b.take c, ?_, Nat.min_le_right .., Nat.min_le_left .., by simp, ?_⟩
 ·split <;> omega
 ·rw [← List.map_take]
  congr 1
  by_cases h : c ≤ b.length
  ·rw [Nat.min_eq_left h]
  ·rw [Nat.min_eq_right (by omega), List.take_length, List.take_of_length_le (by omega)]
theorem ALe_snoc {x y : AV} (h : AV.le x y) : ∀ xs : List AV, ALe (xs ++ [x]) (xs ++ [y])
 | [] => .cons h .nil
 | z :: r => .cons (AV.le_refl z) (ALe_snoc h r)
def c12 : Ca := ⟨true, zeroPr, 0, [1], [2]⟩
theorem c12_le (C : List Ca) (r x y : Nat) : AV.le (.slice (some r) (C.map caAV ++ [.agg [.lit (.bool true), .agg [.lit (.int .i64 0), .lit (.int .u64 0), .lit (.int .i64 0), .lit (.int .i64 0), .lit (.string ByteArray.empty), .lit (.int .i64 0)], .lit (.int .i64 0), .slice (some x) [.lit (.int .u8 1)], .slice (some y) [.lit (.int .u8 2)]]])) (.slice none ((C ++ [c12]).map caAV)) := by
 rw [List.map_append]
 intro g0 v0 hv0
 refine AV.le_own _ _ g0 v0 (AV.le_sliceS (some r) (ALe_snoc ?_ _) g0 v0 hv0)
 exact AV.sub_agg (.cons (AV.le_refl _) (.cons (AV.le_refl _) (.cons (AV.le_refl _) (.cons (AV.le_own _ _) (.cons (AV.le_own _ _) .nil)))))
section
variable [W : W32]
theorem addS_cavs {a : Alg} {m : Nat} (h : AlgIn a m) (p : Pa) (b : Bl) : (addS a p b).2.1.cavs = [] ∨ ∃ x : List UInt8, x.length ≤ 100000 ∧ (addS a p b).2.1.cavs = p.cavs ++ [⟨true, zeroPr, b.party, b.ticket, x⟩] := by
 rw [addS_P]
 split
 ·exact .inr ⟨(adX a p b).2.2, bxInto_len (mMac_in h 0 p.tag (sealM b.ticket)) _ _ _ _, rfl⟩
 ·exact .inl rfl
def AdQ (a : Alg) (p : Pa) (b : Bl) (g h : Nat) : Prop := ∃ r : Alg × Pa × Nat, (∀ k, ACall Tryz.prog 61 [algAV a, paAV p, blAV b] k [(g, shaG), (h, bitsG)] (mpAV r) []) ∧
 (∀ k, ACall Tryz.prog 62 [algAV a, paAV p, blAV b] k [] (mpAV r) []) ∧
 (∀ k, ACall Tryz.prog 22 [algAV r.1, algAV r.1] k [] (.lit (.bool true)) []) ∧
 (∀ k, ACall Tryz.prog 38 [paAV r.2.1, paAV r.2.1] k [] (.lit (.bool true)) [])
theorem AdQ_ex {a : Alg} {m : Nat} (ha : AlgIn a m) (hm : m ≤ 100000) {p : Pa} (hl : p.cavs.length ≤ 100) (hc : ∀ x ∈ p.cavs, CaSm x) {b : Bl} (hb : b.ticket.length ≤ 2000) (g h : Nat) : AdQ a p b g h := by
 have hq := addS_cavs ha p b
 refine ⟨addS a p b, Add_spec a m ha (by omega) p (by omega) hc b (by omega) g h, refAdd_spec a m ha (by omega) p (by omega) b (by omega), SameAlg_refl _ (m + 4) (addS_in ha p b) (by omega), SamePass_refl _ ?_ fun x hx => ?_⟩
 ·rcases hq with hq | ⟨y, _, hq⟩
  ·rw [hq]; simp
  ·rw [hq]; simp; omega
 ·rcases hq with hq | ⟨y, hy, hq⟩
  ·rw [hq] at hx; cases hx
  ·rw [hq] at hx
   rcases List.mem_append.1 hx with hx | hx
   ·exact hc x hx
   ·rw [List.mem_singleton.1 hx]; exact ⟨by simp only; omega, by simp only; omega⟩
set_option maxHeartbeats 16000000 in
theorem TicketAdd_core (xs : List Int) (hx : xs.length ≤ 9223372036854775807) (raw : Bl) (hr : raw.ticket.length ≤ 140737488351232) (n : Nat) (hn : n ≤ 255) (g h k : Nat) :
  ACall Tryz.prog 12 [.slice none (xs.map intAV), blAV raw, .lit (.int .u8 n)] k [(g, shaG), (h, bitsG)] (.lit (.bool true)) [] := by
 have c1 := New_spec xs
 obtain ⟨s, j, hs, hj, c2⟩ := Scene_ex xs 0 ⟨hx, Nat.zero_le _⟩
 obtain ⟨se, hG, s1, s2⟩ := hs.good
 obtain ⟨hp0, hp7⟩ := hs.cp
 have hcl := hG.cl
 have hcv := hG.cv
 obtain ⟨hk0, hb2, hB⟩ := blankS_ok hG.ain (by decide) (c := s.con) (t := ⟨0, 50⟩) rfl hp0 hp7
 have okk := hG.ok.key
 have in1 := sealS_in (keyS_in hG.ain) s.con.key (keyS s.alg).1.fresh (plainT (keyS s.alg).2.1 ⟨0, 50⟩)
 have hpl := plainT_len (keyS s.alg).2.1 ⟨0, 50⟩ rfl
 have htl := sealS_box okk hb2
 have c4 := refBlank_spec s.alg 1000 hG.ain (by decide) s.con ⟨0, 50⟩
 have c9 := awake14_spec g
 simp only at hB hb2 htl in1 hcl hpl
 rw [hB] at c4
 clear hB hb2 hk0 okk
 generalize (keyS s.alg).2.1 = kt at *
 generalize sealS (keyS s.alg).1 s.con.key (keyS s.alg).1.fresh (plainT kt ⟨0, 50⟩) = X at *
 obtain ⟨a1, tk, e1⟩ := X
 simp only at c4 in1 htl
 have htk2 : tk.length ≤ 2000 := by omega
 clear htl hpl
 obtain ⟨rp, rk, rt⟩ := raw
 obtain ⟨m1, t1, q1, q2, q3, q4, q5⟩ := cutW 1100 rt
 have ht1 : t1.length ≤ 2000 := by omega
 have q6 : m1 ≤ 1100 := q3
 have q1 : (if (1100 : Int) < (rt.length : Int) then (1100 : Int) else (rt.length : Int)) = (m1 : Int) := q1
 obtain ⟨sa, sr, sc, ⟨pe, ps, pc, pt⟩, sg, sq, sh, sm⟩ := s
 simp only at *
 have hcs2 : ∀ x ∈ pc, CaSm x := fun x hx => by have := hcv x hx; exact ⟨by omega, by omega⟩
 have hsA : scAV ⟨sa, sr, sc, ⟨pe, ps, pc, pt⟩, sg, sq, sh, sm⟩ = .agg [algAV sa, rgAV sr, concAV sc, .agg [.lit (.int .i64 pe), .lit (.int .i64 ps), .slice none (pc.map caAV), tagAV pt], .slice none (sg.map diAV), rqAV sq, .lit (.string ⟨sh.toArray⟩), .lit (.int .i64 sm)] := rfl
 have hpA : ∀ C, paAV ⟨pe, ps, C, pt⟩ = .agg [.lit (.int .i64 pe), .lit (.int .i64 ps), .slice none (C.map caAV), tagAV pt] := fun _ => rfl
 have hrA : blAV ⟨rp, rk, rt⟩ = .agg [.lit (.int .i64 rp), tagAV rk, .slice none (rt.map byteAV)] := rfl
 have hr1 : blAV ⟨rp, rk, t1⟩ = .agg [.lit (.int .i64 rp), tagAV rk, .slice none (t1.map byteAV)] := rfl
 have hte : teAV ⟨0, 50⟩ = .agg [.lit (.int .i64 0), .lit (.int .i64 50)] := rfl
 have e0 : ((0 : Nat) : Int) = 0 := rfl
 have hn1 : ((n : Nat) : Int).tmod 10 = ((n % 10 : Nat) : Int) := by rw [Int.tmod_eq_emod_of_nonneg (by omega)]; omega
 have hn2 : n % 10 ≤ 9 := by omega
 unfold mlAV at c4
 simp only at c4
 rw [hsA] at c2
 rw [hte] at c4
 simp only [e0] at c4
 clear hsA hte e0 hs hG hcv s1 s2 hp0 hp7 hj q3
 generalize n % 10 = n1 at *
 rw [hrA]
 refine Bd Tryz.func12 Tryz.ntmps12 fun σ N hp hpn hk hkn hfree => ?_
 simp only [List.mem_cons, List.not_mem_nil, or_false, forall_eq_or_imp, forall_eq] at hp hpn; obtain ⟨hd1, hd2⟩ := hp; obtain ⟨hdn1, hdn2⟩ := hpn
 have hcs := And.intro c1 (And.intro (c2 (N + 11 + 1)) (And.intro c4 True.intro))
 clear c1 c2 c4
 refine Wk ?_
 clear hcs
 refine go_loopF mixed (by kernel_rfl) [13, 48, 49, 50, 51, 52, 53, 54, 55, 56, 57, 58, 59, 60, 61, 62, 63, 64] [N+33+2] (fun m_ s_ σ_ n_ => ∃ (i : Nat) (C : List Ca), m_ = n1 - i ∧ s_ 13 = .lit (.int .i64 i) ∧ σ_ (N+33+2) = .box 47 (.agg [.lit (.int .i64 pe), .lit (.int .i64 ps), .slice none (C.map caAV), tagAV pt]) ∧ (i ≤ n1) ∧ (C.length ≤ 10 + i) ∧ (∀ x ∈ C, CaSm x)) ⟨_, 0, pc, rfl, WF, WF, WC, WC, WC⟩ ?_
 intro m_1 s_1 σ_1 n_1 hs_1 hf_1 hn_1 hI_1
 obtain ⟨i, C, hm_1, h1_13, e1_0, hi, hC, hS⟩ := hI_1
 have h1_2 := KS hs_1 2
 have h1_4 := KS hs_1 4
 have h1_6 := KS hs_1 6
 have h1_8 := KS hs_1 8
 have h1_9 := KS hs_1 9
 have h1_10 := KS hs_1 10
 have h1_12 := KS hs_1 12
 have k1_0 := KE hf_1 (N)
 have k1_1 := KE hf_1 (N + 14 + 2)
 have k1_2 := KE hf_1 (N + 18 + 10)
 have k1_3 := KE hf_1 (N + 18 + 11)
 have k1_4 := KE hf_1 (g)
 have k1_5 := KE hf_1 (h)
 have hlow := KL (N := N) (σ := σ) hf_1
 by_cases hil : i = n1
 ·subst hil
  have q1 := AdQ_ex in1 (by decide) (p := ⟨pe, ps, pc, pt⟩) (by simp only; omega) hcs2 (b := ⟨sc.party, kt, tk⟩) htk2 g h
  have q2 := AdQ_ex in1 (by decide) (p := ⟨pe, ps, pc, pt⟩) (by simp only; omega) hcs2 (b := ⟨rp, rk, t1⟩) ht1 g h
  have q3 := AdQ_ex in1 (by decide) (p := ⟨pe, ps, C, pt⟩) (by simp only; omega) hS (b := ⟨sc.party, kt, tk⟩) htk2 g h
  have q4 := AdQ_ex in1 (by decide) (p := ⟨pe, ps, C, pt⟩) (by simp only; omega) hS (b := ⟨rp, rk, t1⟩) ht1 g h
  have hl1 : ∀ r : Nat, AV.le (.slice (some r) [.agg [.lit (.int .i64 pe), .lit (.int .i64 ps), .slice none (pc.map caAV), tagAV pt], .agg [.lit (.int .i64 pe), .lit (.int .i64 ps), .slice none (C.map caAV), tagAV pt]]) (.slice none ([(⟨pe, ps, pc, pt⟩ : Pa), ⟨pe, ps, C, pt⟩].map paAV)) := fun r => AV.le_own _ _
  have hl2 : ∀ r : Nat, AV.le (.slice (some r) [blAV ⟨sc.party, kt, tk⟩, .agg [.lit (.int .i64 rp), tagAV rk, .slice none (t1.map byteAV)]]) (.slice none ([(⟨sc.party, kt, tk⟩ : Bl), ⟨rp, rk, t1⟩].map blAV)) := fun r => AV.le_own _ _
  obtain ⟨PL, hPL⟩ : ∃ PL : List Pa, PL = [⟨pe, ps, pc, pt⟩, ⟨pe, ps, C, pt⟩] := ⟨_, rfl⟩
  obtain ⟨BL, hBL⟩ : ∃ BL : List Bl, BL = [⟨sc.party, kt, tk⟩, ⟨rp, rk, t1⟩] := ⟨_, rfl⟩
  have hP2 : PL.length = 2 := by rw [hPL]; rfl
  have hB2 : BL.length = 2 := by rw [hBL]; rfl
  have hPu : ∀ u : Nat, u < 2 → ∃ p, (PL.map paAV)[u]? = some (paAV p) ∧ AdQ a1 p ⟨sc.party, kt, tk⟩ g h ∧ AdQ a1 p ⟨rp, rk, t1⟩ g h := fun u hu => by
   rw [hPL]
   obtain rfl | rfl : u = 0 ∨ u = 1 := by omega
   ·exact ⟨_, rfl, q1, q2⟩
   ·exact ⟨_, rfl, q3, q4⟩
  rw [← hPL] at hl1
  rw [← hBL] at hl2
  have hBv : ∀ (p : Pa) (v : Nat), AdQ a1 p ⟨sc.party, kt, tk⟩ g h → AdQ a1 p ⟨rp, rk, t1⟩ g h → v < 2 → ∃ b, (BL.map blAV)[v]? = some (blAV b) ∧ AdQ a1 p b g h := fun p v k1 k2 hv => by
   rw [hBL]
   obtain rfl | rfl : v = 0 ∨ v = 1 := by omega
   ·exact ⟨_, rfl, k1⟩
   ·exact ⟨_, rfl, k2⟩
  clear q1 q2 q3 q4 hPL hBL hpA hrA hr1 hS hcs2
  have hcs := True.intro
  refine Wk ?_
  clear hcs
  refine go_less 68 (by simp (disch := omega) [go_sem, *, -List.reduceReplicate]; try rfl) (hl1 _) ?_
  clear hl1
  refine go_loopF mixed (by kernel_rfl) (6 :: 15 :: 17 :: 18 :: 19 :: 20 :: 21 :: 22 :: 23 :: 70 :: 71 :: 72 :: 73 :: 74 :: 75 :: 76 :: 77 :: 78 :: 79 :: 80 :: 81 :: 82 :: 83 :: 84 :: 85 :: 86 :: 87 :: 88 :: 89 :: 90 :: 91 :: 92 :: 93 :: 94 :: 95 :: 96 :: 97 :: 98 :: 99 :: 100 :: 101 :: 102 :: 103 :: 104 :: 105 :: 106 :: 107 :: 108 :: 109 :: 110 :: 111 :: 112 :: 113 :: 114 :: []) [] (fun m_ s_ σ_ n_ => ∃ (u : Nat), m_ = 2 - u ∧ s_ 70 = .lit (.int .i64 u) ∧ (u ≤ 2)) ⟨_, 0, rfl, WF, WC⟩ ?_
  intro m_2 s_2 σ_2 n_2 hs_2 hf_2 hn_2 hI_2
  obtain ⟨u, hm_2, h2_70, hu⟩ := hI_2
  have h2_4 := KS hs_2 4
  have h2_9 := KS hs_2 9
  have h2_10 := KS hs_2 10
  have h2_68 := KS hs_2 68
  have h2_69 := KS hs_2 69
  have k2_0 := KE hf_2 (N)
  have k2_1 := KE hf_2 (N + 14 + 2)
  have k2_2 := KE hf_2 (N + 18 + 10)
  have k2_3 := KE hf_2 (N + 18 + 11)
  have k2_4 := KE hf_2 (N + 33 + 2)
  have k2_5 := KE hf_2 (g)
  have k2_6 := KE hf_2 (h)
  have hlow := KL (N := N) (σ := σ) hf_2
  by_cases hul : u = 2
  ·subst hul
   clear hPu hBv hl2
   have hcs := And.intro c9 True.intro
   exact W0
  ·have hu1 : u < 2 := by omega
   have hu2 : (u : Int) < 2 := by omega
   obtain ⟨p, hpm, k1, k2⟩ := hPu u hu1
   have hBv := fun v => hBv p v k1 k2
   clear hPu k1 k2 c9
   have hcs := True.intro
   refine Wk ?_
   clear hcs
   refine go_less 76 (by simp (disch := omega) [go_sem, *, -List.reduceReplicate]; try rfl) (hl2 _) ?_
   clear hl2
   refine go_loopF mixed (by kernel_rfl) [6, 17, 18, 19, 20, 21, 22, 23, 78, 79, 80, 81, 82, 83, 84, 85, 86, 87, 88, 89, 90, 91, 92, 93, 94, 95, 96, 97, 98, 99, 100, 101, 102, 103, 104, 105, 106, 107, 108, 109, 110, 111, 112, 113] [] (fun m_ s_ σ_ n_ => ∃ (v : Nat), m_ = 2 - v ∧ s_ 78 = .lit (.int .i64 v) ∧ (v ≤ 2)) ⟨_, 0, rfl, WF, WC⟩ ?_
   intro m_3 s_3 σ_3 n_3 hs_3 hf_3 hn_3 hI_3
   obtain ⟨v, hm_3, h3_78, hv⟩ := hI_3
   have h3_4 := KS hs_3 4
   have h3_9 := KS hs_3 9
   have h3_10 := KS hs_3 10
   have h3_15 := KS hs_3 15
   have h3_68 := KS hs_3 68
   have h3_69 := KS hs_3 69
   have h3_70 := KS hs_3 70
   have h3_71 := KS hs_3 71
   have h3_72 := KS hs_3 72
   have h3_73 := KS hs_3 73
   have h3_74 := KS hs_3 74
   have h3_75 := KS hs_3 75
   have h3_76 := KS hs_3 76
   have h3_77 := KS hs_3 77
   have k3_0 := KE hf_3 (N)
   have k3_1 := KE hf_3 (N + 14 + 2)
   have k3_2 := KE hf_3 (N + 18 + 10)
   have k3_3 := KE hf_3 (N + 18 + 11)
   have k3_4 := KE hf_3 (N + 33 + 2)
   have k3_5 := KE hf_3 (n_2 + 1 + 2)
   have k3_6 := KE hf_3 (g)
   have k3_7 := KE hf_3 (h)
   have hlow := KL (N := N) (σ := σ) hf_3
   by_cases hvl : v = 2
   ·subst hvl
    clear hBv
    have hcs := True.intro
    refine Wk ?_
    exact ⟨WS, WG, WN, _, (show 2 - (u + 1) < m_2 by omega), u + 1, rfl, WF, WC⟩
   ·have hv1 : v < 2 := by omega
    have hv2 : (v : Int) < 2 := by omega
    obtain ⟨b, hbm, ⟨x, y, e⟩, k1, k2, k3, k4⟩ := hBv v hv1
    clear hBv
    unfold mpAV at k1 k2
    simp only at k1 k2 k3 k4
    have hcs := And.intro k1 (And.intro k2 (And.intro k3 (And.intro k4 True.intro)))
    clear k1 k2 k3 k4
    refine Wk ?_
    exact ⟨WS, WG, WN, _, (show 2 - (v + 1) < m_3 by omega), v + 1, rfl, WF, WC⟩
 ·have hi1 : i < n1 := by omega
  have hcs := True.intro
  refine Wm ?_
  iterate 2 refine Wz ?_
  have hS1 : ∀ x, x ∈ C ∨ x = c12 → CaSm x := fun x hx => by
   rcases hx with hx | hx
   ·exact hS x hx
   ·rw [hx]; exact ⟨by decide, by decide⟩
  have hC1 : C.length + 1 ≤ 10 + (i + 1) := by omega
  refine go_lessIn (bt := 47) (N + 33 + 2) [2] (.slice none ((C ++ [c12]).map caAV)) (c := .agg [.lit (.int .i64 pe), .lit (.int .i64 ps), .slice (some (n_1 + 5)) (C.map caAV ++ [.agg [.lit (.bool true), .agg [.lit (.int .i64 0), .lit (.int .u64 0), .lit (.int .i64 0), .lit (.int .i64 0), .lit (.string ByteArray.empty), .lit (.int .i64 0)], .lit (.int .i64 0), .slice (some (n_1 + 5 + 4)) [.lit (.int .u8 1)], .slice (some (n_1 + 5 + 5)) [.lit (.int .u8 2)]]]), tagAV pt]) (by simp (disch := omega) [go_sem, *, -List.reduceReplicate]; try first | done | rfl | exact ⟨rfl, rfl⟩) (by rfl) (c12_le C _ _ _) (by rfl) (by rfl) ?_
  refine Wk ?_
  exact ⟨WS, WG, WN, _, (show n1 - (i + 1) < m_1 by omega), i + 1, C ++ [c12], rfl, WF, WF, WC, WC, WC⟩
end
theorem TicketAdd_spec (xs : List Int) (_ : ∀ n ∈ xs, (Lit.int .i64 n).wf = true) (hx : xs.length ≤ 9223372036854775807) (raw : Bl) (hr : raw.ticket.length ≤ 140737488351232) (n : Int) (w : (Lit.int .u8 n).wf = true) (g h : Nat) (_ : g ≠ h) (k : Nat) :
  ACall Tryz.prog 12 [.slice none (xs.map intAV), blAV raw, .lit (.int .u8 n)] k [(g, shaG), (h, bitsG)] (.lit (.bool true)) [] := by
 obtain ⟨b, _, rfl⟩ := byte_of_wf w
 exact @TicketAdd_core w32 xs hx raw hr b.toNat (by have := b.toNat_lt; omega) g h k
end Go.Proofs.YtdmjpolnbmoehaaGreatDoor
