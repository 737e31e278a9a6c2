/- Texts Y6, C14, Y7, Y9, joined. -/
import Derived.Test.YtemmlldpmgfblaaGreatDoorMY1

namespace Go.Proofs.YtemmlldpmgfblaaGreatDoor
open Go.Ab
attribute [local irreducible] Go.Ab.tyAV Go.Ab.aw Go.Ab.aops Go.Ab.kReg Go.Ab.aThen Go.Ab.aBlk Go.Ab.acond Go.Ab.aguard Go.Ab.astep Go.Ab.AStepX Go.Ab.aRet
def bytO (b : List UInt8) (u e : Nat) : List UInt8 × Nat × Nat :=
 if e ≠ 0 then (List.replicate 32 0, u, e) else if u + 32 ≤ b.length then ((b.drop u).take 32, u + 32, 0) else (List.replicate 32 0, u, 3)
theorem tagO_byt (b : List UInt8) (u e : Nat) : (tagO b u e).1.1 = (bytO b u e).1 ∧ (tagO b u e).2 = (bytO b u e).2 := by
 unfold tagO bytO
 split
 ·exact ⟨rfl, rfl⟩
 split
 ·exact ⟨rfl, rfl⟩
 ·exact ⟨rfl, rfl⟩
theorem RBytO_spec (b : List UInt8) (u e : Nat) (hu : u ≤ b.length) (hb : b.length ≤ 1000000) (d k : Nat) :
  ACall Tryz.prog 165 [.ptr d [] 0, .lit (.int .i64 32)] k [(d, RdBox b u e)] (.slice none ((bytO b u e).1.map byteAV)) [(d, RdBox b (bytO b u e).2.1 (bytO b u e).2.2)] := by
 have hz : List.replicate 32 (AV.lit (.int .u8 0)) = (List.replicate 32 (0 : UInt8)).map byteAV := rfl
 unfold bytO
 by_cases he : e ≠ 0
 ·rw [if_pos he]
  have he' : ((e : Int) == 0) = false := by rw [beq_eq_false_iff_ne]; omega
  have he'' : ((e : Int) != 0) = true := by rw [bne, he']; rfl
  generalize (List.replicate 32 (0 : UInt8)) = Z at *
  simp only [RdBox]
  refine Bd Tryz.func165 Tryz.ntmps165 fun σ N hp hpn hk hkn hfree => ?_
  obtain ⟨hd, hdn⟩ := HD0 hp hpn; clear hp hpn
  refine Wk ?_
  exact RV (d) (.box 169 (.agg [.slice none (b.map byteAV), .lit (.int .i64 (u : Int)), .lit (.int .i64 (e : Int))]))
 ·obtain rfl : e = 0 := by omega
  rw [if_neg he]
  by_cases hs : u + 32 ≤ b.length
  ·rw [if_pos hs]
   have hs' : ¬ (b.length : Int) - (u : Int) < 32 := by omega
   have hsl := take_drop_bytes b u 32
   have hu32 : ((u : Int) + 32).toNat = u + 32 := by omega
   generalize (b.drop u).take 32 = T at *
   simp only [RdBox]
   refine Bd Tryz.func165 Tryz.ntmps165 fun σ N hp hpn hk hkn hfree => ?_
   obtain ⟨hd, hdn⟩ := HD0 hp hpn; clear hp hpn
   refine Wk ?_
   exact RV (d) (.box 169 (.agg [.slice none (b.map byteAV), .lit (.int .i64 ((u : Int) + 32)), .lit (.int .i64 0)]))
  ·rw [if_neg hs]
   have hs' : (b.length : Int) - (u : Int) < 32 := by omega
   generalize (List.replicate 32 (0 : UInt8)) = Z at *
   simp only [RdBox]
   refine Bd Tryz.func165 Tryz.ntmps165 fun σ N hp hpn hk hkn hfree => ?_
   obtain ⟨hd, hdn⟩ := HD0 hp hpn; clear hp hpn
   refine Wk ?_
   exact RV (d) (.box 169 (.agg [.slice none (b.map byteAV), .lit (.int .i64 (u : Int)), .lit (.int .i64 3)]))
theorem RTagO_spec (b : List UInt8) (u e : Nat) (hu : u ≤ b.length) (hb : b.length ≤ 1000000) (d k : Nat) :
  ACall Tryz.prog 98 [.ptr d [] 0] k [(d, RdBox b u e)] (tagAV (tagO b u e).1) [(d, RdBox b (tagO b u e).2.1 (tagO b u e).2.2)] := by
 have c1 := RBytO_spec b u e hu hb d
 obtain ⟨h1, h2⟩ := tagO_byt b u e
 rw [h2]
 rw [← h1] at c1
 generalize (tagO b u e).1 = T at *
 generalize (bytO b u e).2 = R at *
 obtain ⟨v, x⟩ := R
 clear h1 h2
 have hT := T.2
 have hmin : Nat.min T.1.length 32 = 32 := by rw [hT]; rfl
 have htk : (T.1.map byteAV).take 32 = T.1.map byteAV := List.take_of_length_le (by rw [List.length_map]; omega)
 obtain ⟨T, hTl⟩ := T
 simp only at hT hmin htk c1
 have hs1 : (AV.agg (T.map byteAV)).sz = 32 := by simp only [AV.sz, szl_bytes]; exact hTl
 have hs2 : (AV.agg (T.map byteAV)).cell = true := celll_bytes T
 have hz32 : (zeroTag.val.map byteAV).drop 32 = [] := rfl
 simp only [tagAV, RdBox] at *
 refine Bd Tryz.func98 Tryz.ntmps98 fun σ N hp hpn hk hkn hfree => ?_
 obtain ⟨hd, hdn⟩ := HD0 hp hpn; clear hp hpn
 have M : Mut (N + 2) := ⟨⟩
 have hcs := And.intro c1 True.intro
 clear c1
 refine Wk ?_
 exact RW (d) (.box 169 (.agg [.slice none (b.map byteAV), .lit (.int .i64 (v : Int)), .lit (.int .i64 (x : Int))]))
theorem RNumO_spec (b : List UInt8) (u e : Nat) (hu : u ≤ b.length) (hb : b.length ≤ 1000000) (d k : Nat) :
  ACall Tryz.prog 94 [.ptr d [] 0] k [(d, RdBox b u e)] (.lit (.int .i64 (numO b u e).1)) [(d, RdBox b (numO b u e).2.1 (numO b u e).2.2)] := by
 unfold numO
 by_cases he : e ≠ 0
 ·rw [if_pos he]; exact RNum_off b u e he d k
 ·obtain rfl : e = 0 := by omega
  rw [if_neg he]; exact RNum_spec b u hu hb d k
theorem RPred0_spec (b : List UInt8) (u : Nat) (hu : u ≤ b.length) (hb : b.length ≤ 1000000) (d k : Nat) :
  ACall Tryz.prog 100 [.ptr d [] 0] k [(d, RdBox b u 0)] (prAV (prdO b u 0).1) [(d, RdBox b (prdO b u 0).2.1 (prdO b u 0).2.2)] := by
 unfold prdO
 rw [if_neg (by simp)]; exact RPred_spec b u hu hb d k
theorem RCav0_spec (b : List UInt8) (u : Nat) (hu : u ≤ b.length) (hb : b.length ≤ 1000000) (d k : Nat) :
  ACall Tryz.prog 97 [.ptr d [] 0] k [(d, RdBox b u 0)] (caAV (cavO b u 0).1) [(d, RdBox b (cavO b u 0).2.1 (cavO b u 0).2.2)] := by
 have c1 := rcDec_spec (b.drop u) (by rw [List.length_drop]; omega)
 have hl := (decC_ok (b.drop u)).2
 rw [List.length_drop] at hl
 have hd1 : (b.map byteAV).drop u = (b.drop u).map byteAV := by rw [List.map_drop]
 unfold cavO
 rw [if_neg (by simp)]
 generalize decC (b.drop u) = R at *
 obtain ⟨n, q, e⟩ := R
 simp only [decCAV] at *
 generalize b.drop u = t at *
 have c2 := RFail0 b u e d
 simp only [RdBox] at *
 refine Bd Tryz.func97 Tryz.ntmps97 fun σ N hp hpn hk hkn hfree => ?_
 obtain ⟨hd, hdn⟩ := HD0 hp hpn; clear hp hpn
 have hcs := And.intro c1 (And.intro c2 True.intro)
 clear c1 c2
 refine Wk ?_
 exact RW (d) (.box 169 (.agg [.slice none (b.map byteAV), .lit (.int .i64 ((u : Int) + (q : Int))), .lit (.int .i64 (e : Int))]))
theorem numO_bad {b : List UInt8} {u e : Nat} (h : (numO b u e).2.2 ≠ 0) : (numO b u e).1 = 0 := by
 unfold numO at h ⊢
 split
 ·rfl
 ·rename_i he
  rw [if_neg he] at h
  exact numR_bad h
theorem RCnt_spec (b : List UInt8) (m u e : Nat) (hu : u ≤ b.length) (hb : b.length ≤ 1000000) (d k : Nat) :
  ACall Tryz.prog 96 [.ptr d [] 0, .lit (.int .i64 m)] k [(d, RdBox b u e)] (.lit (.int .i64 (cntO b m u e).1)) [(d, RdBox b (cntO b m u e).2.1 (cntO b m u e).2.2)] := by
 have c1 := RNumO_spec b u e hu hb d
 have hbad := numO_bad (b := b) (u := u) (e := e)
 unfold cntO
 generalize numO b u e = R at *
 obtain ⟨n, v, x⟩ := R
 simp only at *
 by_cases hx : x ≠ 0
 ·rw [if_pos hx]
  obtain rfl := hbad hx
  have he' : ((x : Int) == 0) = false := by rw [beq_eq_false_iff_ne]; omega
  have he'' : ((x : Int) != 0) = true := by rw [bne, he']; rfl
  have hi : ¬ (m : Int) < 0 := by omega
  simp only [RdBox] at *
  refine Bd Tryz.func96 Tryz.ntmps96 fun σ N hp hpn hk hkn hfree => ?_
  obtain ⟨hd, hdn⟩ := HD0 hp hpn; clear hp hpn
  have hcs := And.intro c1 True.intro
  clear c1
  refine Wk ?_
  exact RW (d) (.box 169 (.agg [.slice none (b.map byteAV), .lit (.int .i64 (v : Int)), .lit (.int .i64 (x : Int))]))
 ·obtain rfl : x = 0 := by omega
  rw [if_neg hx]
  by_cases hm : m < n
  ·rw [if_pos hm]
   have hi : (m : Int) < (n : Int) := by omega
   have c2 := RFail0 b v 2 d
   simp only [RdBox] at *
   refine Bd Tryz.func96 Tryz.ntmps96 fun σ N hp hpn hk hkn hfree => ?_
   obtain ⟨hd, hdn⟩ := HD0 hp hpn; clear hp hpn
   have hcs := And.intro c1 (And.intro c2 True.intro)
   clear c1 c2
   refine Wk ?_
   exact RW (d) (.box 169 (.agg [.slice none (b.map byteAV), .lit (.int .i64 (v : Int)), .lit (.int .i64 2)]))
  ·rw [if_neg hm]
   have hi : ¬ (m : Int) < (n : Int) := by omega
   simp only [RdBox] at *
   refine Bd Tryz.func96 Tryz.ntmps96 fun σ N hp hpn hk hkn hfree => ?_
   obtain ⟨hd, hdn⟩ := HD0 hp hpn; clear hp hpn
   have hcs := And.intro c1 True.intro
   clear c1
   refine Wk ?_
   exact RW (d) (.box 169 (.agg [.slice none (b.map byteAV), .lit (.int .i64 (v : Int)), .lit (.int .i64 0)]))
end Go.Proofs.YtemmlldpmgfblaaGreatDoor

namespace Go.Ab
theorem go_if {P : Program} {N : Nat} {b : Code} {Q : AExit → Cfg → Prop} {next : Cfg → Prop} {s : Slots} {σ : Nat → Ent} {n : Nat} (L ents : List Nat) (I : (Nat → Ent) → Prop)
  (h1 : SKeep L s s → EKeep n ents σ σ → aw P N b (aThen (fun c => SKeep L s c.s ∧ EKeep n ents σ c.σ ∧ n ≤ c.n ∧ I c.σ) Q) ⟨s, σ, n⟩)
  (h2 : ∀ s' σ' n', SKeep L s s' → EKeep n ents σ σ' → n ≤ n' → I σ' → next ⟨s', σ', n'⟩) : aw P N b (aThen next Q) ⟨s, σ, n⟩ :=
 go_after0 _ (h1 (SKeep.refl L s) (EKeep.refl n ents σ)) fun c ⟨a, b, c1, c2⟩ => h2 c.s c.σ c.n a b c1 c2
theorem go_leave {P : Program} {N id : Nat} {b : Code} {Q : AExit → Cfg → Prop} {next : Cfg → Prop} {s : Slots} {σ : Nat → Ent} {n : Nat} (L ents : List Nat) (I : (Nat → Ent) → Prop)
  (h1 : aw P N b (aBlk id (aThen (fun c => SKeep L s c.s ∧ EKeep n ents σ c.σ ∧ n ≤ c.n ∧ I c.σ) Q)) ⟨s, σ, n⟩)
  (h2 : ∀ s' σ' n', SKeep L s s' → EKeep n ents σ σ' → n ≤ n' → I σ' → next ⟨s', σ', n'⟩) : aw P N b (aBlk id (aThen next Q)) ⟨s, σ, n⟩ :=
 go_mid h1 fun e c' hq => by
  cases e with
  | normal => obtain ⟨a, b, c1, c2⟩ := hq; exact h2 c'.s c'.σ c'.n a b c1 c2
  | ret => exact hq
  | exit id' =>
   simp only [aBlk] at hq ⊢
   by_cases h : id' = id
   ·rw [if_pos h] at hq ⊢
    obtain ⟨a, b, c1, c2⟩ := hq; exact h2 c'.s c'.σ c'.n a b c1 c2
   ·rw [if_neg h] at hq ⊢
    exact hq
end Go.Ab

namespace Go.Proofs.YtemmlldpmgfblaaGreatDoor
open Go.Ab
attribute [local irreducible] Go.Ab.tyAV Go.Ab.aw Go.Ab.aops Go.Ab.kReg Go.Ab.aThen Go.Ab.aBlk Go.Ab.acond Go.Ab.aguard Go.Ab.astep Go.Ab.AStepX Go.Ab.aRet
set_option maxHeartbeats 16000000 in
theorem rbDec_spec (b : List UInt8) (hb : b.length ≤ 9223372036854775807) (k : Nat) : ACall Tryz.prog 40 [.slice none (b.map byteAV)] k [] (decBAV (decB b)) [] := by
 by_cases hl : 4096 < b.length
 ·have hi : (4096 : Int) < (b.length : Int) := by omega
  unfold decB
  rw [if_pos hl]
  simp only [decBAV, buAV, bu0, rqAV, List.map_nil]
  refine Bd Tryz.func40 Tryz.ntmps40 fun σ N hp hpn hk hkn hfree => ?_
  exact WD
 have hi : ¬ (4096 : Int) < (b.length : Int) := by omega
 have hb6 : b.length ≤ 1000000 := by omega
 unfold decB
 rw [if_neg hl]
 have hin := bunS_in b
 have c1 := RNumO_spec b 0 0 (Nat.zero_le _) hb6
 have h1 : (numO b 0 0).2.1 ≤ b.length := numO_le (Nat.zero_le _)
 unfold bunW at hin ⊢
 simp only at hin ⊢
 have hbad := numO_bad (b := b) (u := 0) (e := 0)
 generalize numO b 0 0 = R at *
 obtain ⟨n1, v1, e1⟩ := R
 simp only at *
 have hx1 : (if e1 = 0 ∧ n1 ≠ 1 then 6 else e1) = (if n1 = 1 then e1 else if e1 = 0 then 6 else e1) := by
  by_cases q2 : n1 = 1
  ·rw [if_neg (by omega), if_pos q2]
  ·rw [if_neg q2]
   by_cases q1 : e1 = 0
   ·rw [if_pos ⟨q1, q2⟩, if_pos q1]
   ·rw [if_neg (by omega), if_neg q1]
 rw [hx1] at hin ⊢
 clear hx1 hbad
 generalize hx1 : (if n1 = 1 then e1 else if e1 = 0 then 6 else e1) = x1 at *
 have c2 := RNumO_spec b v1 x1 h1 hb6
 have h2 := numO_le (e := x1) h1
 generalize numO b v1 x1 = R at *
 obtain ⟨n2, v2, e2⟩ := R
 simp only at *
 have c3 := RNumO_spec b v2 e2 h2 hb6
 have h3 := numO_le (e := e2) h2
 generalize numO b v2 e2 = R at *
 obtain ⟨n3, v3, e3⟩ := R
 simp only at *
 have c4 := RNumO_spec b v3 e3 h3 hb6
 have h4 := numO_le (e := e3) h3
 generalize numO b v3 e3 = R at *
 obtain ⟨n4, v4, e4⟩ := R
 simp only at *
 have c5 := RNumO_spec b v4 e4 h4 hb6
 have h5 := numO_le (e := e4) h4
 generalize numO b v4 e4 = R at *
 obtain ⟨n5, v5, e5⟩ := R
 simp only at *
 have c6 := RCnt_spec b 64 v5 e5 h5 hb6
 have h6 := cntO_le (m := 64) (e := e5) h5
 have m6 := cntO_m b 64 v5 e5
 generalize cntO b 64 v5 e5 = R at *
 obtain ⟨mc, v6, e6⟩ := R
 simp only at *
 obtain ⟨⟨L, v7, e7⟩, hit⟩ : ∃ R, itS (cavO b) mc v6 e6 = R := ⟨_, rfl⟩
 have h7 : v7 ≤ b.length := by have := (itS_ok (f := cavO b) (Q := fun c => PrOk c.first) (fun u hu => cavO_ok u 0 hu) mc v6 e6 h6).2; rw [hit] at this; exact this
 rw [hit] at hin ⊢
 simp only at hin ⊢
 have c8 := RTagO_spec b v7 e7 h7 hb6
 have h8 := tagO_le (e := e7) h7
 generalize tagO b v7 e7 = R at *
 obtain ⟨tg, v8, e8⟩ := R
 simp only at *
 have c9 := RCnt_spec b 8 v8 e8 h8 hb6
 have h9 := cntO_le (m := 8) (e := e8) h8
 have m9 := cntO_m b 8 v8 e8
 generalize cntO b 8 v8 e8 = R at *
 obtain ⟨md, v9, e9⟩ := R
 simp only at *
 obtain ⟨⟨D, v10, e10⟩, hid⟩ : ∃ R, itS (bndO b) md v9 e9 = R := ⟨_, rfl⟩
 have h10 : v10 ≤ b.length := by have := (itS_ok (f := bndO b) (Q := BoIn) (fun u hu => bndO_ok u 0 hu) md v9 e9 h9).2; rw [hid] at this; exact this
 rw [hid] at hin ⊢
 simp only at hin ⊢
 have cC := refChk_spec _ hin
 simp only [decBAV]
 have hz : buAV bu0 = .agg [.agg [.lit (.int .i64 0), .lit (.int .i64 0)], .lit (.int .i64 0), .lit (.int .i64 0), .slice none [], tagAV zeroTag, .slice none []] := rfl
 have hB : buAV ⟨⟨(n2 : Int), (n3 : Int)⟩, (n4 : Int), (n5 : Int), L, tg, D⟩ = .agg [.agg [.lit (.int .i64 n2), .lit (.int .i64 n3)], .lit (.int .i64 n4), .lit (.int .i64 n5), .slice none (L.map caAV), tagAV tg, .slice none (D.map boAV)] := rfl
 rw [hB] at cC
 generalize chkS ⟨⟨(n2 : Int), (n3 : Int)⟩, (n4 : Int), (n5 : Int), L, tg, D⟩ = ck at *
 have k64 : ((64 : Nat) : Int) = 64 := rfl
 have k8 : ((8 : Nat) : Int) = 8 := rfl
 rw [k64] at c6
 rw [k8] at c9
 clear k64 h1 h2 h3 h4 h5 h7 h8 hin
 refine Bd Tryz.func40 Tryz.ntmps40 fun σ N hp hpn hk hkn hfree => ?_
 refine Wm ?_
 iterate 4 refine Wz ?_
 refine go_nilrowIn (N + 9) [3] 120 10 (bt := 29) (c := .agg [.agg [.lit (.int .i64 0), .lit (.int .i64 0)], .lit (.int .i64 0), .lit (.int .i64 0), .nils, tagAV zeroTag, .nils]) (by simp (disch := omega) [go_sem, *, -List.reduceReplicate]) rfl ?_
 refine go_nilrowIn (N + 9) [5] 70 34 (bt := 29) (c := .agg [.agg [.lit (.int .i64 0), .lit (.int .i64 0)], .lit (.int .i64 0), .lit (.int .i64 0), .slice (some (N + 10)) [], tagAV zeroTag, .nils]) (by simp (disch := omega) [go_sem, *, -List.reduceReplicate]; try rfl) rfl ?_
 have hcs := And.intro (c1 (N + 7)) True.intro
 clear c1
 refine Wk ?_
 clear hcs
 refine go_if [20, 21] [N + 7] (fun σ' => σ' (N + 7) = RdBox b v1 x1) (fun hs_0 hf_0 => ?_) (fun s0 σ0 m0 hs0 hf0 hn0 g7 => ?_)
 ·by_cases q : n1 = 1
  ·subst q
   rw [if_pos rfl] at hx1
   subst hx1
   refine Wk ?_
   exact ⟨WS, hf_0, WN, WF⟩
  ·have q' : ((n1 : Int) == 1) = false := by rw [beq_eq_false_iff_ne]; omega
   have q'' : ((n1 : Int) != 1) = true := by rw [bne, q']; rfl
   rw [if_neg q] at hx1
   have cF := RFailO b v1 e1 6 (N + 7)
   have e6 : ((6 : Nat) : Int) = 6 := rfl
   rw [hx1, e6] at cF
   have hcs := And.intro cF True.intro
   clear cF
   refine Wk ?_
   exact ⟨WS, by simp only [wr_cons, wr_nil]; exact EKeep.updL (by simp) hf_0, WN, WF⟩
 have g0 := KS hs0 0
 have g2 := KS hs0 2
 have g4 := KS hs0 4
 have g5 := KS hs0 5
 have q0 := KE hf0 N
 have q9 := KE hf0 (N + 9)
 have q10 := KE hf0 (N + 10)
 have q11 := KE hf0 (N + 11)
 have hlow := KL (N := N) (σ := σ) hf0
 clear hs0 hf0
 have hcs := And.intro (c2 (N + 7)) (And.intro (c3 (N + 7)) (And.intro (c4 (N + 7)) (And.intro (c5 (N + 7)) (And.intro (c6 (N + 7)) True.intro))))
 clear c2 c3 c4 c5 c6
 refine Wk ?_
 clear hcs
 refine go_leave [6, 38, 39, 40, 41, 42, 43, 44, 45, 46, 47, 48, 49, 50, 51, 52, 53, 54, 55] [N+7, N+9, N+10] (fun σ' => σ' (N + 7) = RdBox b v7 e7 ∧ σ' (N + 9) = .box 29 (.agg [.agg [.lit (.int .i64 n2), .lit (.int .i64 n3)], .lit (.int .i64 n4), .lit (.int .i64 n5), .slice (some (N + 10)) (L.map caAV), tagAV zeroTag, .slice (some (N + 11)) []]) ∧ σ' (N + 10) = .row 120 10 L.length) ?_ (fun s1 σ1 m1 hs1 hf1 hn1 hI1 => ?_)
 ·refine go_loopF mixed (by kernel_rfl) [6, 38, 39, 40, 41, 42, 43, 44, 45, 46, 47, 48, 49, 50, 51, 52, 53, 54, 55] [N+7, N+9, N+10] (fun m_ s_ σ_ n_ => ∃ (w : Nat) (l : List Ca) (v : Nat) (x : Nat), m_ = w ∧ s_ 6 = .lit (.int .i64 w) ∧ σ_ (N+7) = RdBox b v x ∧ σ_ (N+9) = .box 29 (.agg [.agg [.lit (.int .i64 n2), .lit (.int .i64 n3)], .lit (.int .i64 n4), .lit (.int .i64 n5), .slice (some (N + 10)) (l.map caAV), tagAV zeroTag, .slice (some (N + 11)) []]) ∧ σ_ (N+10) = .row 120 10 l.length ∧ (w ≤ mc) ∧ (itS (cavO b) (mc - w) v6 e6 = (l, v, x)) ∧ (v ≤ b.length)) ⟨_, mc, [], v6, e6, rfl, WF, WF, WF, WF, WC, WC, WC⟩ ?_
  intro m_1 s_1 σ_1 n_1 hs_1 hf_1 hn_1 hI_1
  obtain ⟨w, l, v, x, hm_1, h1_6, e1_0, e1_1, e1_2, hw, hj, hv⟩ := hI_1
  have h1_0 := KS hs_1 0
  have h1_2 := KS hs_1 2
  have h1_3 := KS hs_1 3
  have h1_4 := KS hs_1 4
  have h1_5 := KS hs_1 5
  have k1_0 := KE hf_1 (N)
  have k1_1 := KE hf_1 (N + 11)
  have hlow := KL (N := N) (σ := σ) hf_1
  have hll : l.length ≤ mc := by have := itS_len (cavO b) (mc - w) v6 e6; rw [hj] at this; simp only at this; omega
  have hfin : x ≠ 0 ∨ w = 0 → (l, v, x) = (L, v7, e7) := fun h => by
   rw [← hj, ← hit]
   rcases h with h | h
   ·exact (itS_stop _ (by rw [hj]; exact h) mc (by omega)).symm
   ·rw [h, Nat.sub_zero]
  clear c8 c9 cC hit hid
  by_cases hgo : x = 0 ∧ 0 < w
  ·obtain ⟨rfl, hw0⟩ := hgo
   obtain ⟨w, rfl⟩ : ∃ w', w = w' + 1 := ⟨w - 1, by omega⟩
   have c10 := RCav0_spec b v hv hb6 (N + 7)
   have hs := itS_succ _ _ _ _ hj
   rw [show mc - (w + 1) + 1 = mc - w by omega] at hs
   have hvn := (cavO_ok v 0 hv).2
   generalize cavO b v 0 = R at *
   obtain ⟨ca, vn, xn⟩ := R
   simp only at *
   clear hj hfin
   have hcs := And.intro c10 True.intro
   clear c10
   refine Wk ?_
   clear hcs
   exact ⟨WS, WG, WN, _, (show (w) < m_1 by omega), w, l ++ [ca], vn, xn, rfl, WF, WF, WF, WF, WC, WC, WC⟩
  have hlx := hfin (by omega)
  simp only [Prod.mk.injEq] at hlx
  obtain ⟨rfl, rfl, rfl⟩ := hlx
  clear hfin hj
  obtain ⟨rfl, rfl⟩ | ⟨hx, hx', rfl⟩ | ⟨hx, hx', hw0⟩ : (x = 0 ∧ w = 0) ∨ (((x : Int) == 0) = false ∧ x ≠ 0 ∧ w = 0) ∨ (((x : Int) == 0) = false ∧ x ≠ 0 ∧ 0 < w) := by
   rcases Nat.eq_zero_or_pos x with h | h
   ·exact .inl ⟨h, by omega⟩
   ·rcases Nat.eq_zero_or_pos w with h' | h'
    ·exact .inr (.inl ⟨by rw [beq_eq_false_iff_ne]; omega, by omega, h'⟩)
    ·exact .inr (.inr ⟨by rw [beq_eq_false_iff_ne]; omega, by omega, h'⟩)
  all_goals
   clear hgo
   refine Wk ?_
   exact ⟨WS, WG, WN, WF⟩
 obtain ⟨k7, k9, k10⟩ := hI1
 have t0 := KS hs1 0
 have t2 := KS hs1 2
 have t4 := KS hs1 4
 have t5 := KS hs1 5
 have k0 := KE hf1 N
 have k11 := KE hf1 (N + 11)
 replace hlow := KL (N := N) (σ := σ) hf1
 clear hs1 hf1 hit g0 g2 g4 g5 q0 q9 q10 q11 g7
 have hcs := And.intro (c8 (N + 7)) (And.intro (c9 (N + 7)) True.intro)
 clear c8 c9
 refine Wk ?_
 clear hcs
 refine go_leave [7, 8, 9, 61, 62, 63, 64, 65, 66, 67, 68, 69, 70, 71, 72, 73, 74, 75, 76, 77, 78, 79, 80, 81, 82, 83, 84, 85, 86, 87, 88, 89, 90, 91, 92, 93, 94, 95, 96, 97, 98, 99, 100, 101, 102, 103] [N+7, N+9, N+11] (fun σ' => σ' (N + 7) = RdBox b v10 e10 ∧ σ' (N + 9) = .box 29 (.agg [.agg [.lit (.int .i64 n2), .lit (.int .i64 n3)], .lit (.int .i64 n4), .lit (.int .i64 n5), .slice (some (N + 10)) (L.map caAV), tagAV tg, .slice (some (N + 11)) (D.map boAV)]) ∧ σ' (N + 11) = .row 70 34 D.length) ?_ (fun s2 σ2 m2 hs2 hf2 hn2 hI2 => ?_)
 ·refine go_loopF mixed (by kernel_rfl) [7, 8, 9, 61, 62, 63, 64, 65, 66, 67, 68, 69, 70, 71, 72, 73, 74, 75, 76, 77, 78, 79, 80, 81, 82, 83, 84, 85, 86, 87, 88, 89, 90, 91, 92, 93, 94, 95, 96, 97, 98, 99, 100, 101, 102, 103] [N+7, N+9, N+11] (fun m_ s_ σ_ n_ => ∃ (w : Nat) (r : List Bo) (z : Nat) (y : Nat), m_ = w ∧ s_ 7 = .lit (.int .i64 w) ∧ σ_ (N+7) = RdBox b z y ∧ σ_ (N+9) = .box 29 (.agg [.agg [.lit (.int .i64 n2), .lit (.int .i64 n3)], .lit (.int .i64 n4), .lit (.int .i64 n5), .slice (some (N + 10)) (L.map caAV), tagAV tg, .slice (some (N + 11)) (r.map boAV)]) ∧ σ_ (N+11) = .row 70 34 r.length ∧ (w ≤ md) ∧ (itS (bndO b) (md - w) v9 e9 = (r, z, y)) ∧ (z ≤ b.length)) ⟨_, md, [], v9, e9, rfl, WF, WF, WF, WF, WC, WC, WC⟩ ?_
  intro m_2 s_2 σ_2 n_2 hs_2 hf_2 hn_2 hI_2
  obtain ⟨w, r, z, y, hm_2, h2_7, e2_0, e2_1, e2_2, hw, hj, hv⟩ := hI_2
  have h2_0 := KS hs_2 0
  have h2_2 := KS hs_2 2
  have h2_3 := KS hs_2 3
  have h2_4 := KS hs_2 4
  have h2_5 := KS hs_2 5
  have k2_0 := KE hf_2 (N)
  have k2_1 := KE hf_2 (N + 10)
  have hlow := KL (N := N) (σ := σ) hf_2
  have hll : r.length ≤ md := by have := itS_len (bndO b) (md - w) v9 e9; rw [hj] at this; simp only at this; omega
  have hfin : y ≠ 0 ∨ w = 0 → (r, z, y) = (D, v10, e10) := fun h => by
   rw [← hj, ← hid]
   rcases h with h | h
   ·exact (itS_stop _ (by rw [hj]; exact h) md (by omega)).symm
   ·rw [h, Nat.sub_zero]
  clear cC hid
  by_cases hgo : y = 0 ∧ 0 < w
  ·obtain ⟨rfl, hw0⟩ := hgo
   obtain ⟨w, rfl⟩ : ∃ w', w = w' + 1 := ⟨w - 1, by omega⟩
   have hs := itS_succ _ _ _ _ hj
   rw [show md - (w + 1) + 1 = md - w by omega] at hs
   have hzn := (bndO_ok z 0 hv).2
   have hbn : bndO b z 0 = bndS b z := by unfold bndO; rw [if_neg (by simp)]
   rw [hbn] at hs hzn
   clear hbn hj hfin
   unfold bndS at hs hzn
   simp only at hs hzn
   have d1 := RField_spec b z hv hb6 (N + 7)
   have hz1 := fldR_le hv
   generalize fldR b z = R at *
   obtain ⟨ti, z1, y1⟩ := R
   simp only at *
   have d2 := RCnt_spec b 8 z1 y1 hz1 hb6 (N + 7)
   have hz2 := cntO_le (m := 8) (e := y1) hz1
   have mq := cntO_m b 8 z1 y1
   generalize cntO b 8 z1 y1 = R at *
   obtain ⟨mp, z2, y2⟩ := R
   simp only at *
   obtain ⟨⟨Q, z3, y3⟩, hiq⟩ : ∃ R, itS (prdO b) mp z2 y2 = R := ⟨_, rfl⟩
   have hz3 : z3 ≤ b.length := by have := (itS_ok (f := prdO b) (Q := PrOk) (fun u hu => prdO_ok u 0 hu) mp z2 y2 hz2).2; rw [hiq] at this; exact this
   rw [hiq] at hs hzn
   simp only at hs hzn
   have d4 := RTagO_spec b z3 y3 hz3 hb6 (N + 7)
   generalize tagO b z3 y3 = R at *
   obtain ⟨pt, z4, y4⟩ := R
   simp only at *
   rw [k8] at d2
   clear hz1
   refine Wm ?_
   iterate 2 refine Wz ?_
   refine go_nilrowIn (n_2 + 9) [1] 110 6 (bt := 70) (c := .agg [.nils, .nils, tagAV zeroTag]) (by simp (disch := omega) [go_sem, *, -List.reduceReplicate]) rfl ?_
   have hcs := And.intro d1 (And.intro d2 True.intro)
   clear d1 d2
   refine Wk ?_
   clear hcs
   refine go_leave [9, 77, 78, 79, 80, 81, 82, 83, 84, 85, 86, 87, 88, 89, 90, 91, 92, 93, 94] [N+7, n_2+9, n_2+10] (fun σ' => σ' (N + 7) = RdBox b z3 y3 ∧ σ' (n_2 + 9) = .box 70 (.agg [.slice none (ti.map byteAV), .slice (some (n_2 + 10)) (Q.map prAV), tagAV zeroTag]) ∧ σ' (n_2 + 10) = .row 110 6 Q.length) ?_ (fun s3 σ3 m3 hs3 hf3 hn3 hI3 => ?_)
   ·clear hs hzn d4
    refine go_loopF mixed (by kernel_rfl) [9, 77, 78, 79, 80, 81, 82, 83, 84, 85, 86, 87, 88, 89, 90, 91, 92, 93, 94] [N+7, n_2+9, n_2+10] (fun m_ s_ σ_ n_ => ∃ (x : Nat) (l : List Pr) (p : Nat) (q : Nat), m_ = x ∧ s_ 9 = .lit (.int .i64 x) ∧ σ_ (N+7) = RdBox b p q ∧ σ_ (n_2+9) = .box 70 (.agg [.slice none (ti.map byteAV), .slice (some (n_2 + 10)) (l.map prAV), tagAV zeroTag]) ∧ σ_ (n_2+10) = .row 110 6 l.length ∧ (x ≤ mp) ∧ (itS (prdO b) (mp - x) z2 y2 = (l, p, q)) ∧ (p ≤ b.length)) ⟨_, mp, [], z2, y2, rfl, WF, WF, WF, WF, WC, WC, WC⟩ ?_
    intro m_3 s_3 σ_3 n_3 hs_3 hf_3 hn_3 hI_3
    obtain ⟨x, l, p, q, hm_3, h3_9, e3_0, e3_1, e3_2, hw, hj, hv⟩ := hI_3
    have h3_0 := KS hs_3 0
    have h3_2 := KS hs_3 2
    have h3_3 := KS hs_3 3
    have h3_4 := KS hs_3 4
    have h3_5 := KS hs_3 5
    have h3_7 := KS hs_3 7
    have h3_8 := KS hs_3 8
    have h3_61 := KS hs_3 61
    have h3_62 := KS hs_3 62
    have h3_63 := KS hs_3 63
    have h3_64 := KS hs_3 64
    have h3_65 := KS hs_3 65
    have h3_66 := KS hs_3 66
    have h3_67 := KS hs_3 67
    have h3_68 := KS hs_3 68
    have h3_69 := KS hs_3 69
    have h3_72 := KS hs_3 72
    have h3_73 := KS hs_3 73
    have h3_74 := KS hs_3 74
    have h3_75 := KS hs_3 75
    have h3_76 := KS hs_3 76
    have k3_0 := KE hf_3 (N)
    have k3_1 := KE hf_3 (N + 9)
    have k3_2 := KE hf_3 (N + 10)
    have k3_3 := KE hf_3 (N + 11)
    have hlow := KL (N := N) (σ := σ) hf_3
    have hll : l.length ≤ mp := by have := itS_len (prdO b) (mp - x) z2 y2; rw [hj] at this; simp only at this; omega
    have hfin : q ≠ 0 ∨ x = 0 → (l, p, q) = (Q, z3, y3) := fun h => by
     rw [← hj, ← hiq]
     rcases h with h | h
     ·exact (itS_stop _ (by rw [hj]; exact h) mp (by omega)).symm
     ·rw [h, Nat.sub_zero]
    clear hiq
    by_cases hgo : q = 0 ∧ 0 < x
    ·obtain ⟨rfl, hw0⟩ := hgo
     obtain ⟨x, rfl⟩ : ∃ w', x = w' + 1 := ⟨x - 1, by omega⟩
     have c10 := RPred0_spec b p hv hb6 (N + 7)
     have hs := itS_succ _ _ _ _ hj
     rw [show mp - (x + 1) + 1 = mp - x by omega] at hs
     have hvn := (prdO_ok p 0 hv).2
     generalize prdO b p 0 = R at *
     obtain ⟨pr, vn, xn⟩ := R
     simp only at *
     clear hj hfin
     have hcs := And.intro c10 True.intro
     clear c10
     refine Wk ?_
     clear hcs
     exact ⟨WS, WG, WN, _, (show (x) < m_3 by omega), x, l ++ [pr], vn, xn, rfl, WF, WF, WF, WF, WC, WC, WC⟩
    have hlx := hfin (by omega)
    simp only [Prod.mk.injEq] at hlx
    obtain ⟨rfl, rfl, rfl⟩ := hlx
    clear hfin hj
    obtain ⟨rfl, rfl⟩ | ⟨hx, hx', rfl⟩ | ⟨hx, hx', hw0⟩ : (q = 0 ∧ x = 0) ∨ (((q : Int) == 0) = false ∧ q ≠ 0 ∧ x = 0) ∨ (((q : Int) == 0) = false ∧ q ≠ 0 ∧ 0 < x) := by
     rcases Nat.eq_zero_or_pos q with h | h
     ·exact .inl ⟨h, by omega⟩
     ·rcases Nat.eq_zero_or_pos x with h' | h'
      ·exact .inr (.inl ⟨by rw [beq_eq_false_iff_ne]; omega, by omega, h'⟩)
      ·exact .inr (.inr ⟨by rw [beq_eq_false_iff_ne]; omega, by omega, h'⟩)
    all_goals
     clear hgo
     refine Wk ?_
     exact ⟨WS, WG, WN, WF⟩
   obtain ⟨j7, j9, j10⟩ := hI3
   have i0 := KS hs3 0
   have i2 := KS hs3 2
   have i4 := KS hs3 4
   have i5 := KS hs3 5
   have i7 := KS hs3 7
   have i8 := KS hs3 8
   have l0 := KE hf3 N
   have l9 := KE hf3 (N + 9)
   have l10 := KE hf3 (N + 10)
   have l11 := KE hf3 (N + 11)
   replace hlow := KL (N := N) (σ := σ) hf3
   clear hiq
   refine go_lessIn (n_2 + 9) [1] (.slice none (Q.map prAV)) j9 rfl (AV.le_own _ _) rfl rfl ?_
   have hbo : boAV ⟨ti, Q, pt⟩ = .agg [.slice none (ti.map byteAV), .slice none (Q.map prAV), tagAV pt] := rfl
   have hcs := And.intro d4 True.intro
   clear d4
   refine Wk ?_
   clear hcs
   exact ⟨WS, WG, WN, _, (show (w) < m_2 by omega), w, r ++ [⟨ti, Q, pt⟩], z4, y4, rfl, WF, WF, WF, WF, WC, WC, WC⟩
  have hlx := hfin (by omega)
  simp only [Prod.mk.injEq] at hlx
  obtain ⟨rfl, rfl, rfl⟩ := hlx
  clear hfin hj
  obtain ⟨rfl, rfl⟩ | ⟨hx, hx', rfl⟩ | ⟨hx, hx', hw0⟩ : (y = 0 ∧ w = 0) ∨ (((y : Int) == 0) = false ∧ y ≠ 0 ∧ w = 0) ∨ (((y : Int) == 0) = false ∧ y ≠ 0 ∧ 0 < w) := by
   rcases Nat.eq_zero_or_pos y with h | h
   ·exact .inl ⟨h, by omega⟩
   ·rcases Nat.eq_zero_or_pos w with h' | h'
    ·exact .inr (.inl ⟨by rw [beq_eq_false_iff_ne]; omega, by omega, h'⟩)
    ·exact .inr (.inr ⟨by rw [beq_eq_false_iff_ne]; omega, by omega, h'⟩)
  all_goals
   clear hgo
   refine Wk ?_
   exact ⟨WS, WG, WN, WF⟩
 obtain ⟨j7, j9, j11⟩ := hI2
 have i0 := KS hs2 0
 have i2 := KS hs2 2
 have i4 := KS hs2 4
 have i5 := KS hs2 5
 have l0 := KE hf2 N
 have l10 := KE hf2 (N + 10)
 replace hlow := KL (N := N) (σ := σ) hf2
 clear hs2 hf2 hid t0 t2 t4 t5 k0 k7 k9 k10 k11
 by_cases hv : v10 < b.length
 ·have hvi : (v10 : Int) < (b.length : Int) := by omega
  have f1 := RFailO b v10 e10 4 (N + 7)
  have hie : (if e10 = 0 ∧ v10 < b.length then 4 else e10) = (if e10 = 0 then 4 else e10) := by
   by_cases q : e10 = 0
   ·rw [if_pos ⟨q, hv⟩, if_pos q]
   ·rw [if_neg (fun h => q h.1), if_neg q]
  have hy : (if e10 = 0 then 4 else e10) ≠ 0 := by split <;> omega
  rw [hie]
  have h4 : ((4 : Nat) : Int) = 4 := rfl
  rw [h4] at f1
  clear hie h4
  generalize (if e10 = 0 then 4 else e10) = y at *
  rw [if_pos hy, hz]
  have f2 := RFailO b v10 y ck (N + 7)
  rw [if_neg hy] at f2
  have he' : ((y : Int) == 0) = false := by rw [beq_eq_false_iff_ne]; omega
  have he'' : ((y : Int) != 0) = true := by rw [bne, he']; rfl
  have hcs := And.intro f1 (And.intro cC (And.intro f2 True.intro))
  clear f1 cC f2 hB
  exact WD
 ·have hvi : ¬ (v10 : Int) < (b.length : Int) := by omega
  rw [if_neg (fun h : e10 = 0 ∧ v10 < b.length => hv h.2)]
  by_cases he : e10 = 0
  ·subst he
   rw [if_neg (by simp)]
   have f2 := RFailO b v10 0 ck (N + 7)
   rw [if_pos rfl] at f2
   by_cases hc : ck = 0
   ·subst hc
    rw [if_neg (by simp), hB]
    have hcs := And.intro cC (And.intro f2 True.intro)
    clear cC f2 hz
    exact WD
   ·rw [if_pos hc, hz]
    have he' : ((ck : Int) == 0) = false := by rw [beq_eq_false_iff_ne]; omega
    have he'' : ((ck : Int) != 0) = true := by rw [bne, he']; rfl
    have hcs := And.intro cC (And.intro f2 True.intro)
    clear cC f2 hB
    exact WD
  ·rw [if_pos he, hz]
   have f2 := RFailO b v10 e10 ck (N + 7)
   rw [if_neg he] at f2
   have he' : ((e10 : Int) == 0) = false := by rw [beq_eq_false_iff_ne]; omega
   have he'' : ((e10 : Int) != 0) = true := by rw [bne, he']; rfl
   have hcs := And.intro cC (And.intro f2 True.intro)
   clear cC f2 hB
   exact WD
end Go.Proofs.YtemmlldpmgfblaaGreatDoor

namespace Go.Proofs.YtemmlldpmgfblaaGreatDoor
open Go.Ab
attribute [local irreducible] Go.Ab.tyAV Go.Ab.aw Go.Ab.aops Go.Ab.kReg Go.Ab.aThen Go.Ab.aBlk Go.Ab.acond Go.Ab.aguard Go.Ab.astep Go.Ab.AStepX Go.Ab.aRet
attribute [local irreducible] shaG
def DAsks (d : Nat) (x : List UInt8) : Prop := ∃ (B : Bu) (e : Nat),
 (∀ k, ACall Tryz.prog 39 [.slice none (x.map byteAV)] k [(d, bitsG)] (.tup [buAV B, .lit (.int .i64 (e : Nat))]) []) ∧
 (∀ k, ACall Tryz.prog 40 [.slice none (x.map byteAV)] k [] (.tup [buAV B, .lit (.int .i64 (e : Nat))]) []) ∧
 (∀ k, ACall Tryz.prog 41 [buAV B, buAV B] k [] (.lit (.bool true)) [])
theorem dasks (d : Nat) (x : List UInt8) (hx : x.length ≤ 9223372036854775807) : DAsks d x := ⟨(decB x).1, (decB x).2, bDec_spec x hx d, rbDec_spec x hx, SameBu_refl _ (decB_sm x)⟩
theorem encBu_pos (z : Bu) : 32 ≤ (encBu z).length := by
 unfold encBu
 simp only [List.length_append, z.proof.2]; omega
section
variable [W : W32]
set_option maxHeartbeats 8000000 in
theorem BundleDecode_core (raw0 raw : List UInt8) (m1 : Nat) (h1 : (if (500 : Int) < (raw0.length : Int) then (500 : Int) else (raw0.length : Int)) = (m1 : Int)) (h2 : m1 ≤ raw0.length) (h3 : m1 ≤ 500) (h4 : raw.length = m1) (h5 : (raw0.map byteAV).take m1 = raw.map byteAV)
  (deck : List Int) (hd : deck.length ≤ 9223372036854775807) (at_ cut : Int) (xb : UInt8) (tl : Nat) (htl : tl < 65536) (d k : Nat) :
  ACall Tryz.prog 7 [.slice none (raw0.map byteAV), .slice none (deck.map intAV), .lit (.int .i64 at_), byteAV xb, .lit (.int .i64 cut), .lit (.int .u16 tl)] k [(d, bitsG)] (.lit (.bool true)) [] := by
 obtain ⟨s, j0, hs, hj0, c2⟩ := made_spec deck hd
 obtain ⟨_, _, hin, hck, _⟩ := bunS_ok hs
 have c3 := refEncB_spec (bunS s).2 hin
 have hE : encBS (bunS s).2 = (encBu (bunS s).2, 0) := by unfold encBS; rw [if_pos hck]
 rw [hE] at c3
 unfold encAV at c3
 simp only at c3
 have hbl := (chk_valid hin hck).2
 have hbp := encBu_pos (bunS s).2
 clear hE hck hin hs hj0
 generalize encBu (bunS s).2 = b at *
 generalize (bunS s).2 = B0 at *
 generalize ({ s with alg := (bunS s).1 } : Sc) = s1 at *
 have g1 := Int.emod_nonneg at_ (show (b.length : Int) ≠ 0 by omega)
 have g2 := Int.emod_lt_of_pos at_ (show (0 : Int) < (b.length : Int) by omega)
 obtain ⟨j, hj⟩ := Int.eq_ofNat_of_zero_le g1
 have hj2 : j < b.length := by omega
 have g3 := Int.emod_nonneg cut (show (b.length : Int) ≠ 0 by omega)
 have g4 := Int.emod_lt_of_pos cut (show (0 : Int) < (b.length : Int) by omega)
 obtain ⟨jc, hjc⟩ := Int.eq_ofNat_of_zero_le g3
 have a8 := Within_spec at_ b.length (by omega) (by omega)
 rw [hj] at a8
 have a9 := Within_spec cut b.length (by omega) (by omega)
 rw [hjc] at a9
 have hjc2 : jc < b.length := by omega
 have hset := set_bytes b j xb
 obtain ⟨y, hy⟩ : ∃ y, b.set j xb = y := ⟨_, rfl⟩
 have hyl : y.length = b.length := by rw [← hy]; simp
 rw [hy] at hset
 have htk : (b.map byteAV).take jc = (b.take jc).map byteAV := by rw [List.map_take]
 obtain ⟨z, hz⟩ : ∃ z, b.take jc = z := ⟨_, rfl⟩
 have hzl : z.length ≤ 5000 := by rw [← hz, List.length_take]; omega
 rw [hz] at htk
 have hw : IntKind.i64.wrap (tl : Int) = tl := wrap_i64 (by omega) (by omega)
 have hT : (tl : Int).tmod 5000 = ((tl % 5000 : Nat) : Int) := by rw [Int.tmod_eq_emod_of_nonneg (by omega)]; omega
 have hTl : tl % 5000 < 5000 := Nat.mod_lt _ (by decide)
 generalize tl % 5000 = T at *
 have hap : b.map byteAV ++ List.replicate T (.lit (.int .u8 0)) = (b ++ List.replicate T 0).map byteAV := by rw [List.map_append, List.map_replicate]; rfl
 have hal : (b ++ List.replicate T (0 : UInt8)).length ≤ 10000 := by rw [List.length_append, List.length_replicate]; omega
 generalize b ++ List.replicate T (0 : UInt8) = tz at *
 have d0 := dasks d raw (by omega)
 have d1 := dasks d b (by omega)
 have d2 := dasks d y (by omega)
 have d3 := dasks d z (by omega)
 have d4 := dasks d tz (by omega)
 have c9 := awake16_spec d
 clear hy hz g1 g2 g3 g4 hj hjc
 refine Bd Tryz.func7 Tryz.ntmps7 fun σ N hp hpn hk hkn hfree => ?_
 obtain ⟨hd, hdn⟩ := HD0 hp hpn; clear hp hpn
 have M : Mut (N + 27) := ⟨⟩
 have hcs := And.intro c2 (And.intro c3 (And.intro a8 True.intro))
 clear c2 c3 a8
 refine Wm ?_
 iterate 7 refine Wz ?_
 refine go_freeze 18 (id := N + 27) (ver := 1) (size := 1) (e := 5) (xs := y.map byteAV) (k := b.length) (by simp (disch := omega) [go_sem, *, -List.reduceReplicate]) (by simp (disch := omega) [go_sem, *, -List.reduceReplicate]) (by simp (disch := omega) [go_sem, *, -List.reduceReplicate]) ?_
 have hcs := And.intro a9 True.intro
 clear a9 M
 refine Wk ?_
 clear hcs
 refine go_loopF mixed (by kernel_rfl) [12, 20, 21, 22, 23, 24, 70, 71, 72, 73, 74, 75, 76, 77, 78, 79, 80, 81, 82, 83, 84, 85, 86, 87, 88, 89, 90, 91, 92, 93, 94, 95, 96, 97, 98, 99, 100] [] (fun m_ s_ σ_ n_ => ∃ (i : Nat), m_ = 5 - i ∧ s_ 20 = .lit (.int .i64 i) ∧ (i ≤ 5)) ⟨_, 0, rfl, WF, WC⟩ ?_
 intro m_1 s_1 σ_1 n_1 hs_1 hf_1 hn_1 hI_1
 obtain ⟨i, hm_1, h1_20, hi⟩ := hI_1
 have h1_19 := KS hs_1 19
 have k1_0 := KE hf_1 (d)
 have hlow := KL (N := N) (σ := σ) hf_1
 have hcase : i = 5 ∨ i = 0 ∨ i = 1 ∨ i = 2 ∨ i = 3 ∨ i = 4 := by omega
 rcases hcase with rfl | rfl | rfl | rfl | rfl | rfl
 ·have hcs := And.intro c9 True.intro
  clear c9 d0 d1 d2 d3 d4
  exact W0
 ·obtain ⟨B, e, q1, q2, q3⟩ := d0
  have hcs := And.intro q1 (And.intro q2 (And.intro q3 True.intro))
  clear q1 q2 q3 d1 d2 d3 d4 c9
  refine Wk ?_
  exact ⟨WS, WG, WN, _, (show 5 - (0 + 1) < m_1 by omega), 0 + 1, rfl, WF, WC⟩
 ·obtain ⟨B, e, q1, q2, q3⟩ := d1
  have hcs := And.intro q1 (And.intro q2 (And.intro q3 True.intro))
  clear q1 q2 q3 d0 d2 d3 d4 c9
  refine Wk ?_
  exact ⟨WS, WG, WN, _, (show 5 - (1 + 1) < m_1 by omega), 1 + 1, rfl, WF, WC⟩
 ·obtain ⟨B, e, q1, q2, q3⟩ := d2
  have hcs := And.intro q1 (And.intro q2 (And.intro q3 True.intro))
  clear q1 q2 q3 d0 d1 d3 d4 c9
  refine Wk ?_
  exact ⟨WS, WG, WN, _, (show 5 - (2 + 1) < m_1 by omega), 2 + 1, rfl, WF, WC⟩
 ·obtain ⟨B, e, q1, q2, q3⟩ := d3
  have hcs := And.intro q1 (And.intro q2 (And.intro q3 True.intro))
  clear q1 q2 q3 d0 d1 d2 d4 c9
  refine Wk ?_
  exact ⟨WS, WG, WN, _, (show 5 - (3 + 1) < m_1 by omega), 3 + 1, rfl, WF, WC⟩
 ·obtain ⟨B, e, q1, q2, q3⟩ := d4
  have hcs := And.intro q1 (And.intro q2 (And.intro q3 True.intro))
  clear q1 q2 q3 d0 d1 d2 d3 c9
  refine Wk ?_
  exact ⟨WS, WG, WN, _, (show 5 - (4 + 1) < m_1 by omega), 4 + 1, rfl, WF, WC⟩
end
theorem BundleDecode_spec (raw : List UInt8) (deck : List Int) (_ : ∀ n ∈ deck, (Lit.int .i64 n).wf = true) (hd : deck.length ≤ 9223372036854775807) (at_ : Int) (x : Int) (w : (Lit.int .u8 x).wf = true) (cut : Int) (t : Int) (wt : (Lit.int .u16 t).wf = true) (d k : Nat) :
  ACall Tryz.prog 7 [.slice none (raw.map byteAV), .slice none (deck.map intAV), .lit (.int .i64 at_), .lit (.int .u8 x), .lit (.int .i64 cut), .lit (.int .u16 t)] k [(d, bitsG)] (.lit (.bool true)) [] := by
 obtain ⟨xb, hx, _⟩ := byte_of_wf w
 rw [hx]
 have ht : 0 ≤ t ∧ t < 65536 := by
  have hw : IntKind.u16.min ≤ t ∧ t ≤ IntKind.u16.max := by simpa [Lit.wf] using wt
  have e1 : IntKind.u16.min = 0 := by decide
  have e2 : IntKind.u16.max = 65535 := by decide
  omega
 obtain ⟨tl, rfl⟩ := Int.eq_ofNat_of_zero_le ht.1
 obtain ⟨m, r, q1, q2, q3, q4, q5⟩ := cutAt 500 raw
 exact @BundleDecode_core w32 raw r m q1 q2 q3 q4 q5 deck hd at_ cut xb tl (by omega) d k
end Go.Proofs.YtemmlldpmgfblaaGreatDoor
