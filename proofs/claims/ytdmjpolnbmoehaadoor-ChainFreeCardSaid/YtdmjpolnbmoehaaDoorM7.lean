/- Texts M8, N2, N3, K6, K7, K8, K9, U3, Q4, Q5, Q7, U4, joined. -/
import Derived.Test.YtdmjpolnbmoehaaDoorM6

namespace Go.Proofs.YtdmjpolnbmoehaaDoor
open Go.Ab
attribute [local irreducible] Go.Ab.tyAV Go.Ab.aw Go.Ab.aops Go.Ab.kReg Go.Ab.aThen Go.Ab.aBlk Go.Ab.acond Go.Ab.aguard Go.Ab.astep Go.Ab.AStepX Go.Ab.aRet
attribute [local irreducible] shaG
structure AlgIn (a : Alg) (m : Nat) : Prop where
 f0 : 0 ≤ a.fresh
 f1 : a.fresh ≤ m
 ml : a.macs.length ≤ m
 bl : a.boxes.length ≤ m
 mm : ∀ e ∈ a.macs, e.msg.length ≤ 100000
 bm : ∀ e ∈ a.boxes, e.plain.length ≤ 100000 ∧ e.box.length ≤ 100000
theorem AlgIn.more {a : Alg} {m m' : Nat} (h : AlgIn a m) (hm : m ≤ m') : AlgIn a m' := ⟨h.f0, Int.le_trans h.f1 (by omega), Nat.le_trans h.ml hm, Nat.le_trans h.bl hm, h.mm, h.bm⟩
theorem alg0_in (m : Nat) : AlgIn alg0 m := ⟨by simp [alg0], by simp [alg0], by simp [alg0], by simp [alg0], fun e he => by simp [alg0] at he, fun e he => by simp [alg0] at he⟩
def knownD (l : List Int) (i : Nat) (a : Alg) : Tg × Nat :=
 let q := nextD l i 4
 if q.1 = 0 ∧ 0 < a.macs.length then ((a.macs.getD (nextD l q.2 a.macs.length).1 ⟨zeroTag, [], zeroTag⟩).tag, (nextD l q.2 a.macs.length).2)
 else if q.1 = 1 ∧ 0 < a.macs.length then ((a.macs.getD (nextD l q.2 a.macs.length).1 ⟨zeroTag, [], zeroTag⟩).key, (nextD l q.2 a.macs.length).2)
 else if q.1 = 2 ∧ 0 < a.boxes.length then ((a.boxes.getD (nextD l q.2 a.boxes.length).1 ⟨zeroTag, 0, [], []⟩).key, (nextD l q.2 a.boxes.length).2)
 else tagD l q.2
theorem knownD_dk {l : List Int} {i : Nat} (a : Alg) (h : Dk l i) : Dk l (knownD l i a).2 := by
 have h1 := nextD_dk 4 h
 unfold knownD
 simp only
 split
 ·exact nextD_dk _ h1
 ·split
  ·exact nextD_dk _ h1
  ·split
   ·exact nextD_dk _ h1
   ·exact tagD_dk h1
section
variable [W : W32]
theorem keyS_in {a : Alg} {m : Nat} (h : AlgIn a m) : AlgIn (keyS a).1 (m + 1) := by
 unfold keyS
 split
 ·exact alg0_in _
 ·exact ⟨by have := h.f0; simp only; omega, by have := h.f1; simp only; omega, Nat.le_succ_of_le h.ml, Nat.le_succ_of_le h.bl, h.mm, h.bm⟩
theorem macS_in {a : Alg} {m : Nat} (h : AlgIn a m) (key : Tg) (msg : List UInt8) : AlgIn (macS a key msg).1 (m + 1) := by
 by_cases h1 : 4096 < msg.length
 ·rw [macS_long h1]; exact alg0_in _
 ·cases he : entL key msg a.macs with
  | some t => rw [macS_found h1 he]; exact h.more (Nat.le_succ _)
  | none =>
   by_cases hf : 65536 ≤ a.macs.length
   ·rw [macS_full h1 he hf]; exact alg0_in _
   ·rw [macS_new h1 he hf]
    refine ⟨h.f0, by have := h.f1; simp only; omega, by have := h.ml; simp; omega, Nat.le_succ_of_le h.bl, fun e hm => ?_, h.bm⟩
    rcases List.mem_append.1 hm with hm | hm
    ·exact h.mm e hm
    ·rw [List.mem_singleton.1 hm]; simp only; omega
theorem sealN_len (a : Alg) (key : Tg) (nonce : Int) (plain : List UInt8) : (sealN a key nonce plain).length ≤ plain.length + 40 := by
 unfold sealN
 split
 ·rw [List.length_append, List.length_replicate, (symT _ _).2]; omega
 ·unfold sealB
  rw [List.length_append, List.length_append, eightB_len, strmB_len, (hmacT _ _).2]; omega
theorem sealS_in {a : Alg} {m : Nat} (h : AlgIn a m) (key : Tg) (nonce : Int) (plain : List UInt8) : AlgIn (sealS a key nonce plain).1 (m + 1) := by
 unfold sealS
 split
 ·exact alg0_in _
 ·split
  ·exact alg0_in _
  ·rename_i hp
   split
   ·exact h.more (Nat.le_succ _)
   ·split
    ·exact alg0_in _
    ·have hl := sealN_len a key nonce plain
     refine ⟨h.f0, by have := h.f1; simp only; omega, Nat.le_succ_of_le h.ml, by have := h.bl; simp; omega, h.mm, fun e hm => ?_⟩
     rcases List.mem_append.1 hm with hm | hm
     ·exact h.bm e hm
     ·rw [List.mem_singleton.1 hm]; simp only; omega
theorem Seal_spec (a : Alg) (key : Tg) (nonce : Int) (plain : List UInt8) (hl : a.boxes.length ≤ 1000000) (hm : ∀ e ∈ a.boxes, e.plain.length ≤ 100000 ∧ e.box.length ≤ 100000) (k : Nat) :
  ACall Tryd.prog 31 [algAV a, tagAV key, .lit (.int .i64 nonce), .slice none (plain.map byteAV)] k [] (skAV (sealS a key nonce plain)) [] := by
 by_cases h : (nonce < 0 ∨ 281474976710656 < nonce) ∨ 256 < plain.length
 ·exact Seal_bad a key nonce plain h k
 ·obtain ⟨n, rfl⟩ := Int.eq_ofNat_of_zero_le (show 0 ≤ nonce by omega)
  exact Seal_ok a key n plain (by omega) (by omega) hl hm k
omit W in
set_option maxHeartbeats 4000000 in
theorem Known_spec (l : List Int) (i : Nat) (h : Dk l i) (a : Alg) (m : Nat) (ha : AlgIn a m) (hm : m ≤ 1000000) (d k : Nat) :
  ACall Tryd.prog 16 [.ptr d [] 0, algAV a] k [(d, deckBox l i)] (tagAV (knownD l i a).1) [(d, deckBox l (knownD l i a).2)] := by
 have c1 := Next_spec l i 4 h (by omega) (by omega)
 have d1 := nextD_dk 4 h
 have b1 := nextD_lt l i 4 (by omega)
 obtain ⟨fr, sd, fs, L, B⟩ := a
 have hL := ha.ml
 have hB := ha.bl
 simp only at hL hB
 clear ha
 unfold knownD
 generalize nextD l i 4 = X at *
 obtain ⟨q, j⟩ := X
 simp only at c1 d1 b1 ⊢
 by_cases h0 : q = 0 ∧ 0 < L.length
 ·rw [if_pos h0]
  obtain ⟨rfl, hl0⟩ := h0
  have hl0i : (0 : Int) < (L.length : Int) := by omega
  have c2 := Next_spec l j L.length d1 hl0 (by omega)
  have b2 := nextD_lt l j L.length hl0
  generalize nextD l j L.length = Y at *
  obtain ⟨p, j2⟩ := Y
  simp only at c2 b2 ⊢
  rw [List.getD_eq_getElem?_getD, List.getElem?_eq_getElem b2, Option.getD_some]
  obtain ⟨z, hz⟩ : ∃ z, L[p] = z := ⟨_, rfl⟩
  rw [hz]
  obtain ⟨zk, zm, zt⟩ := z
  have hzd : macAV ⟨zk, zm, zt⟩ = .agg [tagAV zk, bAV zm, tagAV zt] := rfl
  simp only [algAV]
  refine Bd Tryd.func16 Tryd.ntmps16 fun σ N hp hpn hk hkn hfree => ?_
  obtain ⟨hd, hdn⟩ := HD0 hp hpn; clear hp hpn
  have hcs := And.intro (c1 d) (And.intro (c2 d) True.intro)
  clear c1 c2 h d1
  refine Wk ?_
  exact RW (d) (deckBox l j2)
 ·rw [if_neg h0]
  by_cases h1 : q = 1 ∧ 0 < L.length
  ·rw [if_pos h1]
   obtain ⟨rfl, hl0⟩ := h1
   have hl0i : (0 : Int) < (L.length : Int) := by omega
   have c2 := Next_spec l j L.length d1 hl0 (by omega)
   have b2 := nextD_lt l j L.length hl0
   generalize nextD l j L.length = Y at *
   obtain ⟨p, j2⟩ := Y
   simp only at c2 b2 ⊢
   rw [List.getD_eq_getElem?_getD, List.getElem?_eq_getElem b2, Option.getD_some]
   obtain ⟨z, hz⟩ : ∃ z, L[p] = z := ⟨_, rfl⟩
   rw [hz]
   obtain ⟨zk, zm, zt⟩ := z
   have hzd : macAV ⟨zk, zm, zt⟩ = .agg [tagAV zk, bAV zm, tagAV zt] := rfl
   simp only [algAV]
   refine Bd Tryd.func16 Tryd.ntmps16 fun σ N hp hpn hk hkn hfree => ?_
   obtain ⟨hd, hdn⟩ := HD0 hp hpn; clear hp hpn
   have hcs := And.intro (c1 d) (And.intro (c2 d) True.intro)
   clear c1 c2 h d1
   refine Wk ?_
   exact RW (d) (deckBox l j2)
  ·rw [if_neg h1]
   by_cases h2 : q = 2 ∧ 0 < B.length
   ·rw [if_pos h2]
    obtain ⟨rfl, hl0⟩ := h2
    have hl0i : (0 : Int) < (B.length : Int) := by omega
    have c2 := Next_spec l j B.length d1 hl0 (by omega)
    have b2 := nextD_lt l j B.length hl0
    generalize nextD l j B.length = Y at *
    obtain ⟨p, j2⟩ := Y
    simp only at c2 b2 ⊢
    rw [List.getD_eq_getElem?_getD, List.getElem?_eq_getElem b2, Option.getD_some]
    obtain ⟨z, hz⟩ : ∃ z, B[p] = z := ⟨_, rfl⟩
    rw [hz]
    obtain ⟨zk, zn, zp, zb⟩ := z
    have hzd : sealAV ⟨zk, zn, zp, zb⟩ = .agg [tagAV zk, .lit (.int .i64 zn), bAV zp, bAV zb] := rfl
    simp only [algAV]
    refine Bd Tryd.func16 Tryd.ntmps16 fun σ N hp hpn hk hkn hfree => ?_
    obtain ⟨hd, hdn⟩ := HD0 hp hpn; clear hp hpn
    have hcs := And.intro (c1 d) (And.intro (c2 d) True.intro)
    clear c1 c2 h d1
    refine Wk ?_
    exact RW (d) (deckBox l j2)
   ·rw [if_neg h2]
    clear hm
    rcases Nat.lt_or_ge q 1 with hq | hq
    ·obtain rfl : q = 0 := by omega
     have hl0 : L.length = 0 := by omega
     have hl0i : ¬ (0 : Int) < (L.length : Int) := by omega
     clear h0 h1 h2
     have T1 := Tag_spec l j d1
     generalize tagD l j = Y at *
     obtain ⟨tg, j2⟩ := Y
     simp only at T1 ⊢
     simp only [algAV]
     refine Bd Tryd.func16 Tryd.ntmps16 fun σ N hp hpn hk hkn hfree => ?_
     obtain ⟨hd, hdn⟩ := HD0 hp hpn; clear hp hpn
     have hcs := And.intro (c1 d) (And.intro (T1 d) True.intro)
     clear c1 T1 h d1
     refine Wk ?_
     exact RW (d) (deckBox l j2)
    ·rcases Nat.lt_or_ge q 2 with hq2 | hq2
     ·obtain rfl : q = 1 := by omega
      have hl0 : L.length = 0 := by omega
      have hl0i : ¬ (0 : Int) < (L.length : Int) := by omega
      clear h0 h1 h2 hq hq2
      have T1 := Tag_spec l j d1
      generalize tagD l j = Y at *
      obtain ⟨tg, j2⟩ := Y
      simp only at T1 ⊢
      simp only [algAV]
      refine Bd Tryd.func16 Tryd.ntmps16 fun σ N hp hpn hk hkn hfree => ?_
      obtain ⟨hd, hdn⟩ := HD0 hp hpn; clear hp hpn
      have hcs := And.intro (c1 d) (And.intro (T1 d) True.intro)
      clear c1 T1 h d1
      refine Wk ?_
      exact RW (d) (deckBox l j2)
     ·rcases Nat.lt_or_ge q 3 with hq3 | hq3
      ·obtain rfl : q = 2 := by omega
       have hl0 : B.length = 0 := by omega
       have hl0i : ¬ (0 : Int) < (B.length : Int) := by omega
       clear h0 h1 h2 hq hq2 hq3
       have T1 := Tag_spec l j d1
       generalize tagD l j = Y at *
       obtain ⟨tg, j2⟩ := Y
       simp only at T1 ⊢
       simp only [algAV]
       refine Bd Tryd.func16 Tryd.ntmps16 fun σ N hp hpn hk hkn hfree => ?_
       obtain ⟨hd, hdn⟩ := HD0 hp hpn; clear hp hpn
       have hcs := And.intro (c1 d) (And.intro (T1 d) True.intro)
       clear c1 T1 h d1
       refine Wk ?_
       exact RW (d) (deckBox l j2)
      ·obtain rfl : q = 3 := by omega
       clear h0 h1 h2 hq hq2 hq3
       have T1 := Tag_spec l j d1
       generalize tagD l j = Y at *
       obtain ⟨tg, j2⟩ := Y
       simp only at T1 ⊢
       simp only [algAV]
       refine Bd Tryd.func16 Tryd.ntmps16 fun σ N hp hpn hk hkn hfree => ?_
       obtain ⟨hd, hdn⟩ := HD0 hp hpn; clear hp hpn
       have hcs := And.intro (c1 d) (And.intro (T1 d) True.intro)
       clear c1 T1 h d1
       refine Wk ?_
       exact RW (d) (deckBox l j2)
end
end Go.Proofs.YtdmjpolnbmoehaaDoor

namespace Go.Proofs.YtdmjpolnbmoehaaDoor
open Go.Ab
attribute [local irreducible] Go.Ab.tyAV Go.Ab.aw Go.Ab.aops Go.Ab.kReg Go.Ab.aThen Go.Ab.aBlk Go.Ab.acond Go.Ab.aguard Go.Ab.astep Go.Ab.AStepX Go.Ab.aRet
def leadF : Nat → List UInt8 → Nat
 | 0, _ => 0
 | _ + 1, [] => 0
 | f + 1, x :: r => if 128 ≤ x.toNat then leadF f r + 1 else 0
def lead (b : List UInt8) : Nat := leadF 7 b
def vl (b : List UInt8) : Nat → Nat
 | 0 => 0
 | j + 1 => vl b j + (b.getD j 0).toNat % 128 * 128 ^ j
def rdS (b : List UInt8) : Nat × Nat × Nat :=
 if lead b = 7 then (0, 0, 5) else if lead b = b.length then (0, 0, 3) else if 0 < lead b ∧ (b.getD (lead b) 0).toNat = 0 then (0, 0, 5) else
  if 281474976710656 < vl b (lead b + 1) then (0, 0, 1) else (vl b (lead b + 1), lead b + 1, 0)
def rdAV (r : Nat × Nat × Nat) : AV := .tup [.lit (.int .i64 r.1), .lit (.int .i64 r.2.1), .lit (.int .i64 r.2.2)]
theorem leadF_le : ∀ (f : Nat) (b : List UInt8), leadF f b ≤ f ∧ leadF f b ≤ b.length
 | 0, b => by simp [leadF]
 | f + 1, [] => by simp [leadF]
 | f + 1, x :: r => by
  have := leadF_le f r
  simp only [leadF]
  split <;> simp <;> omega
theorem leadF_lt : ∀ (f : Nat) (b : List UInt8) (i : Nat), i < leadF f b → ∃ x, b[i]? = some x ∧ 128 ≤ x.toNat
 | 0, b, i, h => by simp [leadF] at h
 | f + 1, [], i, h => by simp [leadF] at h
 | f + 1, x :: r, i, h => by
  simp only [leadF] at h
  split at h
  ·cases i with
   | zero => exact ⟨x, rfl, by assumption⟩
   | succ i => exact leadF_lt f r i (by omega)
  ·omega
theorem leadF_at : ∀ (f : Nat) (b : List UInt8), leadF f b < f → leadF f b < b.length → ∃ x, b[leadF f b]? = some x ∧ x.toNat < 128
 | 0, b, h, _ => by omega
 | f + 1, [], _, h => by simp at h
 | f + 1, x :: r, h, h' => by
  simp only [leadF] at h h' ⊢
  split at h
  ·rename_i hx
   rw [if_pos hx] at h' ⊢
   obtain ⟨y, h1, h2⟩ := leadF_at f r (by omega) (by simpa using h')
   exact ⟨y, by simpa using h1, h2⟩
  ·rename_i hx
   rw [if_neg hx]
   exact ⟨x, rfl, by omega⟩
theorem vl_lt (b : List UInt8) : ∀ j, vl b j < 128 ^ j
 | 0 => by simp [vl]
 | j + 1 => by
  have h := vl_lt b j
  have h2 : (b.getD j 0).toNat % 128 ≤ 127 := by omega
  have h3 := Nat.mul_le_mul_right (128 ^ j) h2
  simp only [vl, Nat.pow_succ]
  omega
theorem or_join (i : Nat) (a y : Nat) (ha : a < 2 ^ i) (hy : y % 2 ^ i = 0) (h1 : a < 9223372036854775808) (h2 : y < 9223372036854775808) : bits .or .i64 (a : Int) (y : Int) = ((a + y : Nat) : Int) := by
 have h := bits_join .i64 63 (by decide) (fun n a b => wrap_i64 (by omega) (by omega)) i (y : Int) (a : Int) (by omega) (by exact_mod_cast hy) (by omega) (by omega) (by exact_mod_cast ha) (by omega)
 have c : bits .or .i64 (a : Int) (y : Int) = bits .or .i64 (y : Int) (a : Int) := by simp [bits, BitVec.or_comm]
 rw [c, h]; omega
theorem rd_pow (x : UInt8) (u : Nat) (hu : u < 7) : x.toNat % 128 * 128 ^ u < 4611686018427387904 ∧ ((x.toNat % 128 * 128 ^ u : Nat) : Int) = (x.toNat : Int) % 128 * 2 ^ (7 * u) := by
 have hp : (128 : Nat) ^ u = 2 ^ (7 * u) := by rw [Nat.pow_mul]
 have hpl : 128 ^ u ≤ 128 ^ 6 := Nat.pow_le_pow_right (by omega) (by omega)
 have hsm : x.toNat % 128 * 128 ^ u ≤ 127 * 128 ^ 6 := Nat.mul_le_mul (by omega) hpl
 refine ⟨by omega, ?_⟩
 rw [hp, Int.natCast_mul, Int.natCast_pow, Int.natCast_emod]
 rfl
theorem rd_sh (x : UInt8) (u : Nat) (hu : u < 7) : IntKind.i64.wrap ((x.toNat : Int) % 128 * 2 ^ (7 * u)) = (x.toNat : Int) % 128 * 2 ^ (7 * u) := by
 obtain ⟨h1, h2⟩ := rd_pow x u hu
 rw [← h2, wrap_i64 (by omega) (by omega)]
theorem rd_or (b : List UInt8) (x : UInt8) (u : Nat) (hu : u < 7) (hx : b.getD u 0 = x) : bits .or .i64 (vl b u : Int) ((x.toNat : Int) % 128 * 2 ^ (7 * u)) = ((vl b (u + 1) : Nat) : Int) ∧ vl b (u + 1) < 9223372036854775808 := by
 obtain ⟨h1, h2⟩ := rd_pow x u hu
 have hv := vl_lt b u
 have hpl : 128 ^ u ≤ 128 ^ 6 := Nat.pow_le_pow_right (by omega) (by omega)
 have hvs : vl b (u + 1) = vl b u + x.toNat % 128 * 128 ^ u := by simp only [vl, hx]
 have hp : (128 : Nat) ^ u = 2 ^ (7 * u) := by rw [Nat.pow_mul]
 refine ⟨?_, by omega⟩
 rw [← h2, hvs]
 exact or_join (7 * u) _ _ (by rw [← hp]; exact hv) (by rw [hp]; exact Nat.mul_mod_left _ _) (by omega) (by omega)
set_option maxRecDepth 100000 in
theorem Read_spec (b : List UInt8) (_hb : b.length ≤ 100000000) (k : Nat) : ACall Tryd.prog 125 [.slice none (b.map byteAV)] k [] (rdAV (rdS b)) [] := by
 refine Bd Tryd.func125 Tryd.ntmps125 fun σ N hp hpn hk hkn hfree => ?_
 refine Wg ?_
 refine go_loop (aloop mixed (by kernel_rfl) (fun c => ∃ (u : Nat), c.s 0 = .slice none (b.map byteAV) ∧ c.s 5 = .lit (.int .i64 (vl b u)) ∧ c.s 6 = .lit (.int .i64 u) ∧ (∀ id, id < N → c.σ id = σ id) ∧ N ≤ c.n ∧ u ≤ lead b)
  (fun c => match c.s 6 with | .lit (.int _ m) => 7 - m.toNat | _ => 0) ⟨0, by simp (disch := omega) [go_sem, *, -List.reduceReplicate], by simp (disch := omega) [go_sem, *, -List.reduceReplicate]; rfl, by simp (disch := omega) [go_sem, *, -List.reduceReplicate], (fun id hid => by simp (disch := omega) only; try exact hlow id hid), by simp only; omega, by omega⟩ ?_)
 rintro ⟨s, σ', n'⟩ ⟨u, h0, h5, h6, hlow, hn', hu⟩
 simp only at h0 h5 h6 hlow hn'
 have hle := leadF_le 7 b
 by_cases h7 : u = 7
 ·subst h7
  have hr : rdS b = (0, 0, 5) := by simp [rdS, show lead b = 7 from by unfold lead at hu ⊢; omega]
  rw [hr]
  refine Wg ?_
  refine go_condT (by simp (disch := omega) [go_sem, *, -List.reduceReplicate]; try first | rfl | omega) ?_
  refine Wg ?_
  exact W0
 ·by_cases hlen : u = b.length
  ·have hr : rdS b = (0, 0, 3) := by
    have : lead b = b.length := by unfold lead at hu ⊢; omega
    simp [rdS, this, ← hlen, h7]
   rw [hr]
   refine Wg ?_
   refine go_condF (by simp (disch := omega) [go_sem, *, -List.reduceReplicate]; try first | rfl | omega) ?_
   refine Wg ?_
   refine go_condT (by simp (disch := omega) [go_sem, *, -List.reduceReplicate]; try first | rfl | omega) ?_
   refine Wg ?_
   exact W0
  ·have hul : u < b.length := by unfold lead at hu; omega
   have hu7 : u < 7 := by unfold lead at hu; omega
   obtain ⟨x, hx⟩ : ∃ x, b[u] = x := ⟨_, rfl⟩
   have hxx : byteAV x = .lit (.int .u8 x.toNat) := rfl
   have hxl := x.toNat_lt
   have ha : bits .and .u8 (x.toNat : Int) 127 = (x.toNat : Int) % 128 := u8_and127 _ (by omega) (by omega)
   have hgd : b.getD u 0 = x := by rw [List.getD, List.getElem?_eq_getElem hul, hx]; rfl
   have hto : (7 * (u : Int)).toNat = 7 * u := by omega
   have hsh := rd_sh x u hu7
   obtain ⟨hor, hv1⟩ := rd_or b x u hu7 hgd
   by_cases hbig : x.toNat < 128
   ·have hlead : lead b = u := by
     rcases Nat.lt_or_ge u (lead b) with h | h
     ·obtain ⟨y, h1, h2⟩ := leadF_lt 7 b u h
      rw [List.getElem?_eq_getElem hul, hx] at h1
      cases h1; omega
     ·omega
    refine Wg ?_
    refine go_condF (by simp (disch := omega) [go_sem, *, -List.reduceReplicate]; try first | rfl | omega) ?_
    refine Wg ?_
    refine go_condF (by simp (disch := omega) [go_sem, *, -List.reduceReplicate]; try first | rfl | omega) ?_
    refine Wg ?_
    refine go_cut [0, 5, 6, 33] fun s hcut => ?_
    have k0 := hcut 0 (by simp)
    have k5 := hcut 5 (by simp)
    have k6 := hcut 6 (by simp)
    have k33 := hcut 33 (by simp)
    simp (disch := omega) [go_sem, *] at k0 k5 k6 k33
    clear hcut h0 h5 h6
    refine go_condT (by simp (disch := omega) [go_sem, *, -List.reduceReplicate]; try first | rfl | omega) ?_
    have hlr : ∀ r, (if 0 < u ∧ x.toNat = 0 then (0, 0, 5) else if 281474976710656 < vl b (u + 1) then (0, 0, 1) else (vl b (u + 1), u + 1, 0)) = r → rdS b = r := by
     intro r hr
     unfold rdS
     rw [hlead, hgd, if_neg h7, if_neg hlen]
     exact hr
    clear hsh hor ha hle hgd hto hlead hu k33
    by_cases hz : 0 < u ∧ x.toNat = 0
    ·rw [hlr _ (if_pos hz)]
     obtain ⟨hz1, hz2⟩ := hz
     refine Wg ?_
     refine go_condT (by simp (disch := omega) [go_sem, *, -List.reduceReplicate]; try first | rfl | omega) ?_
     refine Wg ?_
     exact W0
    ·by_cases hu0 : u = 0
     ·have hu1 : ¬ (1 < (u : Int) + 1) := by omega
      have hu2 : ¬ (0 < u) := by omega
      clear hu0
      refine Wg ?_
      refine go_condF (by simp (disch := omega) [go_sem, *, -List.reduceReplicate]; try first | rfl | omega) ?_
      refine Wg ?_
      by_cases hm : 281474976710656 < vl b (u + 1)
      ·rw [hlr _ ((if_neg hz).trans (if_pos hm))]
       refine go_condT (by simp (disch := omega) [go_sem, *, -List.reduceReplicate]; try first | rfl | omega) ?_
       refine Wg ?_
       exact W0
      ·rw [hlr _ ((if_neg hz).trans (if_neg hm))]
       refine go_condF (by simp (disch := omega) [go_sem, *, -List.reduceReplicate]; try first | rfl | omega) ?_
       refine Wg ?_
       exact W0
     ·have hu2 : 0 < u := by omega
      have hz0 : ¬ x.toNat = 0 := fun h => hz ⟨hu2, h⟩
      refine Wg ?_
      refine go_condF (by simp (disch := omega) [go_sem, *, -List.reduceReplicate]; try first | rfl | omega) ?_
      refine Wg ?_
      by_cases hm : 281474976710656 < vl b (u + 1)
      ·rw [hlr _ ((if_neg hz).trans (if_pos hm))]
       refine go_condT (by simp (disch := omega) [go_sem, *, -List.reduceReplicate]; try first | rfl | omega) ?_
       refine Wg ?_
       exact W0
      ·rw [hlr _ ((if_neg hz).trans (if_neg hm))]
       refine go_condF (by simp (disch := omega) [go_sem, *, -List.reduceReplicate]; try first | rfl | omega) ?_
       refine Wg ?_
       exact W0
   ·have hlt : u + 1 ≤ lead b := by
     rcases Nat.lt_or_ge u (lead b) with h | h
     ·omega
     ·have e : leadF 7 b = u := by unfold lead at hu h; omega
      obtain ⟨y, h1, h2⟩ := leadF_at 7 b (by omega) (by omega)
      rw [e, List.getElem?_eq_getElem hul, hx] at h1
      cases h1; omega
    refine Wg ?_
    refine go_condF (by simp (disch := omega) [go_sem, *, -List.reduceReplicate]; try first | rfl | omega) ?_
    refine Wg ?_
    refine go_condF (by simp (disch := omega) [go_sem, *, -List.reduceReplicate]; try first | rfl | omega) ?_
    refine Wg ?_
    refine go_condF (by simp (disch := omega) [go_sem, *, -List.reduceReplicate]; try first | rfl | omega) ?_
    refine Wg ?_
    refine ⟨⟨u + 1, by simp (disch := omega) [go_sem, *, -List.reduceReplicate], by simp (disch := omega) [go_sem, *, -List.reduceReplicate], by simp (disch := omega) [go_sem, *, -List.reduceReplicate], (fun id hid => by simp (disch := omega) only; try exact hlow id hid), by simp only; omega, hlt⟩, ?_⟩
    simp (disch := omega) [go_sem, *, -List.reduceReplicate]
    omega
theorem leb_pos (n : Nat) : 1 ≤ (leb n).length := by
 by_cases h : n < 128
 ·rw [leb_small h]; simp
 ·rw [leb_big h]; simp
theorem leb_len1 (n : Nat) : ∀ k, n < 128 ^ (k + 1) → (leb n).length ≤ k + 1 := by
 induction n using Nat.strongRecOn with
 | _ n ih =>
  intro k hk
  by_cases h : n < 128
  ·rw [leb_small h]; simp
  ·rw [leb_big h]
   cases k with
   | zero => simp at hk; omega
   | succ k =>
    have := ih (n / 128) (by omega) k (by rw [Nat.pow_succ] at hk; omega)
    simp; omega
theorem u8_toNat {n : Nat} (h : n < 256) : (u8 n).toNat = n := by
 unfold u8; rw [UInt8.toNat_ofNat', Nat.mod_eq_of_lt h]
theorem vl_cons (x : UInt8) (r : List UInt8) : ∀ j, vl (x :: r) (j + 1) = x.toNat % 128 + 128 * vl r j
 | 0 => by simp [vl]
 | j + 1 => by
  rw [vl, vl_cons x r j, vl]
  simp only [List.getD_cons_succ, Nat.pow_succ]
  rw [Nat.mul_add, Nat.add_assoc]
  congr 2
  rw [← Nat.mul_assoc, Nat.mul_comm _ 128]
theorem leadF_leb (n : Nat) : ∀ (f : Nat) (t : List UInt8), (leb n).length ≤ f → leadF f (leb n ++ t) = (leb n).length - 1 := by
 induction n using Nat.strongRecOn with
 | _ n ih =>
  intro f t hf
  by_cases h : n < 128
  ·rw [leb_small h] at hf ⊢
   cases f with
   | zero => simp at hf
   | succ f => simp [leadF, u8_toNat (show n < 256 by omega)]; omega
  ·rw [leb_big h] at hf ⊢
   cases f with
   | zero => simp at hf
   | succ f =>
    have hp := leb_pos (n / 128)
    simp only [List.cons_append, leadF, u8_toNat (show n % 128 + 128 < 256 by omega)]
    rw [if_pos (by omega), ih (n / 128) (by omega) f t (by simp at hf; omega)]
    simp; omega
theorem vl_leb (n : Nat) : ∀ t : List UInt8, vl (leb n ++ t) (leb n).length = n := by
 induction n using Nat.strongRecOn with
 | _ n ih =>
  intro t
  by_cases h : n < 128
  ·rw [leb_small h]
   simp only [List.cons_append, List.nil_append, List.length_cons, List.length_nil, vl_cons, u8_toNat (show n < 256 by omega), vl]
   omega
  ·rw [leb_big h]
   simp only [List.cons_append, List.length_cons, vl_cons, u8_toNat (show n % 128 + 128 < 256 by omega)]
   rw [ih (n / 128) (by omega) t]
   omega
theorem last_leb (n : Nat) : ∀ t : List UInt8, 0 < (leb n).length - 1 → ((leb n ++ t).getD ((leb n).length - 1) 0).toNat ≠ 0 := by
 induction n using Nat.strongRecOn with
 | _ n ih =>
  intro t hl
  by_cases h : n < 128
  ·rw [leb_small h] at hl; simp at hl
  ·rw [leb_big h]
   have hp := leb_pos (n / 128)
   have e : (u8 (n % 128 + 128) :: leb (n / 128)).length - 1 = ((leb (n / 128)).length - 1) + 1 := by simp; omega
   rw [e, List.cons_append, List.getD_cons_succ]
   by_cases h2 : n / 128 < 128
   ·rw [leb_small h2]
    simp [u8_toNat (show n / 128 < 256 by omega)]
    omega
   ·refine ih (n / 128) (by omega) t ?_
    rw [leb_big h2]
    have := leb_pos (n / 128 / 128)
    simp; omega
theorem rdS_leb (n : Nat) (hn : n ≤ 281474976710656) (t : List UInt8) : rdS (leb n ++ t) = (n, (leb n).length, 0) := by
 have hl := leb_len1 n 6 (by omega)
 have hp := leb_pos n
 have h1 : lead (leb n ++ t) = (leb n).length - 1 := leadF_leb n 7 t (by omega)
 have h2 : vl (leb n ++ t) ((leb n).length - 1 + 1) = n := by rw [Nat.sub_add_cancel hp]; exact vl_leb n t
 unfold rdS
 rw [h1, h2, if_neg (by omega), if_neg (by rw [List.length_append]; omega), if_neg (fun h => last_leb n t h.1 h.2), if_neg (by omega), Nat.sub_add_cancel hp]
theorem leb_vl : ∀ (l : Nat) (b : List UInt8), l < b.length → (∀ i, i < l → ∃ x, b[i]? = some x ∧ 128 ≤ x.toNat) → (b.getD l 0).toNat < 128 → (l = 0 ∨ (b.getD l 0).toNat ≠ 0) → leb (vl b (l + 1)) = b.take (l + 1)
 | 0, [], h, _, _, _ => by simp at h
 | 0, x :: r, _, _, h, _ => by
  simp only [List.getD_cons_zero] at h
  have : vl (x :: r) (0 + 1) = x.toNat := by rw [vl_cons]; simp [vl]; omega
  rw [this, leb_small h]
  simp [u8]
 | l + 1, [], h, _, _, _ => by simp at h
 | l + 1, x :: r, hl, hb, h, hz => by
  simp only [List.getD_cons_succ] at h hz
  have hz' : (r.getD l 0).toNat ≠ 0 := hz.resolve_left (by omega)
  obtain ⟨y, hy, hy1⟩ := hb 0 (by omega)
  simp at hy; subst hy
  have ih := leb_vl l r (by simpa using hl) (fun i hi => by simpa using hb (i + 1) (by omega)) h (.inr hz')
  have hpos : 1 ≤ vl r (l + 1) := by
   have : 1 ≤ (r.getD l 0).toNat % 128 * 128 ^ l := Nat.mul_pos (by omega) (Nat.pow_pos (by omega))
   simp only [vl]; omega
  have hx := x.toNat_lt
  rw [vl_cons, leb_big (by omega), show (x.toNat % 128 + 128 * vl r (l + 1)) % 128 + 128 = x.toNat by omega, show (x.toNat % 128 + 128 * vl r (l + 1)) / 128 = vl r (l + 1) by omega, ih]
  simp [u8]
theorem rdS_ok (b : List UInt8) {n u : Nat} (h : rdS b = (n, u, 0)) : n ≤ 281474976710656 ∧ u ≤ b.length ∧ leb n = b.take u := by
 have hle := leadF_le 7 b
 unfold rdS at h
 split at h
 ·simp at h
 ·rename_i h7
  split at h
  ·simp at h
  ·rename_i hlen
   split at h
   ·simp at h
   ·rename_i hz
    split at h
    ·simp at h
    ·rename_i hm
     simp only [Prod.mk.injEq, and_true] at h
     obtain ⟨rfl, rfl⟩ := h
     unfold lead at *
     obtain ⟨x, hx1, hx2⟩ := leadF_at 7 b (by omega) (by omega)
     have hg : b.getD (leadF 7 b) 0 = x := by simp [List.getD, hx1]
     refine ⟨by omega, by omega, leb_vl _ b (by omega) (fun i hi => leadF_lt 7 b i hi) (by rw [hg]; exact hx2) ?_⟩
     by_cases h0 : leadF 7 b = 0
     ·exact .inl h0
     ·exact .inr fun e => hz ⟨by omega, e⟩
theorem rdS_bad (b : List UInt8) : (rdS b).2.2 = 0 ∨ ∃ e, rdS b = (0, 0, e) ∧ e ≠ 0 := by
 unfold rdS
 split
 ·exact .inr ⟨5, rfl, by omega⟩
 ·split
  ·exact .inr ⟨3, rfl, by omega⟩
  ·split
   ·exact .inr ⟨5, rfl, by omega⟩
   ·split
    ·exact .inr ⟨1, rfl, by omega⟩
    ·exact .inl rfl
theorem vl_back (b : List UInt8) (i : Nat) (n : Nat) : vl b (i + 1) + n * 128 ^ (i + 1) = vl b i + (128 * n + (b.getD i 0).toNat % 128) * 128 ^ i := by
 simp only [vl, Nat.pow_succ, Nat.add_mul]
 have : n * (128 ^ i * 128) = 128 * n * 128 ^ i := by rw [Nat.mul_comm (128 ^ i), ← Nat.mul_assoc, Nat.mul_comm n]
 omega
theorem lead_lt (b : List UInt8) (i : Nat) (h : i < lead b) : ∃ h : i < b.length, 127 < (b[i].toNat : Int) := by
 obtain ⟨x, hx, hx2⟩ := leadF_lt 7 b i h
 obtain ⟨h1, h2⟩ := List.getElem?_eq_some_iff.1 hx
 exact ⟨h1, by rw [h2]; omega⟩
theorem lead_at (b : List UInt8) (h : lead b < 7) (h2 : lead b < b.length) : (b[lead b].toNat : Int) < 128 := by
 obtain ⟨x, hx, hx2⟩ := leadF_at 7 b h h2
 obtain ⟨h1, h3⟩ := List.getElem?_eq_some_iff.1 hx
 have e : b[lead b].toNat = x.toNat := congrArg UInt8.toNat h3
 omega
def rdTail (b : List UInt8) (L : Nat) : Nat × Nat × Nat :=
 if L = 7 then (0, 0, 5) else if L = b.length then (0, 0, 3) else if 0 < L ∧ (b.getD L 0).toNat = 0 then (0, 0, 5) else
  if 281474976710656 < vl b (L + 1) then (0, 0, 1) else (vl b (L + 1), L + 1, 0)
set_option maxHeartbeats 800000 in
theorem refRead_spec (b : List UInt8) (hb : b.length ≤ 100000000) (k : Nat) : ACall Tryd.prog 103 [.slice none (b.map byteAV)] k [] (rdAV (rdS b)) [] := by
 have hl7 : lead b ≤ 7 := (leadF_le 7 b).1
 have hll : lead b ≤ b.length := (leadF_le 7 b).2
 have hlt := lead_lt b
 have hat := lead_at b
 have hrd : rdS b = rdTail b (lead b) := rfl
 rw [hrd]
 clear hrd
 generalize lead b = L at *
 refine Bd Tryd.func103 Tryd.ntmps103 fun σ N hp hpn hk hkn hfree => ?_
 refine Wk ?_
 refine go_after (fun c => c.s 5 = .lit (.int .i64 L) ∧ c.s 0 = .slice none (b.map byteAV) ∧ N + 4 ≤ c.n ∧ (∀ id, id < N → c.σ id = σ id)) ?_ ?_
 ·refine go_loop (aloop mixed (by kernel_rfl) (fun c => ∃ i : Nat, c.s 5 = .lit (.int .i64 i) ∧ c.s 0 = .slice none (b.map byteAV) ∧ N + 4 ≤ c.n ∧ (∀ id, id < N → c.σ id = σ id) ∧ i ≤ L)
   (fun c => match c.s 5 with | .lit (.int _ m) => L - m.toNat | _ => 0) ⟨0, by simp (disch := omega) [go_sem, *, -List.reduceReplicate], by simp (disch := omega) [go_sem, *, -List.reduceReplicate], by simp, (fun id hid => by simp (disch := omega) only; try exact hlow id hid), by omega⟩ ?_)
  rintro ⟨s, σ', n'⟩ ⟨i, h5, h0, hn', hlow, hi⟩
  simp only at h5 h0 hn' hlow
  by_cases hiL : i < L
  ·obtain ⟨hib, g3⟩ := hlt i hiL
   have g1 : (i : Int) < (b.length : Int) := by omega
   have g2 : (i : Int) < 7 := by omega
   clear hlt hat
   refine Wk ?_
   refine ⟨⟨i + 1, by simp (disch := omega) [go_sem, *, -List.reduceReplicate], by simp (disch := omega) [go_sem, *, -List.reduceReplicate], by simp only; omega, (fun id hid => by simp (disch := omega) only; try exact hlow id hid), by omega⟩, ?_⟩
   simp (disch := omega) [go_sem, *, -List.reduceReplicate]
   omega
  ·have hiL' : i = L := by omega
   subst hiL'
   clear hlt hi hiL
   by_cases c1 : (i : Int) < (b.length : Int)
   ·by_cases c2 : (i : Int) < 7
    ·have c3 := hat (by omega) (by omega)
     have c4 : ¬ (127 : Int) < (b[i].toNat : Int) := by omega
     clear hat c3
     refine Wk ?_
     exact ⟨by simp (disch := omega) [go_sem, *, -List.reduceReplicate], by simp (disch := omega) [go_sem, *, -List.reduceReplicate], by simp only; omega, (fun id hid => by simp (disch := omega) only; try exact hlow id hid)⟩
    ·clear hat
     refine Wk ?_
     exact ⟨by simp (disch := omega) [go_sem, *, -List.reduceReplicate], by simp (disch := omega) [go_sem, *, -List.reduceReplicate], by simp only; omega, (fun id hid => by simp (disch := omega) only; try exact hlow id hid)⟩
   ·clear hat
    refine Wk ?_
    exact ⟨by simp (disch := omega) [go_sem, *, -List.reduceReplicate], by simp (disch := omega) [go_sem, *, -List.reduceReplicate], by simp only; omega, (fun id hid => by simp (disch := omega) only; try exact hlow id hid)⟩
 ·rintro ⟨s, σ', n'⟩ ⟨h5, h0, hn', hlow⟩
  simp only at h5 h0 hn' hlow
  clear hlt hat
  unfold rdTail rdAV
  by_cases c1 : L = 7
  ·rw [if_pos c1]
   subst c1
   exact W0
  ·rw [if_neg c1]
   by_cases c2 : L = b.length
   ·rw [if_pos c2]
    have d1 : ¬ (L : Int) = 7 := by omega
    have d2 : (L : Int) = (b.length : Int) := by omega
    exact W0
   ·rw [if_neg c2]
    have d1 : ¬ (L : Int) = 7 := by omega
    have d2 : ¬ (L : Int) = (b.length : Int) := by omega
    have d3 : L < b.length := by omega
    have hg : (b.getD L 0).toNat = b[L].toNat := by simp [List.getD, d3]
    by_cases c3 : 0 < L ∧ (b.getD L 0).toNat = 0
    ·rw [if_pos c3]
     have e1 : (0 : Int) < (L : Int) := by omega
     have e2 : (b[L].toNat : Int) = 0 := by omega
     clear hg c3
     exact W0
    ·rw [if_neg c3]
     have key : ((0 : Int) < (L : Int) ∧ ¬ (b[L].toNat : Int) = 0) ∨ ¬ 0 < L := by omega
     have hv := vl_lt b (L + 1)
     have hL6 : L ≤ 6 := by omega
     clear hg c3
     have hlow0 := hlow
     rcases key with ⟨e1, e2⟩ | e1
     all_goals
      refine Wk ?_
      refine go_after (fun c => c.s 5 = .lit (.int .i64 L) ∧ c.s 6 = .lit (.int .i64 (vl b (L + 1))) ∧ (∀ id, id < N → c.σ id = σ id)) ?_ ?_
      ·refine go_loop (aloop mixed (by kernel_rfl) (fun c => ∃ (i n : Nat), c.s 7 = .lit (.int .i64 ((i : Int) - 1)) ∧ c.s 5 = .lit (.int .i64 L) ∧ c.s 6 = .lit (.int .i64 n) ∧ c.s 0 = .slice none (b.map byteAV) ∧ (∀ id, id < N → c.σ id = σ id) ∧ N ≤ c.n ∧ i ≤ L + 1 ∧ vl b (L + 1) = vl b i + n * 128 ^ i)
        (fun c => match c.s 7 with | .lit (.int _ m) => (m + 1).toNat | _ => 0) ⟨L + 1, 0, by (simp (disch := omega) [go_sem, *, -List.reduceReplicate]; try omega), by simp (disch := omega) [go_sem, *, -List.reduceReplicate], by simp (disch := omega) [go_sem, *, -List.reduceReplicate], by simp (disch := omega) [go_sem, *, -List.reduceReplicate], (fun id hid => by simp (disch := omega) only; try exact hlow id hid), by simp only; omega, by omega, by omega⟩ ?_)
       rintro ⟨s2, σ2, n2⟩ ⟨i, n, h7, h5, h6, h0, hlow, hn2, hi, hvl⟩
       simp only at h7 h5 h6 h0 hlow hn2
       by_cases hi0 : i = 0
       ·subst hi0
        have f1 : ¬ (0 : Int) ≤ ((0 : Nat) : Int) - 1 := by omega
        have f2 : n = vl b (L + 1) := by rw [hvl]; simp [vl]
        clear hvl
        subst f2
        refine Wk ?_
        exact ⟨by simp (disch := omega) [go_sem, *, -List.reduceReplicate], by simp (disch := omega) [go_sem, *, -List.reduceReplicate], (fun id hid => by simp (disch := omega) only; try exact hlow id hid)⟩
       ·obtain ⟨i, rfl⟩ : ∃ j, i = j + 1 := ⟨i - 1, by omega⟩
        have f0 : ((i + 1 : Nat) : Int) - 1 = (i : Int) := by omega
        rw [f0] at h7
        have f1 : (0 : Int) ≤ (i : Int) := by omega
        have f2 : (i : Int) < (b.length : Int) := by omega
        have f3 : i < b.length := by omega
        rw [vl_back] at hvl
        have hg : (b.getD i 0).toNat = b[i].toNat := by simp [List.getD, f3]
        rw [hg] at hvl
        have hpos : 0 < 128 ^ i := Nat.pow_pos (by omega)
        have hbig : (128 * n + b[i].toNat % 128) * 1 ≤ (128 * n + b[i].toNat % 128) * 128 ^ i := Nat.mul_le_mul_left _ hpos
        have hvl7 : 128 ^ (L + 1) ≤ 128 ^ 7 := Nat.pow_le_pow_right (by omega) (by omega)
        have hsm : 128 * n + b[i].toNat % 128 < 562949953421312 := by omega
        have w1 : IntKind.i64.wrap (b[i].toNat : Int) = (b[i].toNat : Int) := wrap_i64 (by omega) (by have := b[i].toNat_lt; omega)
        have w2 : (b[i].toNat : Int).tmod 128 = ((b[i].toNat % 128 : Nat) : Int) := by rw [Int.tmod_eq_emod_of_nonneg (by omega)]; omega
        have w3 : IntKind.i64.wrap (128 * (n : Int)) = 128 * (n : Int) := wrap_i64 (by omega) (by omega)
        have w4 : IntKind.i64.wrap (128 * (n : Int) + ((b[i].toNat % 128 : Nat) : Int)) = ((128 * n + b[i].toNat % 128 : Nat) : Int) := by rw [wrap_i64 (by omega) (by omega)]; omega
        clear f0 hg hpos hbig hvl7
        have HV : vl b (L + 1) = vl b i + (128 * n + b[i].toNat % 128) * 128 ^ i := hvl
        clear hvl
        generalize hN : 128 * n + b[i].toNat % 128 = n3 at *
        generalize hB : ((b[i].toNat % 128 : Nat) : Int) = q at *
        clear hN hB
        revert HV
        generalize hVV : vl b (L + 1) = VV at *
        intro HV
        refine Wk ?_
        refine ⟨⟨i, n3, by simp (disch := omega) [go_sem, *, -List.reduceReplicate], by simp (disch := omega) [go_sem, *, -List.reduceReplicate], by simp (disch := omega) [go_sem, *, -List.reduceReplicate], by simp (disch := omega) [go_sem, *, -List.reduceReplicate], (fun id hid => by simp (disch := omega) only; try exact hlow id hid), by simp only; omega, by omega, HV⟩, ?_⟩
        simp (disch := omega) [go_sem, *, -List.reduceReplicate]
        try omega
      ·rintro ⟨s2, σ2, n2⟩ ⟨h5, h6, hlow⟩
       simp only at h5 h6 hlow
       have hvl7 : 128 ^ (L + 1) ≤ 128 ^ 7 := Nat.pow_le_pow_right (by omega) (by omega)
       have hv2 : vl b (L + 1) < 562949953421312 := by omega
       clear hv hvl7
       by_cases c4 : 281474976710656 < vl b (L + 1)
       ·rw [if_pos c4]
        have c5 : (281474976710656 : Int) < (vl b (L + 1) : Int) := by omega
        clear c4
        exact W0
       ·rw [if_neg c4]
        have c5 : ¬ (281474976710656 : Int) < (vl b (L + 1) : Int) := by omega
        clear c4
        exact W0

def fieldB (x : List UInt8) : List UInt8 := leb x.length ++ x
theorem field_ok (b x : List UInt8) (hb : b.length ≤ 10000000) (hx : x.length ≤ 1024) (k : Nat) : ACall Tryd.prog 116 [.slice none (b.map byteAV), .slice none (x.map byteAV)] k []
  (.tup [.slice (some k) ((b ++ fieldB x).map byteAV), .lit (.int .i64 0)]) [(k, .row 5 1 (b ++ fieldB x).length)] := by
 have hl := leb_len x.length 2 (by omega)
 have hx' : ¬ (1024 : Int) < (x.length : Int) := by omega
 have hc := Append_ok b (by omega) x.length (by omega)
 have hf : (b ++ fieldB x) = b ++ leb x.length ++ x := by simp [fieldB]
 rw [hf, List.length_append, List.length_append]
 refine Bd Tryd.func116 Tryd.ntmps116 fun σ N hp hpn hk hkn hfree => ?_
 have hcs := And.intro hc True.intro
 refine Wk ?_
 refine go_result1 (r0 := N+8) (by simp (disch := omega) [go_sem, *, -List.reduceReplicate]; rfl) (by omega) (by simp (disch := omega) [go_sem]; try rfl) (fun id hid => by simp (disch := omega) only [upd_ne, wr_cons, wr_nil]; try exact hlow id hid) (by simp (disch := omega) only [upd_same]; rfl) (by simp (disch := omega) [go_sem])
theorem field_ok_f (b x : List UInt8) (hb : b.length ≤ 10000000) (hx : x.length ≤ 1024) (k : Nat) : ACall Tryd.prog 116 [.slice none (b.map byteAV), .slice none (x.map byteAV)] k []
  (.tup [.slice none ((b ++ fieldB x).map byteAV), .lit (.int .i64 0)]) [] := by
 have hl := leb_len x.length 2 (by omega)
 have hx' : ¬ (1024 : Int) < (x.length : Int) := by omega
 have hc := Append_ok b (by omega) x.length (by omega)
 have hf : (b ++ fieldB x) = b ++ leb x.length ++ x := by simp [fieldB]
 rw [hf]
 refine Bd Tryd.func116 Tryd.ntmps116 fun σ N hp hpn hk hkn hfree => ?_
 have hcs := And.intro hc True.intro
 exact WL
def rdF (b : List UInt8) : List UInt8 × Nat × Nat :=
 if (rdS b).2.2 ≠ 0 then ([], 0, (rdS b).2.2) else if 1024 < (rdS b).1 then ([], 0, 2) else if b.length - (rdS b).2.1 < (rdS b).1 then ([], 0, 3)
 else ((b.drop (rdS b).2.1).take (rdS b).1, (rdS b).2.1 + (rdS b).1, 0)
theorem rdS_le (b : List UInt8) : (rdS b).2.1 ≤ b.length := by
 rcases rdS_bad b with h | ⟨e, h, _⟩
 ·exact (rdS_ok b (n := (rdS b).1) (u := (rdS b).2.1) (by rw [← h])).2.1
 ·rw [h]; simp
theorem take_drop_bytes (b : List UInt8) (u n : Nat) : ((b.map byteAV).take (u + n)).drop u = ((b.drop u).take n).map byteAV := by
 rw [List.map_take, List.map_drop, List.drop_take]
 congr 1
 omega

abbrev natsAV (ns : List Nat) : AV := .slice none (ns.map fun (n : Nat) => AV.lit (.int .i64 (n : Int)))
theorem numbers_spec (ns : List Nat) (bs : List UInt8) (h0 : 0 < ns.length) (hb : bs.length + 8 * ns.length ≤ 1000000) (hn : ∀ n ∈ ns, n ≤ 281474976710656) (R : List UInt8) (hR : bs ++ ns.flatMap leb = R) (k : Nat) :
  ACall Tryd.prog 133 [.slice none (bs.map byteAV), natsAV ns] k [] (.slice (some k) (R.map byteAV)) [(k, .row 5 1 R.length)] := by
 refine Bd Tryd.func133 Tryd.ntmps133 fun σ N hp hpn hk hkn hfree => ?_
 refine Wk ?_
 refine go_loopP (ns.length) (N) mixed (by kernel_rfl) [0, 6, 9, 10, 11, 12, 13, 14, 15, 16, 17, 18, 19] [] (fun s_ σ_ n_ => s_ 9 = .lit (.int .i64 0) ∧ s_ 0 = .slice none (bs.map byteAV) ∧ True) (fun m_ s_ σ_ n_ => ∃ (u : Nat) (q : Nat) (acc : List UInt8), m_ = ns.length - u ∧ s_ 9 = .lit (.int .i64 u) ∧ s_ 0 = .slice (some q) (acc.map byteAV) ∧ σ_ (q) = .row 5 1 acc.length ∧ (u ≤ ns.length) ∧ (acc.length ≤ bs.length + 8 * u) ∧ (acc = bs ++ (ns.take u).flatMap leb) ∧ (N ≤ q) ∧ (q < n_)) ⟨WF, WF, trivial⟩ ?_ ?_
 ·intro s_1 σ_1 n_1 hs_1 hf_1 hn_1 hI_1
  obtain ⟨h1_9, h1_0, -⟩ := hI_1
  have h1_4 := KS hs_1 4
  have h1_7 := KS hs_1 7
  have h1_8 := KS hs_1 8
  have hlow := KL (N := N) (σ := σ) hf_1
  obtain ⟨c, hc⟩ : ∃ c, ns[0] = c := ⟨_, rfl⟩
  have hcn : c ≤ 281474976710656 := hn c (by rw [← hc]; exact List.getElem_mem h0)
  have hcl := leb_len c 7 (by omega)
  have c1 := Append_ok bs (by omega) c hcn
  have hacc2 : bs ++ leb c = bs ++ (ns.take (0 + 1)).flatMap leb := by
   rw [List.take_add_one, List.getElem?_eq_getElem h0, hc]
   simp
  have hal2 : (bs ++ leb c).length ≤ bs.length + 8 * (0 + 1) := by rw [List.length_append]; omega
  have hll : bs.length + (leb c).length = (bs ++ leb c).length := by simp
  rw [hll] at c1
  generalize bs ++ leb c = acc2 at *
  have hcs := And.intro c1 True.intro
  clear c1 hll hR
  refine Wk ?_
  exact ⟨WS, WG, WN, _, (show ns.length - (1) < (ns.length) by omega), 1, _, acc2, rfl, WF, WF, WF, WC, WC, WC, WC, WC⟩
 intro m_1 s_1 σ_1 n_1 hs_1 hf_1 hn_1 hI_1
 obtain ⟨u, q, acc, hm_1, h1_9, h1_0, e1_0, hu, hal, hacc, hq, hqn⟩ := hI_1
 have h1_4 := KS hs_1 4
 have h1_7 := KS hs_1 7
 have h1_8 := KS hs_1 8
 have hlow := KL (N := N) (σ := σ) hf_1
 by_cases hul : u = ns.length
 ·rw [hul, List.take_length, hR] at hacc
  subst hul hacc
  clear hR
  refine Wk ?_
  refine go_result1 (r0 := q) (by simp (disch := omega) [go_sem, *, -List.reduceReplicate]; rfl) (by omega) (by simp (disch := omega) [go_sem]; try rfl) (fun id hid => by simp (disch := omega) only; try exact hlow id hid) (by simp (disch := omega) [go_sem, *, -List.reduceReplicate]; rfl) (by simp (disch := omega) [go_sem])
 ·have hui : u < ns.length := by omega
  obtain ⟨c, hc⟩ : ∃ c, ns[u] = c := ⟨_, rfl⟩
  have hcn : c ≤ 281474976710656 := hn c (by rw [← hc]; exact List.getElem_mem hui)
  have hcl := leb_len c 7 (by omega)
  have c1 := Append_ok acc (by omega) c hcn
  have hacc2 : acc ++ leb c = bs ++ (ns.take (u + 1)).flatMap leb := by
   rw [List.take_add_one, List.getElem?_eq_getElem hui, hc, hacc]
   simp
  have hal2 : (acc ++ leb c).length ≤ bs.length + 8 * (u + 1) := by rw [List.length_append]; omega
  have hll : acc.length + (leb c).length = (acc ++ leb c).length := by simp
  rw [hll] at c1
  clear hacc hll hR
  generalize acc ++ leb c = acc2 at *
  have hcs := And.intro c1 True.intro
  clear c1
  refine Wk ?_
  exact ⟨WS, WG, WN, _, (show ns.length - (u + 1) < m_1 by omega), u + 1, _, acc2, rfl, WF, WF, WF, WC, WC, WC, WC, WC⟩

def encP (p : Pr) : List UInt8 :=
 leb p.kind.toNat ++ (if p.kind = 4 ∨ p.kind = 5 then leb p.frm.toNat ++ leb p.to.toNat else if p.kind = 6 then fieldB p.name else if p.kind = 7 then leb p.num.toNat else eightB p.mask)
theorem maskB_pos {m : Int} {n : Nat} (h : maskB m n = true) : m ≠ 0 ∧ m < 2 ^ n := by
 unfold maskB at h
 simpa using h
inductive PV : Pr → Prop where
 | mask (kn : Nat) (m : Int) (hk : kn = 1 ∧ m < 18446744073709551616 ∨ kn = 2 ∧ m < 4294967296 ∨ kn = 3 ∧ m < 128) (hm : m ≠ 0) : PV ⟨kn, m, 0, 0, [], 0⟩
 | span (kn f t : Nat) (hk : kn = 4 ∧ f ≤ t ∧ t ≤ 67108864 ∨ kn = 5 ∧ f < 1440 ∧ t < 1440) : PV ⟨kn, 0, f, t, [], 0⟩
 | holder (n : List UInt8) (hn : nameB n = true) : PV ⟨6, 0, 0, 0, n, 0⟩
 | rides (x : Nat) (hx : x ≤ 1000000) : PV ⟨7, 0, 0, 0, [], x⟩
theorem PV.of {p : Pr} (h : predB p = true) : PV p := by
 obtain ⟨kd, m, f, t, n, x⟩ := p
 unfold predB at h
 simp only at h
 split at h
 ·rename_i e; subst e
  simp only [Bool.and_eq_true, decide_eq_true_eq, Pr.mk.injEq] at h
  obtain ⟨h1, h2, h3, h4, h5, h6, h7⟩ := h
  subst h4 h5 h6 h7
  exact .mask 1 m (.inl ⟨rfl, (maskB_pos h1).2⟩) (maskB_pos h1).1
 split at h
 ·rename_i e; subst e
  simp only [Bool.and_eq_true, decide_eq_true_eq, Pr.mk.injEq] at h
  obtain ⟨h1, h2, h3, h4, h5, h6, h7⟩ := h
  subst h4 h5 h6 h7
  exact .mask 2 m (.inr (.inl ⟨rfl, (maskB_pos h1).2⟩)) (maskB_pos h1).1
 split at h
 ·rename_i e; subst e
  simp only [Bool.and_eq_true, decide_eq_true_eq, Pr.mk.injEq] at h
  obtain ⟨h1, h2, h3, h4, h5, h6, h7⟩ := h
  subst h4 h5 h6 h7
  exact .mask 3 m (.inr (.inr ⟨rfl, (maskB_pos h1).2⟩)) (maskB_pos h1).1
 split at h
 ·rename_i e; subst e
  simp only [Bool.and_eq_true, decide_eq_true_eq, Pr.mk.injEq] at h
  obtain ⟨h1, h2, h3, h4, h5, h6, h7, h8, h9⟩ := h
  subst h5 h8 h9
  obtain ⟨f', rfl⟩ := Int.eq_ofNat_of_zero_le h1
  obtain ⟨t', rfl⟩ := Int.eq_ofNat_of_zero_le (Int.le_trans h1 h2)
  exact .span 4 f' t' (.inl ⟨rfl, by omega, by omega⟩)
 split at h
 ·rename_i e; subst e
  simp only [Bool.and_eq_true, decide_eq_true_eq, Pr.mk.injEq] at h
  obtain ⟨h1, h2, h3, h4, h5, h6, h7, h8, h9, h10⟩ := h
  subst h6 h9 h10
  obtain ⟨f', rfl⟩ := Int.eq_ofNat_of_zero_le h1
  obtain ⟨t', rfl⟩ := Int.eq_ofNat_of_zero_le h3
  exact .span 5 f' t' (.inr ⟨rfl, by omega, by omega⟩)
 split at h
 ·rename_i e; subst e
  simp only [Bool.and_eq_true, decide_eq_true_eq, Pr.mk.injEq] at h
  obtain ⟨h1, h2, h3, h4, h5, h6, h7⟩ := h
  subst h3 h4 h5 h7
  exact .holder n h1
 split at h
 ·rename_i e; subst e
  simp only [Bool.and_eq_true, decide_eq_true_eq, Pr.mk.injEq] at h
  obtain ⟨h1, h2, h3, h4, h5, h6, h7, h8⟩ := h
  subst h4 h5 h6 h7
  obtain ⟨x', rfl⟩ := Int.eq_ofNat_of_zero_le h1
  exact .rides x' (by omega)
 ·cases h
theorem Enc_bad (p : Pr) (hp0 : PrOk p) (h : predB p = false) (d k : Nat) :
  ACall Tryd.prog 109 [prAV p] k [(d, bitsG)] (.tup [.nils, .lit (.int .i64 5)]) [] := by
 have c1 := predValid_spec p hp0 d
 rw [h] at c1
 refine Bd Tryd.func109 Tryd.ntmps109 fun σ N hp hpn hk hkn hfree => ?_
 obtain ⟨hd, hdn⟩ := HD0 hp hpn; clear hp hpn
 have hcs := And.intro c1 True.intro
 clear c1
 exact W0
set_option maxHeartbeats 4000000 in
theorem Enc_mask (kn : Nat) (m : Int) (hk : kn = 1 ∨ kn = 2 ∨ kn = 3) (hp0 : PrOk ⟨kn, m, 0, 0, [], 0⟩) (h : predB ⟨kn, m, 0, 0, [], 0⟩ = true) (d k : Nat) :
  ACall Tryd.prog 109 [prAV ⟨kn, m, 0, 0, [], 0⟩] k [(d, bitsG)] (.tup [.slice none ((leb kn ++ eightB m).map byteAV), .lit (.int .i64 0)]) [] := by
 have c1 := predValid_spec _ hp0 d
 rw [h] at c1
 have m0 := hp0.m0
 have m1 := hp0.m1
 simp only at m0 m1
 have c2 := numbers_spec [kn] [] (by simp) (by simp) (by simp; omega) (leb kn) (by simp)
 simp only [List.map_nil] at c2
 have hl := leb_len kn 7 (by omega)
 generalize leb kn = L at *
 have g4 : ((kn : Int) == 4) = false := by rw [beq_eq_false_iff_ne]; omega
 have g5 : ((kn : Int) == 5) = false := by rw [beq_eq_false_iff_ne]; omega
 have g6 : ((kn : Int) == 6) = false := by rw [beq_eq_false_iff_ne]; omega
 have g7 : ((kn : Int) == 7) = false := by rw [beq_eq_false_iff_ne]; omega
 have e7 := sh8_wrap m 56
 have e6 := sh8_wrap m 48
 have e5 := sh8_wrap m 40
 have e4 := sh8_wrap m 32
 have e3 := sh8_wrap m 24
 have e2 := sh8_wrap m 16
 have e1 := sh8_wrap m 8
 have e0 := sh8_wrap m 0
 simp only [Int.reducePow, Int.pow_zero, Int.fdiv_one] at e7 e6 e5 e4 e3 e2 e1 e0
 unfold eightB
 generalize sh8 m 56 = b7 at *
 generalize sh8 m 48 = b6 at *
 generalize sh8 m 40 = b5 at *
 generalize sh8 m 32 = b4 at *
 generalize sh8 m 24 = b3 at *
 generalize sh8 m 16 = b2 at *
 generalize sh8 m 8 = b1 at *
 generalize sh8 m 0 = b0 at *
 clear hk
 simp only [prAV] at *
 refine Bd Tryd.func109 Tryd.ntmps109 fun σ N hp hpn hk hkn hfree => ?_
 obtain ⟨hd, hdn⟩ := HD0 hp hpn; clear hp hpn
 have hcs := And.intro c1 (And.intro c2 True.intro)
 clear c1 c2
 refine Wk ?_
 refine go_loopB (N + 1) mixed (by kernel_rfl) [4, 5, 41, 42, 43, 44, 45, 46, 47, 48, 49, 50, 51, 52] [] (fun m_ s_ σ_ n_ => ∃ (u : Nat) (q : Nat) (acc : List UInt8), m_ = 8 - u ∧ s_ 5 = .lit (.int .i64 (56 - 8 * (u : Int))) ∧ s_ 4 = .slice (some q) ((L ++ acc).map byteAV) ∧ σ_ (q) = .row 5 1 (L.length + acc.length) ∧ (u ≤ 8) ∧ (N + 1 ≤ q) ∧ (q < n_) ∧ (acc = [b7, b6, b5, b4, b3, b2, b1, b0].take u)) ⟨_, 0, _, [], rfl, WF, WF, WF, WC, WC, WC, WC⟩ ?_
 intro m_1 s_1 σ_1 n_1 hs_1 hf_1 hn_1 hI_1
 obtain ⟨u, q, acc, hm_1, h1_5, h1_4, e1_0, hu, hq, hqn, hacc⟩ := hI_1
 have h1_1 := KS hs_1 1
 have h1_2 := KS hs_1 2
 have h1_3 := KS hs_1 3
 have k1_0 := KE hf_1 (N)
 have hlow := KL (N := N) (σ := σ) hf_1
 have hb7 : byteAV b7 = .lit (.int .u8 b7.toNat) := rfl
 have hb6 : byteAV b6 = .lit (.int .u8 b6.toNat) := rfl
 have hb5 : byteAV b5 = .lit (.int .u8 b5.toNat) := rfl
 have hb4 : byteAV b4 = .lit (.int .u8 b4.toNat) := rfl
 have hb3 : byteAV b3 = .lit (.int .u8 b3.toNat) := rfl
 have hb2 : byteAV b2 = .lit (.int .u8 b2.toNat) := rfl
 have hb1 : byteAV b1 = .lit (.int .u8 b1.toNat) := rfl
 have hb0 : byteAV b0 = .lit (.int .u8 b0.toNat) := rfl
 have hcase : u = 0 ∨ u = 1 ∨ u = 2 ∨ u = 3 ∨ u = 4 ∨ u = 5 ∨ u = 6 ∨ u = 7 ∨ u = 8 := by omega
 rcases hcase with rfl | hcase
 ·simp only [List.take_zero] at hacc
  subst hacc
  refine Wk ?_
  exact ⟨WS, WG, WN, _, (show 8 - (1) < m_1 by omega), 1, q, [b7], rfl, WF, WF, WF, WC, WC, WC, WC⟩
 rcases hcase with rfl | hcase
 ·simp only [List.take_succ_cons, List.take_zero] at hacc
  subst hacc
  refine Wk ?_
  exact ⟨WS, WG, WN, _, (show 8 - (2) < m_1 by omega), 2, q, [b7, b6], rfl, WF, WF, WF, WC, WC, WC, WC⟩
 rcases hcase with rfl | hcase
 ·simp only [List.take_succ_cons, List.take_zero] at hacc
  subst hacc
  refine Wk ?_
  exact ⟨WS, WG, WN, _, (show 8 - (3) < m_1 by omega), 3, q, [b7, b6, b5], rfl, WF, WF, WF, WC, WC, WC, WC⟩
 rcases hcase with rfl | hcase
 ·simp only [List.take_succ_cons, List.take_zero] at hacc
  subst hacc
  refine Wk ?_
  exact ⟨WS, WG, WN, _, (show 8 - (4) < m_1 by omega), 4, q, [b7, b6, b5, b4], rfl, WF, WF, WF, WC, WC, WC, WC⟩
 rcases hcase with rfl | hcase
 ·simp only [List.take_succ_cons, List.take_zero] at hacc
  subst hacc
  refine Wk ?_
  exact ⟨WS, WG, WN, _, (show 8 - (5) < m_1 by omega), 5, q, [b7, b6, b5, b4, b3], rfl, WF, WF, WF, WC, WC, WC, WC⟩
 rcases hcase with rfl | hcase
 ·simp only [List.take_succ_cons, List.take_zero] at hacc
  subst hacc
  refine Wk ?_
  exact ⟨WS, WG, WN, _, (show 8 - (6) < m_1 by omega), 6, q, [b7, b6, b5, b4, b3, b2], rfl, WF, WF, WF, WC, WC, WC, WC⟩
 rcases hcase with rfl | hcase
 ·simp only [List.take_succ_cons, List.take_zero] at hacc
  subst hacc
  refine Wk ?_
  exact ⟨WS, WG, WN, _, (show 8 - (7) < m_1 by omega), 7, q, [b7, b6, b5, b4, b3, b2, b1], rfl, WF, WF, WF, WC, WC, WC, WC⟩
 rcases hcase with rfl | hcase
 ·simp only [List.take_succ_cons, List.take_zero] at hacc
  subst hacc
  refine Wk ?_
  exact ⟨WS, WG, WN, _, (show 8 - (8) < m_1 by omega), 8, q, [b7, b6, b5, b4, b3, b2, b1, b0], rfl, WF, WF, WF, WC, WC, WC, WC⟩
 subst hcase
 simp only [List.take_succ_cons, List.take_zero] at hacc
 subst hacc
 exact WL

set_option maxHeartbeats 4000000 in
theorem Enc_span (kn f t : Nat) (hk : kn = 4 ∨ kn = 5) (hf : f ≤ 67108864) (ht : t ≤ 67108864) (hp0 : PrOk ⟨kn, 0, f, t, [], 0⟩) (h : predB ⟨kn, 0, f, t, [], 0⟩ = true) (d k : Nat) :
  ACall Tryd.prog 109 [prAV ⟨kn, 0, f, t, [], 0⟩] k [(d, bitsG)] (.tup [.slice none ((leb kn ++ (leb f ++ leb t)).map byteAV), .lit (.int .i64 0)]) [] := by
 have c1 := predValid_spec _ hp0 d
 rw [h] at c1
 have c2 := numbers_spec [kn] [] (by simp) (by simp) (by simp; omega) (leb kn) (by simp)
 have hl := leb_len kn 7 (by omega)
 have c3 := numbers_spec [f, t] (leb kn) (by simp) (by simp; omega) (by simp; omega) (leb kn ++ (leb f ++ leb t)) (by simp)
 simp only [List.map_nil] at c2 c3
 generalize leb kn ++ (leb f ++ leb t) = R at *
 generalize leb kn = L at *
 simp only [prAV] at *
 rcases hk with rfl | rfl
 ·refine Bd Tryd.func109 Tryd.ntmps109 fun σ N hp hpn hk hkn hfree => ?_
  obtain ⟨hd, hdn⟩ := HD0 hp hpn; clear hp hpn
  have hcs := And.intro c1 (And.intro c2 (And.intro c3 True.intro))
  clear c1 c2 c3
  exact WL
 ·refine Bd Tryd.func109 Tryd.ntmps109 fun σ N hp hpn hk hkn hfree => ?_
  obtain ⟨hd, hdn⟩ := HD0 hp hpn; clear hp hpn
  have hcs := And.intro c1 (And.intro c2 (And.intro c3 True.intro))
  clear c1 c2 c3
  exact WL
theorem nameB_len {n : List UInt8} (h : nameB n = true) : 1 ≤ n.length ∧ n.length ≤ 16 := by
 unfold nameB at h
 simp only [Bool.and_eq_true, decide_eq_true_eq] at h
 exact h.1
set_option maxHeartbeats 4000000 in
theorem Enc_holder (n : List UInt8) (hn : nameB n = true) (hp0 : PrOk ⟨6, 0, 0, 0, n, 0⟩) (h : predB ⟨6, 0, 0, 0, n, 0⟩ = true) (d k : Nat) :
  ACall Tryd.prog 109 [prAV ⟨6, 0, 0, 0, n, 0⟩] k [(d, bitsG)] (.tup [.slice none ((leb 6 ++ fieldB n).map byteAV), .lit (.int .i64 0)]) [] := by
 have c1 := predValid_spec _ hp0 d
 rw [h] at c1
 have hnl := nameB_len hn
 have c2 := numbers_spec [6] [] (by simp) (by simp) (by simp) (leb 6) (by simp)
 have hl := leb_len 6 7 (by omega)
 have c3 := field_ok_f (leb 6) n (by omega) (by omega)
 simp only [List.map_nil] at c2 c3
 generalize leb 6 ++ fieldB n = R at *
 generalize leb 6 = L at *
 simp only [prAV] at *
 refine Bd Tryd.func109 Tryd.ntmps109 fun σ N hp hpn hk hkn hfree => ?_
 obtain ⟨hd, hdn⟩ := HD0 hp hpn; clear hp hpn
 have hcs := And.intro c1 (And.intro c2 (And.intro c3 True.intro))
 clear c1 c2 c3
 exact WL
set_option maxHeartbeats 4000000 in
theorem Enc_rides (x : Nat) (hx : x ≤ 1000000) (hp0 : PrOk ⟨7, 0, 0, 0, [], x⟩) (h : predB ⟨7, 0, 0, 0, [], x⟩ = true) (d k : Nat) :
  ACall Tryd.prog 109 [prAV ⟨7, 0, 0, 0, [], x⟩] k [(d, bitsG)] (.tup [.slice none ((leb 7 ++ leb x).map byteAV), .lit (.int .i64 0)]) [] := by
 have c1 := predValid_spec _ hp0 d
 rw [h] at c1
 have c2 := numbers_spec [7] [] (by simp) (by simp) (by simp) (leb 7) (by simp)
 have hl := leb_len 7 7 (by omega)
 have c3 := numbers_spec [x] (leb 7) (by simp) (by simp; omega) (by simp; omega) (leb 7 ++ leb x) (by simp)
 simp only [List.map_nil] at c2 c3
 generalize leb 7 ++ leb x = R at *
 generalize leb 7 = L at *
 simp only [prAV] at *
 refine Bd Tryd.func109 Tryd.ntmps109 fun σ N hp hpn hk hkn hfree => ?_
 obtain ⟨hd, hdn⟩ := HD0 hp hpn; clear hp hpn
 have hcs := And.intro c1 (And.intro c2 (And.intro c3 True.intro))
 clear c1 c2 c3
 exact WL
theorem encP_mask {kn : Nat} {m : Int} (hk : kn = 1 ∨ kn = 2 ∨ kn = 3) : encP ⟨kn, m, 0, 0, [], 0⟩ = leb kn ++ eightB m := by
 unfold encP
 simp only
 rw [if_neg (by omega), if_neg (by omega), if_neg (by omega)]
 rfl
theorem encP_span {kn f t : Nat} (hk : kn = 4 ∨ kn = 5) : encP ⟨kn, 0, f, t, [], 0⟩ = leb kn ++ (leb f ++ leb t) := by
 unfold encP
 simp only
 rw [if_pos (by omega)]
 rfl
theorem encP_holder (n : List UInt8) : encP ⟨6, 0, 0, 0, n, 0⟩ = leb 6 ++ fieldB n := rfl
theorem encP_rides (x : Nat) : encP ⟨7, 0, 0, 0, [], x⟩ = leb 7 ++ leb x := rfl
theorem Enc_spec (p : Pr) (hp0 : PrOk p) (h : predB p = true) (d k : Nat) :
  ACall Tryd.prog 109 [prAV p] k [(d, bitsG)] (.tup [.slice none ((encP p).map byteAV), .lit (.int .i64 0)]) [] := by
 cases PV.of h with
 | mask kn m hk hm => rw [encP_mask (by omega)]; exact Enc_mask kn m (by omega) hp0 h d k
 | span kn f t hk => rw [encP_span (by omega)]; exact Enc_span kn f t (by omega) (by omega) (by omega) hp0 h d k
 | holder n hn => exact Enc_holder n hn hp0 h d k
 | rides x hx => exact Enc_rides x hx hp0 h d k

def encC (c : Ca) : List UInt8 := if c.third = false then 1 :: encP c.first else 2 :: (leb c.party.toNat ++ (fieldB c.ticket ++ fieldB c.box))
inductive CV : Ca → Prop where
 | first (p : Pr) (hp : predB p = true) : CV ⟨false, p, 0, [], []⟩
 | third (n : Nat) (hn : n ≤ 7) (t b : List UInt8) (ht : 1 ≤ t.length ∧ t.length ≤ 1024) (hb : 1 ≤ b.length ∧ b.length ≤ 1024) : CV ⟨true, zeroPr, n, t, b⟩
theorem sizedB_iff {b : List UInt8} : sizedB b = true ↔ 1 ≤ b.length ∧ b.length ≤ 1024 := by unfold sizedB; simp
theorem CV.of {c : Ca} (h : cavB c = true) : CV c := by
 obtain ⟨th, p, n, t, b⟩ := c
 unfold cavB at h
 simp only at h
 split at h
 ·rename_i e; subst e
  simp only [Bool.and_eq_true, decide_eq_true_eq, List.length_eq_zero_iff] at h
  obtain ⟨h1, h2, h3, h4⟩ := h
  subst h2 h3 h4
  exact .first p h1
 ·rename_i e
  obtain rfl : th = true := by cases th <;> simp_all
  simp only [Bool.and_eq_true, decide_eq_true_eq, sizedB_iff] at h
  obtain ⟨h1, h2, h3, h4, h5⟩ := h
  subst h1
  obtain ⟨m, rfl⟩ := Int.eq_ofNat_of_zero_le h2
  exact .third m (by omega) t b h4 h5
theorem CV.ok {c : Ca} (h : CV c) : cavB c = true := by
 cases h with
 | first p hp => simp [cavB, hp]
 | third n hn t b ht hb =>
  simp [cavB, sizedB_iff.2 ht, sizedB_iff.2 hb]
  omega
theorem encP_len (p : Pr) (h : predB p = true) : 1 ≤ (encP p).length ∧ (encP p).length ≤ 40 := by
 cases PV.of h with
 | mask kn m hk hm =>
  rw [encP_mask (by omega), List.length_append, eightB_len]
  have := leb_len kn 1 (by omega)
  omega
 | span kn f t hk =>
  rw [encP_span (by omega), List.length_append, List.length_append]
  have := leb_len kn 1 (by omega)
  have := leb_len f 5 (by omega)
  have := leb_len t 5 (by omega)
  have := leb_pos kn
  omega
 | holder n hn =>
  have := leb_len n.length 1 (by have := nameB_len hn; omega)
  have := leb_len 6 1 (by omega)
  have := nameB_len hn
  have := leb_pos 6
  rw [encP_holder, List.length_append, fieldB, List.length_append]
  omega
 | rides x hx =>
  have := leb_len x 5 (by omega)
  have := leb_len 7 1 (by omega)
  have := leb_pos 7
  rw [encP_rides, List.length_append]
  omega
theorem encC_len (c : Ca) (h : cavB c = true) : 1 ≤ (encC c).length ∧ (encC c).length ≤ 3000 := by
 cases CV.of h with
 | first p hp =>
  have := encP_len p hp
  simp only [encC, if_true, List.length_cons]
  omega
 | third n hn t b ht hb =>
  have := leb_len n 7 (by omega)
  have := leb_len t.length 7 (by omega)
  have := leb_len b.length 7 (by omega)
  simp only [encC, Bool.true_eq_false, if_false, List.length_cons, List.length_append, fieldB, Int.toNat_natCast]
  omega
theorem cEnc_bad (c : Ca) (hp0 : PrOk c.first) (h : cavB c = false) (d k : Nat) :
  ACall Tryd.prog 85 [caAV c] k [(d, bitsG)] (.tup [.nils, .lit (.int .i64 5)]) [] := by
 have c1 := cavValid_spec c hp0 d
 rw [h] at c1
 refine Bd Tryd.func85 Tryd.ntmps85 fun σ N hp hpn hk hkn hfree => ?_
 obtain ⟨hd, hdn⟩ := HD0 hp hpn; clear hp hpn
 have hcs := And.intro c1 True.intro
 clear c1
 exact W0
theorem cEnc_first (p : Pr) (hp0 : PrOk p) (h : predB p = true) (d k : Nat) :
  ACall Tryd.prog 85 [caAV ⟨false, p, 0, [], []⟩] k [(d, bitsG)] (.tup [.slice none ((1 :: encP p).map byteAV), .lit (.int .i64 0)]) [] := by
 have c1 := cavValid_spec ⟨false, p, 0, [], []⟩ hp0 d
 rw [(CV.first p h).ok] at c1
 have c2 := Enc_spec p hp0 h d
 have hl := encP_len p h
 generalize encP p = R at *
 have hb1 : byteAV 1 = .lit (.int .u8 1) := rfl
 refine Bd Tryd.func85 Tryd.ntmps85 fun σ N hp hpn hk hkn hfree => ?_
 obtain ⟨hd, hdn⟩ := HD0 hp hpn; clear hp hpn
 have hcs := And.intro c1 (And.intro c2 True.intro)
 clear c1 c2
 exact WL
theorem zeroPr_ok : PrOk zeroPr := ⟨by decide, by decide, by decide⟩
set_option maxHeartbeats 4000000 in
theorem cEnc_third (n : Nat) (hn : n ≤ 7) (t b : List UInt8) (ht : 1 ≤ t.length ∧ t.length ≤ 1024) (hb : 1 ≤ b.length ∧ b.length ≤ 1024) (d k : Nat) :
  ACall Tryd.prog 85 [caAV ⟨true, zeroPr, n, t, b⟩] k [(d, bitsG)] (.tup [.slice none ((2 :: (leb n ++ (fieldB t ++ fieldB b))).map byteAV), .lit (.int .i64 0)]) [] := by
 have c1 := cavValid_spec ⟨true, zeroPr, n, t, b⟩ zeroPr_ok d
 rw [(CV.third n hn t b ht hb).ok] at c1
 have hl := leb_len n 7 (by omega)
 have hl1 := leb_len t.length 7 (by omega)
 have hl2 := leb_len b.length 7 (by omega)
 have hf1 : (fieldB t).length ≤ 2000 := by simp only [fieldB, List.length_append]; omega
 have c2 := Append_ok [2] (by simp) n (by omega)
 have c3 := field_ok ([2] ++ leb n) t (by simp; omega) ht.2
 have c4 := field_ok ([2] ++ leb n ++ fieldB t) b (by simp; omega) hb.2
 have hR : 2 :: (leb n ++ (fieldB t ++ fieldB b)) = [2] ++ leb n ++ fieldB t ++ fieldB b := by simp
 have h2l : [(2 : UInt8)].length + (leb n).length = ([2] ++ leb n).length := by simp; omega
 rw [hR]
 rw [h2l] at c2
 clear hR h2l
 generalize [2] ++ leb n ++ fieldB t ++ fieldB b = R3 at *
 generalize [2] ++ leb n ++ fieldB t = R2 at *
 generalize [2] ++ leb n = R1 at *
 have hb1 : byteAV 2 = .lit (.int .u8 2) := rfl
 simp only [caAV, List.map_cons, List.map_nil, hb1] at *
 refine Bd Tryd.func85 Tryd.ntmps85 fun σ N hp hpn hk hkn hfree => ?_
 obtain ⟨hd, hdn⟩ := HD0 hp hpn; clear hp hpn
 have hcs := And.intro c1 (And.intro c2 True.intro)
 clear c1 c2
 refine Wk ?_
 refine go_loopB (N + 1) mixed (by kernel_rfl) [6, 7, 9, 38, 39, 40, 41, 42, 43, 44, 45, 46, 47, 48, 49] [] (fun m_ s_ σ_ n_ => ∃ (u : Nat) (q : Nat) (acc : List UInt8), m_ = 2 - u ∧ s_ 38 = .lit (.int .i64 u) ∧ s_ 6 = .slice (some q) (acc.map byteAV) ∧ s_ 7 = .lit (.int .i64 0) ∧ σ_ (q) = .row 5 1 acc.length ∧ (u = 0 ∧ acc = R1 ∨ u = 1 ∧ acc = R2 ∨ u = 2 ∧ acc = R3) ∧ (N + 1 ≤ q) ∧ (q < n_)) ⟨_, 0, _, R1, rfl, WF, WF, WF, WF, WC, WC, WC⟩ ?_
 intro m_1 s_1 σ_1 n_1 hs_1 hf_1 hn_1 hI_1
 obtain ⟨u, q, acc, hm_1, h1_38, h1_6, h1_7, e1_0, hu, hq, hqn⟩ := hI_1
 have h1_2 := KS hs_1 2
 have h1_3 := KS hs_1 3
 have h1_37 := KS hs_1 37
 have k1_0 := KE hf_1 (N)
 have hlow := KL (N := N) (σ := σ) hf_1
 rcases hu with ⟨rfl, rfl⟩ | ⟨rfl, rfl⟩ | ⟨rfl, rfl⟩
 ·have hcs := And.intro c3 True.intro
  clear c3 c4
  refine Wk ?_
  exact ⟨WS, WG, WN, _, (show 2 - (1) < m_1 by omega), 1, _, R2, rfl, WF, WF, WF, WF, WC, WC, WC⟩
 ·have hcs := And.intro c4 True.intro
  clear c3 c4
  refine Wk ?_
  exact ⟨WS, WG, WN, _, (show 2 - (2) < m_1 by omega), 2, _, R3, rfl, WF, WF, WF, WF, WC, WC, WC⟩
 ·clear c3 c4
  exact WL
theorem cEnc_ok (c : Ca) (hp0 : PrOk c.first) (h : cavB c = true) (d k : Nat) :
  ACall Tryd.prog 85 [caAV c] k [(d, bitsG)] (.tup [.slice none ((encC c).map byteAV), .lit (.int .i64 0)]) [] := by
 cases CV.of h with
 | first p hp => exact cEnc_first p hp0 hp d k
 | third n hn t b ht hb => exact cEnc_third n hn t b ht hb d k
def encS (c : Ca) : List UInt8 × Nat := if cavB c = true then (encC c, 0) else ([], 5)
def encAV (x : List UInt8 × Nat) : AV := .tup [.slice none (x.1.map byteAV), .lit (.int .i64 x.2)]
theorem cEnc_spec (c : Ca) (hp0 : PrOk c.first) (d k : Nat) : ACall Tryd.prog 85 [caAV c] k [(d, bitsG)] (encAV (encS c)) [] := by
 unfold encS
 split
 ·rename_i h; exact cEnc_ok c hp0 h d k
 ·rename_i h
  exact (cEnc_bad c hp0 (by simpa using h) d k).result (AV.sub_tup (.cons AV.le_nils0 (.cons (AV.le_refl _) .nil)))
theorem encS_len (c : Ca) : (encS c).1.length ≤ 3000 := by
 unfold encS
 split
 ·rename_i h; exact (encC_len c h).2
 ·simp
end Go.Proofs.YtdmjpolnbmoehaaDoor

namespace Go.Proofs.YtdmjpolnbmoehaaDoor
open Go.Ab
attribute [local irreducible] Go.Ab.tyAV Go.Ab.aw Go.Ab.aops Go.Ab.kReg Go.Ab.aThen Go.Ab.aBlk Go.Ab.acond Go.Ab.aguard Go.Ab.astep Go.Ab.AStepX Go.Ab.aRet
attribute [local irreducible] shaG
def mintM (n : Nat) : List UInt8 := [109, 105, 110, 116] ++ leb n
theorem mintM_len (n : Nat) (h : n ≤ 281474976710656) : (mintM n).length ≤ 12 := by
 have := leb_len n 7 (by omega)
 simp [mintM]; omega
def cavM (c : Ca) : List UInt8 := [99, 97, 118, 101, 97, 116] ++ (encS c).1
theorem cavM_len (c : Ca) : (cavM c).length ≤ 3006 := by
 have := encS_len c
 simp [cavM]; omega
def nodeB : List UInt8 := [110, 111, 100, 101]
theorem refmint_spec (n : Nat) (h : n ≤ 281474976710656) (k : Nat) :
  ACall Tryd.prog 46 [.lit (.int .i64 n)] k [] (.slice none ((mintM n).map byteAV)) [] := by
 have c1 := fun k => Number_spec_f n k (by omega)
 have hl := leb_len n 7 (by omega)
 have c2 := Word_spec [109, 105, 110, 116] (leb n) (by decide) (by omega)
 unfold mintM
 generalize leb n = lb at *
 obtain ⟨M, hM⟩ : ∃ M, [109, 105, 110, 116] ++ lb = M := ⟨_, rfl⟩
 rw [hM] at c2 ⊢
 clear hM
 refine Bd Tryd.func46 Tryd.ntmps46 fun σ N hp hpn hk hkn hfree => ?_
 have hcs := And.intro c1 (And.intro c2 True.intro)
 clear c1 c2
 exact W0
section
variable [W : W32]
def nodeS (a : Alg) (key : Tg) (msg : List UInt8) : Alg × Tg × Nat :=
 if (macS a key msg).2.2 = 0 then
  if (macS (macS a key msg).1 (macS a key msg).2.1 nodeB).2.2 = 0 then ((macS (macS a key msg).1 (macS a key msg).2.1 nodeB).1, (macS a key msg).2.1, 0) else (alg0, zeroTag, (macS (macS a key msg).1 (macS a key msg).2.1 nodeB).2.2)
 else (alg0, zeroTag, (macS a key msg).2.2)
theorem nodeS_1 {a : Alg} {key : Tg} {msg : List UInt8} (h : (macS a key msg).2.2 ≠ 0) : nodeS a key msg = (alg0, zeroTag, (macS a key msg).2.2) := by
 unfold nodeS; rw [if_neg h]
theorem nodeS_2 {a : Alg} {key : Tg} {msg : List UInt8} (h : (macS a key msg).2.2 = 0) (h' : (macS (macS a key msg).1 (macS a key msg).2.1 nodeB).2.2 ≠ 0) : nodeS a key msg = (alg0, zeroTag, (macS (macS a key msg).1 (macS a key msg).2.1 nodeB).2.2) := by
 unfold nodeS; rw [if_pos h, if_neg h']
theorem nodeS_3 {a : Alg} {key : Tg} {msg : List UInt8} (h : (macS a key msg).2.2 = 0) (h' : (macS (macS a key msg).1 (macS a key msg).2.1 nodeB).2.2 = 0) : nodeS a key msg = ((macS (macS a key msg).1 (macS a key msg).2.1 nodeB).1, (macS a key msg).2.1, 0) := by
 unfold nodeS; rw [if_pos h, if_pos h']
theorem nodeS_in {a : Alg} {m : Nat} (h : AlgIn a m) (key : Tg) (msg : List UInt8) : AlgIn (nodeS a key msg).1 (m + 2) := by
 unfold nodeS
 split
 ·split
  ·exact macS_in (macS_in h _ _) _ _
  ·exact alg0_in _
 ·exact alg0_in _
theorem refnode_spec (a : Alg) (m : Nat) (ha : AlgIn a m) (hm : m ≤ 900000) (key : Tg) (msg : List UInt8) (k : Nat) :
  ACall Tryd.prog 45 [algAV a, tagAV key, .slice none (msg.map byteAV)] k [] (mkAV (nodeS a key msg)) [] := by
 have c1 := Mac_spec a key msg (by have := ha.ml; omega) ha.mm
 have hin := macS_in ha key msg
 have n1 := nodeS_1 (a := a) (key := key) (msg := msg)
 have n2 := nodeS_2 (a := a) (key := key) (msg := msg)
 have n3 := nodeS_3 (a := a) (key := key) (msg := msg)
 generalize nodeS a key msg = R at *
 generalize macS a key msg = X at *
 obtain ⟨a1, t1, e1'⟩ := X
 simp only at c1 hin n1 n2 n3
 unfold mkAV at c1
 simp only at c1
 by_cases h1 : e1' = 0
 ·subst h1
  have c2 := Mac_spec a1 t1 nodeB (by have := hin.ml; omega) hin.mm
  generalize macS a1 t1 nodeB = Y at *
  obtain ⟨a2, t2, e2'⟩ := Y
  simp only at c2 n2 n3
  unfold mkAV at c2 ⊢
  have h110 : byteAV 110 = .lit (.int .u8 110) := rfl
  have h111 : byteAV 111 = .lit (.int .u8 111) := rfl
  have h100 : byteAV 100 = .lit (.int .u8 100) := rfl
  have h101 : byteAV 101 = .lit (.int .u8 101) := rfl
  simp only [nodeB, List.map_cons, List.map_nil, h110, h111, h100, h101] at c2
  clear h110 h111 h100 h101 n1 ha hin
  by_cases h2 : e2' = 0
  ·subst h2
   obtain rfl := n3 trivial rfl
   clear n2 n3
   simp only
   refine Bd Tryd.func45 Tryd.ntmps45 fun σ N hp hpn hk hkn hfree => ?_
   have M : Mut (N + 19 + 2) := ⟨⟩
   have hcs := And.intro c1 (And.intro c2 True.intro)
   clear c1 c2
   exact WT
  ·obtain rfl := n2 trivial h2
   clear n2 n3
   have h2i : ((e2' : Int) != 0) = true := by simp; omega
   simp only [alg0_eq]
   refine Bd Tryd.func45 Tryd.ntmps45 fun σ N hp hpn hk hkn hfree => ?_
   have M : Mut (N + 19 + 2) := ⟨⟩
   have hcs := And.intro c1 (And.intro c2 True.intro)
   clear c1 c2
   exact WT
 ·obtain rfl := n1 h1
  have h1i : ((e1' : Int) != 0) = true := by simp; omega
  clear n1 n2 n3 ha hin
  unfold mkAV
  simp only [alg0_eq]
  refine Bd Tryd.func45 Tryd.ntmps45 fun σ N hp hpn hk hkn hfree => ?_
  have hcs := And.intro c1 True.intro
  clear c1
  exact WT
def mintS (a : Alg) (num : Int) (key : Tg) (ser : Int) : Alg × Pa × Nat :=
 if num < 1 ∨ 1000 < num ∨ ser < 1 ∨ 1073741824 < ser then (alg0, pa0, 1) else
 if (nodeS a key (mintM ser.toNat)).2.2 = 0 then ((nodeS a key (mintM ser.toNat)).1, ⟨num, ser, [], (nodeS a key (mintM ser.toNat)).2.1⟩, 0) else (alg0, pa0, (nodeS a key (mintM ser.toNat)).2.2)
def mpAV (r : Alg × Pa × Nat) : AV := .tup [algAV r.1, paAV r.2.1, .lit (.int .i64 (r.2.2 : Nat))]
theorem refmint_err (a : Alg) (num ser : Int) (key : Tg) (h : num < 1 ∨ 1000 < num ∨ ser < 1 ∨ 1073741824 < ser) (k : Nat) :
  ACall Tryd.prog 12 [algAV a, .agg [.lit (.int .i64 num), tagAV key], .lit (.int .i64 ser)] k [] (mpAV (mintS a num key ser)) [] := by
 unfold mintS
 rw [if_pos h]
 unfold mpAV paAV pa0
 simp only [alg0_eq, List.map_nil]
 by_cases h1 : num < 1
 ·refine Bd Tryd.func12 Tryd.ntmps12 fun σ N hp hpn hk hkn hfree => ?_
  refine Wk ?_
  exact WD
 ·by_cases h2 : 1000 < num
  ·refine Bd Tryd.func12 Tryd.ntmps12 fun σ N hp hpn hk hkn hfree => ?_
   refine Wk ?_
   exact WD
  ·by_cases h3 : ser < 1
   ·refine Bd Tryd.func12 Tryd.ntmps12 fun σ N hp hpn hk hkn hfree => ?_
    refine Wk ?_
    exact WD
   ·have h4 : 1073741824 < ser := by omega
    refine Bd Tryd.func12 Tryd.ntmps12 fun σ N hp hpn hk hkn hfree => ?_
    refine Wk ?_
    exact WD
theorem refMint_spec (a : Alg) (m : Nat) (ha : AlgIn a m) (hm : m ≤ 900000) (num ser : Int) (key : Tg) (k : Nat) :
  ACall Tryd.prog 12 [algAV a, .agg [.lit (.int .i64 num), tagAV key], .lit (.int .i64 ser)] k [] (mpAV (mintS a num key ser)) [] := by
 by_cases h : num < 1 ∨ 1000 < num ∨ ser < 1 ∨ 1073741824 < ser
 ·exact refmint_err a num ser key h k
 ·unfold mintS
  rw [if_neg h]
  have h1 : ¬ num < 1 := by omega
  have h2 : ¬ 1000 < num := by omega
  have h3 : ¬ ser < 1 := by omega
  have h4 : ¬ 1073741824 < ser := by omega
  obtain ⟨n, rfl⟩ := Int.eq_ofNat_of_zero_le (show 0 ≤ ser by omega)
  have c1 := refmint_spec n (by omega)
  rw [Int.toNat_natCast]
  have c2 := refnode_spec a m ha hm key (mintM n)
  generalize nodeS a key (mintM n) = X at *
  obtain ⟨a1, t1, e1'⟩ := X
  generalize mintM n = M at *
  simp only at c2 ⊢
  unfold mkAV at c2
  clear ha h
  by_cases he : e1' = 0
  ·subst he
   rw [if_pos rfl]
   unfold mpAV paAV
   simp only [List.map_nil]
   refine Bd Tryd.func12 Tryd.ntmps12 fun σ N hp hpn hk hkn hfree => ?_
   have hcs := And.intro c1 (And.intro c2 True.intro)
   clear c1 c2
   refine Wk ?_
   exact WD
  ·rw [if_neg he]
   have h1i : ((e1' : Int) != 0) = true := by simp; omega
   unfold mpAV paAV pa0
   simp only [alg0_eq, List.map_nil]
   refine Bd Tryd.func12 Tryd.ntmps12 fun σ N hp hpn hk hkn hfree => ?_
   have hcs := And.intro c1 (And.intro c2 True.intro)
   clear c1 c2
   refine Wk ?_
   exact WD
theorem mintS_in {a : Alg} {m : Nat} (h : AlgIn a m) (num : Int) (key : Tg) (ser : Int) : AlgIn (mintS a num key ser).1 (m + 2) := by
 unfold mintS
 split
 ·exact alg0_in _
 ·split
  ·exact nodeS_in h _ _
  ·exact alg0_in _
end

theorem makB_def (a : Alg) (e r1 r2 : Nat) : makB a e r1 r2 = .box 140 (.agg [.agg [.lit (.bool a.free), tagAV a.seed, .lit (.int .i64 a.fresh), .slice (some r1) (a.macs.map macAV), .slice (some r2) (a.boxes.map sealAV)], .lit (.int .i64 (e : Int))]) := rfl
@[simp, go_sem] theorem makB_ne (a : Alg) (e r1 r2 : Nat) : (makB a e r1 r2 = .none) = False := by simp [makB]
@[simp, go_sem] theorem rowM_ne (n : Nat) : (rowM n = .none) = False := by simp [rowM]
@[simp, go_sem] theorem rowB_ne (n : Nat) : (rowB n = .none) = False := by simp [rowB]
theorem Message_spec (s b : List UInt8) (hs : s.length ≤ 100000) (hb : b.length ≤ 1000000) (k : Nat) :
  ACall Tryd.prog 76 [.lit (.string ⟨s.toArray⟩), .slice none (b.map byteAV)] k [] (.slice none ((s ++ b).map byteAV)) [] := by
 refine Bd Tryd.func76 Tryd.ntmps76 fun σ N hp hpn hk hkn hfree => ?_
 exact WM
theorem mint_spec (n : Nat) (h : n ≤ 281474976710656) (k : Nat) :
  ACall Tryd.prog 43 [.lit (.int .i64 n)] k [] (.slice none ((mintM n).map byteAV)) [] := by
 have c1 := Append_ok_f [] (by simp) n h
 have hl := leb_len n 7 (by omega)
 have c2 := Message_spec [109, 105, 110, 116] (leb n) (by decide) (by omega)
 unfold mintM
 simp only [List.map_nil, List.nil_append] at c1
 generalize leb n = lb at *
 obtain ⟨M, hM⟩ : ∃ M, [109, 105, 110, 116] ++ lb = M := ⟨_, rfl⟩
 rw [hM] at c2 ⊢
 clear hM
 refine Bd Tryd.func43 Tryd.ntmps43 fun σ N hp hpn hk hkn hfree => ?_
 have hcs := And.intro c1 (And.intro c2 True.intro)
 clear c1 c2
 exact W0
section
variable [W : W32]
def mNode (a : Alg) (e : Nat) (key : Tg) (msg : List UInt8) : Alg × Nat × Tg :=
 ((mMac (mMac a e key msg).1 (mMac a e key msg).2.1 (mMac a e key msg).2.2 nodeB).1, (mMac (mMac a e key msg).1 (mMac a e key msg).2.1 (mMac a e key msg).2.2 nodeB).2.1, (mMac a e key msg).2.2)
theorem mMac_in {a : Alg} {m : Nat} (h : AlgIn a m) (e : Nat) (key : Tg) (msg : List UInt8) : AlgIn (mMac a e key msg).1 (m + 1) := by
 unfold mMac
 split
 ·exact h.more (Nat.le_succ _)
 ·split
  ·exact macS_in h _ _
  ·exact h.more (Nat.le_succ _)
theorem macS_boxes (a : Alg) (key : Tg) (msg : List UInt8) (h : (macS a key msg).2.2 = 0) : (macS a key msg).1.boxes = a.boxes ∧ (macS a key msg).1.free = a.free := by
 by_cases h1 : 4096 < msg.length
 ·rw [macS_long h1] at h; cases h
 ·cases he : entL key msg a.macs with
  | some t => rw [macS_found h1 he]; exact ⟨rfl, rfl⟩
  | none =>
   by_cases hf : 65536 ≤ a.macs.length
   ·rw [macS_full h1 he hf] at h; cases h
   ·rw [macS_new h1 he hf]; exact ⟨rfl, rfl⟩
theorem mMac_boxes (a : Alg) (e : Nat) (key : Tg) (msg : List UInt8) : (mMac a e key msg).1.boxes = a.boxes := by
 unfold mMac
 split
 ·rfl
 ·split
  ·rename_i h; exact (macS_boxes a key msg h).1
  ·rfl
theorem mNode_boxes (a : Alg) (e : Nat) (key : Tg) (msg : List UInt8) : (mNode a e key msg).1.boxes = a.boxes := (mMac_boxes _ _ _ _).trans (mMac_boxes _ _ _ _)
theorem mNode_spec (a : Alg) (m : Nat) (ha : AlgIn a m) (hm : m ≤ 900000) (e : Nat) (key : Tg) (msg : List UInt8) (h0 : e = 0 → 0 < msg.length) (hmsg : msg.length ≤ 100000) (d r1 r2 g k : Nat) :
  ACall Tryd.prog 42 [.ptr d [] 0, tagAV key, .slice none (msg.map byteAV)] k (makE a e d r1 r2 ++ [(g, shaG)]) (tagAV (mNode a e key msg).2.2) [(d, makB (mNode a e key msg).1 (mNode a e key msg).2.1 r1 r2), (r1, rowM (mNode a e key msg).1.macs.length)] := by
 unfold mNode
 have c1 := mMac_spec a e key msg (by have := ha.ml; omega) ha.mm h0 hmsg d r1 r2 g
 have hb := mMac_boxes a e key msg
 have hin := mMac_in ha e key msg
 generalize mMac a e key msg = X at *
 obtain ⟨a1, e1', t1⟩ := X
 simp only at c1 hb hin ⊢
 have c2 := mMac_spec a1 e1' t1 nodeB (by have := hin.ml; omega) hin.mm (fun _ => by decide) (by decide) d r1 r2 g
 generalize mMac a1 e1' t1 nodeB = Y at *
 obtain ⟨a2, e2', t2⟩ := Y
 simp only at c2 ⊢
 have h110 : byteAV 110 = .lit (.int .u8 110) := rfl
 have h111 : byteAV 111 = .lit (.int .u8 111) := rfl
 have h100 : byteAV 100 = .lit (.int .u8 100) := rfl
 have h101 : byteAV 101 = .lit (.int .u8 101) := rfl
 unfold makE at *
 simp only [nodeB, List.map_cons, List.map_nil, h110, h111, h100, h101, hb] at c2
 clear h110 h111 h100 h101 hb hin ha
 simp only [List.cons_append, List.nil_append] at *
 simp only [makB_def, rowM_eq, rowB_eq] at *
 refine Bd Tryd.func42 Tryd.ntmps42 fun σ N hp hpn hk hkn hfree => ?_
 have M : Mut (N + 8 + 2) := ⟨⟩
 simp only [List.mem_cons, List.not_mem_nil, or_false, forall_eq_or_imp, forall_eq] at hp hpn; obtain ⟨hd1, hd2, hd3, hd4⟩ := hp; obtain ⟨hdn1, hdn2, hdn3, hdn4⟩ := hpn
 have hne : d ≠ r1 := by rintro rfl; rw [hd1] at hd2; cases hd2
 have hne3 : d ≠ r2 := by rintro rfl; rw [hd1] at hd3; cases hd3
 have hneg : g ≠ d := by rintro rfl; rw [hd4] at hd1; exact shaG_nbox hd1
 have hneg1 : g ≠ r1 := by rintro rfl; rw [hd4] at hd2; exact shaG_nrow hd2
 have hne23 : r1 ≠ r2 := by rintro rfl; rw [hd2] at hd3; simp at hd3
 have hcs := And.intro c1 (And.intro c2 True.intro)
 clear c1 c2
 refine Wk ?_
 refine go_resultW [(d, (.box 140 (.agg [.agg [.lit (.bool a2.free), tagAV a2.seed, .lit (.int .i64 a2.fresh), .slice (some r1) (a2.macs.map macAV), .slice (some r2) (a2.boxes.map sealAV)], .lit (.int .i64 (e2' : Int))]))), (r1, (.row 102 65 a2.macs.length))] (by simp (disch := omega) [go_sem, *, -List.reduceReplicate]; rfl) (by first | rfl | (simp (disch := omega) [go_sem]; done) | (simp (disch := omega) [go_sem, *]; done) | simp (disch := omega) [go_sem]) (fun id hid => by simp only [wr_cons, wr_nil]; (by_cases hdd : id = d; (· (subst hdd; simp (disch := omega) [go_sem, *])); (· (by_cases hdd2 : id = r1; (· (subst hdd2; simp (disch := omega) [go_sem, *])); (· (simp (disch := omega) only [upd_ne]; try (first | exact hlow id hid hdd hdd2 | exact hlow id hid))))))) (by simp) (by simp (disch := omega) [go_sem, *])
end

section
variable [W : W32]
theorem mNode_node (a : Alg) (key : Tg) (msg : List UInt8) : nodeS a key msg = if (mNode a 0 key msg).2.1 = 0 then ((mNode a 0 key msg).1, (mNode a 0 key msg).2.2, 0) else (alg0, zeroTag, (mNode a 0 key msg).2.1) := by
 by_cases h : (macS a key msg).2.2 = 0
 ·have h1 : mMac a 0 key msg = ((macS a key msg).1, 0, (macS a key msg).2.1) := by unfold mMac; rw [if_neg (by simp), if_pos h]
  by_cases h' : (macS (macS a key msg).1 (macS a key msg).2.1 nodeB).2.2 = 0
  ·have h2 : mNode a 0 key msg = ((macS (macS a key msg).1 (macS a key msg).2.1 nodeB).1, 0, (macS a key msg).2.1) := by unfold mNode; rw [h1]; simp only; unfold mMac; rw [if_neg (by simp), if_pos h']
   rw [nodeS_3 h h', h2]; simp
  ·have h2 : (mNode a 0 key msg).2.1 = (macS (macS a key msg).1 (macS a key msg).2.1 nodeB).2.2 := by unfold mNode; rw [h1]; simp only; unfold mMac; rw [if_neg (by simp), if_neg h']
   rw [nodeS_2 h h', h2, if_neg h']
 ·have h1 : mMac a 0 key msg = (a, (macS a key msg).2.2, zeroTag) := by unfold mMac; rw [if_neg (by simp), if_neg h]
  have h2 : mNode a 0 key msg = (a, (macS a key msg).2.2, zeroTag) := by unfold mNode; rw [h1]; simp only; rw [mMac_err h]
  rw [nodeS_1 h, h2, if_neg h]
omit W in
theorem ranges_ok (x y : Int) (h1 : ¬ x < 1) (h2 : ¬ 1000 < x) (h3 : ¬ y < 1) (h4 : ¬ 1073741824 < y) (k : Nat) :
  ACall Tryd.prog 40 [.lit (.int .i64 x), .lit (.int .i64 y)] k [] (.lit (.bool true)) [] := by
 have g1 : 1 ≤ x := by omega
 have g2 : x ≤ 1000 := by omega
 have g3 : 1 ≤ y := by omega
 have g4 : y ≤ 1073741824 := by omega
 refine Bd Tryd.func40 Tryd.ntmps40 fun σ N hp hpn hk hkn hfree => ?_
 exact W0
omit W in
theorem ranges_no (x y : Int) (h : x < 1 ∨ 1000 < x ∨ y < 1 ∨ 1073741824 < y) (k : Nat) :
  ACall Tryd.prog 40 [.lit (.int .i64 x), .lit (.int .i64 y)] k [] (.lit (.bool false)) [] := by
 by_cases h1 : x < 1
 ·have g1 : ¬ 1 ≤ x := by omega
  refine Bd Tryd.func40 Tryd.ntmps40 fun σ N hp hpn hk hkn hfree => ?_
  exact W0
 ·have g1 : 1 ≤ x := by omega
  by_cases h2 : 1000 < x
  ·have g2 : ¬ x ≤ 1000 := by omega
   refine Bd Tryd.func40 Tryd.ntmps40 fun σ N hp hpn hk hkn hfree => ?_
   exact W0
  ·have g2 : x ≤ 1000 := by omega
   by_cases h3 : y < 1
   ·have g3 : ¬ 1 ≤ y := by omega
    refine Bd Tryd.func40 Tryd.ntmps40 fun σ N hp hpn hk hkn hfree => ?_
    exact W0
   ·have g3 : 1 ≤ y := by omega
    have g4 : ¬ y ≤ 1073741824 := by omega
    refine Bd Tryd.func40 Tryd.ntmps40 fun σ N hp hpn hk hkn hfree => ?_
    exact W0
theorem mint_err (a : Alg) (num ser : Int) (key : Tg) (h : num < 1 ∨ 1000 < num ∨ ser < 1 ∨ 1073741824 < ser) (g k : Nat) :
  ACall Tryd.prog 11 [algAV a, .agg [.lit (.int .i64 num), tagAV key], .lit (.int .i64 ser)] k [(g, shaG)] (mpAV (mintS a num key ser)) [] := by
 unfold mintS
 rw [if_pos h]
 have c1 := ranges_no num ser h
 unfold mpAV paAV pa0
 simp only [alg0_eq, List.map_nil]
 refine Bd Tryd.func11 Tryd.ntmps11 fun σ N hp hpn hk hkn hfree => ?_
 have hcs := And.intro c1 True.intro
 clear c1
 refine Wk ?_
 exact WD
set_option maxHeartbeats 2000000 in
theorem Mint_spec (a : Alg) (m : Nat) (ha : AlgIn a m) (hm : m ≤ 900000) (num ser : Int) (key : Tg) (g k : Nat) :
  ACall Tryd.prog 11 [algAV a, .agg [.lit (.int .i64 num), tagAV key], .lit (.int .i64 ser)] k [(g, shaG)] (mpAV (mintS a num key ser)) [] := by
 by_cases h : num < 1 ∨ 1000 < num ∨ ser < 1 ∨ 1073741824 < ser
 ·exact mint_err a num ser key h g k
 ·unfold mintS
  rw [if_neg h]
  have h1 : ¬ num < 1 := by omega
  have h2 : ¬ 1000 < num := by omega
  have h3 : ¬ ser < 1 := by omega
  have h4 : ¬ 1073741824 < ser := by omega
  have c0 := ranges_ok num ser h1 h2 h3 h4
  obtain ⟨n, rfl⟩ := Int.eq_ofNat_of_zero_le (show 0 ≤ ser by omega)
  have c1 := mint_spec n (by omega)
  rw [Int.toNat_natCast]
  have hML := mintM_len n (by omega)
  have hM0 : 0 < (mintM n).length := by simp [mintM]
  have cb := Begin_spec a (by have := ha.ml; omega) (by have := ha.bl; omega)
  have c2 := fun d r1 r2 => mNode_spec a m ha hm 0 key (mintM n) (fun _ => hM0) (by omega) d r1 r2 g
  have hbx := mNode_boxes a 0 key (mintM n)
  rw [mNode_node]
  generalize mNode a 0 key (mintM n) = X at *
  obtain ⟨a1, e1', t1⟩ := X
  generalize mintM n = M at *
  simp only at c2 hbx ⊢
  unfold makE at c2
  clear ha h hML hM0
  by_cases he : e1' = 0
  ·subst he
   simp only [if_true]
   unfold mpAV paAV
   simp only [List.map_nil]
   have cd := Done_ok a1
   unfold makAV at cb
   unfold makE at cd
   simp only [makB_def, rowM_eq, rowB_eq, List.cons_append, List.nil_append, hbx] at *
   refine Bd Tryd.func11 Tryd.ntmps11 fun σ N hp hpn hk hkn hfree => ?_
   obtain ⟨hd, hdn⟩ := HD0 hp hpn; clear hp hpn
   have hcs := And.intro c0 (And.intro cb True.intro)
   refine Wm ?_
   iterate 3 refine Wz ?_
   clear hcs
   refine go_cliprowIn (N + 10 + 1) [0, 3] 102 65 (bt := 140) (c := .agg [.agg [.lit (.bool a.free), tagAV a.seed, .lit (.int .i64 a.fresh), .clip (a.macs.map macAV), .clip (a.boxes.map sealAV)], .lit (.int .i64 ((0 : Nat) : Int))]) (xs := a.macs.map macAV) (by simp (disch := omega) [go_sem, *, -List.reduceReplicate]) rfl (all_macs1 _) ?_
   refine go_cliprowIn (N + 10 + 1) [0, 4] 105 35 (bt := 140) (c := .agg [.agg [.lit (.bool a.free), tagAV a.seed, .lit (.int .i64 a.fresh), .slice (some (N + 10 + 3)) (a.macs.map macAV), .clip (a.boxes.map sealAV)], .lit (.int .i64 ((0 : Nat) : Int))]) (xs := a.boxes.map sealAV) (by simp (disch := omega) [go_sem, *, -List.reduceReplicate]) rfl (all_boxes1 _) ?_
   have hcs := And.intro c1 (And.intro (c2 (N + 10 + 1) (N + 10 + 3) (N + 10 + 3 + 1)) (And.intro (cd (N + 10 + 1) (N + 10 + 3) (N + 10 + 3 + 1)) True.intro))
   clear c0 cb c1 c2 cd
   refine Wk ?_
   exact WD
  ·simp only [if_neg he]
   unfold mpAV paAV pa0
   simp only [alg0_eq, List.map_nil]
   have h1i : ((e1' : Int) != 0) = true := by simp; omega
   have cd := Done_bad a1 e1' he
   unfold makAV at cb
   unfold makE at cd
   simp only [makB_def, rowM_eq, rowB_eq, List.cons_append, List.nil_append, hbx, alg0_eq] at *
   refine Bd Tryd.func11 Tryd.ntmps11 fun σ N hp hpn hk hkn hfree => ?_
   obtain ⟨hd, hdn⟩ := HD0 hp hpn; clear hp hpn
   have hcs := And.intro c0 (And.intro cb True.intro)
   refine Wm ?_
   iterate 3 refine Wz ?_
   clear hcs
   refine go_cliprowIn (N + 10 + 1) [0, 3] 102 65 (bt := 140) (c := .agg [.agg [.lit (.bool a.free), tagAV a.seed, .lit (.int .i64 a.fresh), .clip (a.macs.map macAV), .clip (a.boxes.map sealAV)], .lit (.int .i64 ((0 : Nat) : Int))]) (xs := a.macs.map macAV) (by simp (disch := omega) [go_sem, *, -List.reduceReplicate]) rfl (all_macs1 _) ?_
   refine go_cliprowIn (N + 10 + 1) [0, 4] 105 35 (bt := 140) (c := .agg [.agg [.lit (.bool a.free), tagAV a.seed, .lit (.int .i64 a.fresh), .slice (some (N + 10 + 3)) (a.macs.map macAV), .clip (a.boxes.map sealAV)], .lit (.int .i64 ((0 : Nat) : Int))]) (xs := a.boxes.map sealAV) (by simp (disch := omega) [go_sem, *, -List.reduceReplicate]) rfl (all_boxes1 _) ?_
   have hcs := And.intro c1 (And.intro (c2 (N + 10 + 1) (N + 10 + 3) (N + 10 + 3 + 1)) (And.intro (cd (N + 10 + 1) (N + 10 + 3) (N + 10 + 3 + 1)) True.intro))
   clear c0 cb c1 c2 cd
   refine Wk ?_
   exact WD
end
end Go.Proofs.YtdmjpolnbmoehaaDoor

namespace Go.Proofs.YtdmjpolnbmoehaaDoor
open Go.Ab
attribute [local irreducible] Go.Ab.tyAV Go.Ab.aw Go.Ab.aops Go.Ab.kReg Go.Ab.aThen Go.Ab.aBlk Go.Ab.acond Go.Ab.aguard Go.Ab.astep Go.Ab.AStepX Go.Ab.aRet
theorem CloneCM_cons (l : List Ca) (he : l.isEmpty = false) (hl : l.length ≤ 100000) (k : Nat) :
  ACall Tryd.prog 118 [.slice none (l.map caAV)] k [] (.ms k 1 10 0 l.length) [(k, .mrow 1 57 10 (l.map caAV))] := by
 have hb : l.length * 120 ≤ 140737488355328 := by omega
 have hb1 : l.length ≤ 140737488355327 := by omega
 refine Bd Tryd.func118 Tryd.ntmps118 fun σ N hp hpn hk hkn hfree => ?_
 have M : Mut (N + 3) := ⟨⟩
 refine Wk ?_
 refine go_result1 (r0 := N+3) (by simp (disch := omega) [go_sem, *, -List.reduceReplicate]; rfl) (by omega) (by simp (disch := omega) [go_sem]; try rfl) (fun id hid => by simp (disch := omega) only [upd_ne]; try exact hlow id hid) (by simp (disch := omega) only [upd_same]; rfl) (by simp (disch := omega) [go_sem])
theorem CloneCM_empty (A : Addr) (c k : Nat) :
  ACall Tryd.prog 118 [.lit (.slice (some A) 0 c)] k [] (.ms k 1 10 0 0) [(k, .mrow 1 57 10 [])] := by
 refine Bd Tryd.func118 Tryd.ntmps118 fun σ N hp hpn hk hkn hfree => ?_
 have M : Mut (N + 3) := ⟨⟩
 refine Wk ?_
 refine go_result1 (r0 := N+3) (by simp (disch := omega) [go_sem, *, -List.reduceReplicate]; rfl) (by omega) (by simp (disch := omega) [go_sem]; try rfl) (fun id hid => by simp (disch := omega) only [upd_ne]; try exact hlow id hid) (by simp (disch := omega) only [upd_same]; rfl) (by simp (disch := omega) [go_sem])
theorem CloneC_nil (c k : Nat) : ACall Tryd.prog 118 [.lit (.slice none 0 c)] k [] .nils [] := by
 refine Bd Tryd.func118 Tryd.ntmps118 fun σ N hp hpn hk hkn hfree => ?_
 exact W0
theorem CloneCM_spec (l : List Ca) (hl : l.length ≤ 100000) (k : Nat) :
  ACall Tryd.prog 118 [.slice none (l.map caAV)] k [] (.ms k 1 10 0 l.length) [(k, .mrow 1 57 10 (l.map caAV))] := by
 cases l with
 | cons x r => exact CloneCM_cons (x :: r) rfl hl k
 | nil =>
  refine ACall.empty fun A c => ?_
  cases A with
  | none => exact ACall.nilM (by decide) (CloneC_nil c k)
  | some A => exact CloneCM_empty A c k
set_option maxHeartbeats 1000000 in
theorem CopiedC_spec (l : List Ca) (hl : l.length ≤ 100000) (hc : ∀ c ∈ l, CaSm c) (k : Nat) :
  ACall Tryd.prog 87 [.slice none (l.map caAV)] k [] (.slice none (l.map caAV)) [] := by
 have c0 := CloneCM_spec l hl
 refine Bd Tryd.func87 Tryd.ntmps87 fun σ N hp hpn hk hkn hfree => ?_
 have hcs := And.intro c0 True.intro
 clear c0
 refine Wk ?_
 clear hcs
 refine go_loopF mixed (by kernel_rfl) [4, 9, 10, 11, 12, 13, 14, 15, 16, 17, 18, 19, 20, 21, 22, 23, 24, 25, 26, 27, 28, 29, 30, 31, 32] [N+2] (fun m_ s_ σ_ n_ => ∃ (u : Nat), m_ = l.length - u ∧ s_ 9 = .lit (.int .i64 u) ∧ s_ 3 = .ms (N + 2) 1 10 0 l.length ∧ σ_ (N+2) = .mrow 1 57 10 (l.map caAV) ∧ (u ≤ l.length)) ⟨_, 0, rfl, WF, WF, WF, WC⟩ ?_
 intro m_1 s_1 σ_1 n_1 hs_1 hf_1 hn_1 hI_1
 obtain ⟨u, hm_1, h1_9, h1_3, e1_0, hu⟩ := hI_1
 have h1_2 := KS hs_1 2
 have h1_3 := KS hs_1 3
 have h1_8 := KS hs_1 8
 have hlow := KL (N := N) (σ := σ) hf_1
 by_cases hul : u = l.length
 ·subst hul
  clear hc
  refine Wm ?_
  iterate 1 refine Wz ?_
  refine go_freeze 3 (id := N + 2) (ver := 1) (size := 10) (e := 57) (xs := l.map caAV) (k := l.length) (by simp (disch := omega) [go_sem, *, -List.reduceReplicate]) (by simp (disch := omega) [go_sem, *, -List.reduceReplicate]) (by simp (disch := omega) [go_sem, *, -List.reduceReplicate]) ?_
  exact WM
 ·have hu1 : u < l.length := by omega
  have hmz := hc _ (List.getElem_mem hu1)
  obtain ⟨z, hz⟩ : ∃ z, l[u] = z := ⟨_, rfl⟩
  rw [hz] at hmz
  have c1 := Clone_spec z.ticket (by have := hmz.1; omega)
  have c2 := Clone_spec z.box (by have := hmz.2; omega)
  have hset : (l.map caAV).set u (caAV z) = l.map caAV := by
   rw [← hz, ← List.getElem_map (f := caAV) (h := by rw [List.length_map]; exact hu1)]
   exact List.set_getElem_self _
  have hzm : (l.map caAV)[u]? = some (caAV z) := by rw [List.getElem?_map, List.getElem?_eq_getElem hu1, hz]; rfl
  have hsz : AV.szl ((l.map caAV).take u) = u * 10 := by
   rw [← List.map_take, AV.szl_uniform _ 10 (fun x hx => by obtain ⟨c, _, rfl⟩ := List.mem_map.1 hx; rfl), List.length_map, List.length_take, Nat.min_eq_left (by omega)]
  have ho3 : (AV.agg (l.map caAV)).offs [u, 3] = u * 10 + 8 := by simp only [AV.offs, hzm, hsz]; rfl
  have ho4 : (AV.agg (l.map caAV)).offs [u, 4] = u * 10 + 9 := by simp only [AV.offs, hzm, hsz]; rfl
  have hp3 : (caAV z).put [3] (.slice none (z.ticket.map byteAV)) = caAV z := rfl
  have hp4 : (caAV z).put [4] (.slice none (z.box.map byteAV)) = caAV z := rfl
  have hcs := And.intro c1 (And.intro c2 True.intro)
  clear c1 c2 hc hmz
  refine Wk ?_
  exact ⟨WS, WG, WN, _, (show l.length - (u + 1) < m_1 by omega), u + 1, rfl, WF, WF, WF, WC⟩
end Go.Proofs.YtdmjpolnbmoehaaDoor

namespace Go.Proofs.YtdmjpolnbmoehaaDoor
open Go.Ab
attribute [local irreducible] Go.Ab.tyAV Go.Ab.aw Go.Ab.aops Go.Ab.kReg Go.Ab.aThen Go.Ab.aBlk Go.Ab.acond Go.Ab.aguard Go.Ab.astep Go.Ab.AStepX Go.Ab.aRet
attribute [local irreducible] shaG
def thirdsS (l : List Ca) : Nat := l.length - (firstsS l).length
section
variable [W : W32]
def attS (a : Alg) (p : Pa) (c : Ca) : Alg × Pa × Nat :=
 if cavB c = false then (alg0, pa0, 5) else if 64 ≤ p.cavs.length ∨ (c.third = true ∧ 8 ≤ thirdsS p.cavs) then (alg0, pa0, 2) else
 if (nodeS a p.tag (cavM c)).2.2 = 0 then ((nodeS a p.tag (cavM c)).1, ⟨p.epoch, p.serial, p.cavs ++ [c], (nodeS a p.tag (cavM c)).2.1⟩, 0) else (alg0, pa0, (nodeS a p.tag (cavM c)).2.2)
end
end Go.Proofs.YtdmjpolnbmoehaaDoor
