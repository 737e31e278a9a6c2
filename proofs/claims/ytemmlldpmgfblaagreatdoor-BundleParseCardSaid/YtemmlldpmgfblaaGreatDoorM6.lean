/- Texts R2, M8, M10, K2, K3, K4, K5, N2, N3, K6, K7, K8, joined. -/
import Derived.Test.YtemmlldpmgfblaaGreatDoorM5

namespace Go.Proofs.YtemmlldpmgfblaaGreatDoor
open Go.Ab
attribute [local irreducible] Go.Ab.tyAV Go.Ab.aw Go.Ab.aops Go.Ab.kReg Go.Ab.aThen Go.Ab.aBlk Go.Ab.acond Go.Ab.aguard Go.Ab.astep Go.Ab.AStepX Go.Ab.aRet
def minuteD (l : List Int) (i : Nat) : Nat × Nat :=
 let k := nextD l i 4
 if k.1 = 0 then nextD l k.2 4320
 else if k.1 = 1 then (min ((nextD l k.2 60).1 * 1440 + (nextD l (nextD l k.2 60).2 3).1) 67108864, (nextD l (nextD l k.2 60).2 3).2)
 else if k.1 = 2 then (67108864 - (nextD l k.2 4320).1, (nextD l k.2 4320).2)
 else nextD l k.2 67108865
theorem minuteD_le (l : List Int) (i : Nat) : (minuteD l i).1 ≤ 67108864 := by
 unfold minuteD
 simp only
 split
 ·have := nextD_lt l (nextD l i 4).2 4320 (by omega); omega
 ·split
  ·simp only; omega
  ·split
   ·simp only; omega
   ·have := nextD_lt l (nextD l i 4).2 67108865 (by omega); omega
theorem minuteD_dk {l : List Int} {i : Nat} (h : Dk l i) : Dk l (minuteD l i).2 := by
 unfold minuteD
 simp only
 split
 ·exact nextD_dk _ (nextD_dk _ h)
 ·split
  ·exact nextD_dk _ (nextD_dk _ (nextD_dk _ h))
  ·split
   ·exact nextD_dk _ (nextD_dk _ h)
   ·exact nextD_dk _ (nextD_dk _ h)
theorem Minute_spec (l : List Int) (i : Nat) (h : Dk l i) (d k : Nat) :
  ACall Tryz.prog 36 [.ptr d [] 0] k [(d, deckBox l i)] (.lit (.int .i64 (minuteD l i).1)) [(d, deckBox l (minuteD l i).2)] := by
 have c1 := Next_spec l i 4 h (by omega) (by omega)
 have d1 := nextD_dk 4 h
 unfold minuteD
 generalize nextD l i 4 = X at c1 d1 ⊢
 obtain ⟨x, j⟩ := X
 simp only at c1 d1 ⊢
 clear h
 by_cases e0 : x = 0
 ·subst e0
  simp only [if_true]
  have c2 := Next_spec l j 4320 d1 (by omega) (by omega)
  generalize nextD l j 4320 = X at c2 ⊢
  obtain ⟨y, j2⟩ := X
  simp only at c2 ⊢
  clear d1
  refine Bd Tryz.func36 Tryz.ntmps36 fun σ N hp hpn hk hkn hfree => ?_
  have hd := hp _ (List.mem_singleton.2 rfl)
  have hdn := hpn _ (List.mem_singleton.2 rfl)
  simp only at hd hdn
  clear hp hpn
  have hcs := And.intro (c1 d) (And.intro (c2 d) True.intro)
  refine Wk ?_
  exact RW (d) (deckBox l j2)
 ·simp only [e0, if_false]
  by_cases e1 : x = 1
  ·subst e1
   simp only [if_true]
   have c2 := Next_spec l j 60 d1 (by omega) (by omega)
   have d2 := nextD_dk 60 d1
   have b2 := nextD_lt l j 60 (by omega)
   generalize nextD l j 60 = X at c2 d2 b2 ⊢
   obtain ⟨y, j2⟩ := X
   simp only at c2 d2 b2 ⊢
   have c3 := Next_spec l j2 3 d2 (by omega) (by omega)
   have b3 := nextD_lt l j2 3 (by omega)
   generalize nextD l j2 3 = X at c3 b3 ⊢
   obtain ⟨z, j3⟩ := X
   simp only at c3 b3 ⊢
   obtain ⟨w, hw⟩ : ∃ w : Nat, min (y * 1440 + z) 67108864 = w := ⟨_, rfl⟩
   have hw1 : (if (67108864 : Int) < (y : Int) * 1440 + z then (67108864 : Int) else (y : Int) * 1440 + z) = w := by split <;> omega
   rw [hw]
   clear d1 d2 hw
   refine Bd Tryz.func36 Tryz.ntmps36 fun σ N hp hpn hk hkn hfree => ?_
   have hd := hp _ (List.mem_singleton.2 rfl)
   have hdn := hpn _ (List.mem_singleton.2 rfl)
   simp only at hd hdn
   clear hp hpn
   have hcs := And.intro (c1 d) (And.intro (c2 d) (And.intro (c3 d) True.intro))
   refine Wk ?_
   exact RW (d) (deckBox l j3)
  ·simp only [e1, if_false]
   by_cases e2 : x = 2
   ·subst e2
    simp only [if_true]
    have c2 := Next_spec l j 4320 d1 (by omega) (by omega)
    have b2 := nextD_lt l j 4320 (by omega)
    generalize nextD l j 4320 = X at c2 b2 ⊢
    obtain ⟨y, j2⟩ := X
    simp only at c2 b2 ⊢
    have hw : (67108864 : Int) - (y : Int) = ((67108864 - y : Nat) : Int) := by omega
    rw [← hw]
    clear d1 hw
    refine Bd Tryz.func36 Tryz.ntmps36 fun σ N hp hpn hk hkn hfree => ?_
    have hd := hp _ (List.mem_singleton.2 rfl)
    have hdn := hpn _ (List.mem_singleton.2 rfl)
    simp only at hd hdn
    clear hp hpn
    have hcs := And.intro (c1 d) (And.intro (c2 d) True.intro)
    refine Wk ?_
    exact RW (d) (deckBox l j2)
   ·simp only [e2, if_false]
    have c2 := Next_spec l j 67108865 d1 (by omega) (by omega)
    generalize nextD l j 67108865 = X at c2 ⊢
    obtain ⟨y, j2⟩ := X
    simp only at c2 ⊢
    clear d1
    refine Bd Tryz.func36 Tryz.ntmps36 fun σ N hp hpn hk hkn hfree => ?_
    have hd := hp _ (List.mem_singleton.2 rfl)
    have hdn := hpn _ (List.mem_singleton.2 rfl)
    simp only at hd hdn
    clear hp hpn
    have hcs := And.intro (c1 d) (And.intro (c2 d) True.intro)
    refine Wk ?_
    exact RW (d) (deckBox l j2)
def names8 : List (List UInt8) := [[97], [98], [97, 110, 110], [98, 111, 98], [99, 105, 100], [122, 111, 101], [97, 97], [97, 98, 99, 100, 101, 102, 103, 104, 105, 106, 107, 108, 109, 110, 111, 112]]
def nameD (l : List Int) (i : Nat) : List UInt8 × Nat := (names8.getD (nextD l i 8).1 [], (nextD l i 8).2)
theorem nameD_dk {l : List Int} {i : Nat} (h : Dk l i) : Dk l (nameD l i).2 := nextD_dk 8 h
theorem Name_spec0 (l : List Int) (i : Nat) (h : Dk l i) (d k : Nat) :
  ACall Tryz.prog 35 [.ptr d [] 0] k [(d, deckBox l i)] (strAV (nameD l i).1) [(d, deckBox l (nameD l i).2)] := by
 have c1 := Next_spec l i 8 h (by omega) (by omega)
 have b1 := nextD_lt l i 8 (by omega)
 unfold nameD
 generalize nextD l i 8 = X at c1 b1 ⊢
 obtain ⟨x, j⟩ := X
 simp only at c1 b1 ⊢
 have hx : ∀ h : x < 8, ([AV.lit (.string (ByteArray.mk #[97])), .lit (.string (ByteArray.mk #[98])), .lit (.string (ByteArray.mk #[97, 110, 110])), .lit (.string (ByteArray.mk #[98, 111, 98])), .lit (.string (ByteArray.mk #[99, 105, 100])), .lit (.string (ByteArray.mk #[122, 111, 101])), .lit (.string (ByteArray.mk #[97, 97])), .lit (.string (ByteArray.mk #[97, 98, 99, 100, 101, 102, 103, 104, 105, 106, 107, 108, 109, 110, 111, 112]))] : List AV)[x] = strAV (names8.getD x []) := by
  intro h
  have : x = 0 ∨ x = 1 ∨ x = 2 ∨ x = 3 ∨ x = 4 ∨ x = 5 ∨ x = 6 ∨ x = 7 := by omega
  rcases this with rfl | rfl | rfl | rfl | rfl | rfl | rfl | rfl <;> rfl
 have hx2 := hx b1
 have hsz : (strAV (names8.getD x [])).sz = 1 := rfl
 have hag : (strAV (names8.getD x [])).isAgg = false := rfl
 have hrn : ∀ f, (strAV (names8.getD x [])).ren f = strAV (names8.getD x []) := fun _ => rfl
 generalize strAV (names8.getD x []) = r at *
 clear hx
 refine Bd Tryz.func35 Tryz.ntmps35 fun σ N hp hpn hk hkn hfree => ?_
 have hd := hp _ (List.mem_singleton.2 rfl)
 have hdn := hpn _ (List.mem_singleton.2 rfl)
 simp only at hd hdn
 clear hp hpn
 have hcs := And.intro (c1 d) True.intro
 refine Wk ?_
 exact RW (d) (deckBox l j)
end Go.Proofs.YtemmlldpmgfblaaGreatDoor

namespace Go.Proofs.YtemmlldpmgfblaaGreatDoor
open Go.Ab
attribute [local irreducible] Go.Ab.tyAV Go.Ab.aw Go.Ab.aops Go.Ab.kReg Go.Ab.aThen Go.Ab.aBlk Go.Ab.acond Go.Ab.aguard Go.Ab.astep Go.Ab.AStepX Go.Ab.aRet
attribute [local irreducible] shaG
structure AlgIn (a : Alg) (m : Nat) : Prop where
 f0 : 0 ≤ a.fresh
 f1 : a.fresh ≤ m
 ml : a.macs.length ≤ m
 bl : a.boxes.length ≤ m
 mm : ∀ e ∈ a.macs, e.msg.length ≤ 100000
 bm : ∀ e ∈ a.boxes, e.plain.length ≤ 100000 ∧ e.box.length ≤ 100000
theorem AlgIn.more {a : Alg} {m m' : Nat} (h : AlgIn a m) (hm : m ≤ m') : AlgIn a m' := ⟨h.f0, Int.le_trans h.f1 (by omega), Nat.le_trans h.ml hm, Nat.le_trans h.bl hm, h.mm, h.bm⟩
theorem alg0_in (m : Nat) : AlgIn alg0 m := ⟨by simp [alg0], by simp [alg0], by simp [alg0], by simp [alg0], fun e he => by simp [alg0] at he, fun e he => by simp [alg0] at he⟩
section
variable [W : W32]
theorem keyS_in {a : Alg} {m : Nat} (h : AlgIn a m) : AlgIn (keyS a).1 (m + 1) := by
 unfold keyS
 split
 ·exact alg0_in _
 ·exact ⟨by have := h.f0; simp only; omega, by have := h.f1; simp only; omega, Nat.le_succ_of_le h.ml, Nat.le_succ_of_le h.bl, h.mm, h.bm⟩
theorem macS_in {a : Alg} {m : Nat} (h : AlgIn a m) (key : Tg) (msg : List UInt8) : AlgIn (macS a key msg).1 (m + 1) := by
 by_cases h1 : 4096 < msg.length
 ·rw [macS_long h1]; exact alg0_in _
 ·cases he : entL key msg a.macs with
  | some t => rw [macS_found h1 he]; exact h.more (Nat.le_succ _)
  | none =>
   by_cases hf : 65536 ≤ a.macs.length
   ·rw [macS_full h1 he hf]; exact alg0_in _
   ·rw [macS_new h1 he hf]
    refine ⟨h.f0, by have := h.f1; simp only; omega, by have := h.ml; simp; omega, Nat.le_succ_of_le h.bl, fun e hm => ?_, h.bm⟩
    rcases List.mem_append.1 hm with hm | hm
    ·exact h.mm e hm
    ·rw [List.mem_singleton.1 hm]; simp only; omega
theorem sealN_len (a : Alg) (key : Tg) (nonce : Int) (plain : List UInt8) : (sealN a key nonce plain).length ≤ plain.length + 40 := by
 unfold sealN
 split
 ·rw [List.length_append, List.length_replicate, (symT _ _).2]; omega
 ·unfold sealB
  rw [List.length_append, List.length_append, eightB_len, strmB_len, (hmacT _ _).2]; omega
theorem sealS_in {a : Alg} {m : Nat} (h : AlgIn a m) (key : Tg) (nonce : Int) (plain : List UInt8) : AlgIn (sealS a key nonce plain).1 (m + 1) := by
 unfold sealS
 split
 ·exact alg0_in _
 ·split
  ·exact alg0_in _
  ·rename_i hp
   split
   ·exact h.more (Nat.le_succ _)
   ·split
    ·exact alg0_in _
    ·have hl := sealN_len a key nonce plain
     refine ⟨h.f0, by have := h.f1; simp only; omega, Nat.le_succ_of_le h.ml, by have := h.bl; simp; omega, h.mm, fun e hm => ?_⟩
     rcases List.mem_append.1 hm with hm | hm
     ·exact h.bm e hm
     ·rw [List.mem_singleton.1 hm]; simp only; omega
theorem Seal_spec (a : Alg) (key : Tg) (nonce : Int) (plain : List UInt8) (hl : a.boxes.length ≤ 1000000) (hm : ∀ e ∈ a.boxes, e.plain.length ≤ 100000 ∧ e.box.length ≤ 100000) (k : Nat) :
  ACall Tryz.prog 72 [algAV a, tagAV key, .lit (.int .i64 nonce), .slice none (plain.map byteAV)] k [] (skAV (sealS a key nonce plain)) [] := by
 by_cases h : (nonce < 0 ∨ 281474976710656 < nonce) ∨ 256 < plain.length
 ·exact Seal_bad a key nonce plain h k
 ·obtain ⟨n, rfl⟩ := Int.eq_ofNat_of_zero_le (show 0 ≤ nonce by omega)
  exact Seal_ok a key n plain (by omega) (by omega) hl hm k
end

section
variable [W : W32]
end
end Go.Proofs.YtemmlldpmgfblaaGreatDoor

namespace Go.Proofs.YtemmlldpmgfblaaGreatDoor
open Go.Ab
attribute [local irreducible] Go.Ab.tyAV Go.Ab.aw Go.Ab.aops Go.Ab.kReg Go.Ab.aThen Go.Ab.aBlk Go.Ab.acond Go.Ab.aguard Go.Ab.astep Go.Ab.AStepX Go.Ab.aRet
def bitsZ : List Int := [0, 64, 32, 7, 0, 0, 0, 0]
def bitsL : List AV := bitsZ.map fun z => .lit (.int .i64 z)
def bitsG : Ent := .glob 0 (.agg bitsL)
@[simp, go_sem] theorem bitsG_ne : (bitsG = .none) = False := by simp [bitsG]
@[go_sem] theorem bitsL_1 : bitsL[1]? = some (.lit (.int .i64 64)) := rfl
@[go_sem] theorem bitsL_2 : bitsL[2]? = some (.lit (.int .i64 32)) := rfl
@[go_sem] theorem bitsL_3 : bitsL[3]? = some (.lit (.int .i64 7)) := rfl
@[go_sem] theorem bitsL_t1 : AV.szl (bitsL.take 1) = 1 := rfl
@[go_sem] theorem bitsL_t2 : AV.szl (bitsL.take 2) = 2 := rfl
@[go_sem] theorem bitsL_t3 : AV.szl (bitsL.take 3) = 3 := rfl
def predB (p : Pr) : Bool :=
 if p.kind = 1 then maskB p.mask 64 && decide (p = ⟨p.kind, p.mask, 0, 0, [], 0⟩)
 else if p.kind = 2 then maskB p.mask 32 && decide (p = ⟨p.kind, p.mask, 0, 0, [], 0⟩)
 else if p.kind = 3 then maskB p.mask 7 && decide (p = ⟨p.kind, p.mask, 0, 0, [], 0⟩)
 else if p.kind = 4 then decide (0 ≤ p.frm) && (decide (p.frm ≤ p.to) && (decide (p.to ≤ 67108864) && decide (p = ⟨p.kind, 0, p.frm, p.to, [], 0⟩)))
 else if p.kind = 5 then decide (0 ≤ p.frm) && (decide (p.frm < 1440) && (decide (0 ≤ p.to) && (decide (p.to < 1440) && decide (p = ⟨p.kind, 0, p.frm, p.to, [], 0⟩))))
 else if p.kind = 6 then nameB p.name && decide (p = ⟨p.kind, 0, 0, 0, p.name, 0⟩)
 else if p.kind = 7 then decide (0 ≤ p.num) && (decide (p.num ≤ 1000000) && decide (p = ⟨p.kind, 0, 0, 0, [], p.num⟩))
 else false
structure PrOk (p : Pr) : Prop where
 m0 : 0 ≤ p.mask
 m1 : p.mask < 18446744073709551616
 nl : p.name.length ≤ 9223372036854775807
set_option maxHeartbeats 4000000 in
theorem predValid_spec (p : Pr) (hp0 : PrOk p) (d k : Nat) :
  ACall Tryz.prog 76 [prAV p] k [(d, bitsG)] (.lit (.bool (predB p))) [] := by
 obtain ⟨kd, m, f, t, n, x⟩ := p
 obtain ⟨m0, m1, nl⟩ := hp0
 simp only at m0 m1 nl
 simp only [prAV, predB]
 by_cases h1 : kd = 1
 ·subst h1
  simp only [Int.reduceEq, if_false, if_true]
  have c1 := mask_spec m m0 m1 64 (by decide)
  generalize maskB m 64 = b at *
  cases b <;> simp only [Bool.true_and, Bool.false_and]
  all_goals
   unfold bitsG
   refine Bd Tryz.func76 Tryz.ntmps76 fun σ N hp hpn hk hkn hfree => ?_
   obtain ⟨hd, hdn⟩ := HD0 hp hpn; clear hp hpn
   have G : GlobAt d 0 := ⟨⟩
   have hcs := And.intro c1 True.intro
   clear c1
   exact W0
 ·skip
  by_cases h2 : kd = 2
  ·subst h2
   simp only [Int.reduceEq, if_false, if_true]
   have c1 := mask_spec m m0 m1 32 (by decide)
   generalize maskB m 32 = b at *
   cases b <;> simp only [Bool.true_and, Bool.false_and]
   all_goals
    unfold bitsG
    refine Bd Tryz.func76 Tryz.ntmps76 fun σ N hp hpn hk hkn hfree => ?_
    obtain ⟨hd, hdn⟩ := HD0 hp hpn; clear hp hpn
    have G : GlobAt d 0 := ⟨⟩
    have hcs := And.intro c1 True.intro
    clear c1
    exact W0
  ·skip
   by_cases h3 : kd = 3
   ·subst h3
    simp only [Int.reduceEq, if_false, if_true]
    have c1 := mask_spec m m0 m1 7 (by decide)
    generalize maskB m 7 = b at *
    cases b <;> simp only [Bool.true_and, Bool.false_and]
    all_goals
     unfold bitsG
     refine Bd Tryz.func76 Tryz.ntmps76 fun σ N hp hpn hk hkn hfree => ?_
     obtain ⟨hd, hdn⟩ := HD0 hp hpn; clear hp hpn
     have G : GlobAt d 0 := ⟨⟩
     have hcs := And.intro c1 True.intro
     clear c1
     exact W0
   ·skip
    by_cases h4 : kd = 4
    ·subst h4
     simp only [Int.reduceEq, if_false, if_true]
     by_cases c1 : 0 ≤ f
     ·by_cases c2 : f ≤ t
      ·by_cases c3 : t ≤ 67108864
       ·simp only [decide_eq_true c1, decide_eq_true c2, decide_eq_true c3, Bool.true_and]
        unfold bitsG
        refine Bd Tryz.func76 Tryz.ntmps76 fun σ N hp hpn hk hkn hfree => ?_
        obtain ⟨hd, hdn⟩ := HD0 hp hpn; clear hp hpn
        have G : GlobAt d 0 := ⟨⟩
        exact W0
       ·simp only [decide_eq_true c1, decide_eq_true c2, decide_eq_false c3, Bool.true_and, Bool.false_and]
        unfold bitsG
        refine Bd Tryz.func76 Tryz.ntmps76 fun σ N hp hpn hk hkn hfree => ?_
        obtain ⟨hd, hdn⟩ := HD0 hp hpn; clear hp hpn
        have G : GlobAt d 0 := ⟨⟩
        exact W0
      ·simp only [decide_eq_true c1, decide_eq_false c2, Bool.true_and, Bool.false_and]
       unfold bitsG
       refine Bd Tryz.func76 Tryz.ntmps76 fun σ N hp hpn hk hkn hfree => ?_
       obtain ⟨hd, hdn⟩ := HD0 hp hpn; clear hp hpn
       have G : GlobAt d 0 := ⟨⟩
       exact W0
     ·simp only [decide_eq_false c1, Bool.false_and]
      unfold bitsG
      refine Bd Tryz.func76 Tryz.ntmps76 fun σ N hp hpn hk hkn hfree => ?_
      obtain ⟨hd, hdn⟩ := HD0 hp hpn; clear hp hpn
      have G : GlobAt d 0 := ⟨⟩
      exact W0
    ·skip
     by_cases h5 : kd = 5
     ·subst h5
      simp only [Int.reduceEq, if_false, if_true]
      by_cases c1 : 0 ≤ f
      ·by_cases c2 : f < 1440
       ·by_cases c3 : 0 ≤ t
        ·by_cases c4 : t < 1440
         ·simp only [decide_eq_true c1, decide_eq_true c2, decide_eq_true c3, decide_eq_true c4, Bool.true_and]
          unfold bitsG
          refine Bd Tryz.func76 Tryz.ntmps76 fun σ N hp hpn hk hkn hfree => ?_
          obtain ⟨hd, hdn⟩ := HD0 hp hpn; clear hp hpn
          have G : GlobAt d 0 := ⟨⟩
          exact W0
         ·simp only [decide_eq_true c1, decide_eq_true c2, decide_eq_true c3, decide_eq_false c4, Bool.true_and, Bool.false_and]
          unfold bitsG
          refine Bd Tryz.func76 Tryz.ntmps76 fun σ N hp hpn hk hkn hfree => ?_
          obtain ⟨hd, hdn⟩ := HD0 hp hpn; clear hp hpn
          have G : GlobAt d 0 := ⟨⟩
          exact W0
        ·simp only [decide_eq_true c1, decide_eq_true c2, decide_eq_false c3, Bool.true_and, Bool.false_and]
         unfold bitsG
         refine Bd Tryz.func76 Tryz.ntmps76 fun σ N hp hpn hk hkn hfree => ?_
         obtain ⟨hd, hdn⟩ := HD0 hp hpn; clear hp hpn
         have G : GlobAt d 0 := ⟨⟩
         exact W0
       ·simp only [decide_eq_true c1, decide_eq_false c2, Bool.true_and, Bool.false_and]
        unfold bitsG
        refine Bd Tryz.func76 Tryz.ntmps76 fun σ N hp hpn hk hkn hfree => ?_
        obtain ⟨hd, hdn⟩ := HD0 hp hpn; clear hp hpn
        have G : GlobAt d 0 := ⟨⟩
        exact W0
      ·simp only [decide_eq_false c1, Bool.false_and]
       unfold bitsG
       refine Bd Tryz.func76 Tryz.ntmps76 fun σ N hp hpn hk hkn hfree => ?_
       obtain ⟨hd, hdn⟩ := HD0 hp hpn; clear hp hpn
       have G : GlobAt d 0 := ⟨⟩
       exact W0
     ·skip
      by_cases h6 : kd = 6
      ·subst h6
       simp only [Int.reduceEq, if_false, if_true]
       have c1 := name_spec n nl
       generalize nameB n = b at *
       cases b <;> simp only [Bool.true_and, Bool.false_and]
       all_goals
        unfold bitsG
        refine Bd Tryz.func76 Tryz.ntmps76 fun σ N hp hpn hk hkn hfree => ?_
        obtain ⟨hd, hdn⟩ := HD0 hp hpn; clear hp hpn
        have G : GlobAt d 0 := ⟨⟩
        have hcs := And.intro c1 True.intro
        clear c1
        exact W0
      ·skip
       by_cases h7 : kd = 7
       ·subst h7
        simp only [Int.reduceEq, if_false, if_true]
        by_cases c1 : 0 ≤ x
        ·by_cases c2 : x ≤ 1000000
         ·simp only [decide_eq_true c1, decide_eq_true c2, Bool.true_and]
          unfold bitsG
          refine Bd Tryz.func76 Tryz.ntmps76 fun σ N hp hpn hk hkn hfree => ?_
          obtain ⟨hd, hdn⟩ := HD0 hp hpn; clear hp hpn
          have G : GlobAt d 0 := ⟨⟩
          exact W0
         ·simp only [decide_eq_true c1, decide_eq_false c2, Bool.true_and, Bool.false_and]
          unfold bitsG
          refine Bd Tryz.func76 Tryz.ntmps76 fun σ N hp hpn hk hkn hfree => ?_
          obtain ⟨hd, hdn⟩ := HD0 hp hpn; clear hp hpn
          have G : GlobAt d 0 := ⟨⟩
          exact W0
        ·simp only [decide_eq_false c1, Bool.false_and]
         unfold bitsG
         refine Bd Tryz.func76 Tryz.ntmps76 fun σ N hp hpn hk hkn hfree => ?_
         obtain ⟨hd, hdn⟩ := HD0 hp hpn; clear hp hpn
         have G : GlobAt d 0 := ⟨⟩
         exact W0
       ·skip
        simp only [if_neg h1, if_neg h2, if_neg h3, if_neg h4, if_neg h5, if_neg h6, if_neg h7]
        have g1 : (kd == 1) = false := by simp [h1]
        have g2 : (kd == 2) = false := by simp [h2]
        have g3 : (kd == 3) = false := by simp [h3]
        have g4 : (kd == 4) = false := by simp [h4]
        have g5 : (kd == 5) = false := by simp [h5]
        have g6 : (kd == 6) = false := by simp [h6]
        have g7 : (kd == 7) = false := by simp [h7]
        clear h1 h2 h3 h4 h5 h6 h7
        unfold bitsG
        refine Bd Tryz.func76 Tryz.ntmps76 fun σ N hp hpn hk hkn hfree => ?_
        obtain ⟨hd, hdn⟩ := HD0 hp hpn; clear hp hpn
        have G : GlobAt d 0 := ⟨⟩
        exact W0
set_option maxHeartbeats 4000000 in
theorem refPred_spec (p : Pr) (hp0 : PrOk p) (k : Nat) :
  ACall Tryz.prog 61 [prAV p] k [] (.lit (.bool (predB p))) [] := by
 obtain ⟨kd, m, f, t, n, x⟩ := p
 obtain ⟨m0, m1, nl⟩ := hp0
 simp only at m0 m1 nl
 simp only [prAV, predB]
 by_cases h1 : kd = 1
 ·subst h1
  simp only [Int.reduceEq, if_false, if_true]
  unfold maskB
  by_cases hm : m = 0
  ·subst hm
   simp only [ne_eq, not_true_eq_false, decide_false, Bool.false_and]
   refine Bd Tryz.func61 Tryz.ntmps61 fun σ N hp hpn hk hkn hfree => ?_
   exact W0
  ·have hmb : (m == 0) = false := by simp [hm]
   have hmc : (m != 0) = true := by simp [hm]
   rw [show decide (m ≠ 0) = true by simp [hm], Bool.true_and]
   rw [show decide (m < 2 ^ 64) = true by simp; omega, Bool.true_and]
   refine Bd Tryz.func61 Tryz.ntmps61 fun σ N hp hpn hk hkn hfree => ?_
   exact W0
 ·skip
  by_cases h2 : kd = 2
  ·subst h2
   simp only [Int.reduceEq, if_false, if_true]
   unfold maskB
   by_cases hm : m = 0
   ·subst hm
    simp only [ne_eq, not_true_eq_false, decide_false, Bool.false_and]
    refine Bd Tryz.func61 Tryz.ntmps61 fun σ N hp hpn hk hkn hfree => ?_
    exact W0
   ·have hmb : (m == 0) = false := by simp [hm]
    have hmc : (m != 0) = true := by simp [hm]
    rw [show decide (m ≠ 0) = true by simp [hm], Bool.true_and]
    by_cases hl : m < 4294967296
    ·rw [show decide (m < 2 ^ 32) = true by simp; omega, Bool.true_and]
     refine Bd Tryz.func61 Tryz.ntmps61 fun σ N hp hpn hk hkn hfree => ?_
     exact W0
    ·rw [show decide (m < 2 ^ 32) = false by simp; omega, Bool.false_and]
     refine Bd Tryz.func61 Tryz.ntmps61 fun σ N hp hpn hk hkn hfree => ?_
     exact W0
  ·skip
   by_cases h3 : kd = 3
   ·subst h3
    simp only [Int.reduceEq, if_false, if_true]
    unfold maskB
    by_cases hm : m = 0
    ·subst hm
     simp only [ne_eq, not_true_eq_false, decide_false, Bool.false_and]
     refine Bd Tryz.func61 Tryz.ntmps61 fun σ N hp hpn hk hkn hfree => ?_
     exact W0
    ·have hmb : (m == 0) = false := by simp [hm]
     have hmc : (m != 0) = true := by simp [hm]
     rw [show decide (m ≠ 0) = true by simp [hm], Bool.true_and]
     by_cases hl : m < 128
     ·rw [show decide (m < 2 ^ 7) = true by simp; omega, Bool.true_and]
      refine Bd Tryz.func61 Tryz.ntmps61 fun σ N hp hpn hk hkn hfree => ?_
      exact W0
     ·rw [show decide (m < 2 ^ 7) = false by simp; omega, Bool.false_and]
      refine Bd Tryz.func61 Tryz.ntmps61 fun σ N hp hpn hk hkn hfree => ?_
      exact W0
   ·skip
    by_cases h4 : kd = 4
    ·subst h4
     simp only [Int.reduceEq, if_false, if_true]
     by_cases c1 : 0 ≤ f
     ·by_cases c2 : f ≤ t
      ·by_cases c3 : t ≤ 67108864
       ·simp only [decide_eq_true c1, decide_eq_true c2, decide_eq_true c3, Bool.true_and]
        refine Bd Tryz.func61 Tryz.ntmps61 fun σ N hp hpn hk hkn hfree => ?_
        exact W0
       ·simp only [decide_eq_true c1, decide_eq_true c2, decide_eq_false c3, Bool.true_and, Bool.false_and]
        refine Bd Tryz.func61 Tryz.ntmps61 fun σ N hp hpn hk hkn hfree => ?_
        exact W0
      ·simp only [decide_eq_true c1, decide_eq_false c2, Bool.true_and, Bool.false_and]
       refine Bd Tryz.func61 Tryz.ntmps61 fun σ N hp hpn hk hkn hfree => ?_
       exact W0
     ·simp only [decide_eq_false c1, Bool.false_and]
      refine Bd Tryz.func61 Tryz.ntmps61 fun σ N hp hpn hk hkn hfree => ?_
      exact W0
    ·skip
     by_cases h5 : kd = 5
     ·subst h5
      simp only [Int.reduceEq, if_false, if_true]
      by_cases c1 : 0 ≤ f
      ·by_cases c2 : f < 1440
       ·by_cases c3 : 0 ≤ t
        ·by_cases c4 : t < 1440
         ·simp only [decide_eq_true c1, decide_eq_true c2, decide_eq_true c3, decide_eq_true c4, Bool.true_and]
          refine Bd Tryz.func61 Tryz.ntmps61 fun σ N hp hpn hk hkn hfree => ?_
          exact W0
         ·simp only [decide_eq_true c1, decide_eq_true c2, decide_eq_true c3, decide_eq_false c4, Bool.true_and, Bool.false_and]
          refine Bd Tryz.func61 Tryz.ntmps61 fun σ N hp hpn hk hkn hfree => ?_
          exact W0
        ·simp only [decide_eq_true c1, decide_eq_true c2, decide_eq_false c3, Bool.true_and, Bool.false_and]
         refine Bd Tryz.func61 Tryz.ntmps61 fun σ N hp hpn hk hkn hfree => ?_
         exact W0
       ·simp only [decide_eq_true c1, decide_eq_false c2, Bool.true_and, Bool.false_and]
        refine Bd Tryz.func61 Tryz.ntmps61 fun σ N hp hpn hk hkn hfree => ?_
        exact W0
      ·simp only [decide_eq_false c1, Bool.false_and]
       refine Bd Tryz.func61 Tryz.ntmps61 fun σ N hp hpn hk hkn hfree => ?_
       exact W0
     ·skip
      by_cases h6 : kd = 6
      ·subst h6
       simp only [Int.reduceEq, if_false, if_true]
       have c1 := Name_spec n nl
       generalize nameB n = b at *
       cases b <;> simp only [Bool.true_and, Bool.false_and]
       all_goals
        refine Bd Tryz.func61 Tryz.ntmps61 fun σ N hp hpn hk hkn hfree => ?_
        have hcs := And.intro c1 True.intro
        clear c1
        exact W0
      ·skip
       by_cases h7 : kd = 7
       ·subst h7
        simp only [Int.reduceEq, if_false, if_true]
        by_cases c1 : 0 ≤ x
        ·by_cases c2 : x ≤ 1000000
         ·simp only [decide_eq_true c1, decide_eq_true c2, Bool.true_and]
          refine Bd Tryz.func61 Tryz.ntmps61 fun σ N hp hpn hk hkn hfree => ?_
          exact W0
         ·simp only [decide_eq_true c1, decide_eq_false c2, Bool.true_and, Bool.false_and]
          refine Bd Tryz.func61 Tryz.ntmps61 fun σ N hp hpn hk hkn hfree => ?_
          exact W0
        ·simp only [decide_eq_false c1, Bool.false_and]
         refine Bd Tryz.func61 Tryz.ntmps61 fun σ N hp hpn hk hkn hfree => ?_
         exact W0
       ·skip
        simp only [if_neg h1, if_neg h2, if_neg h3, if_neg h4, if_neg h5, if_neg h6, if_neg h7]
        have g1 : (kd == 1) = false := by simp [h1]
        have g2 : (kd == 2) = false := by simp [h2]
        have g3 : (kd == 3) = false := by simp [h3]
        have g4 : (kd == 4) = false := by simp [h4]
        have g5 : (kd == 5) = false := by simp [h5]
        have g6 : (kd == 6) = false := by simp [h6]
        have g7 : (kd == 7) = false := by simp [h7]
        clear h1 h2 h3 h4 h5 h6 h7
        refine Bd Tryz.func61 Tryz.ntmps61 fun σ N hp hpn hk hkn hfree => ?_
        exact W0

structure Ca where
 third : Bool
 first : Pr
 party : Int
 ticket : List UInt8
 box : List UInt8
deriving DecidableEq
def caAV (c : Ca) : AV := .agg [.lit (.bool c.third), prAV c.first, .lit (.int .i64 c.party), .slice none (c.ticket.map byteAV), .slice none (c.box.map byteAV)]
@[go_sem] theorem caAV_sz (c : Ca) : (caAV c).sz = 10 := rfl
@[go_sem] theorem caAV_isAgg (c : Ca) : (caAV c).isAgg = true := rfl
@[go_sem] theorem caAV_cell (c : Ca) : (caAV c).cell = true := rfl
@[go_sem] theorem caAV_ren (f : Nat → Option Nat) (c : Ca) : (caAV c).ren f = caAV c := by
 simp only [caAV, AV.ren, AV.renl, prAV_ren, renl_bytes, Option.bind_none]
@[go_sem] theorem renl_cas (f : Nat → Option Nat) (l : List Ca) : AV.renl f (l.map caAV) = l.map caAV := by
 rw [AV.renl_map, List.map_map]; exact List.map_congr_left fun t _ => caAV_ren f t
@[go_sem] theorem all_cas1 (l : List Ca) : (l.map caAV).all (fun x => x.sz == 10) = true := by
 rw [List.all_eq_true]; intro x hx; obtain ⟨b, _, rfl⟩ := List.mem_map.1 hx; rfl
@[go_sem] theorem all_cas2 (l : List Ca) : (l.map caAV).all (fun x => x.sz == 10 && x.cell) = true := by
 rw [List.all_eq_true]; intro x hx; obtain ⟨b, _, rfl⟩ := List.mem_map.1 hx; rfl
@[go_sem] theorem renl_prs (f : Nat → Option Nat) (l : List Pr) : AV.renl f (l.map prAV) = l.map prAV := by
 rw [AV.renl_map, List.map_map]; exact List.map_congr_left fun t _ => prAV_ren f t
@[go_sem] theorem all_prs1 (l : List Pr) : (l.map prAV).all (fun x => x.sz == 6) = true := by
 rw [List.all_eq_true]; intro x hx; obtain ⟨b, _, rfl⟩ := List.mem_map.1 hx; rfl
@[go_sem] theorem all_prs2 (l : List Pr) : (l.map prAV).all (fun x => x.sz == 6 && x.cell) = true := by
 rw [List.all_eq_true]; intro x hx; obtain ⟨b, _, rfl⟩ := List.mem_map.1 hx; rfl
@[go_sem] theorem caAV_get0 (c : Ca) : (caAV c).get [0] = some (.lit (.bool c.third)) := rfl
@[go_sem] theorem caAV_get1 (c : Ca) : (caAV c).get [1] = some (prAV c.first) := rfl
@[go_sem] theorem caAV_get2 (c : Ca) : (caAV c).get [2] = some (.lit (.int .i64 c.party)) := rfl
@[go_sem] theorem caAV_get3 (c : Ca) : (caAV c).get [3] = some (.slice none (c.ticket.map byteAV)) := rfl
@[go_sem] theorem caAV_get4 (c : Ca) : (caAV c).get [4] = some (.slice none (c.box.map byteAV)) := rfl
@[go_sem] theorem caAV_offs0 (c : Ca) : (caAV c).offs [0] = 0 := rfl
@[go_sem] theorem caAV_offs1 (c : Ca) : (caAV c).offs [1] = 1 := rfl
@[go_sem] theorem caAV_offs2 (c : Ca) : (caAV c).offs [2] = 7 := rfl
@[go_sem] theorem caAV_offs3 (c : Ca) : (caAV c).offs [3] = 8 := rfl
@[go_sem] theorem caAV_offs4 (c : Ca) : (caAV c).offs [4] = 9 := rfl
def firstsS (l : List Ca) : List Pr := (l.filter fun c => !c.third).map (·.first)
theorem firsts_at {l : List Ca} {u : Nat} {c : Ca} (h : u < l.length) (hc : l[u] = c) : firstsS (l.take (u + 1)) = firstsS (l.take u) ++ (if c.third = true then [] else [c.first]) := by
 have : l.take (u + 1) = l.take u ++ [c] := by rw [List.take_add_one, List.getElem?_eq_getElem h, hc]; rfl
 unfold firstsS
 rw [this, List.filter_append, List.map_append]
 cases hb : c.third <;> simp [hb]
theorem firsts_len (l : List Ca) : (firstsS l).length ≤ l.length := by
 unfold firstsS; rw [List.length_map]; exact List.length_filter_le _ _
theorem firsts_gen (l : List Ca) (R : List Pr) (hR : firstsS l = R) (hl : l.length ≤ 10000) (k : Nat) :
  ACall Tryz.prog 178 [.slice none (l.map caAV)] k [] (.slice none (R.map prAV)) [] := by
 have hf0 : firstsS ([] : List Ca) = [] := rfl
 refine Bd Tryz.func178 Tryz.ntmps178 fun σ N hp hpn hk hkn hfree => ?_
 refine Wk ?_
 refine ALoop.nilrow 3 110 6 (by simp (disch := omega) [go_sem, *, -List.reduceReplicate]) ?_
 refine go_loopB (N) mixed (by kernel_rfl) [3, 5, 8, 9, 10, 11, 12, 13, 14, 15, 16, 17, 18, 19, 20] [] (fun m_ s_ σ_ n_ => ∃ (u : Nat) (q : Nat) (acc : List Pr), m_ = l.length - u ∧ s_ 8 = .lit (.int .i64 u) ∧ s_ 3 = .slice (some q) (acc.map prAV) ∧ σ_ (q) = .row 110 6 acc.length ∧ (u ≤ l.length) ∧ (N ≤ q) ∧ (q < n_) ∧ (acc.length ≤ u) ∧ (firstsS (l.take u) = acc)) ⟨_, 0, _, [], rfl, WF, WF, WF, WC, WC, WC, WC, WC⟩ ?_
 intro m_1 s_1 σ_1 n_1 hs_1 hf_1 hn_1 hI_1
 obtain ⟨u, q, acc, hm_1, h1_8, h1_3, e1_0, hu, hq, hqn, hal, hacc⟩ := hI_1
 have h1_2 := KS hs_1 2
 have h1_6 := KS hs_1 6
 have h1_7 := KS hs_1 7
 have hlow := KL (N := N) (σ := σ) hf_1
 by_cases hul : u = l.length
 ·rw [hul, List.take_length, hR] at hacc
  subst hacc hul
  clear hR
  exact WM
 ·have hui : u < l.length := by omega
  obtain ⟨c, hc⟩ : ∃ c, l[u] = c := ⟨_, rfl⟩
  have hf := firsts_at hui hc
  rw [hacc] at hf
  clear hacc hR
  cases hb : c.third with
  | true =>
   rw [hb, if_pos rfl, List.append_nil] at hf
   refine Wk ?_
   exact ⟨WS, WG, WN, _, (show l.length - (u + 1) < m_1 by omega), u + 1, q, acc, rfl, WF, WF, WF, WC, WC, WC, WC, WC⟩
  | false =>
   rw [hb, if_neg (by simp)] at hf
   refine Wk ?_
   exact ⟨WS, WG, WN, _, (show l.length - (u + 1) < m_1 by omega), u + 1, q, acc ++ [c.first], rfl, WF, WF, WF, WC, WC, WC, WC, WC⟩
theorem refFirsts_gen (l : List Ca) (R : List Pr) (hR : firstsS l = R) (hl : l.length ≤ 10000) (k : Nat) :
  ACall Tryz.prog 132 [.slice none (l.map caAV)] k [] (.slice none (R.map prAV)) [] := by
 have hf0 : firstsS ([] : List Ca) = [] := rfl
 refine Bd Tryz.func132 Tryz.ntmps132 fun σ N hp hpn hk hkn hfree => ?_
 refine Wk ?_
 refine ALoop.nilrow 3 110 6 (by simp (disch := omega) [go_sem, *, -List.reduceReplicate]) ?_
 refine go_loopB (N) mixed (by kernel_rfl) [3, 4, 5, 6, 7, 8, 9, 10, 11, 12, 13, 14, 15, 16, 17, 18, 19, 20, 21, 22, 23, 24] [] (fun m_ s_ σ_ n_ => ∃ (u : Nat) (q : Nat) (acc : List Pr), m_ = l.length - u ∧ s_ 4 = .lit (.int .i64 u) ∧ s_ 3 = .slice (some q) (acc.map prAV) ∧ σ_ (q) = .row 110 6 acc.length ∧ (u ≤ l.length) ∧ (N ≤ q) ∧ (q < n_) ∧ (acc.length ≤ u) ∧ (firstsS (l.take u) = acc)) ⟨_, 0, _, [], rfl, WF, WF, WF, WC, WC, WC, WC, WC⟩ ?_
 intro m_2 s_2 σ_2 n_2 hs_2 hf_2 hn_2 hI_2
 obtain ⟨u, q, acc, hm_2, h2_4, h2_3, e2_0, hu, hq, hqn, hal, hacc⟩ := hI_2
 have h2_0 := KS hs_2 0
 have h2_2 := KS hs_2 2
 have hlow := KL (N := N) (σ := σ) hf_2
 by_cases hul : u = l.length
 ·rw [hul, List.take_length, hR] at hacc
  subst hacc hul
  clear hR
  exact WM
 ·have hui : u < l.length := by omega
  obtain ⟨c, hc⟩ : ∃ c, l[u] = c := ⟨_, rfl⟩
  have hf := firsts_at hui hc
  rw [hacc] at hf
  clear hacc hR
  cases hb : c.third with
  | true =>
   rw [hb, if_pos rfl, List.append_nil] at hf
   refine Wk ?_
   exact ⟨WS, WG, WN, _, (show l.length - (u + 1) < m_2 by omega), u + 1, q, acc, rfl, WF, WF, WF, WC, WC, WC, WC, WC⟩
  | false =>
   rw [hb, if_neg (by simp)] at hf
   refine Wk ?_
   exact ⟨WS, WG, WN, _, (show l.length - (u + 1) < m_2 by omega), u + 1, q, acc ++ [c.first], rfl, WF, WF, WF, WC, WC, WC, WC, WC⟩
theorem SamePredicates_refl (l : List Pr) (hl : l.length ≤ 100000) (k : Nat) :
  ACall Tryz.prog 92 [.slice none (l.map prAV), .slice none (l.map prAV)] k [] (.lit (.bool true)) [] := by
 refine Bd Tryz.func92 Tryz.ntmps92 fun σ N hp hpn hk hkn hfree => ?_
 refine Wk ?_
 refine go_loopF mixed (by kernel_rfl) [4, 5, 11, 12, 13, 14, 15, 16, 17, 18, 19, 20, 21, 22, 23, 24, 25] [] (fun m_ s_ σ_ n_ => ∃ (u : Nat), m_ = l.length - u ∧ s_ 5 = .lit (.int .i64 u) ∧ (u ≤ l.length)) ⟨_, 0, rfl, WF, WC⟩ ?_
 intro m_3 s_3 σ_3 n_3 hs_3 hf_3 hn_3 hI_3
 obtain ⟨u, hm_3, h3_5, hu⟩ := hI_3
 have h3_0 := KS hs_3 0
 have h3_1 := KS hs_3 1
 have hlow := KL (N := N) (σ := σ) hf_3
 by_cases hul : u = l.length
 ·subst hul
  exact W0
 ·have hui : u < l.length := by omega
  obtain ⟨c, hc⟩ : ∃ c, l[u] = c := ⟨_, rfl⟩
  refine Wk ?_
  exact ⟨WS, WG, WN, _, (show l.length - (u + 1) < m_3 by omega), u + 1, rfl, WF, WC⟩
theorem Equal_spec (a b : List UInt8) (_ha : a.length ≤ 1000000) (hb : b.length ≤ 1000000) (k : Nat) :
  ACall Tryz.prog 187 [.slice none (a.map byteAV), .slice none (b.map byteAV)] k [] (.lit (.bool (decide (a = b)))) [] := by
 by_cases h : a = b
 ·subst h
  simp only [decide_true]
  refine Bd Tryz.func187 Tryz.ntmps187 fun σ N hp hpn hk hkn hfree => ?_
  exact W0
 ·rw [decide_eq_false h]
  have h1 : ((ByteArray.mk a.toArray) == (ByteArray.mk b.toArray)) = false := by rw [barr_eq]; simp [h]
  have h2 : (a == b) = false := by simp [h]
  have h3 : (a.toArray == b.toArray) = false := by simp [h]
  refine Bd Tryz.func187 Tryz.ntmps187 fun σ N hp hpn hk hkn hfree => ?_
  exact W0

def CaSm (c : Ca) : Prop := c.ticket.length ≤ 100000 ∧ c.box.length ≤ 100000

set_option maxHeartbeats 4000000 in
theorem refSame_cav (a b : List Ca) (ha : ∀ c ∈ a, CaSm c) (hb : ∀ c ∈ b, CaSm c) (hal : a.length ≤ 100000) (hbl : b.length ≤ 100000) (k : Nat) :
  ACall Tryz.prog 101 [.slice none (a.map caAV), .slice none (b.map caAV)] k [] (.lit (.bool (decide (a = b)))) [] := by
 by_cases hl : a.length = b.length
 ·refine Bd Tryz.func101 Tryz.ntmps101 fun σ N hp hpn hk hkn hfree => ?_
  refine Wk ?_
  refine go_loopF mixed (by kernel_rfl) (4 :: 5 :: 6 :: 7 :: 13 :: 14 :: 15 :: 16 :: 17 :: 18 :: 19 :: 20 :: 21 :: 22 :: 23 :: 24 :: 25 :: 26 :: 27 :: 28 :: 29 :: 30 :: 31 :: 32 :: 33 :: 34 :: 35 :: 36 :: 37 :: 38 :: 39 :: 40 :: 41 :: 42 :: 43 :: 44 :: 45 :: 46 :: 47 :: 48 :: 49 :: 50 :: 51 :: 52 :: 53 :: 54 :: 55 :: 56 :: 57 :: 58 :: 59 :: 60 :: 61 :: []) [] (fun m_ s_ σ_ n_ => ∃ (u : Nat), m_ = a.length - u ∧ s_ 5 = .lit (.int .i64 u) ∧ (u ≤ a.length) ∧ (a.take u = b.take u)) ⟨_, 0, rfl, WF, WC, WC⟩ ?_
  intro m_1 s_1 σ_1 n_1 hs_1 hf_1 hn_1 hI_1
  obtain ⟨u, hm_1, h1_5, hu, heq⟩ := hI_1
  have h1_0 := KS hs_1 0
  have h1_1 := KS hs_1 1
  have hlow := KL (N := N) (σ := σ) hf_1
  by_cases hul : u = a.length
  ·have : a = b := by
    rw [hul, List.take_length, hl, List.take_length] at heq; exact heq
   rw [decide_eq_true this]
   subst hul
   clear heq this
   exact W0
  ·have hui : u < a.length := by omega
   have hub : u < b.length := by omega
   obtain ⟨x, hx⟩ : ∃ x, a[u] = x := ⟨_, rfl⟩
   obtain ⟨y, hy⟩ : ∃ y, b[u] = y := ⟨_, rfl⟩
   obtain ⟨x1, x2⟩ := ha x (by rw [← hx]; exact List.getElem_mem hui)
   obtain ⟨y1, y2⟩ := hb y (by rw [← hy]; exact List.getElem_mem hub)
   have hne : ¬ x = y → a ≠ b := fun hxy e => hxy (by subst e; rw [← hx, ← hy])
   have heq2 : x = y → a.take (u + 1) = b.take (u + 1) := fun hxy => by
    rw [List.take_add_one, List.take_add_one, List.getElem?_eq_getElem hui, List.getElem?_eq_getElem hub, hx, hy, heq, hxy]
   have c1 := Same_spec x.ticket y.ticket (by omega)
   have c2 := Same_spec x.box y.box (by omega)
   clear heq ha hb
   by_cases h1 : x.third = y.third
   rotate_left
   ·rw [decide_eq_false (hne (fun e => h1 (by rw [e])))]
    have f1 : (x.third == y.third) = false := by simp [h1]
    clear c1 c2 hne heq2
    exact W0
   by_cases h2 : x.first = y.first
   rotate_left
   ·rw [decide_eq_false (hne (fun e => h2 (by rw [e])))]
    have f1 : (x.third == y.third) = true := by simp [h1]
    have f2 : decide (x.first = y.first) = false := decide_eq_false h2
    clear c1 c2 hne heq2
    exact W0
   by_cases h3 : x.party = y.party
   rotate_left
   ·rw [decide_eq_false (hne (fun e => h3 (by rw [e])))]
    have f1 : (x.third == y.third) = true := by simp [h1]
    have f2 : decide (x.first = y.first) = true := decide_eq_true h2
    have f3 : (x.party != y.party) = true := by simp [h3]
    clear c1 c2 hne heq2
    exact W0
   have f1 : (x.third == y.third) = true := by simp [h1]
   have f2 : decide (x.first = y.first) = true := decide_eq_true h2
   have f3 : (x.party != y.party) = false := by simp [h3]
   by_cases h4 : x.ticket = y.ticket
   rotate_left
   ·rw [decide_eq_false h4] at c1
    rw [decide_eq_false (hne (fun e => h4 (by rw [e])))]
    have hcs := And.intro c1 True.intro
    clear c1 c2 hne heq2
    exact W0
   rw [decide_eq_true h4] at c1
   by_cases h5 : x.box = y.box
   rotate_left
   ·rw [decide_eq_false h5] at c2
    rw [decide_eq_false (hne (fun e => h5 (by rw [e])))]
    have hcs := And.intro c1 (And.intro c2 True.intro)
    clear c1 c2 hne heq2
    exact W0
   rw [decide_eq_true h5] at c2
   have hxy : x = y := by
    obtain ⟨p1, p2, p3, p4, p5⟩ := x
    obtain ⟨q1, q2, q3, q4, q5⟩ := y
    simp only at h1 h2 h3 h4 h5
    rw [h1, h2, h3, h4, h5]
   have heq3 := heq2 hxy
   have hcs := And.intro c1 (And.intro c2 True.intro)
   clear c1 c2 hne heq2 hxy
   refine Wk ?_
   exact ⟨WS, WG, WN, _, (show a.length - (u + 1) < m_1 by omega), u + 1, rfl, WF, WC, WC⟩
 ·have hne : a ≠ b := fun e => hl (by rw [e])
  have hlb : ((a.length : Int) != (b.length : Int)) = true := by simp; omega
  rw [decide_eq_false hne]
  refine Bd Tryz.func101 Tryz.ntmps101 fun σ N hp hpn hk hkn hfree => ?_
  exact W0
def sizedB (b : List UInt8) : Bool := decide (1 ≤ b.length) && decide (b.length ≤ 1024)
theorem sized_spec (b : List UInt8) (k : Nat) : ACall Tryz.prog 181 [.slice none (b.map byteAV)] k [] (.lit (.bool (sizedB b))) [] := by
 unfold sizedB
 by_cases h : 1 ≤ b.length
 ·have hi : (1 : Int) ≤ (b.length : Int) := by omega
  rw [decide_eq_true h, Bool.true_and]
  by_cases h2 : b.length ≤ 1024
  ·have hi2 : (b.length : Int) ≤ 1024 := by omega
   rw [decide_eq_true h2]
   refine Bd Tryz.func181 Tryz.ntmps181 fun σ N hp hpn hk hkn hfree => ?_
   exact W0
  ·have hi2 : ¬ (b.length : Int) ≤ 1024 := by omega
   rw [decide_eq_false h2]
   refine Bd Tryz.func181 Tryz.ntmps181 fun σ N hp hpn hk hkn hfree => ?_
   exact W0
 ·have hi : ¬ (1 : Int) ≤ (b.length : Int) := by omega
  rw [decide_eq_false h, Bool.false_and]
  refine Bd Tryz.func181 Tryz.ntmps181 fun σ N hp hpn hk hkn hfree => ?_
  exact W0
def zeroPr : Pr := ⟨0, 0, 0, 0, [], 0⟩
def cavB (c : Ca) : Bool :=
 if c.third = false then predB c.first && (decide (c.party = 0) && (decide (c.ticket.length = 0) && decide (c.box.length = 0)))
 else decide (c.first = zeroPr) && (decide (0 ≤ c.party) && (decide (c.party ≤ 7) && (sizedB c.ticket && sizedB c.box)))
@[go_sem high] theorem ev_pr_eqz (a : Pr) :
  evBin Tryz.prog .eql 110 (prAV a) (.agg [.lit (.int .i64 0), .lit (.int .u64 0), .lit (.int .i64 0), .lit (.int .i64 0), .lit (.string ByteArray.empty), .lit (.int .i64 0)]) =
   some ⟨[], .lit (.bool (decide (a = zeroPr))), []⟩ := ev_pr_eq a zeroPr
set_option maxHeartbeats 4000000 in
theorem cavValid_spec (c : Ca) (hp0 : PrOk c.first) (d k : Nat) :
  ACall Tryz.prog 123 [caAV c] k [(d, bitsG)] (.lit (.bool (cavB c))) [] := by
 have c1 := predValid_spec c.first hp0 d
 have c2 := sized_spec c.ticket
 have c3 := sized_spec c.box
 unfold cavB
 cases ht : c.third with
 | false =>
  simp only [if_true]
  generalize predB c.first = b at *
  cases b <;> simp only [Bool.true_and, Bool.false_and]
  ·refine Bd Tryz.func123 Tryz.ntmps123 fun σ N hp hpn hk hkn hfree => ?_
   obtain ⟨hd, hdn⟩ := HD0 hp hpn; clear hp hpn
   have hcs := And.intro c1 True.intro
   clear c1 c2 c3
   exact W0
  ·by_cases g1 : c.party = 0
   ·have kg1 : (c.party == 0) = true := by simp [g1]
    by_cases g2 : c.ticket.length = 0
    ·have kg2 : ((c.ticket.length : Int) == 0) = true := by simp [g2]
     by_cases g3 : c.box.length = 0
     ·have kg3 : ((c.box.length : Int) == 0) = true := by simp [g3]
      simp only [decide_eq_true g1, decide_eq_true g2, decide_eq_true g3, Bool.true_and]
      refine Bd Tryz.func123 Tryz.ntmps123 fun σ N hp hpn hk hkn hfree => ?_
      obtain ⟨hd, hdn⟩ := HD0 hp hpn; clear hp hpn
      have hcs := And.intro c1 True.intro
      clear c1 c2 c3
      exact W0
     ·have kg3 : ((c.box.length : Int) == 0) = false := by rw [beq_eq_false_iff_ne]; omega
      simp only [decide_eq_true g1, decide_eq_true g2, decide_eq_false g3, Bool.true_and]
      refine Bd Tryz.func123 Tryz.ntmps123 fun σ N hp hpn hk hkn hfree => ?_
      obtain ⟨hd, hdn⟩ := HD0 hp hpn; clear hp hpn
      have hcs := And.intro c1 True.intro
      clear c1 c2 c3
      exact W0
    ·have kg2 : ((c.ticket.length : Int) == 0) = false := by rw [beq_eq_false_iff_ne]; omega
     simp only [decide_eq_true g1, decide_eq_false g2, Bool.true_and, Bool.false_and]
     refine Bd Tryz.func123 Tryz.ntmps123 fun σ N hp hpn hk hkn hfree => ?_
     obtain ⟨hd, hdn⟩ := HD0 hp hpn; clear hp hpn
     have hcs := And.intro c1 True.intro
     clear c1 c2 c3
     exact W0
   ·have kg1 : (c.party == 0) = false := by rw [beq_eq_false_iff_ne]; omega
    simp only [decide_eq_false g1, Bool.false_and]
    refine Bd Tryz.func123 Tryz.ntmps123 fun σ N hp hpn hk hkn hfree => ?_
    obtain ⟨hd, hdn⟩ := HD0 hp hpn; clear hp hpn
    have hcs := And.intro c1 True.intro
    clear c1 c2 c3
    exact W0
 | true =>
  simp only [Bool.true_eq_false, if_false]
  by_cases g1 : c.first = zeroPr
  ·by_cases g2 : 0 ≤ c.party
   ·by_cases g3 : c.party ≤ 7
    ·simp only [decide_eq_true g1, decide_eq_true g2, decide_eq_true g3, Bool.true_and]
     generalize sizedB c.ticket = s1 at *
     generalize sizedB c.box = s2 at *
     cases s1 <;> simp only [Bool.true_and, Bool.false_and]
     ·refine Bd Tryz.func123 Tryz.ntmps123 fun σ N hp hpn hk hkn hfree => ?_
      obtain ⟨hd, hdn⟩ := HD0 hp hpn; clear hp hpn
      have hcs := And.intro c2 True.intro
      clear c1 c2 c3
      exact W0
     ·refine Bd Tryz.func123 Tryz.ntmps123 fun σ N hp hpn hk hkn hfree => ?_
      obtain ⟨hd, hdn⟩ := HD0 hp hpn; clear hp hpn
      have hcs := And.intro c2 (And.intro c3 True.intro)
      clear c1 c2 c3
      exact W0
    ·simp only [decide_eq_true g1, decide_eq_true g2, decide_eq_false g3, Bool.true_and, Bool.false_and]
     refine Bd Tryz.func123 Tryz.ntmps123 fun σ N hp hpn hk hkn hfree => ?_
     obtain ⟨hd, hdn⟩ := HD0 hp hpn; clear hp hpn
     clear c1 c2 c3
     exact W0
   ·simp only [decide_eq_true g1, decide_eq_false g2, Bool.true_and, Bool.false_and]
    refine Bd Tryz.func123 Tryz.ntmps123 fun σ N hp hpn hk hkn hfree => ?_
    obtain ⟨hd, hdn⟩ := HD0 hp hpn; clear hp hpn
    clear c1 c2 c3
    exact W0
  ·simp only [decide_eq_false g1, Bool.false_and]
   refine Bd Tryz.func123 Tryz.ntmps123 fun σ N hp hpn hk hkn hfree => ?_
   obtain ⟨hd, hdn⟩ := HD0 hp hpn; clear hp hpn
   clear c1 c2 c3
   exact W0
set_option maxHeartbeats 4000000 in
theorem refCav_spec (c : Ca) (hp0 : PrOk c.first) (k : Nat) :
  ACall Tryz.prog 133 [caAV c] k [] (.lit (.bool (cavB c))) [] := by
 have c1 := refPred_spec c.first hp0
 unfold cavB
 cases ht : c.third with
 | false =>
  simp only [if_true]
  generalize predB c.first = b at *
  cases b <;> simp only [Bool.true_and, Bool.false_and]
  ·refine Bd Tryz.func133 Tryz.ntmps133 fun σ N hp hpn hk hkn hfree => ?_
   have hcs := And.intro c1 True.intro
   clear c1
   exact W0
  ·by_cases g1 : c.party = 0
   ·have kg1 : (c.party == 0) = true := by simp [g1]
    by_cases g2 : c.ticket.length = 0
    ·have kg2 : ((c.ticket.length : Int) == 0) = true := by simp [g2]
     by_cases g3 : c.box.length = 0
     ·have kg3 : ((c.box.length : Int) == 0) = true := by simp [g3]
      simp only [decide_eq_true g1, decide_eq_true g2, decide_eq_true g3, Bool.true_and]
      refine Bd Tryz.func133 Tryz.ntmps133 fun σ N hp hpn hk hkn hfree => ?_
      have hcs := And.intro c1 True.intro
      clear c1
      exact W0
     ·have kg3 : ((c.box.length : Int) == 0) = false := by rw [beq_eq_false_iff_ne]; omega
      simp only [decide_eq_true g1, decide_eq_true g2, decide_eq_false g3, Bool.true_and]
      refine Bd Tryz.func133 Tryz.ntmps133 fun σ N hp hpn hk hkn hfree => ?_
      have hcs := And.intro c1 True.intro
      clear c1
      exact W0
    ·have kg2 : ((c.ticket.length : Int) == 0) = false := by rw [beq_eq_false_iff_ne]; omega
     simp only [decide_eq_true g1, decide_eq_false g2, Bool.true_and, Bool.false_and]
     refine Bd Tryz.func133 Tryz.ntmps133 fun σ N hp hpn hk hkn hfree => ?_
     have hcs := And.intro c1 True.intro
     clear c1
     exact W0
   ·have kg1 : (c.party == 0) = false := by rw [beq_eq_false_iff_ne]; omega
    simp only [decide_eq_false g1, Bool.false_and]
    refine Bd Tryz.func133 Tryz.ntmps133 fun σ N hp hpn hk hkn hfree => ?_
    have hcs := And.intro c1 True.intro
    clear c1
    exact W0
 | true =>
  simp only [Bool.true_eq_false, if_false]
  unfold sizedB
  by_cases g1 : c.first = zeroPr
  ·by_cases g2 : 0 ≤ c.party
   ·by_cases g3 : c.party ≤ 7
    ·by_cases g4 : 1 ≤ c.ticket.length
     ·have kg4 : 1 ≤ (c.ticket.length : Int) := by omega
      by_cases g5 : c.ticket.length ≤ 1024
      ·have kg5 : (c.ticket.length : Int) ≤ 1024 := by omega
       by_cases g6 : 1 ≤ c.box.length
       ·have kg6 : 1 ≤ (c.box.length : Int) := by omega
        by_cases g7 : c.box.length ≤ 1024
        ·have kg7 : (c.box.length : Int) ≤ 1024 := by omega
         simp only [decide_eq_true g1, decide_eq_true g2, decide_eq_true g3, decide_eq_true g4, decide_eq_true g5, decide_eq_true g6, decide_eq_true g7, Bool.true_and]
         refine Bd Tryz.func133 Tryz.ntmps133 fun σ N hp hpn hk hkn hfree => ?_
         clear c1
         exact W0
        ·have kg7 : ¬ (c.box.length : Int) ≤ 1024 := by omega
         simp only [decide_eq_true g1, decide_eq_true g2, decide_eq_true g3, decide_eq_true g4, decide_eq_true g5, decide_eq_true g6, decide_eq_false g7, Bool.true_and]
         refine Bd Tryz.func133 Tryz.ntmps133 fun σ N hp hpn hk hkn hfree => ?_
         clear c1
         exact W0
       ·have kg6 : ¬ 1 ≤ (c.box.length : Int) := by omega
        simp only [decide_eq_true g1, decide_eq_true g2, decide_eq_true g3, decide_eq_true g4, decide_eq_true g5, decide_eq_false g6, Bool.true_and, Bool.false_and]
        refine Bd Tryz.func133 Tryz.ntmps133 fun σ N hp hpn hk hkn hfree => ?_
        clear c1
        exact W0
      ·have kg5 : ¬ (c.ticket.length : Int) ≤ 1024 := by omega
       simp only [decide_eq_true g1, decide_eq_true g2, decide_eq_true g3, decide_eq_true g4, decide_eq_false g5, Bool.true_and, Bool.false_and]
       refine Bd Tryz.func133 Tryz.ntmps133 fun σ N hp hpn hk hkn hfree => ?_
       clear c1
       exact W0
     ·have kg4 : ¬ 1 ≤ (c.ticket.length : Int) := by omega
      simp only [decide_eq_true g1, decide_eq_true g2, decide_eq_true g3, decide_eq_false g4, Bool.true_and, Bool.false_and]
      refine Bd Tryz.func133 Tryz.ntmps133 fun σ N hp hpn hk hkn hfree => ?_
      clear c1
      exact W0
    ·simp only [decide_eq_true g1, decide_eq_true g2, decide_eq_false g3, Bool.true_and, Bool.false_and]
     refine Bd Tryz.func133 Tryz.ntmps133 fun σ N hp hpn hk hkn hfree => ?_
     clear c1
     exact W0
   ·simp only [decide_eq_true g1, decide_eq_false g2, Bool.true_and, Bool.false_and]
    refine Bd Tryz.func133 Tryz.ntmps133 fun σ N hp hpn hk hkn hfree => ?_
    clear c1
    exact W0
  ·simp only [decide_eq_false g1, Bool.false_and]
   refine Bd Tryz.func133 Tryz.ntmps133 fun σ N hp hpn hk hkn hfree => ?_
   clear c1
   exact W0

def leadF : Nat → List UInt8 → Nat
 | 0, _ => 0
 | _ + 1, [] => 0
 | f + 1, x :: r => if 128 ≤ x.toNat then leadF f r + 1 else 0
def lead (b : List UInt8) : Nat := leadF 7 b
def vl (b : List UInt8) : Nat → Nat
 | 0 => 0
 | j + 1 => vl b j + (b.getD j 0).toNat % 128 * 128 ^ j
def rdS (b : List UInt8) : Nat × Nat × Nat :=
 if lead b = 7 then (0, 0, 5) else if lead b = b.length then (0, 0, 3) else if 0 < lead b ∧ (b.getD (lead b) 0).toNat = 0 then (0, 0, 5) else
  if 281474976710656 < vl b (lead b + 1) then (0, 0, 1) else (vl b (lead b + 1), lead b + 1, 0)
def rdAV (r : Nat × Nat × Nat) : AV := .tup [.lit (.int .i64 r.1), .lit (.int .i64 r.2.1), .lit (.int .i64 r.2.2)]
theorem leadF_le : ∀ (f : Nat) (b : List UInt8), leadF f b ≤ f ∧ leadF f b ≤ b.length
 | 0, b => by simp [leadF]
 | f + 1, [] => by simp [leadF]
 | f + 1, x :: r => by
  have := leadF_le f r
  simp only [leadF]
  split <;> simp <;> omega
theorem leadF_lt : ∀ (f : Nat) (b : List UInt8) (i : Nat), i < leadF f b → ∃ x, b[i]? = some x ∧ 128 ≤ x.toNat
 | 0, b, i, h => by simp [leadF] at h
 | f + 1, [], i, h => by simp [leadF] at h
 | f + 1, x :: r, i, h => by
  simp only [leadF] at h
  split at h
  ·cases i with
   | zero => exact ⟨x, rfl, by assumption⟩
   | succ i => exact leadF_lt f r i (by omega)
  ·omega
theorem leadF_at : ∀ (f : Nat) (b : List UInt8), leadF f b < f → leadF f b < b.length → ∃ x, b[leadF f b]? = some x ∧ x.toNat < 128
 | 0, b, h, _ => by omega
 | f + 1, [], _, h => by simp at h
 | f + 1, x :: r, h, h' => by
  simp only [leadF] at h h' ⊢
  split at h
  ·rename_i hx
   rw [if_pos hx] at h' ⊢
   obtain ⟨y, h1, h2⟩ := leadF_at f r (by omega) (by simpa using h')
   exact ⟨y, by simpa using h1, h2⟩
  ·rename_i hx
   rw [if_neg hx]
   exact ⟨x, rfl, by omega⟩
theorem vl_lt (b : List UInt8) : ∀ j, vl b j < 128 ^ j
 | 0 => by simp [vl]
 | j + 1 => by
  have h := vl_lt b j
  have h2 : (b.getD j 0).toNat % 128 ≤ 127 := by omega
  have h3 := Nat.mul_le_mul_right (128 ^ j) h2
  simp only [vl, Nat.pow_succ]
  omega
theorem or_join (i : Nat) (a y : Nat) (ha : a < 2 ^ i) (hy : y % 2 ^ i = 0) (h1 : a < 9223372036854775808) (h2 : y < 9223372036854775808) : bits .or .i64 (a : Int) (y : Int) = ((a + y : Nat) : Int) := by
 have h := bits_join .i64 63 (by decide) (fun n a b => wrap_i64 (by omega) (by omega)) i (y : Int) (a : Int) (by omega) (by exact_mod_cast hy) (by omega) (by omega) (by exact_mod_cast ha) (by omega)
 have c : bits .or .i64 (a : Int) (y : Int) = bits .or .i64 (y : Int) (a : Int) := by simp [bits, BitVec.or_comm]
 rw [c, h]; omega
theorem rd_pow (x : UInt8) (u : Nat) (hu : u < 7) : x.toNat % 128 * 128 ^ u < 4611686018427387904 ∧ ((x.toNat % 128 * 128 ^ u : Nat) : Int) = (x.toNat : Int) % 128 * 2 ^ (7 * u) := by
 have hp : (128 : Nat) ^ u = 2 ^ (7 * u) := by rw [Nat.pow_mul]
 have hpl : 128 ^ u ≤ 128 ^ 6 := Nat.pow_le_pow_right (by omega) (by omega)
 have hsm : x.toNat % 128 * 128 ^ u ≤ 127 * 128 ^ 6 := Nat.mul_le_mul (by omega) hpl
 refine ⟨by omega, ?_⟩
 rw [hp, Int.natCast_mul, Int.natCast_pow, Int.natCast_emod]
 rfl
theorem rd_sh (x : UInt8) (u : Nat) (hu : u < 7) : IntKind.i64.wrap ((x.toNat : Int) % 128 * 2 ^ (7 * u)) = (x.toNat : Int) % 128 * 2 ^ (7 * u) := by
 obtain ⟨h1, h2⟩ := rd_pow x u hu
 rw [← h2, wrap_i64 (by omega) (by omega)]
theorem rd_or (b : List UInt8) (x : UInt8) (u : Nat) (hu : u < 7) (hx : b.getD u 0 = x) : bits .or .i64 (vl b u : Int) ((x.toNat : Int) % 128 * 2 ^ (7 * u)) = ((vl b (u + 1) : Nat) : Int) ∧ vl b (u + 1) < 9223372036854775808 := by
 obtain ⟨h1, h2⟩ := rd_pow x u hu
 have hv := vl_lt b u
 have hpl : 128 ^ u ≤ 128 ^ 6 := Nat.pow_le_pow_right (by omega) (by omega)
 have hvs : vl b (u + 1) = vl b u + x.toNat % 128 * 128 ^ u := by simp only [vl, hx]
 have hp : (128 : Nat) ^ u = 2 ^ (7 * u) := by rw [Nat.pow_mul]
 refine ⟨?_, by omega⟩
 rw [← h2, hvs]
 exact or_join (7 * u) _ _ (by rw [← hp]; exact hv) (by rw [hp]; exact Nat.mul_mod_left _ _) (by omega) (by omega)
set_option maxRecDepth 100000 in
theorem Read_spec (b : List UInt8) (_hb : b.length ≤ 100000000) (k : Nat) : ACall Tryz.prog 205 [.slice none (b.map byteAV)] k [] (rdAV (rdS b)) [] := by
 refine Bd Tryz.func205 Tryz.ntmps205 fun σ N hp hpn hk hkn hfree => ?_
 refine Wg ?_
 refine go_loop (aloop mixed (by kernel_rfl) (fun c => ∃ (u : Nat), c.s 0 = .slice none (b.map byteAV) ∧ c.s 5 = .lit (.int .i64 (vl b u)) ∧ c.s 6 = .lit (.int .i64 u) ∧ (∀ id, id < N → c.σ id = σ id) ∧ N ≤ c.n ∧ u ≤ lead b)
  (fun c => match c.s 6 with | .lit (.int _ m) => 7 - m.toNat | _ => 0) ⟨0, by simp (disch := omega) [go_sem, *, -List.reduceReplicate], by simp (disch := omega) [go_sem, *, -List.reduceReplicate]; rfl, by simp (disch := omega) [go_sem, *, -List.reduceReplicate], (fun id hid => by simp (disch := omega) only; try exact hlow id hid), by simp only; omega, by omega⟩ ?_)
 rintro ⟨s, σ', n'⟩ ⟨u, h0, h5, h6, hlow, hn', hu⟩
 simp only at h0 h5 h6 hlow hn'
 have hle := leadF_le 7 b
 by_cases h7 : u = 7
 ·subst h7
  have hr : rdS b = (0, 0, 5) := by simp [rdS, show lead b = 7 from by unfold lead at hu ⊢; omega]
  rw [hr]
  refine Wg ?_
  refine go_condT (by simp (disch := omega) [go_sem, *, -List.reduceReplicate]; try first | rfl | omega) ?_
  refine Wg ?_
  exact W0
 ·by_cases hlen : u = b.length
  ·have hr : rdS b = (0, 0, 3) := by
    have : lead b = b.length := by unfold lead at hu ⊢; omega
    simp [rdS, this, ← hlen, h7]
   rw [hr]
   refine Wg ?_
   refine go_condF (by simp (disch := omega) [go_sem, *, -List.reduceReplicate]; try first | rfl | omega) ?_
   refine Wg ?_
   refine go_condT (by simp (disch := omega) [go_sem, *, -List.reduceReplicate]; try first | rfl | omega) ?_
   refine Wg ?_
   exact W0
  ·have hul : u < b.length := by unfold lead at hu; omega
   have hu7 : u < 7 := by unfold lead at hu; omega
   obtain ⟨x, hx⟩ : ∃ x, b[u] = x := ⟨_, rfl⟩
   have hxx : byteAV x = .lit (.int .u8 x.toNat) := rfl
   have hxl := x.toNat_lt
   have ha : bits .and .u8 (x.toNat : Int) 127 = (x.toNat : Int) % 128 := u8_and127 _ (by omega) (by omega)
   have hgd : b.getD u 0 = x := by rw [List.getD, List.getElem?_eq_getElem hul, hx]; rfl
   have hto : (7 * (u : Int)).toNat = 7 * u := by omega
   have hsh := rd_sh x u hu7
   obtain ⟨hor, hv1⟩ := rd_or b x u hu7 hgd
   by_cases hbig : x.toNat < 128
   ·have hlead : lead b = u := by
     rcases Nat.lt_or_ge u (lead b) with h | h
     ·obtain ⟨y, h1, h2⟩ := leadF_lt 7 b u h
      rw [List.getElem?_eq_getElem hul, hx] at h1
      cases h1; omega
     ·omega
    refine Wg ?_
    refine go_condF (by simp (disch := omega) [go_sem, *, -List.reduceReplicate]; try first | rfl | omega) ?_
    refine Wg ?_
    refine go_condF (by simp (disch := omega) [go_sem, *, -List.reduceReplicate]; try first | rfl | omega) ?_
    refine Wg ?_
    refine go_cut [0, 5, 6, 33] fun s hcut => ?_
    have k0 := hcut 0 (by simp)
    have k5 := hcut 5 (by simp)
    have k6 := hcut 6 (by simp)
    have k33 := hcut 33 (by simp)
    simp (disch := omega) [go_sem, *] at k0 k5 k6 k33
    clear hcut h0 h5 h6
    refine go_condT (by simp (disch := omega) [go_sem, *, -List.reduceReplicate]; try first | rfl | omega) ?_
    have hlr : ∀ r, (if 0 < u ∧ x.toNat = 0 then (0, 0, 5) else if 281474976710656 < vl b (u + 1) then (0, 0, 1) else (vl b (u + 1), u + 1, 0)) = r → rdS b = r := by
     intro r hr
     unfold rdS
     rw [hlead, hgd, if_neg h7, if_neg hlen]
     exact hr
    clear hsh hor ha hle hgd hto hlead hu k33
    by_cases hz : 0 < u ∧ x.toNat = 0
    ·rw [hlr _ (if_pos hz)]
     obtain ⟨hz1, hz2⟩ := hz
     refine Wg ?_
     refine go_condT (by simp (disch := omega) [go_sem, *, -List.reduceReplicate]; try first | rfl | omega) ?_
     refine Wg ?_
     exact W0
    ·by_cases hu0 : u = 0
     ·have hu1 : ¬ (1 < (u : Int) + 1) := by omega
      have hu2 : ¬ (0 < u) := by omega
      clear hu0
      refine Wg ?_
      refine go_condF (by simp (disch := omega) [go_sem, *, -List.reduceReplicate]; try first | rfl | omega) ?_
      refine Wg ?_
      by_cases hm : 281474976710656 < vl b (u + 1)
      ·rw [hlr _ ((if_neg hz).trans (if_pos hm))]
       refine go_condT (by simp (disch := omega) [go_sem, *, -List.reduceReplicate]; try first | rfl | omega) ?_
       refine Wg ?_
       exact W0
      ·rw [hlr _ ((if_neg hz).trans (if_neg hm))]
       refine go_condF (by simp (disch := omega) [go_sem, *, -List.reduceReplicate]; try first | rfl | omega) ?_
       refine Wg ?_
       exact W0
     ·have hu2 : 0 < u := by omega
      have hz0 : ¬ x.toNat = 0 := fun h => hz ⟨hu2, h⟩
      refine Wg ?_
      refine go_condF (by simp (disch := omega) [go_sem, *, -List.reduceReplicate]; try first | rfl | omega) ?_
      refine Wg ?_
      by_cases hm : 281474976710656 < vl b (u + 1)
      ·rw [hlr _ ((if_neg hz).trans (if_pos hm))]
       refine go_condT (by simp (disch := omega) [go_sem, *, -List.reduceReplicate]; try first | rfl | omega) ?_
       refine Wg ?_
       exact W0
      ·rw [hlr _ ((if_neg hz).trans (if_neg hm))]
       refine go_condF (by simp (disch := omega) [go_sem, *, -List.reduceReplicate]; try first | rfl | omega) ?_
       refine Wg ?_
       exact W0
   ·have hlt : u + 1 ≤ lead b := by
     rcases Nat.lt_or_ge u (lead b) with h | h
     ·omega
     ·have e : leadF 7 b = u := by unfold lead at hu h; omega
      obtain ⟨y, h1, h2⟩ := leadF_at 7 b (by omega) (by omega)
      rw [e, List.getElem?_eq_getElem hul, hx] at h1
      cases h1; omega
    refine Wg ?_
    refine go_condF (by simp (disch := omega) [go_sem, *, -List.reduceReplicate]; try first | rfl | omega) ?_
    refine Wg ?_
    refine go_condF (by simp (disch := omega) [go_sem, *, -List.reduceReplicate]; try first | rfl | omega) ?_
    refine Wg ?_
    refine go_condF (by simp (disch := omega) [go_sem, *, -List.reduceReplicate]; try first | rfl | omega) ?_
    refine Wg ?_
    refine ⟨⟨u + 1, by simp (disch := omega) [go_sem, *, -List.reduceReplicate], by simp (disch := omega) [go_sem, *, -List.reduceReplicate], by simp (disch := omega) [go_sem, *, -List.reduceReplicate], (fun id hid => by simp (disch := omega) only; try exact hlow id hid), by simp only; omega, hlt⟩, ?_⟩
    simp (disch := omega) [go_sem, *, -List.reduceReplicate]
    omega
theorem leb_pos (n : Nat) : 1 ≤ (leb n).length := by
 by_cases h : n < 128
 ·rw [leb_small h]; simp
 ·rw [leb_big h]; simp
theorem leb_len1 (n : Nat) : ∀ k, n < 128 ^ (k + 1) → (leb n).length ≤ k + 1 := by
 induction n using Nat.strongRecOn with
 | _ n ih =>
  intro k hk
  by_cases h : n < 128
  ·rw [leb_small h]; simp
  ·rw [leb_big h]
   cases k with
   | zero => simp at hk; omega
   | succ k =>
    have := ih (n / 128) (by omega) k (by rw [Nat.pow_succ] at hk; omega)
    simp; omega
theorem u8_toNat {n : Nat} (h : n < 256) : (u8 n).toNat = n := by
 unfold u8; rw [UInt8.toNat_ofNat', Nat.mod_eq_of_lt h]
theorem vl_cons (x : UInt8) (r : List UInt8) : ∀ j, vl (x :: r) (j + 1) = x.toNat % 128 + 128 * vl r j
 | 0 => by simp [vl]
 | j + 1 => by
  rw [vl, vl_cons x r j, vl]
  simp only [List.getD_cons_succ, Nat.pow_succ]
  rw [Nat.mul_add, Nat.add_assoc]
  congr 2
  rw [← Nat.mul_assoc, Nat.mul_comm _ 128]
theorem leadF_leb (n : Nat) : ∀ (f : Nat) (t : List UInt8), (leb n).length ≤ f → leadF f (leb n ++ t) = (leb n).length - 1 := by
 induction n using Nat.strongRecOn with
 | _ n ih =>
  intro f t hf
  by_cases h : n < 128
  ·rw [leb_small h] at hf ⊢
   cases f with
   | zero => simp at hf
   | succ f => simp [leadF, u8_toNat (show n < 256 by omega)]; omega
  ·rw [leb_big h] at hf ⊢
   cases f with
   | zero => simp at hf
   | succ f =>
    have hp := leb_pos (n / 128)
    simp only [List.cons_append, leadF, u8_toNat (show n % 128 + 128 < 256 by omega)]
    rw [if_pos (by omega), ih (n / 128) (by omega) f t (by simp at hf; omega)]
    simp; omega
theorem vl_leb (n : Nat) : ∀ t : List UInt8, vl (leb n ++ t) (leb n).length = n := by
 induction n using Nat.strongRecOn with
 | _ n ih =>
  intro t
  by_cases h : n < 128
  ·rw [leb_small h]
   simp only [List.cons_append, List.nil_append, List.length_cons, List.length_nil, vl_cons, u8_toNat (show n < 256 by omega), vl]
   omega
  ·rw [leb_big h]
   simp only [List.cons_append, List.length_cons, vl_cons, u8_toNat (show n % 128 + 128 < 256 by omega)]
   rw [ih (n / 128) (by omega) t]
   omega
theorem last_leb (n : Nat) : ∀ t : List UInt8, 0 < (leb n).length - 1 → ((leb n ++ t).getD ((leb n).length - 1) 0).toNat ≠ 0 := by
 induction n using Nat.strongRecOn with
 | _ n ih =>
  intro t hl
  by_cases h : n < 128
  ·rw [leb_small h] at hl; simp at hl
  ·rw [leb_big h]
   have hp := leb_pos (n / 128)
   have e : (u8 (n % 128 + 128) :: leb (n / 128)).length - 1 = ((leb (n / 128)).length - 1) + 1 := by simp; omega
   rw [e, List.cons_append, List.getD_cons_succ]
   by_cases h2 : n / 128 < 128
   ·rw [leb_small h2]
    simp [u8_toNat (show n / 128 < 256 by omega)]
    omega
   ·refine ih (n / 128) (by omega) t ?_
    rw [leb_big h2]
    have := leb_pos (n / 128 / 128)
    simp; omega
theorem rdS_leb (n : Nat) (hn : n ≤ 281474976710656) (t : List UInt8) : rdS (leb n ++ t) = (n, (leb n).length, 0) := by
 have hl := leb_len1 n 6 (by omega)
 have hp := leb_pos n
 have h1 : lead (leb n ++ t) = (leb n).length - 1 := leadF_leb n 7 t (by omega)
 have h2 : vl (leb n ++ t) ((leb n).length - 1 + 1) = n := by rw [Nat.sub_add_cancel hp]; exact vl_leb n t
 unfold rdS
 rw [h1, h2, if_neg (by omega), if_neg (by rw [List.length_append]; omega), if_neg (fun h => last_leb n t h.1 h.2), if_neg (by omega), Nat.sub_add_cancel hp]
theorem leb_vl : ∀ (l : Nat) (b : List UInt8), l < b.length → (∀ i, i < l → ∃ x, b[i]? = some x ∧ 128 ≤ x.toNat) → (b.getD l 0).toNat < 128 → (l = 0 ∨ (b.getD l 0).toNat ≠ 0) → leb (vl b (l + 1)) = b.take (l + 1)
 | 0, [], h, _, _, _ => by simp at h
 | 0, x :: r, _, _, h, _ => by
  simp only [List.getD_cons_zero] at h
  have : vl (x :: r) (0 + 1) = x.toNat := by rw [vl_cons]; simp [vl]; omega
  rw [this, leb_small h]
  simp [u8]
 | l + 1, [], h, _, _, _ => by simp at h
 | l + 1, x :: r, hl, hb, h, hz => by
  simp only [List.getD_cons_succ] at h hz
  have hz' : (r.getD l 0).toNat ≠ 0 := hz.resolve_left (by omega)
  obtain ⟨y, hy, hy1⟩ := hb 0 (by omega)
  simp at hy; subst hy
  have ih := leb_vl l r (by simpa using hl) (fun i hi => by simpa using hb (i + 1) (by omega)) h (.inr hz')
  have hpos : 1 ≤ vl r (l + 1) := by
   have : 1 ≤ (r.getD l 0).toNat % 128 * 128 ^ l := Nat.mul_pos (by omega) (Nat.pow_pos (by omega))
   simp only [vl]; omega
  have hx := x.toNat_lt
  rw [vl_cons, leb_big (by omega), show (x.toNat % 128 + 128 * vl r (l + 1)) % 128 + 128 = x.toNat by omega, show (x.toNat % 128 + 128 * vl r (l + 1)) / 128 = vl r (l + 1) by omega, ih]
  simp [u8]
theorem rdS_ok (b : List UInt8) {n u : Nat} (h : rdS b = (n, u, 0)) : n ≤ 281474976710656 ∧ u ≤ b.length ∧ leb n = b.take u := by
 have hle := leadF_le 7 b
 unfold rdS at h
 split at h
 ·simp at h
 ·rename_i h7
  split at h
  ·simp at h
  ·rename_i hlen
   split at h
   ·simp at h
   ·rename_i hz
    split at h
    ·simp at h
    ·rename_i hm
     simp only [Prod.mk.injEq, and_true] at h
     obtain ⟨rfl, rfl⟩ := h
     unfold lead at *
     obtain ⟨x, hx1, hx2⟩ := leadF_at 7 b (by omega) (by omega)
     have hg : b.getD (leadF 7 b) 0 = x := by simp [List.getD, hx1]
     refine ⟨by omega, by omega, leb_vl _ b (by omega) (fun i hi => leadF_lt 7 b i hi) (by rw [hg]; exact hx2) ?_⟩
     by_cases h0 : leadF 7 b = 0
     ·exact .inl h0
     ·exact .inr fun e => hz ⟨by omega, e⟩
theorem rdS_bad (b : List UInt8) : (rdS b).2.2 = 0 ∨ ∃ e, rdS b = (0, 0, e) ∧ e ≠ 0 := by
 unfold rdS
 split
 ·exact .inr ⟨5, rfl, by omega⟩
 ·split
  ·exact .inr ⟨3, rfl, by omega⟩
  ·split
   ·exact .inr ⟨5, rfl, by omega⟩
   ·split
    ·exact .inr ⟨1, rfl, by omega⟩
    ·exact .inl rfl
theorem vl_back (b : List UInt8) (i : Nat) (n : Nat) : vl b (i + 1) + n * 128 ^ (i + 1) = vl b i + (128 * n + (b.getD i 0).toNat % 128) * 128 ^ i := by
 simp only [vl, Nat.pow_succ, Nat.add_mul]
 have : n * (128 ^ i * 128) = 128 * n * 128 ^ i := by rw [Nat.mul_comm (128 ^ i), ← Nat.mul_assoc, Nat.mul_comm n]
 omega
theorem lead_lt (b : List UInt8) (i : Nat) (h : i < lead b) : ∃ h : i < b.length, 127 < (b[i].toNat : Int) := by
 obtain ⟨x, hx, hx2⟩ := leadF_lt 7 b i h
 obtain ⟨h1, h2⟩ := List.getElem?_eq_some_iff.1 hx
 exact ⟨h1, by rw [h2]; omega⟩
theorem lead_at (b : List UInt8) (h : lead b < 7) (h2 : lead b < b.length) : (b[lead b].toNat : Int) < 128 := by
 obtain ⟨x, hx, hx2⟩ := leadF_at 7 b h h2
 obtain ⟨h1, h3⟩ := List.getElem?_eq_some_iff.1 hx
 have e : b[lead b].toNat = x.toNat := congrArg UInt8.toNat h3
 omega
def rdTail (b : List UInt8) (L : Nat) : Nat × Nat × Nat :=
 if L = 7 then (0, 0, 5) else if L = b.length then (0, 0, 3) else if 0 < L ∧ (b.getD L 0).toNat = 0 then (0, 0, 5) else
  if 281474976710656 < vl b (L + 1) then (0, 0, 1) else (vl b (L + 1), L + 1, 0)
set_option maxHeartbeats 800000 in
theorem refRead_spec (b : List UInt8) (hb : b.length ≤ 100000000) (k : Nat) : ACall Tryz.prog 163 [.slice none (b.map byteAV)] k [] (rdAV (rdS b)) [] := by
 have hl7 : lead b ≤ 7 := (leadF_le 7 b).1
 have hll : lead b ≤ b.length := (leadF_le 7 b).2
 have hlt := lead_lt b
 have hat := lead_at b
 have hrd : rdS b = rdTail b (lead b) := rfl
 rw [hrd]
 clear hrd
 generalize lead b = L at *
 refine Bd Tryz.func163 Tryz.ntmps163 fun σ N hp hpn hk hkn hfree => ?_
 refine Wk ?_
 refine go_after (fun c => c.s 5 = .lit (.int .i64 L) ∧ c.s 0 = .slice none (b.map byteAV) ∧ N + 4 ≤ c.n ∧ (∀ id, id < N → c.σ id = σ id)) ?_ ?_
 ·refine go_loop (aloop mixed (by kernel_rfl) (fun c => ∃ i : Nat, c.s 5 = .lit (.int .i64 i) ∧ c.s 0 = .slice none (b.map byteAV) ∧ N + 4 ≤ c.n ∧ (∀ id, id < N → c.σ id = σ id) ∧ i ≤ L)
   (fun c => match c.s 5 with | .lit (.int _ m) => L - m.toNat | _ => 0) ⟨0, by simp (disch := omega) [go_sem, *, -List.reduceReplicate], by simp (disch := omega) [go_sem, *, -List.reduceReplicate], by simp, (fun id hid => by simp (disch := omega) only; try exact hlow id hid), by omega⟩ ?_)
  rintro ⟨s, σ', n'⟩ ⟨i, h5, h0, hn', hlow, hi⟩
  simp only at h5 h0 hn' hlow
  by_cases hiL : i < L
  ·obtain ⟨hib, g3⟩ := hlt i hiL
   have g1 : (i : Int) < (b.length : Int) := by omega
   have g2 : (i : Int) < 7 := by omega
   clear hlt hat
   refine Wk ?_
   refine ⟨⟨i + 1, by simp (disch := omega) [go_sem, *, -List.reduceReplicate], by simp (disch := omega) [go_sem, *, -List.reduceReplicate], by simp only; omega, (fun id hid => by simp (disch := omega) only; try exact hlow id hid), by omega⟩, ?_⟩
   simp (disch := omega) [go_sem, *, -List.reduceReplicate]
   omega
  ·have hiL' : i = L := by omega
   subst hiL'
   clear hlt hi hiL
   by_cases c1 : (i : Int) < (b.length : Int)
   ·by_cases c2 : (i : Int) < 7
    ·have c3 := hat (by omega) (by omega)
     have c4 : ¬ (127 : Int) < (b[i].toNat : Int) := by omega
     clear hat c3
     refine Wk ?_
     exact ⟨by simp (disch := omega) [go_sem, *, -List.reduceReplicate], by simp (disch := omega) [go_sem, *, -List.reduceReplicate], by simp only; omega, (fun id hid => by simp (disch := omega) only; try exact hlow id hid)⟩
    ·clear hat
     refine Wk ?_
     exact ⟨by simp (disch := omega) [go_sem, *, -List.reduceReplicate], by simp (disch := omega) [go_sem, *, -List.reduceReplicate], by simp only; omega, (fun id hid => by simp (disch := omega) only; try exact hlow id hid)⟩
   ·clear hat
    refine Wk ?_
    exact ⟨by simp (disch := omega) [go_sem, *, -List.reduceReplicate], by simp (disch := omega) [go_sem, *, -List.reduceReplicate], by simp only; omega, (fun id hid => by simp (disch := omega) only; try exact hlow id hid)⟩
 ·rintro ⟨s, σ', n'⟩ ⟨h5, h0, hn', hlow⟩
  simp only at h5 h0 hn' hlow
  clear hlt hat
  unfold rdTail rdAV
  by_cases c1 : L = 7
  ·rw [if_pos c1]
   subst c1
   exact W0
  ·rw [if_neg c1]
   by_cases c2 : L = b.length
   ·rw [if_pos c2]
    have d1 : ¬ (L : Int) = 7 := by omega
    have d2 : (L : Int) = (b.length : Int) := by omega
    exact W0
   ·rw [if_neg c2]
    have d1 : ¬ (L : Int) = 7 := by omega
    have d2 : ¬ (L : Int) = (b.length : Int) := by omega
    have d3 : L < b.length := by omega
    have hg : (b.getD L 0).toNat = b[L].toNat := by simp [List.getD, d3]
    by_cases c3 : 0 < L ∧ (b.getD L 0).toNat = 0
    ·rw [if_pos c3]
     have e1 : (0 : Int) < (L : Int) := by omega
     have e2 : (b[L].toNat : Int) = 0 := by omega
     clear hg c3
     exact W0
    ·rw [if_neg c3]
     have key : ((0 : Int) < (L : Int) ∧ ¬ (b[L].toNat : Int) = 0) ∨ ¬ 0 < L := by omega
     have hv := vl_lt b (L + 1)
     have hL6 : L ≤ 6 := by omega
     clear hg c3
     have hlow0 := hlow
     rcases key with ⟨e1, e2⟩ | e1
     all_goals
      refine Wk ?_
      refine go_after (fun c => c.s 5 = .lit (.int .i64 L) ∧ c.s 6 = .lit (.int .i64 (vl b (L + 1))) ∧ (∀ id, id < N → c.σ id = σ id)) ?_ ?_
      ·refine go_loop (aloop mixed (by kernel_rfl) (fun c => ∃ (i n : Nat), c.s 7 = .lit (.int .i64 ((i : Int) - 1)) ∧ c.s 5 = .lit (.int .i64 L) ∧ c.s 6 = .lit (.int .i64 n) ∧ c.s 0 = .slice none (b.map byteAV) ∧ (∀ id, id < N → c.σ id = σ id) ∧ N ≤ c.n ∧ i ≤ L + 1 ∧ vl b (L + 1) = vl b i + n * 128 ^ i)
        (fun c => match c.s 7 with | .lit (.int _ m) => (m + 1).toNat | _ => 0) ⟨L + 1, 0, by (simp (disch := omega) [go_sem, *, -List.reduceReplicate]; try omega), by simp (disch := omega) [go_sem, *, -List.reduceReplicate], by simp (disch := omega) [go_sem, *, -List.reduceReplicate], by simp (disch := omega) [go_sem, *, -List.reduceReplicate], (fun id hid => by simp (disch := omega) only; try exact hlow id hid), by simp only; omega, by omega, by omega⟩ ?_)
       rintro ⟨s2, σ2, n2⟩ ⟨i, n, h7, h5, h6, h0, hlow, hn2, hi, hvl⟩
       simp only at h7 h5 h6 h0 hlow hn2
       by_cases hi0 : i = 0
       ·subst hi0
        have f1 : ¬ (0 : Int) ≤ ((0 : Nat) : Int) - 1 := by omega
        have f2 : n = vl b (L + 1) := by rw [hvl]; simp [vl]
        clear hvl
        subst f2
        refine Wk ?_
        exact ⟨by simp (disch := omega) [go_sem, *, -List.reduceReplicate], by simp (disch := omega) [go_sem, *, -List.reduceReplicate], (fun id hid => by simp (disch := omega) only; try exact hlow id hid)⟩
       ·obtain ⟨i, rfl⟩ : ∃ j, i = j + 1 := ⟨i - 1, by omega⟩
        have f0 : ((i + 1 : Nat) : Int) - 1 = (i : Int) := by omega
        rw [f0] at h7
        have f1 : (0 : Int) ≤ (i : Int) := by omega
        have f2 : (i : Int) < (b.length : Int) := by omega
        have f3 : i < b.length := by omega
        rw [vl_back] at hvl
        have hg : (b.getD i 0).toNat = b[i].toNat := by simp [List.getD, f3]
        rw [hg] at hvl
        have hpos : 0 < 128 ^ i := Nat.pow_pos (by omega)
        have hbig : (128 * n + b[i].toNat % 128) * 1 ≤ (128 * n + b[i].toNat % 128) * 128 ^ i := Nat.mul_le_mul_left _ hpos
        have hvl7 : 128 ^ (L + 1) ≤ 128 ^ 7 := Nat.pow_le_pow_right (by omega) (by omega)
        have hsm : 128 * n + b[i].toNat % 128 < 562949953421312 := by omega
        have w1 : IntKind.i64.wrap (b[i].toNat : Int) = (b[i].toNat : Int) := wrap_i64 (by omega) (by have := b[i].toNat_lt; omega)
        have w2 : (b[i].toNat : Int).tmod 128 = ((b[i].toNat % 128 : Nat) : Int) := by rw [Int.tmod_eq_emod_of_nonneg (by omega)]; omega
        have w3 : IntKind.i64.wrap (128 * (n : Int)) = 128 * (n : Int) := wrap_i64 (by omega) (by omega)
        have w4 : IntKind.i64.wrap (128 * (n : Int) + ((b[i].toNat % 128 : Nat) : Int)) = ((128 * n + b[i].toNat % 128 : Nat) : Int) := by rw [wrap_i64 (by omega) (by omega)]; omega
        clear f0 hg hpos hbig hvl7
        have HV : vl b (L + 1) = vl b i + (128 * n + b[i].toNat % 128) * 128 ^ i := hvl
        clear hvl
        generalize hN : 128 * n + b[i].toNat % 128 = n3 at *
        generalize hB : ((b[i].toNat % 128 : Nat) : Int) = q at *
        clear hN hB
        revert HV
        generalize hVV : vl b (L + 1) = VV at *
        intro HV
        refine Wk ?_
        refine ⟨⟨i, n3, by simp (disch := omega) [go_sem, *, -List.reduceReplicate], by simp (disch := omega) [go_sem, *, -List.reduceReplicate], by simp (disch := omega) [go_sem, *, -List.reduceReplicate], by simp (disch := omega) [go_sem, *, -List.reduceReplicate], (fun id hid => by simp (disch := omega) only; try exact hlow id hid), by simp only; omega, by omega, HV⟩, ?_⟩
        simp (disch := omega) [go_sem, *, -List.reduceReplicate]
        try omega
      ·rintro ⟨s2, σ2, n2⟩ ⟨h5, h6, hlow⟩
       simp only at h5 h6 hlow
       have hvl7 : 128 ^ (L + 1) ≤ 128 ^ 7 := Nat.pow_le_pow_right (by omega) (by omega)
       have hv2 : vl b (L + 1) < 562949953421312 := by omega
       clear hv hvl7
       by_cases c4 : 281474976710656 < vl b (L + 1)
       ·rw [if_pos c4]
        have c5 : (281474976710656 : Int) < (vl b (L + 1) : Int) := by omega
        clear c4
        exact W0
       ·rw [if_neg c4]
        have c5 : ¬ (281474976710656 : Int) < (vl b (L + 1) : Int) := by omega
        clear c4
        exact W0

def fieldB (x : List UInt8) : List UInt8 := leb x.length ++ x
theorem Field_spec (x : List UInt8) (hx : x.length ≤ 10000000) (k : Nat) : ACall Tryz.prog 135 [.slice none (x.map byteAV)] k [] (.slice (some k) ((fieldB x).map byteAV)) [(k, .row 5 1 ((leb x.length).length + x.length))] := by
 have hl := leb_len x.length 8 (by omega)
 have hc := Number_spec x.length
 have hn9 : x.length < 128 ^ 9 := by omega
 unfold fieldB
 refine Bd Tryz.func135 Tryz.ntmps135 fun σ N hp hpn hk hkn hfree => ?_
 refine Wk ?_
 refine go_callw (hc _ hn9) (by simp (disch := omega) [go_sem, *, -List.reduceReplicate]; try rfl) (by simp (disch := omega) [go_sem, *, -List.reduceReplicate]; repeat' first | exact ALe.nil | exact AV.le_refl _ | exact AV.le_nils | exact AV.le_own _ _ | apply ALe.cons | apply AV.sub_agg) (by simp (disch := omega) [go_sem, *, -List.reduceReplicate]) ?_
 refine Wk ?_
 refine go_result1 (r0 := N+3) (by simp (disch := omega) [go_sem, *, -List.reduceReplicate]; rfl) (by omega) (by simp (disch := omega) [go_sem]; try rfl) (fun id hid => by simp (disch := omega) only [upd_ne, wr_cons, wr_nil]; try exact hlow id hid) (by simp (disch := omega) only [upd_same]; rfl) (by simp (disch := omega) [go_sem])
theorem field_ok (b x : List UInt8) (hb : b.length ≤ 10000000) (hx : x.length ≤ 1024) (k : Nat) : ACall Tryz.prog 130 [.slice none (b.map byteAV), .slice none (x.map byteAV)] k []
  (.tup [.slice (some k) ((b ++ fieldB x).map byteAV), .lit (.int .i64 0)]) [(k, .row 5 1 (b ++ fieldB x).length)] := by
 have hl := leb_len x.length 2 (by omega)
 have hx' : ¬ (1024 : Int) < (x.length : Int) := by omega
 have hc := Append_ok b (by omega) x.length (by omega)
 have hf : (b ++ fieldB x) = b ++ leb x.length ++ x := by simp [fieldB]
 rw [hf, List.length_append, List.length_append]
 refine Bd Tryz.func130 Tryz.ntmps130 fun σ N hp hpn hk hkn hfree => ?_
 have hcs := And.intro hc True.intro
 refine Wk ?_
 refine go_result1 (r0 := N+8) (by simp (disch := omega) [go_sem, *, -List.reduceReplicate]; rfl) (by omega) (by simp (disch := omega) [go_sem]; try rfl) (fun id hid => by simp (disch := omega) only [upd_ne, wr_cons, wr_nil]; try exact hlow id hid) (by simp (disch := omega) only [upd_same]; rfl) (by simp (disch := omega) [go_sem])
theorem Field_spec_f (x : List UInt8) (hx : x.length ≤ 10000000) (k : Nat) : ACall Tryz.prog 135 [.slice none (x.map byteAV)] k [] (.slice none ((fieldB x).map byteAV)) [] := by
 have hl := leb_len x.length 8 (by omega)
 have hc := Number_spec x.length
 have hn9 : x.length < 128 ^ 9 := by omega
 unfold fieldB
 refine Bd Tryz.func135 Tryz.ntmps135 fun σ N hp hpn hk hkn hfree => ?_
 refine Wk ?_
 refine go_callw (hc _ hn9) (by simp (disch := omega) [go_sem, *, -List.reduceReplicate]; try rfl) (by simp (disch := omega) [go_sem, *, -List.reduceReplicate]; repeat' first | exact ALe.nil | exact AV.le_refl _ | exact AV.le_nils | exact AV.le_own _ _ | apply ALe.cons | apply AV.sub_agg) (by simp (disch := omega) [go_sem, *, -List.reduceReplicate]) ?_
 exact WM
theorem field_ok_f (b x : List UInt8) (hb : b.length ≤ 10000000) (hx : x.length ≤ 1024) (k : Nat) : ACall Tryz.prog 130 [.slice none (b.map byteAV), .slice none (x.map byteAV)] k []
  (.tup [.slice none ((b ++ fieldB x).map byteAV), .lit (.int .i64 0)]) [] := by
 have hl := leb_len x.length 2 (by omega)
 have hx' : ¬ (1024 : Int) < (x.length : Int) := by omega
 have hc := Append_ok b (by omega) x.length (by omega)
 have hf : (b ++ fieldB x) = b ++ leb x.length ++ x := by simp [fieldB]
 rw [hf]
 refine Bd Tryz.func130 Tryz.ntmps130 fun σ N hp hpn hk hkn hfree => ?_
 have hcs := And.intro hc True.intro
 exact WL
def rdF (b : List UInt8) : List UInt8 × Nat × Nat :=
 if (rdS b).2.2 ≠ 0 then ([], 0, (rdS b).2.2) else if 1024 < (rdS b).1 then ([], 0, 2) else if b.length - (rdS b).2.1 < (rdS b).1 then ([], 0, 3)
 else ((b.drop (rdS b).2.1).take (rdS b).1, (rdS b).2.1 + (rdS b).1, 0)
def rdFAV (r : List UInt8 × Nat × Nat) : AV := .tup [.slice none (r.1.map byteAV), .lit (.int .i64 r.2.1), .lit (.int .i64 r.2.2)]
theorem rdS_le (b : List UInt8) : (rdS b).2.1 ≤ b.length := by
 rcases rdS_bad b with h | ⟨e, h, _⟩
 ·exact (rdS_ok b (n := (rdS b).1) (u := (rdS b).2.1) (by rw [← h])).2.1
 ·rw [h]; simp
theorem take_drop_bytes (b : List UInt8) (u n : Nat) : ((b.map byteAV).take (u + n)).drop u = ((b.drop u).take n).map byteAV := by
 rw [List.map_take, List.map_drop, List.drop_take]
 congr 1
 omega
theorem fieldRead_spec (b : List UInt8) (hb : b.length ≤ 10000000) (k : Nat) : ACall Tryz.prog 208 [.slice none (b.map byteAV)] k [] (rdFAV (rdF b)) [] := by
 have c1 := Read_spec b (by omega)
 have hu := rdS_le b
 unfold rdF rdFAV
 generalize rdS b = r at *
 obtain ⟨n, u, e⟩ := r
 simp only [rdAV] at c1 hu ⊢
 by_cases h1 : e ≠ 0
 ·rw [if_pos h1]
  have g1 : ¬ (e : Int) = 0 := by omega
  clear h1
  refine Bd Tryz.func208 Tryz.ntmps208 fun σ N hp hpn hk hkn hfree => ?_
  have hcs := And.intro c1 True.intro
  exact WL
 ·rw [if_neg h1]
  have e0 : e = 0 := by omega
  subst e0
  clear h1
  by_cases h2 : 1024 < n
  ·rw [if_pos h2]
   have g1 : (1024 : Int) < (n : Int) := by omega
   clear h2
   refine Bd Tryz.func208 Tryz.ntmps208 fun σ N hp hpn hk hkn hfree => ?_
   have hcs := And.intro c1 True.intro
   exact WL
  ·rw [if_neg h2]
   have g1 : ¬ (1024 : Int) < (n : Int) := by omega
   by_cases h3 : b.length - u < n
   ·rw [if_pos h3]
    have g2 : (b.length : Int) - (u : Int) < (n : Int) := by omega
    clear h3 h2
    refine Bd Tryz.func208 Tryz.ntmps208 fun σ N hp hpn hk hkn hfree => ?_
    have hcs := And.intro c1 True.intro
    exact WL
   ·rw [if_neg h3]
    have g2 : ¬ (b.length : Int) - (u : Int) < (n : Int) := by omega
    have g3 : ((u : Int) + (n : Int)).toNat = u + n := by omega
    have g4 : u + n ≤ b.length := by omega
    have htd := take_drop_bytes b u n
    have c2 := SClone_spec ((b.drop u).take n) (by rw [List.length_take]; omega)
    have hl : ((b.drop u).take n).length = n := by rw [List.length_take, List.length_drop]; omega
    generalize (b.drop u).take n = y at *
    clear h3 h2
    refine Bd Tryz.func208 Tryz.ntmps208 fun σ N hp hpn hk hkn hfree => ?_
    have hcs := And.intro c1 (And.intro c2 True.intro)
    exact WL
theorem refReadField_spec (b : List UInt8) (hb : b.length ≤ 10000000) (k : Nat) : ACall Tryz.prog 166 [.slice none (b.map byteAV)] k [] (rdFAV (rdF b)) [] := by
 have c1 := refRead_spec b (by omega)
 have hu := rdS_le b
 unfold rdF rdFAV
 generalize rdS b = r at *
 obtain ⟨n, u, e⟩ := r
 simp only [rdAV] at c1 hu ⊢
 by_cases h1 : e ≠ 0
 ·rw [if_pos h1]
  have g1 : ¬ (e : Int) = 0 := by omega
  clear h1
  refine Bd Tryz.func166 Tryz.ntmps166 fun σ N hp hpn hk hkn hfree => ?_
  have hcs := And.intro c1 True.intro
  exact WL
 ·rw [if_neg h1]
  have e0 : e = 0 := by omega
  subst e0
  clear h1
  by_cases h2 : 1024 < n
  ·rw [if_pos h2]
   have g1 : (1024 : Int) < (n : Int) := by omega
   clear h2
   refine Bd Tryz.func166 Tryz.ntmps166 fun σ N hp hpn hk hkn hfree => ?_
   have hcs := And.intro c1 True.intro
   exact WL
  ·rw [if_neg h2]
   have g1 : ¬ (1024 : Int) < (n : Int) := by omega
   by_cases h3 : b.length - u < n
   ·rw [if_pos h3]
    have g2 : (b.length : Int) - (u : Int) < (n : Int) := by omega
    clear h3 h2
    refine Bd Tryz.func166 Tryz.ntmps166 fun σ N hp hpn hk hkn hfree => ?_
    have hcs := And.intro c1 True.intro
    exact WL
   ·rw [if_neg h3]
    have g2 : ¬ (b.length : Int) - (u : Int) < (n : Int) := by omega
    have g3 : ((u : Int) + (n : Int)).toNat = u + n := by omega
    have g4 : u + n ≤ b.length := by omega
    have htd := take_drop_bytes b u n
    have hl : ((b.drop u).take n).length = n := by rw [List.length_take, List.length_drop]; omega
    generalize (b.drop u).take n = y at *
    clear h3 h2
    refine Bd Tryz.func166 Tryz.ntmps166 fun σ N hp hpn hk hkn hfree => ?_
    have hcs := And.intro c1 True.intro
    exact WL

abbrev natsAV (ns : List Nat) : AV := .slice none (ns.map fun (n : Nat) => AV.lit (.int .i64 (n : Int)))
theorem numbers_spec (ns : List Nat) (bs : List UInt8) (h0 : 0 < ns.length) (hb : bs.length + 8 * ns.length ≤ 1000000) (hn : ∀ n ∈ ns, n ≤ 281474976710656) (R : List UInt8) (hR : bs ++ ns.flatMap leb = R) (k : Nat) :
  ACall Tryz.prog 177 [.slice none (bs.map byteAV), natsAV ns] k [] (.slice (some k) (R.map byteAV)) [(k, .row 5 1 R.length)] := by
 refine Bd Tryz.func177 Tryz.ntmps177 fun σ N hp hpn hk hkn hfree => ?_
 refine Wk ?_
 refine go_loopP (ns.length) (N) mixed (by kernel_rfl) [0, 6, 9, 10, 11, 12, 13, 14, 15, 16, 17, 18, 19] [] (fun s_ σ_ n_ => s_ 9 = .lit (.int .i64 0) ∧ s_ 0 = .slice none (bs.map byteAV) ∧ True) (fun m_ s_ σ_ n_ => ∃ (u : Nat) (q : Nat) (acc : List UInt8), m_ = ns.length - u ∧ s_ 9 = .lit (.int .i64 u) ∧ s_ 0 = .slice (some q) (acc.map byteAV) ∧ σ_ (q) = .row 5 1 acc.length ∧ (u ≤ ns.length) ∧ (acc.length ≤ bs.length + 8 * u) ∧ (acc = bs ++ (ns.take u).flatMap leb) ∧ (N ≤ q) ∧ (q < n_)) ⟨WF, WF, trivial⟩ ?_ ?_
 ·intro s_1 σ_1 n_1 hs_1 hf_1 hn_1 hI_1
  obtain ⟨h1_9, h1_0, -⟩ := hI_1
  have h1_4 := KS hs_1 4
  have h1_7 := KS hs_1 7
  have h1_8 := KS hs_1 8
  have hlow := KL (N := N) (σ := σ) hf_1
  obtain ⟨c, hc⟩ : ∃ c, ns[0] = c := ⟨_, rfl⟩
  have hcn : c ≤ 281474976710656 := hn c (by rw [← hc]; exact List.getElem_mem h0)
  have hcl := leb_len c 7 (by omega)
  have c1 := Append_ok bs (by omega) c hcn
  have hacc2 : bs ++ leb c = bs ++ (ns.take (0 + 1)).flatMap leb := by
   rw [List.take_add_one, List.getElem?_eq_getElem h0, hc]
   simp
  have hal2 : (bs ++ leb c).length ≤ bs.length + 8 * (0 + 1) := by rw [List.length_append]; omega
  have hll : bs.length + (leb c).length = (bs ++ leb c).length := by simp
  rw [hll] at c1
  generalize bs ++ leb c = acc2 at *
  have hcs := And.intro c1 True.intro
  clear c1 hll hR
  refine Wk ?_
  exact ⟨WS, WG, WN, _, (show ns.length - (1) < (ns.length) by omega), 1, _, acc2, rfl, WF, WF, WF, WC, WC, WC, WC, WC⟩
 intro m_1 s_1 σ_1 n_1 hs_1 hf_1 hn_1 hI_1
 obtain ⟨u, q, acc, hm_1, h1_9, h1_0, e1_0, hu, hal, hacc, hq, hqn⟩ := hI_1
 have h1_4 := KS hs_1 4
 have h1_7 := KS hs_1 7
 have h1_8 := KS hs_1 8
 have hlow := KL (N := N) (σ := σ) hf_1
 by_cases hul : u = ns.length
 ·rw [hul, List.take_length, hR] at hacc
  subst hul hacc
  clear hR
  refine Wk ?_
  refine go_result1 (r0 := q) (by simp (disch := omega) [go_sem, *, -List.reduceReplicate]; rfl) (by omega) (by simp (disch := omega) [go_sem]; try rfl) (fun id hid => by simp (disch := omega) only; try exact hlow id hid) (by simp (disch := omega) [go_sem, *, -List.reduceReplicate]; rfl) (by simp (disch := omega) [go_sem])
 ·have hui : u < ns.length := by omega
  obtain ⟨c, hc⟩ : ∃ c, ns[u] = c := ⟨_, rfl⟩
  have hcn : c ≤ 281474976710656 := hn c (by rw [← hc]; exact List.getElem_mem hui)
  have hcl := leb_len c 7 (by omega)
  have c1 := Append_ok acc (by omega) c hcn
  have hacc2 : acc ++ leb c = bs ++ (ns.take (u + 1)).flatMap leb := by
   rw [List.take_add_one, List.getElem?_eq_getElem hui, hc, hacc]
   simp
  have hal2 : (acc ++ leb c).length ≤ bs.length + 8 * (u + 1) := by rw [List.length_append]; omega
  have hll : acc.length + (leb c).length = (acc ++ leb c).length := by simp
  rw [hll] at c1
  clear hacc hll hR
  generalize acc ++ leb c = acc2 at *
  have hcs := And.intro c1 True.intro
  clear c1
  refine Wk ?_
  exact ⟨WS, WG, WN, _, (show ns.length - (u + 1) < m_1 by omega), u + 1, _, acc2, rfl, WF, WF, WF, WC, WC, WC, WC, WC⟩

def encP (p : Pr) : List UInt8 :=
 leb p.kind.toNat ++ (if p.kind = 4 ∨ p.kind = 5 then leb p.frm.toNat ++ leb p.to.toNat else if p.kind = 6 then fieldB p.name else if p.kind = 7 then leb p.num.toNat else eightB p.mask)
theorem maskB_pos {m : Int} {n : Nat} (h : maskB m n = true) : m ≠ 0 ∧ m < 2 ^ n := by
 unfold maskB at h
 simpa using h
inductive PV : Pr → Prop where
 | mask (kn : Nat) (m : Int) (hk : kn = 1 ∧ m < 18446744073709551616 ∨ kn = 2 ∧ m < 4294967296 ∨ kn = 3 ∧ m < 128) (hm : m ≠ 0) : PV ⟨kn, m, 0, 0, [], 0⟩
 | span (kn f t : Nat) (hk : kn = 4 ∧ f ≤ t ∧ t ≤ 67108864 ∨ kn = 5 ∧ f < 1440 ∧ t < 1440) : PV ⟨kn, 0, f, t, [], 0⟩
 | holder (n : List UInt8) (hn : nameB n = true) : PV ⟨6, 0, 0, 0, n, 0⟩
 | rides (x : Nat) (hx : x ≤ 1000000) : PV ⟨7, 0, 0, 0, [], x⟩
theorem PV.of {p : Pr} (h : predB p = true) : PV p := by
 obtain ⟨kd, m, f, t, n, x⟩ := p
 unfold predB at h
 simp only at h
 split at h
 ·rename_i e; subst e
  simp only [Bool.and_eq_true, decide_eq_true_eq, Pr.mk.injEq] at h
  obtain ⟨h1, h2, h3, h4, h5, h6, h7⟩ := h
  subst h4 h5 h6 h7
  exact .mask 1 m (.inl ⟨rfl, (maskB_pos h1).2⟩) (maskB_pos h1).1
 split at h
 ·rename_i e; subst e
  simp only [Bool.and_eq_true, decide_eq_true_eq, Pr.mk.injEq] at h
  obtain ⟨h1, h2, h3, h4, h5, h6, h7⟩ := h
  subst h4 h5 h6 h7
  exact .mask 2 m (.inr (.inl ⟨rfl, (maskB_pos h1).2⟩)) (maskB_pos h1).1
 split at h
 ·rename_i e; subst e
  simp only [Bool.and_eq_true, decide_eq_true_eq, Pr.mk.injEq] at h
  obtain ⟨h1, h2, h3, h4, h5, h6, h7⟩ := h
  subst h4 h5 h6 h7
  exact .mask 3 m (.inr (.inr ⟨rfl, (maskB_pos h1).2⟩)) (maskB_pos h1).1
 split at h
 ·rename_i e; subst e
  simp only [Bool.and_eq_true, decide_eq_true_eq, Pr.mk.injEq] at h
  obtain ⟨h1, h2, h3, h4, h5, h6, h7, h8, h9⟩ := h
  subst h5 h8 h9
  obtain ⟨f', rfl⟩ := Int.eq_ofNat_of_zero_le h1
  obtain ⟨t', rfl⟩ := Int.eq_ofNat_of_zero_le (Int.le_trans h1 h2)
  exact .span 4 f' t' (.inl ⟨rfl, by omega, by omega⟩)
 split at h
 ·rename_i e; subst e
  simp only [Bool.and_eq_true, decide_eq_true_eq, Pr.mk.injEq] at h
  obtain ⟨h1, h2, h3, h4, h5, h6, h7, h8, h9, h10⟩ := h
  subst h6 h9 h10
  obtain ⟨f', rfl⟩ := Int.eq_ofNat_of_zero_le h1
  obtain ⟨t', rfl⟩ := Int.eq_ofNat_of_zero_le h3
  exact .span 5 f' t' (.inr ⟨rfl, by omega, by omega⟩)
 split at h
 ·rename_i e; subst e
  simp only [Bool.and_eq_true, decide_eq_true_eq, Pr.mk.injEq] at h
  obtain ⟨h1, h2, h3, h4, h5, h6, h7⟩ := h
  subst h3 h4 h5 h7
  exact .holder n h1
 split at h
 ·rename_i e; subst e
  simp only [Bool.and_eq_true, decide_eq_true_eq, Pr.mk.injEq] at h
  obtain ⟨h1, h2, h3, h4, h5, h6, h7, h8⟩ := h
  subst h4 h5 h6 h7
  obtain ⟨x', rfl⟩ := Int.eq_ofNat_of_zero_le h1
  exact .rides x' (by omega)
 ·cases h
theorem refEnc_bad (p : Pr) (hp0 : PrOk p) (h : predB p = false) (k : Nat) :
  ACall Tryz.prog 136 [prAV p] k [] (.tup [.nils, .lit (.int .i64 5)]) [] := by
 have c1 := refPred_spec p hp0
 rw [h] at c1
 refine Bd Tryz.func136 Tryz.ntmps136 fun σ N hp hpn hk hkn hfree => ?_
 have hcs := And.intro c1 True.intro
 clear c1
 exact W0
set_option maxHeartbeats 4000000 in
theorem Enc_mask (kn : Nat) (m : Int) (hk : kn = 1 ∨ kn = 2 ∨ kn = 3) (hp0 : PrOk ⟨kn, m, 0, 0, [], 0⟩) (h : predB ⟨kn, m, 0, 0, [], 0⟩ = true) (d k : Nat) :
  ACall Tryz.prog 119 [prAV ⟨kn, m, 0, 0, [], 0⟩] k [(d, bitsG)] (.tup [.slice none ((leb kn ++ eightB m).map byteAV), .lit (.int .i64 0)]) [] := by
 have c1 := predValid_spec _ hp0 d
 rw [h] at c1
 have m0 := hp0.m0
 have m1 := hp0.m1
 simp only at m0 m1
 have c2 := numbers_spec [kn] [] (by simp) (by simp) (by simp; omega) (leb kn) (by simp)
 simp only [List.map_nil] at c2
 have hl := leb_len kn 7 (by omega)
 generalize leb kn = L at *
 have g4 : ((kn : Int) == 4) = false := by rw [beq_eq_false_iff_ne]; omega
 have g5 : ((kn : Int) == 5) = false := by rw [beq_eq_false_iff_ne]; omega
 have g6 : ((kn : Int) == 6) = false := by rw [beq_eq_false_iff_ne]; omega
 have g7 : ((kn : Int) == 7) = false := by rw [beq_eq_false_iff_ne]; omega
 have e7 := sh8_wrap m 56
 have e6 := sh8_wrap m 48
 have e5 := sh8_wrap m 40
 have e4 := sh8_wrap m 32
 have e3 := sh8_wrap m 24
 have e2 := sh8_wrap m 16
 have e1 := sh8_wrap m 8
 have e0 := sh8_wrap m 0
 simp only [Int.reducePow, Int.pow_zero, Int.fdiv_one] at e7 e6 e5 e4 e3 e2 e1 e0
 unfold eightB
 generalize sh8 m 56 = b7 at *
 generalize sh8 m 48 = b6 at *
 generalize sh8 m 40 = b5 at *
 generalize sh8 m 32 = b4 at *
 generalize sh8 m 24 = b3 at *
 generalize sh8 m 16 = b2 at *
 generalize sh8 m 8 = b1 at *
 generalize sh8 m 0 = b0 at *
 clear hk
 simp only [prAV] at *
 refine Bd Tryz.func119 Tryz.ntmps119 fun σ N hp hpn hk hkn hfree => ?_
 obtain ⟨hd, hdn⟩ := HD0 hp hpn; clear hp hpn
 have hcs := And.intro c1 (And.intro c2 True.intro)
 clear c1 c2
 refine Wk ?_
 refine go_loopB (N + 1) mixed (by kernel_rfl) [4, 5, 41, 42, 43, 44, 45, 46, 47, 48, 49, 50, 51, 52] [] (fun m_ s_ σ_ n_ => ∃ (u : Nat) (q : Nat) (acc : List UInt8), m_ = 8 - u ∧ s_ 5 = .lit (.int .i64 (56 - 8 * (u : Int))) ∧ s_ 4 = .slice (some q) ((L ++ acc).map byteAV) ∧ σ_ (q) = .row 5 1 (L.length + acc.length) ∧ (u ≤ 8) ∧ (N + 1 ≤ q) ∧ (q < n_) ∧ (acc = [b7, b6, b5, b4, b3, b2, b1, b0].take u)) ⟨_, 0, _, [], rfl, WF, WF, WF, WC, WC, WC, WC⟩ ?_
 intro m_1 s_1 σ_1 n_1 hs_1 hf_1 hn_1 hI_1
 obtain ⟨u, q, acc, hm_1, h1_5, h1_4, e1_0, hu, hq, hqn, hacc⟩ := hI_1
 have h1_1 := KS hs_1 1
 have h1_2 := KS hs_1 2
 have h1_3 := KS hs_1 3
 have k1_0 := KE hf_1 (N)
 have hlow := KL (N := N) (σ := σ) hf_1
 have hb7 : byteAV b7 = .lit (.int .u8 b7.toNat) := rfl
 have hb6 : byteAV b6 = .lit (.int .u8 b6.toNat) := rfl
 have hb5 : byteAV b5 = .lit (.int .u8 b5.toNat) := rfl
 have hb4 : byteAV b4 = .lit (.int .u8 b4.toNat) := rfl
 have hb3 : byteAV b3 = .lit (.int .u8 b3.toNat) := rfl
 have hb2 : byteAV b2 = .lit (.int .u8 b2.toNat) := rfl
 have hb1 : byteAV b1 = .lit (.int .u8 b1.toNat) := rfl
 have hb0 : byteAV b0 = .lit (.int .u8 b0.toNat) := rfl
 have hcase : u = 0 ∨ u = 1 ∨ u = 2 ∨ u = 3 ∨ u = 4 ∨ u = 5 ∨ u = 6 ∨ u = 7 ∨ u = 8 := by omega
 rcases hcase with rfl | hcase
 ·simp only [List.take_zero] at hacc
  subst hacc
  refine Wk ?_
  exact ⟨WS, WG, WN, _, (show 8 - (1) < m_1 by omega), 1, q, [b7], rfl, WF, WF, WF, WC, WC, WC, WC⟩
 rcases hcase with rfl | hcase
 ·simp only [List.take_succ_cons, List.take_zero] at hacc
  subst hacc
  refine Wk ?_
  exact ⟨WS, WG, WN, _, (show 8 - (2) < m_1 by omega), 2, q, [b7, b6], rfl, WF, WF, WF, WC, WC, WC, WC⟩
 rcases hcase with rfl | hcase
 ·simp only [List.take_succ_cons, List.take_zero] at hacc
  subst hacc
  refine Wk ?_
  exact ⟨WS, WG, WN, _, (show 8 - (3) < m_1 by omega), 3, q, [b7, b6, b5], rfl, WF, WF, WF, WC, WC, WC, WC⟩
 rcases hcase with rfl | hcase
 ·simp only [List.take_succ_cons, List.take_zero] at hacc
  subst hacc
  refine Wk ?_
  exact ⟨WS, WG, WN, _, (show 8 - (4) < m_1 by omega), 4, q, [b7, b6, b5, b4], rfl, WF, WF, WF, WC, WC, WC, WC⟩
 rcases hcase with rfl | hcase
 ·simp only [List.take_succ_cons, List.take_zero] at hacc
  subst hacc
  refine Wk ?_
  exact ⟨WS, WG, WN, _, (show 8 - (5) < m_1 by omega), 5, q, [b7, b6, b5, b4, b3], rfl, WF, WF, WF, WC, WC, WC, WC⟩
 rcases hcase with rfl | hcase
 ·simp only [List.take_succ_cons, List.take_zero] at hacc
  subst hacc
  refine Wk ?_
  exact ⟨WS, WG, WN, _, (show 8 - (6) < m_1 by omega), 6, q, [b7, b6, b5, b4, b3, b2], rfl, WF, WF, WF, WC, WC, WC, WC⟩
 rcases hcase with rfl | hcase
 ·simp only [List.take_succ_cons, List.take_zero] at hacc
  subst hacc
  refine Wk ?_
  exact ⟨WS, WG, WN, _, (show 8 - (7) < m_1 by omega), 7, q, [b7, b6, b5, b4, b3, b2, b1], rfl, WF, WF, WF, WC, WC, WC, WC⟩
 rcases hcase with rfl | hcase
 ·simp only [List.take_succ_cons, List.take_zero] at hacc
  subst hacc
  refine Wk ?_
  exact ⟨WS, WG, WN, _, (show 8 - (8) < m_1 by omega), 8, q, [b7, b6, b5, b4, b3, b2, b1, b0], rfl, WF, WF, WF, WC, WC, WC, WC⟩
 subst hcase
 simp only [List.take_succ_cons, List.take_zero] at hacc
 subst hacc
 exact WL

set_option maxHeartbeats 4000000 in
theorem Enc_span (kn f t : Nat) (hk : kn = 4 ∨ kn = 5) (hf : f ≤ 67108864) (ht : t ≤ 67108864) (hp0 : PrOk ⟨kn, 0, f, t, [], 0⟩) (h : predB ⟨kn, 0, f, t, [], 0⟩ = true) (d k : Nat) :
  ACall Tryz.prog 119 [prAV ⟨kn, 0, f, t, [], 0⟩] k [(d, bitsG)] (.tup [.slice none ((leb kn ++ (leb f ++ leb t)).map byteAV), .lit (.int .i64 0)]) [] := by
 have c1 := predValid_spec _ hp0 d
 rw [h] at c1
 have c2 := numbers_spec [kn] [] (by simp) (by simp) (by simp; omega) (leb kn) (by simp)
 have hl := leb_len kn 7 (by omega)
 have c3 := numbers_spec [f, t] (leb kn) (by simp) (by simp; omega) (by simp; omega) (leb kn ++ (leb f ++ leb t)) (by simp)
 simp only [List.map_nil] at c2 c3
 generalize leb kn ++ (leb f ++ leb t) = R at *
 generalize leb kn = L at *
 simp only [prAV] at *
 rcases hk with rfl | rfl
 ·refine Bd Tryz.func119 Tryz.ntmps119 fun σ N hp hpn hk hkn hfree => ?_
  obtain ⟨hd, hdn⟩ := HD0 hp hpn; clear hp hpn
  have hcs := And.intro c1 (And.intro c2 (And.intro c3 True.intro))
  clear c1 c2 c3
  exact WL
 ·refine Bd Tryz.func119 Tryz.ntmps119 fun σ N hp hpn hk hkn hfree => ?_
  obtain ⟨hd, hdn⟩ := HD0 hp hpn; clear hp hpn
  have hcs := And.intro c1 (And.intro c2 (And.intro c3 True.intro))
  clear c1 c2 c3
  exact WL
theorem nameB_len {n : List UInt8} (h : nameB n = true) : 1 ≤ n.length ∧ n.length ≤ 16 := by
 unfold nameB at h
 simp only [Bool.and_eq_true, decide_eq_true_eq] at h
 exact h.1
set_option maxHeartbeats 4000000 in
theorem Enc_holder (n : List UInt8) (hn : nameB n = true) (hp0 : PrOk ⟨6, 0, 0, 0, n, 0⟩) (h : predB ⟨6, 0, 0, 0, n, 0⟩ = true) (d k : Nat) :
  ACall Tryz.prog 119 [prAV ⟨6, 0, 0, 0, n, 0⟩] k [(d, bitsG)] (.tup [.slice none ((leb 6 ++ fieldB n).map byteAV), .lit (.int .i64 0)]) [] := by
 have c1 := predValid_spec _ hp0 d
 rw [h] at c1
 have hnl := nameB_len hn
 have c2 := numbers_spec [6] [] (by simp) (by simp) (by simp) (leb 6) (by simp)
 have hl := leb_len 6 7 (by omega)
 have c3 := field_ok_f (leb 6) n (by omega) (by omega)
 simp only [List.map_nil] at c2 c3
 generalize leb 6 ++ fieldB n = R at *
 generalize leb 6 = L at *
 simp only [prAV] at *
 refine Bd Tryz.func119 Tryz.ntmps119 fun σ N hp hpn hk hkn hfree => ?_
 obtain ⟨hd, hdn⟩ := HD0 hp hpn; clear hp hpn
 have hcs := And.intro c1 (And.intro c2 (And.intro c3 True.intro))
 clear c1 c2 c3
 exact WL
set_option maxHeartbeats 4000000 in
theorem Enc_rides (x : Nat) (hx : x ≤ 1000000) (hp0 : PrOk ⟨7, 0, 0, 0, [], x⟩) (h : predB ⟨7, 0, 0, 0, [], x⟩ = true) (d k : Nat) :
  ACall Tryz.prog 119 [prAV ⟨7, 0, 0, 0, [], x⟩] k [(d, bitsG)] (.tup [.slice none ((leb 7 ++ leb x).map byteAV), .lit (.int .i64 0)]) [] := by
 have c1 := predValid_spec _ hp0 d
 rw [h] at c1
 have c2 := numbers_spec [7] [] (by simp) (by simp) (by simp) (leb 7) (by simp)
 have hl := leb_len 7 7 (by omega)
 have c3 := numbers_spec [x] (leb 7) (by simp) (by simp; omega) (by simp; omega) (leb 7 ++ leb x) (by simp)
 simp only [List.map_nil] at c2 c3
 generalize leb 7 ++ leb x = R at *
 generalize leb 7 = L at *
 simp only [prAV] at *
 refine Bd Tryz.func119 Tryz.ntmps119 fun σ N hp hpn hk hkn hfree => ?_
 obtain ⟨hd, hdn⟩ := HD0 hp hpn; clear hp hpn
 have hcs := And.intro c1 (And.intro c2 (And.intro c3 True.intro))
 clear c1 c2 c3
 exact WL
theorem encP_mask {kn : Nat} {m : Int} (hk : kn = 1 ∨ kn = 2 ∨ kn = 3) : encP ⟨kn, m, 0, 0, [], 0⟩ = leb kn ++ eightB m := by
 unfold encP
 simp only
 rw [if_neg (by omega), if_neg (by omega), if_neg (by omega)]
 rfl
theorem encP_span {kn f t : Nat} (hk : kn = 4 ∨ kn = 5) : encP ⟨kn, 0, f, t, [], 0⟩ = leb kn ++ (leb f ++ leb t) := by
 unfold encP
 simp only
 rw [if_pos (by omega)]
 rfl
theorem encP_holder (n : List UInt8) : encP ⟨6, 0, 0, 0, n, 0⟩ = leb 6 ++ fieldB n := rfl
theorem encP_rides (x : Nat) : encP ⟨7, 0, 0, 0, [], x⟩ = leb 7 ++ leb x := rfl
theorem Enc_spec (p : Pr) (hp0 : PrOk p) (h : predB p = true) (d k : Nat) :
  ACall Tryz.prog 119 [prAV p] k [(d, bitsG)] (.tup [.slice none ((encP p).map byteAV), .lit (.int .i64 0)]) [] := by
 cases PV.of h with
 | mask kn m hk hm => rw [encP_mask (by omega)]; exact Enc_mask kn m (by omega) hp0 h d k
 | span kn f t hk => rw [encP_span (by omega)]; exact Enc_span kn f t (by omega) (by omega) (by omega) hp0 h d k
 | holder n hn => exact Enc_holder n hn hp0 h d k
 | rides x hx => exact Enc_rides x hx hp0 h d k
set_option maxHeartbeats 4000000 in
theorem refEnc_mask (kn : Nat) (m : Int) (hk : kn = 1 ∨ kn = 2 ∨ kn = 3) (hp0 : PrOk ⟨kn, m, 0, 0, [], 0⟩) (h : predB ⟨kn, m, 0, 0, [], 0⟩ = true) (k : Nat) :
  ACall Tryz.prog 136 [prAV ⟨kn, m, 0, 0, [], 0⟩] k [] (.tup [.slice none ((leb kn ++ eightB m).map byteAV), .lit (.int .i64 0)]) [] := by
 have c1 := refPred_spec _ hp0
 rw [h] at c1
 have c2 := Number_spec kn
 have hk9 : kn < 128 ^ 9 := by omega
 have hl := leb_len kn 7 (by omega)
 have c3 := Eight_spec m hp0.m0 hp0.m1
 have h8 := eightB_len m
 generalize leb kn = L at *
 generalize eightB m = E at *
 simp only [prAV] at *
 rcases hk with rfl | rfl | rfl
 all_goals (
  refine Bd Tryz.func136 Tryz.ntmps136 fun σ N hp hpn hk hkn hfree => ?_
  have hcs := And.intro c1 (And.intro (fun k => c2 k hk9) (And.intro c3 True.intro))
  clear c1 c2 c3
  exact WL)
set_option maxHeartbeats 4000000 in
theorem refEnc_span (kn f t : Nat) (hk : kn = 4 ∨ kn = 5) (hf : f ≤ 67108864) (ht : t ≤ 67108864) (hp0 : PrOk ⟨kn, 0, f, t, [], 0⟩) (h : predB ⟨kn, 0, f, t, [], 0⟩ = true) (k : Nat) :
  ACall Tryz.prog 136 [prAV ⟨kn, 0, f, t, [], 0⟩] k [] (.tup [.slice none ((leb kn ++ (leb f ++ leb t)).map byteAV), .lit (.int .i64 0)]) [] := by
 have c1 := refPred_spec _ hp0
 rw [h] at c1
 have c2 := Number_spec kn
 have c3 := Number_spec_f f
 have c4 := Number_spec_f t
 have hk9 : kn < 128 ^ 9 := by omega
 have hf9 : f < 128 ^ 9 := by omega
 have ht9 : t < 128 ^ 9 := by omega
 have hl := leb_len kn 7 (by omega)
 have hl2 := leb_len f 7 (by omega)
 have hl3 := leb_len t 7 (by omega)
 generalize leb kn = L at *
 generalize leb f = L1 at *
 generalize leb t = L2 at *
 simp only [prAV] at *
 rcases hk with rfl | rfl
 all_goals (
  refine Bd Tryz.func136 Tryz.ntmps136 fun σ N hp hpn hk hkn hfree => ?_
  have hcs := And.intro c1 (And.intro (fun k => c2 k hk9) (And.intro (fun k => c3 k hf9) (And.intro (fun k => c4 k ht9) True.intro)))
  clear c1 c2 c3 c4
  exact WL)
set_option maxHeartbeats 4000000 in
theorem refEnc_holder (n : List UInt8) (hn : nameB n = true) (hp0 : PrOk ⟨6, 0, 0, 0, n, 0⟩) (h : predB ⟨6, 0, 0, 0, n, 0⟩ = true) (k : Nat) :
  ACall Tryz.prog 136 [prAV ⟨6, 0, 0, 0, n, 0⟩] k [] (.tup [.slice none ((leb 6 ++ fieldB n).map byteAV), .lit (.int .i64 0)]) [] := by
 have c1 := refPred_spec _ hp0
 rw [h] at c1
 have hnl := nameB_len hn
 have c2 := Number_spec 6
 have c3 := Field_spec_f n (by omega)
 have h69 : 6 < 128 ^ 9 := by omega
 have hl := leb_len 6 7 (by omega)
 have hl2 := leb_len n.length 2 (by omega)
 have hf : (fieldB n).length ≤ 30 := by simp only [fieldB, List.length_append]; omega
 generalize leb 6 = L at *
 generalize fieldB n = L1 at *
 simp only [prAV] at *
 refine Bd Tryz.func136 Tryz.ntmps136 fun σ N hp hpn hk hkn hfree => ?_
 have hcs := And.intro c1 (And.intro (fun k => c2 k h69) (And.intro c3 True.intro))
 clear c1 c2 c3
 exact WL
set_option maxHeartbeats 4000000 in
theorem refEnc_rides (x : Nat) (hx : x ≤ 1000000) (hp0 : PrOk ⟨7, 0, 0, 0, [], x⟩) (h : predB ⟨7, 0, 0, 0, [], x⟩ = true) (k : Nat) :
  ACall Tryz.prog 136 [prAV ⟨7, 0, 0, 0, [], x⟩] k [] (.tup [.slice none ((leb 7 ++ leb x).map byteAV), .lit (.int .i64 0)]) [] := by
 have c1 := refPred_spec _ hp0
 rw [h] at c1
 have c2 := Number_spec 7
 have c3 := Number_spec_f x
 have h79 : 7 < 128 ^ 9 := by omega
 have hx9 : x < 128 ^ 9 := by omega
 have hl := leb_len 7 7 (by omega)
 have hl2 := leb_len x 7 (by omega)
 generalize leb 7 = L at *
 generalize leb x = L1 at *
 simp only [prAV] at *
 refine Bd Tryz.func136 Tryz.ntmps136 fun σ N hp hpn hk hkn hfree => ?_
 have hcs := And.intro c1 (And.intro (fun k => c2 k h79) (And.intro (fun k => c3 k hx9) True.intro))
 clear c1 c2 c3
 exact WL
theorem refEnc_spec (p : Pr) (hp0 : PrOk p) (h : predB p = true) (k : Nat) :
  ACall Tryz.prog 136 [prAV p] k [] (.tup [.slice none ((encP p).map byteAV), .lit (.int .i64 0)]) [] := by
 cases PV.of h with
 | mask kn m hk hm => rw [encP_mask (by omega)]; exact refEnc_mask kn m (by omega) hp0 h k
 | span kn f t hk => rw [encP_span (by omega)]; exact refEnc_span kn f t (by omega) (by omega) (by omega) hp0 h k
 | holder n hn => exact refEnc_holder n hn hp0 h k
 | rides x hx => exact refEnc_rides x hx hp0 h k
end Go.Proofs.YtemmlldpmgfblaaGreatDoor
