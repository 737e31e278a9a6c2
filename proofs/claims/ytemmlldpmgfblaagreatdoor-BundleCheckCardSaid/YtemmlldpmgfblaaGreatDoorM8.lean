/- Texts R4, R6, R5, K10, K11, K18, K19, U1, U6, D8, U2, U3, joined. -/
import Derived.Test.YtemmlldpmgfblaaGreatDoorM7

/- The deck's Upto and Predicate: what exists. -/
namespace Go.Proofs.YtemmlldpmgfblaaGreatDoor
open Go.Ab
attribute [local irreducible] Go.Ab.tyAV Go.Ab.aw Go.Ab.aops Go.Ab.kReg Go.Ab.aThen Go.Ab.aBlk Go.Ab.acond Go.Ab.aguard Go.Ab.astep Go.Ab.AStepX Go.Ab.aRet

@[go_sem] theorem ba_empty_eq : (ByteArray.empty = { data := #[] }) = True := eq_true rfl
theorem Upto_ex (l : List Int) (i : Nat) (h : Dk l i) (most : Nat) (hm : most ≤ 900000000) :
    ∃ v j : Nat, v ≤ most ∧ Dk l j ∧ ∀ d k, ACall Tryz.prog 117 [.ptr d [] 0, .lit (.int .i64 most)] k [(d, deckBox l i)] (.lit (.int .i64 v)) [(d, deckBox l j)] := by
  obtain ⟨x, j1, x1, d1, c1⟩ := Next_at l i 4 h (by omega) (by omega)
  have hx : x = 0 ∨ x = 1 ∨ x = 2 ∨ x = 3 := by omega
  rcases hx with rfl | rfl | rfl | rfl
  · obtain ⟨a, j2, a1, d2, c2⟩ := Next_at l j1 4 d1 (by omega) (by omega)
    obtain ⟨v, hv, hvm⟩ : ∃ v : Nat, (if most < a then (most : Int) else (a : Int)) = (v : Int) ∧ v ≤ most := ⟨min a most, by split <;> omega, by omega⟩
    refine ⟨v, j2, hvm, d2, fun d k => ?_⟩
    refine Bd Tryz.func117 Tryz.ntmps117 fun σ N hp hpn hk hkn hfree => ?_
    obtain ⟨hd, hdn⟩ := HD0 hp hpn; clear hp hpn
    have hcs := And.intro (c1 d) (And.intro (c2 d) True.intro)
    clear c1 c2
    refine Wk ?_
    exact RW (d) (deckBox l j2)
  · obtain ⟨a, j2, a1, d2, c2⟩ := Next_at l j1 300 d1 (by omega) (by omega)
    obtain ⟨v, hv, hvm⟩ : ∃ v : Nat, (if most < a then (most : Int) else (a : Int)) = (v : Int) ∧ v ≤ most := ⟨min a most, by split <;> omega, by omega⟩
    refine ⟨v, j2, hvm, d2, fun d k => ?_⟩
    refine Bd Tryz.func117 Tryz.ntmps117 fun σ N hp hpn hk hkn hfree => ?_
    obtain ⟨hd, hdn⟩ := HD0 hp hpn; clear hp hpn
    have hcs := And.intro (c1 d) (And.intro (c2 d) True.intro)
    clear c1 c2
    refine Wk ?_
    exact RW (d) (deckBox l j2)
  · obtain ⟨q, hq, hq0, hq1⟩ : ∃ q : Nat, (if (most : Int) + 1 < 3 then (most : Int) + 1 else 3) = (q : Int) ∧ 0 < q ∧ q ≤ most + 1 := ⟨min 3 (most + 1), by split <;> omega, by omega, by omega⟩
    obtain ⟨a, j2, a1, d2, c2⟩ := Next_at l j1 q d1 hq0 (by omega)
    refine ⟨most - a, j2, by omega, d2, fun d k => ?_⟩
    have hsub : ((most - a : Nat) : Int) = (most : Int) - (a : Int) := by omega
    rw [hsub]
    refine Bd Tryz.func117 Tryz.ntmps117 fun σ N hp hpn hk hkn hfree => ?_
    obtain ⟨hd, hdn⟩ := HD0 hp hpn; clear hp hpn
    have hcs := And.intro (c1 d) (And.intro (c2 d) True.intro)
    clear c1 c2 hsub
    refine Wk ?_
    exact RW (d) (deckBox l j2)
  · obtain ⟨a, j2, a1, d2, c2⟩ := Next_at l j1 (most + 1) d1 (by omega) (by omega)
    have hc : ((most + 1 : Nat) : Int) = (most : Int) + 1 := by omega
    rw [hc] at c2
    refine ⟨a, j2, by omega, d2, fun d k => ?_⟩
    refine Bd Tryz.func117 Tryz.ntmps117 fun σ N hp hpn hk hkn hfree => ?_
    obtain ⟨hd, hdn⟩ := HD0 hp hpn; clear hp hpn
    have hcs := And.intro (c1 d) (And.intro (c2 d) True.intro)
    clear c1 c2 hc
    refine Wk ?_
    exact RW (d) (deckBox l j2)

theorem Minute_ex (l : List Int) (i : Nat) (h : Dk l i) : ∃ v j : Nat, v ≤ 67108864 ∧ Dk l j ∧ ∀ d k, ACall Tryz.prog 36 [.ptr d [] 0] k [(d, deckBox l i)] (.lit (.int .i64 v)) [(d, deckBox l j)] :=
  ⟨_, _, minuteD_le l i, minuteD_dk h, Minute_spec l i h⟩
theorem Name_ex (l : List Int) (i : Nat) (h : Dk l i) : ∃ (s : List UInt8) (j : Nat), nameB s = true ∧ s.length ≤ 16 ∧ Dk l j ∧ ∀ d k, ACall Tryz.prog 35 [.ptr d [] 0] k [(d, deckBox l i)] (.lit (.string ⟨s.toArray⟩)) [(d, deckBox l j)] := by
  have b := nextD_lt l i 8 (by omega)
  refine ⟨_, _, ?_, ?_, nameD_dk h, fun d k => Name_spec0 l i h d k⟩
  all_goals
    unfold nameD
    generalize (nextD l i 8).1 = x at b
    have : x = 0 ∨ x = 1 ∨ x = 2 ∨ x = 3 ∨ x = 4 ∨ x = 5 ∨ x = 6 ∨ x = 7 := by omega
    rcases this with rfl | rfl | rfl | rfl | rfl | rfl | rfl | rfl <;> (simp only; decide)

theorem PrOk.mk0 {k m f t x : Int} {n : List UInt8} (h0 : 0 ≤ m) (h1 : m < 18446744073709551616) (h2 : n.length ≤ 100) : PrOk ⟨k, m, f, t, n, x⟩ := ⟨h0, h1, by simp only; omega⟩
set_option maxHeartbeats 4000000 in
theorem Predicate_ex (l : List Int) (i : Nat) (h : Dk l i) (rides : Bool) :
    ∃ (p : Pr) (j : Nat), predB p = true ∧ PrOk p ∧ (rides = false → p.kind ≠ 7) ∧ Dk l j ∧ ∀ d k, ACall Tryz.prog 50 [.ptr d [] 0, .lit (.bool rides)] k [(d, deckBox l i)] (prAV p) [(d, deckBox l j)] := by
  have c1 := Range_spec l i 1 7 7 h (by omega) (by omega) (by omega) (by omega)
  have d1 := rangeD_dk (lo := 1) (n := 7) h
  have b1 := nextD_lt l i 7 (by omega)
  have hk : (rangeD l i 1 7).1 = 1 ∨ (rangeD l i 1 7).1 = 2 ∨ (rangeD l i 1 7).1 = 3 ∨ (rangeD l i 1 7).1 = 4 ∨ (rangeD l i 1 7).1 = 5 ∨ (rangeD l i 1 7).1 = 6 ∨ (rangeD l i 1 7).1 = 7 := by unfold rangeD; simp only; omega
  generalize rangeD l i 1 7 = X at *
  obtain ⟨kd, j1⟩ := X
  simp only at c1 d1 hk
  clear b1 h
  rcases hk with rfl | rfl | rfl | rfl | rfl | rfl | rfl
  · obtain ⟨m, j2, m0, m1, d2, c2⟩ := mask64_ex l j1 d1
    refine ⟨⟨1, m, 0, 0, [], 0⟩, j2, (by simp [predB, maskB]; simp at m1; omega), .mk0 (by omega) (by simp at m1; omega) (by simp), by simp, d2, fun d k => ?_⟩
    simp only [prAV]
    refine Bd Tryz.func50 Tryz.ntmps50 fun σ N hp hpn hk hkn hfree => ?_
    obtain ⟨hd, hdn⟩ := HD0 hp hpn; clear hp hpn
    have hcs := And.intro (c1 d) (And.intro (c2 d) True.intro)
    clear c1 c2
    refine Wk ?_
    exact RW (d) (deckBox l j2)
  · obtain ⟨m, j2, m0, m1, d2, c2⟩ := mask32_ex l j1 d1
    refine ⟨⟨2, m, 0, 0, [], 0⟩, j2, (by simp [predB, maskB]; simp at m1; omega), .mk0 (by omega) (by simp at m1; omega) (by simp), by simp, d2, fun d k => ?_⟩
    simp only [prAV]
    refine Bd Tryz.func50 Tryz.ntmps50 fun σ N hp hpn hk hkn hfree => ?_
    obtain ⟨hd, hdn⟩ := HD0 hp hpn; clear hp hpn
    have hcs := And.intro (c1 d) (And.intro (c2 d) True.intro)
    clear c1 c2
    refine Wk ?_
    exact RW (d) (deckBox l j2)
  · obtain ⟨m, j2, m0, m1, d2, c2⟩ := mask7_ex l j1 d1
    refine ⟨⟨3, m, 0, 0, [], 0⟩, j2, (by simp [predB, maskB]; simp at m1; omega), .mk0 (by omega) (by simp at m1; omega) (by simp), by simp, d2, fun d k => ?_⟩
    simp only [prAV]
    refine Bd Tryz.func50 Tryz.ntmps50 fun σ N hp hpn hk hkn hfree => ?_
    obtain ⟨hd, hdn⟩ := HD0 hp hpn; clear hp hpn
    have hcs := And.intro (c1 d) (And.intro (c2 d) True.intro)
    clear c1 c2
    refine Wk ?_
    exact RW (d) (deckBox l j2)
  · obtain ⟨a, j2, a1, d2, c2⟩ := Minute_ex l j1 d1
    obtain ⟨b, j3, b1, d3, c3⟩ := Minute_ex l j2 d2
    obtain ⟨lo, hlo, hlo1⟩ : ∃ lo : Nat, (if b < a then (b : Int) else (a : Int)) = (lo : Int) ∧ lo = min a b := ⟨min a b, by split <;> omega, rfl⟩
    obtain ⟨hi, hhi, hhi1⟩ : ∃ hi : Nat, (if a < b then (b : Int) else (a : Int)) = (hi : Int) ∧ hi = max a b := ⟨max a b, by split <;> omega, rfl⟩
    have hlo2 : ((min a b : Nat) : Int) = lo := by omega
    have hhi2 : ((max a b : Nat) : Int) = hi := by omega
    refine ⟨⟨4, 0, lo, hi, [], 0⟩, j3, (by simp [predB]; omega), .mk0 (by omega) (by omega) (by simp), by simp, d3, fun d k => ?_⟩
    simp only [prAV]
    refine Bd Tryz.func50 Tryz.ntmps50 fun σ N hp hpn hk hkn hfree => ?_
    obtain ⟨hd, hdn⟩ := HD0 hp hpn; clear hp hpn
    have hcs := And.intro (c1 d) (And.intro (c2 d) (And.intro (c3 d) True.intro))
    clear c1 c2 c3
    refine Wk ?_
    exact RW (d) (deckBox l j3)
  · obtain ⟨a, j2, a1, d2, c2⟩ := Next_at l j1 1440 d1 (by omega) (by omega)
    obtain ⟨b, j3, b1, d3, c3⟩ := Next_at l j2 1440 d2 (by omega) (by omega)
    obtain ⟨c, j4, e1, d4, c4⟩ := Next_at l j3 3 d3 (by omega) (by omega)
    by_cases hc : c = 0
    · subst hc
      obtain ⟨e, j5, f1, d5, c5⟩ := Next_at l j4 3 d4 (by omega) (by omega)
      obtain ⟨g, hg, hg1⟩ : ∃ g : Nat, ((a : Int) + e + 1440 - 1).tmod 1440 = (g : Int) ∧ g < 1440 := ⟨(a + e + 1440 - 1) % 1440, by rw [Int.tmod_eq_emod_of_nonneg (by omega)]; omega, by omega⟩
      refine ⟨⟨5, 0, a, g, [], 0⟩, j5, (by simp [predB]; omega), .mk0 (by omega) (by omega) (by simp), by simp, d5, fun d k => ?_⟩
      simp only [prAV]
      refine Bd Tryz.func50 Tryz.ntmps50 fun σ N hp hpn hk hkn hfree => ?_
      obtain ⟨hd, hdn⟩ := HD0 hp hpn; clear hp hpn
      have hcs := And.intro (c1 d) (And.intro (c2 d) (And.intro (c3 d) (And.intro (c4 d) (And.intro (c5 d) True.intro))))
      clear c1 c2 c3 c4 c5
      refine Wk ?_
      exact RW (d) (deckBox l j5)
    · have hcb : ((c : Int) == 0) = false := by rw [beq_eq_false_iff_ne]; omega
      refine ⟨⟨5, 0, a, b, [], 0⟩, j4, (by simp [predB]; omega), .mk0 (by omega) (by omega) (by simp), by simp, d4, fun d k => ?_⟩
      simp only [prAV]
      refine Bd Tryz.func50 Tryz.ntmps50 fun σ N hp hpn hk hkn hfree => ?_
      obtain ⟨hd, hdn⟩ := HD0 hp hpn; clear hp hpn
      have hcs := And.intro (c1 d) (And.intro (c2 d) (And.intro (c3 d) (And.intro (c4 d) True.intro)))
      clear c1 c2 c3 c4
      refine Wk ?_
      exact RW (d) (deckBox l j4)
  · obtain ⟨n, j2, n0, n1, d2, c2⟩ := Name_ex l j1 d1
    refine ⟨⟨6, 0, 0, 0, n, 0⟩, j2, (by simp [predB, n0]), .mk0 (by omega) (by omega) (by omega), by simp, d2, fun d k => ?_⟩
    simp only [prAV]
    refine Bd Tryz.func50 Tryz.ntmps50 fun σ N hp hpn hk hkn hfree => ?_
    obtain ⟨hd, hdn⟩ := HD0 hp hpn; clear hp hpn
    have hcs := And.intro (c1 d) (And.intro (c2 d) True.intro)
    clear c1 c2
    refine Wk ?_
    exact RW (d) (deckBox l j2)
  · cases rides with
    | true =>
      obtain ⟨v, j2, v1, d2, c2⟩ := Upto_ex l j1 d1 1000000 (by omega)
      refine ⟨⟨7, 0, 0, 0, [], v⟩, j2, (by simp [predB]; omega), .mk0 (by omega) (by omega) (by simp), by simp, d2, fun d k => ?_⟩
      simp only [prAV]
      refine Bd Tryz.func50 Tryz.ntmps50 fun σ N hp hpn hk hkn hfree => ?_
      obtain ⟨hd, hdn⟩ := HD0 hp hpn; clear hp hpn
      have hcs := And.intro (c1 d) (And.intro (c2 d) True.intro)
      clear c1 c2
      refine Wk ?_
      exact RW (d) (deckBox l j2)
    | false =>
      obtain ⟨a, j2, a1, d2, c2⟩ := Minute_ex l j1 d1
      obtain ⟨b, j3, b1, d3, c3⟩ := Minute_ex l j2 d2
      obtain ⟨lo, hlo, hlo1⟩ : ∃ lo : Nat, (if b < a then (b : Int) else (a : Int)) = (lo : Int) ∧ lo = min a b := ⟨min a b, by split <;> omega, rfl⟩
      obtain ⟨hi, hhi, hhi1⟩ : ∃ hi : Nat, (if a < b then (b : Int) else (a : Int)) = (hi : Int) ∧ hi = max a b := ⟨max a b, by split <;> omega, rfl⟩
      have hlo2 : ((min a b : Nat) : Int) = lo := by omega
      have hhi2 : ((max a b : Nat) : Int) = hi := by omega
      refine ⟨⟨4, 0, lo, hi, [], 0⟩, j3, (by simp [predB]; omega), .mk0 (by omega) (by omega) (by simp), by simp, d3, fun d k => ?_⟩
      simp only [prAV]
      refine Bd Tryz.func50 Tryz.ntmps50 fun σ N hp hpn hk hkn hfree => ?_
      obtain ⟨hd, hdn⟩ := HD0 hp hpn; clear hp hpn
      have hcs := And.intro (c1 d) (And.intro (c2 d) (And.intro (c3 d) True.intro))
      clear c1 c2 c3
      refine Wk ?_
      exact RW (d) (deckBox l j3)
end Go.Proofs.YtemmlldpmgfblaaGreatDoor

/- The deck's Bytes as a row of one's own. -/
namespace Go.Proofs.YtemmlldpmgfblaaGreatDoor
open Go.Ab
attribute [local irreducible] Go.Ab.tyAV Go.Ab.aw Go.Ab.aops Go.Ab.kReg Go.Ab.aThen Go.Ab.aBlk Go.Ab.acond Go.Ab.aguard Go.Ab.astep Go.Ab.AStepX Go.Ab.aRet

end Go.Proofs.YtemmlldpmgfblaaGreatDoor

/- The deck's Bytes as a row of one's own; Caveat. -/
namespace Go.Proofs.YtemmlldpmgfblaaGreatDoor
open Go.Ab
attribute [local irreducible] Go.Ab.tyAV Go.Ab.aw Go.Ab.aops Go.Ab.kReg Go.Ab.aThen Go.Ab.aBlk Go.Ab.acond Go.Ab.aguard Go.Ab.astep Go.Ab.AStepX Go.Ab.aRet

end Go.Proofs.YtemmlldpmgfblaaGreatDoor

/- The law CaveatValid. -/
namespace Go.Proofs.YtemmlldpmgfblaaGreatDoor
open Go.Ab
attribute [local irreducible] Go.Ab.tyAV Go.Ab.aw Go.Ab.aops Go.Ab.kReg Go.Ab.aThen Go.Ab.aBlk Go.Ab.acond Go.Ab.aguard Go.Ab.astep Go.Ab.AStepX Go.Ab.aRet

/-- The bytes of a caveat that came in. -/
structure CaIn (c : Ca) : Prop where
  pr : PrOk c.first
  t0 : c.ticket.length ≤ 9223372036854775807
  b0 : c.box.length ≤ 9223372036854775807
@[go_sem] theorem renl_replicate (f : Nat → Option Nat) (n : Nat) (a : AV) : AV.renl f (List.replicate n a) = List.replicate n (a.ren f) := by rw [AV.renl_map, List.map_replicate]
end Go.Proofs.YtemmlldpmgfblaaGreatDoor

/- The law CaveatValid. -/
namespace Go.Proofs.YtemmlldpmgfblaaGreatDoor
open Go.Ab
attribute [local irreducible] Go.Ab.tyAV Go.Ab.aw Go.Ab.aops Go.Ab.kReg Go.Ab.aThen Go.Ab.aBlk Go.Ab.acond Go.Ab.aguard Go.Ab.astep Go.Ab.AStepX Go.Ab.aRet

end Go.Proofs.YtemmlldpmgfblaaGreatDoor

/- The law CaveatCode. -/
namespace Go.Proofs.YtemmlldpmgfblaaGreatDoor
open Go.Ab
attribute [local irreducible] Go.Ab.tyAV Go.Ab.aw Go.Ab.aops Go.Ab.kReg Go.Ab.aThen Go.Ab.aBlk Go.Ab.acond Go.Ab.aguard Go.Ab.astep Go.Ab.AStepX Go.Ab.aRet

end Go.Proofs.YtemmlldpmgfblaaGreatDoor

/- Predicates and caveats: what is written is read back, and only that (plain). -/
namespace Go.Proofs.YtemmlldpmgfblaaGreatDoor
open Go.Ab

theorem numR_at {b t : List UInt8} {u n : Nat} (h : b.drop u = leb n ++ t) (hn : n ≤ 281474976710656) : numR b u = (n, u + (leb n).length, 0) := by
  unfold numR
  rw [h, rdS_leb n hn t]
theorem be8_eight (m : Int) (h0 : 0 ≤ m) (h1 : m < 18446744073709551616) : (be8 (eightB m) : Int) = m := by
  have e7 := sh8_toNat m 56
  have e6 := sh8_toNat m 48
  have e5 := sh8_toNat m 40
  have e4 := sh8_toNat m 32
  have e3 := sh8_toNat m 24
  have e2 := sh8_toNat m 16
  have e1 := sh8_toNat m 8
  have e0 := sh8_toNat m 0
  simp only [Int.reducePow, Int.pow_zero, Int.ediv_one] at e7 e6 e5 e4 e3 e2 e1 e0
  simp only [eightB, be8, List.foldl_cons, List.foldl_nil]
  omega
/-! ### What is read is written so -/
end Go.Proofs.YtemmlldpmgfblaaGreatDoor

/- Algebras: plain laws. -/
namespace Go.Proofs.YtemmlldpmgfblaaGreatDoor
open Go.Ab
attribute [local irreducible] Go.Ab.tyAV Go.Ab.aw Go.Ab.aops Go.Ab.kReg Go.Ab.aThen Go.Ab.aBlk Go.Ab.acond Go.Ab.aguard Go.Ab.astep Go.Ab.AStepX Go.Ab.aRet
attribute [local irreducible] shaG

theorem x8_xor (a b : UInt8) : x8 a b = a ^^^ b := by
  unfold x8
  have ha := a.toNat_lt
  have hb := b.toNat_lt
  have h : bits .xor .u8 (a.toNat : Int) (b.toNat : Int) = ((a ^^^ b).toNat : Int) := by
    have h2 := (a ^^^ b).toNat_lt
    have h3 : (BitVec.ofInt 8 (a.toNat : Int) ^^^ BitVec.ofInt 8 (b.toNat : Int)).toNat = (a ^^^ b).toNat := by
      rw [UInt8.toNat_xor, BitVec.toNat_xor]
      congr 1
      · rw [BitVec.ofInt_natCast, BitVec.toNat_ofNat]; exact Nat.mod_eq_of_lt ha
      · rw [BitVec.ofInt_natCast, BitVec.toNat_ofNat]; exact Nat.mod_eq_of_lt hb
    show IntKind.u8.wrap (((BitVec.ofInt 8 (a.toNat : Int) ^^^ BitVec.ofInt 8 (b.toNat : Int)).toNat : Nat) : Int) = _
    rw [h3, IntKind.wrap_u8]
    omega
  rw [h, Int.toNat_natCast, UInt8.ofNat_toNat]
theorem x8_x8 (a b : UInt8) : x8 (x8 a b) b = a := by
  rw [x8_xor, x8_xor, UInt8.xor_assoc, UInt8.xor_self, UInt8.xor_zero]

theorem eightB_inj {m n : Int} (h0 : 0 ≤ m) (h1 : m < 18446744073709551616) (h2 : 0 ≤ n) (h3 : n < 18446744073709551616) (h : eightB m = eightB n) : m = n := by
  have a := be8_eight m h0 h1
  have b := be8_eight n h2 h3
  rw [h] at a
  omega
theorem symT_inj {k : UInt8} {m n : Int} (h0 : 0 ≤ m) (h1 : m < 18446744073709551616) (h2 : 0 ≤ n) (h3 : n < 18446744073709551616) (h : symT k m = symT k n) : m = n := by
  have h := congrArg Subtype.val h
  simp only [symT, List.append_assoc, List.append_cancel_left_eq] at h
  exact eightB_inj h0 h1 h2 h3 (List.append_inj_left h (by rw [eightB_len, eightB_len]))
theorem symApp_inj {k : UInt8} {m n : Int} {x y : List UInt8} (h0 : 0 ≤ m) (h1 : m < 18446744073709551616) (h2 : 0 ≤ n) (h3 : n < 18446744073709551616) (h : (symT k m).1 ++ x = (symT k n).1 ++ y) : m = n :=
  symT_inj h0 h1 h2 h3 (Subtype.ext (List.append_inj_left h (by rw [(symT k m).2, (symT k n).2])))

theorem entL_app (k : Tg) (m : List UInt8) (L : List MacE) (e : MacE) : entL k m (L ++ [e]) = match entL k m L with
    | some t => some t
    | none => if e.key = k ∧ e.msg = m then some e.tag else none := by
  induction L with
  | nil => rfl
  | cons x r ih =>
    simp only [List.cons_append, entL]
    split
    · rfl
    · exact ih
theorem boxL_mem {k : Tg} {n : Int} {p : List UInt8} {b : List UInt8} : ∀ {L : List BoxE}, boxL k n p L = some b → ∃ e ∈ L, e.key = k ∧ e.nonce = n ∧ e.plain = p ∧ e.box = b
  | [], h => by cases h
  | x :: r, h => by
    simp only [boxL] at h
    split at h
    · rename_i hc
      injection h with h
      exact ⟨x, List.mem_cons_self .., hc.1, hc.2.1, hc.2.2, h⟩
    · obtain ⟨e, he, h1⟩ := boxL_mem h
      exact ⟨e, List.mem_cons_of_mem _ he, h1⟩
/-- The bytes in the box that an algebra knows. -/
def openL (key : Tg) (b : List UInt8) : List BoxE → Option (List UInt8)
  | [] => none
  | e :: r => if e.key = key ∧ e.box = b then some e.plain else openL key b r
theorem openL_app (k : Tg) (b : List UInt8) (L : List BoxE) (e : BoxE) : openL k b (L ++ [e]) = match openL k b L with
    | some t => some t
    | none => if e.key = k ∧ e.box = b then some e.plain else none := by
  induction L with
  | nil => rfl
  | cons x r ih =>
    simp only [List.cons_append, openL]
    split
    · rfl
    · exact ih
theorem openL_some {k : Tg} {b p : List UInt8} : ∀ {L : List BoxE}, openL k b L = some p → ∃ e ∈ L, e.key = k ∧ e.box = b ∧ e.plain = p
  | [], h => by cases h
  | x :: r, h => by
    simp only [openL] at h
    split at h
    · rename_i hc
      injection h with h
      exact ⟨x, List.mem_cons_self .., hc.1, hc.2, h⟩
    · obtain ⟨e, he, h1⟩ := openL_some h
      exact ⟨e, List.mem_cons_of_mem _ he, h1⟩
theorem openL_of {k : Tg} {b : List UInt8} : ∀ {L : List BoxE} {e : BoxE}, e ∈ L → e.key = k → e.box = b → ∃ p, openL k b L = some p
  | [], _, h, _, _ => by cases h
  | x :: r, e, h, h1, h2 => by
    simp only [openL]
    split
    · exact ⟨_, rfl⟩
    · rename_i hn
      rcases List.mem_cons.1 h with rfl | h
      · exact absurd ⟨h1, h2⟩ hn
      · exact openL_of h h1 h2

section
variable [W : W32]
theorem strm_strm (key : List UInt8) (n : Int) (b : List UInt8) (h : ∀ q, (kst key n q).1.length = 32 := fun q => (kst key n q).2) : strmB key n (strmB key n b) = b := by
  have hl := strmB_len key n b
  refine List.ext_getElem (by rw [strmB_len, hl]) fun i h1 h2 => ?_
  have h32 : i % 32 < (kst key n (i / 32)).1.length := by rw [h]; exact Nat.mod_lt _ (by decide)
  rw [strmB_at key n (strmB key n b) i (by omega) h1 h32, strmB_at key n b i h2 (by omega) h32, x8_x8]

/-- What holds of an algebra in which things were made. -/
structure AlgOk (a : Alg) : Prop where
  mf : a.free = true → ∀ i (h : i < a.macs.length), (a.macs[i]).tag = symT 109 ((i : Int) + 1)
  mn : a.free = false → ∀ e ∈ a.macs, e.tag = hmacT e.key.1 e.msg
  bf : a.free = true → ∀ i (h : i < a.boxes.length), (a.boxes[i]).box = (symT 98 ((i : Int) + 1)).1 ++ List.replicate ((a.boxes[i]).plain.length + 8) 0
  bn : a.free = false → ∀ e ∈ a.boxes, e.box = sealB e.key.1 e.nonce e.plain
  mu : ∀ e ∈ a.macs, entL e.key e.msg a.macs = some e.tag
  ml : ∀ e ∈ a.macs, e.msg.length ≤ 4096
  bp : ∀ e ∈ a.boxes, e.plain.length ≤ 256 ∧ 0 ≤ e.nonce ∧ e.nonce ≤ 281474976710656
theorem AlgOk.nil (fr : Bool) (sd : Tg) (fs : Int) : AlgOk ⟨fr, sd, fs, [], []⟩ :=
  ⟨fun _ i h => absurd h (by simp), fun _ e he => absurd he (by simp), fun _ i h => absurd h (by simp), fun _ e he => absurd he (by simp), fun e he => absurd he (by simp), fun e he => absurd he (by simp), fun e he => absurd he (by simp)⟩
theorem AlgOk.zero : AlgOk alg0 := .nil _ _ _
theorem AlgOk.key {a : Alg} (h : AlgOk a) : AlgOk (keyS a).1 := by
  unfold keyS
  split
  · exact .zero
  · exact ⟨h.mf, h.mn, h.bf, h.bn, h.mu, h.ml, h.bp⟩
theorem AlgOk.mac {a : Alg} (h : AlgOk a) (key : Tg) (msg : List UInt8) : AlgOk (macS a key msg).1 := by
  by_cases h1 : 4096 < msg.length
  · rw [macS_long h1]; exact .zero
  · cases he : entL key msg a.macs with
    | some t => rw [macS_found h1 he]; exact h
    | none =>
      by_cases hf : 65536 ≤ a.macs.length
      · rw [macS_full h1 he hf]; exact .zero
      · rw [macS_new h1 he hf]
        refine ⟨fun hfr i hi => ?_, fun hfr e hm => ?_, h.bf, h.bn, fun e hm => ?_, fun e hm => ?_, h.bp⟩
        · simp only [List.length_append, List.length_singleton] at hi
          rcases Nat.lt_or_ge i a.macs.length with hl | hl
          · simp only [List.getElem_append_left hl]; exact h.mf hfr i hl
          · obtain rfl : i = a.macs.length := by omega
            simp only [List.getElem_append_right (Nat.le_refl _), Nat.sub_self, List.getElem_singleton]
            rw [if_pos hfr]
        · rcases List.mem_append.1 hm with hm | hm
          · exact h.mn hfr e hm
          · rw [List.mem_singleton.1 hm]; simp only
            have : a.free = false := hfr
            rw [this]; rfl
        · rw [entL_app]
          rcases List.mem_append.1 hm with hm | hm
          · rw [h.mu e hm]
          · rw [List.mem_singleton.1 hm]; simp only; rw [he]; simp
        · rcases List.mem_append.1 hm with hm | hm
          · exact h.ml e hm
          · rw [List.mem_singleton.1 hm]; simp only; omega
theorem AlgOk.seal {a : Alg} (h : AlgOk a) (key : Tg) (nonce : Int) (plain : List UInt8) : AlgOk (sealS a key nonce plain).1 := by
  unfold sealS
  split
  · exact .zero
  · split
    · exact .zero
    · rename_i hn hp
      split
      · exact h
      · split
        · exact .zero
        · refine ⟨h.mf, h.mn, fun hfr i hi => ?_, fun hfr e hm => ?_, h.mu, h.ml, fun e hm => ?_⟩
          · simp only [List.length_append, List.length_singleton] at hi
            rcases Nat.lt_or_ge i a.boxes.length with hl | hl
            · simp only [List.getElem_append_left hl]; exact h.bf hfr i hl
            · obtain rfl : i = a.boxes.length := by omega
              simp only [List.getElem_append_right (Nat.le_refl _), Nat.sub_self, List.getElem_singleton]
              unfold sealN
              rw [if_pos hfr]
          · rcases List.mem_append.1 hm with hm | hm
            · exact h.bn hfr e hm
            · rw [List.mem_singleton.1 hm]; simp only
              unfold sealN
              have : a.free = false := hfr
              rw [this]; rfl
          · rcases List.mem_append.1 hm with hm | hm
            · exact h.bp e hm
            · rw [List.mem_singleton.1 hm]; simp only; omega
theorem macS_free {a : Alg} {key : Tg} {msg : List UInt8} (h : (macS a key msg).2.2 = 0) : (macS a key msg).1.free = a.free ∧ (macS a key msg).1.seed = a.seed ∧ (macS a key msg).1.fresh = a.fresh ∧ (macS a key msg).1.boxes = a.boxes := by
  by_cases h1 : 4096 < msg.length
  · rw [macS_long h1] at h; cases h
  · cases he : entL key msg a.macs with
    | some t => rw [macS_found h1 he]; exact ⟨rfl, rfl, rfl, rfl⟩
    | none =>
      by_cases hf : 65536 ≤ a.macs.length
      · rw [macS_full h1 he hf] at h; cases h
      · rw [macS_new h1 he hf]; exact ⟨rfl, rfl, rfl, rfl⟩
theorem macS_ok {a : Alg} (key : Tg) {msg : List UInt8} (h : msg.length ≤ 4096) (hl : a.macs.length < 65536) : (macS a key msg).2.2 = 0 := by
  cases he : entL key msg a.macs with
  | some t => rw [macS_found (by omega) he]
  | none => rw [macS_new (by omega) he (by omega)]
theorem keyS_ok {a : Alg} (h : a.fresh < 65536) : keyS a = ({ a with fresh := a.fresh + 1 }, if a.free then symT 107 (a.fresh + 1) else derT a.seed (a.fresh + 1), 0) := by
  unfold keyS; rw [if_neg (by omega)]
theorem sealS_ok {a : Alg} (key : Tg) {nonce : Int} {plain : List UInt8} (h0 : 0 ≤ nonce) (h1 : nonce ≤ 281474976710656) (hp : plain.length ≤ 256) (hl : a.boxes.length < 65536) : (sealS a key nonce plain).2.2 = 0 := by
  unfold sealS
  rw [if_neg (by omega), if_neg (by omega)]
  split
  · rfl
  · rw [if_neg (by omega)]
theorem sealS_free {a : Alg} {key : Tg} {nonce : Int} {plain : List UInt8} (h : (sealS a key nonce plain).2.2 = 0) : (sealS a key nonce plain).1.free = a.free ∧ (sealS a key nonce plain).1.macs = a.macs ∧ (sealS a key nonce plain).1.fresh = a.fresh ∧ (sealS a key nonce plain).1.seed = a.seed := by
  unfold sealS at h ⊢
  split at h
  · cases h
  · rename_i h1
    split at h
    · cases h
    · rename_i h2
      rw [if_neg h1, if_neg h2]
      split at h
      · exact ⟨rfl, rfl, rfl, rfl⟩
      · split at h
        · cases h
        · rename_i h3
          rw [if_neg h3]; exact ⟨rfl, rfl, rfl, rfl⟩
/-- The bytes in a box, or the error. -/
def openS (a : Alg) (key : Tg) (b : List UInt8) : List UInt8 × Nat :=
  if a.free = true then (match openL key b a.boxes with | some p => (p, 0) | none => ([], 14))
  else if b.length < 40 ∨ 296 < b.length then ([], 14)
  else if (hmacT key.1 ([98, 111, 120] ++ b.take (b.length - 32))).1 = b.drop (b.length - 32) then (strmB key.1 (be8 (b.take 8) : Int) ((b.take (b.length - 32)).drop 8), 0) else ([], 14)
theorem openL_ok {a : Alg} (ok : AlgOk a) (hl : a.boxes.length ≤ 1000000) (hfr : a.free = true) {e : BoxE} (he : e ∈ a.boxes) : openL e.key e.box a.boxes = some e.plain := by
  obtain ⟨p, hp⟩ := openL_of he rfl rfl
  obtain ⟨e', he', k1, k2, k3⟩ := openL_some hp
  obtain ⟨i, hi, rfl⟩ := List.getElem_of_mem he
  obtain ⟨j, hj, rfl⟩ := List.getElem_of_mem he'
  rw [ok.bf hfr i hi, ok.bf hfr j hj] at k2
  have := symApp_inj (by omega) (by omega) (by omega) (by omega) k2
  obtain rfl : j = i := by omega
  rw [hp, ← k3]
theorem sealB_len (key : List UInt8) (nonce : Int) (plain : List UInt8) : (sealB key nonce plain).length = plain.length + 40 := by
  unfold sealB
  rw [List.length_append, List.length_append, eightB_len, strmB_len, (hmacT _ _).2]; omega
theorem open_sealB {a : Alg} (hfr : a.free = false) (key : Tg) {nonce : Int} {plain : List UInt8} (h0 : 0 ≤ nonce) (h1 : nonce ≤ 281474976710656) (hp : plain.length ≤ 256) : openS a key (sealB key.1 nonce plain) = (plain, 0) := by
  have hl := sealB_len key.1 nonce plain
  have hs := strmB_len key.1 nonce plain
  have he := eightB_len nonce
  unfold openS
  rw [hfr, if_neg (by simp), if_neg (by omega)]
  have hA : (eightB nonce ++ strmB key.1 nonce plain).length = (sealB key.1 nonce plain).length - 32 := by rw [List.length_append, hl]; omega
  have ht : (sealB key.1 nonce plain).take ((sealB key.1 nonce plain).length - 32) = eightB nonce ++ strmB key.1 nonce plain := by
    rw [← hA]; unfold sealB; rw [List.take_left]
  have hd : (sealB key.1 nonce plain).drop ((sealB key.1 nonce plain).length - 32) = (hmacT key.1 ([98, 111, 120] ++ (eightB nonce ++ strmB key.1 nonce plain))).1 := by
    rw [← hA]; unfold sealB; rw [List.drop_left]
  have h8 : (sealB key.1 nonce plain).take 8 = eightB nonce := by
    unfold sealB; rw [List.append_assoc, ← he, List.take_left]
  have h8d : (eightB nonce ++ strmB key.1 nonce plain).drop 8 = strmB key.1 nonce plain := by rw [← he, List.drop_left]
  rw [ht, hd, if_pos rfl, h8, h8d, be8_eight nonce h0 (by omega), strm_strm]
/-- What was sealed is in the box. -/
theorem open_seal {a : Alg} (ok : AlgOk a) (hl : a.boxes.length ≤ 900000) {key : Tg} {nonce : Int} {plain : List UInt8} (h : (sealS a key nonce plain).2.2 = 0) : openS (sealS a key nonce plain).1 key (sealS a key nonce plain).2.1 = (plain, 0) := by
  have ok' := ok.seal key nonce plain
  have hf := sealS_free h
  have hne : ∃ e ∈ (sealS a key nonce plain).1.boxes, e.key = key ∧ e.nonce = nonce ∧ e.plain = plain ∧ e.box = (sealS a key nonce plain).2.1 := by
    unfold sealS at h ⊢
    split at h
    · cases h
    · rename_i h1
      split at h
      · cases h
      · rename_i h2
        rw [if_neg h1, if_neg h2]
        split at h
        · rename_i b hb
          obtain ⟨e, he, k⟩ := boxL_mem hb
          exact ⟨e, he, k⟩
        · split at h
          · cases h
          · rename_i h3
            rw [if_neg h3]
            exact ⟨_, List.mem_append_right _ (List.mem_singleton.2 rfl), rfl, rfl, rfl, rfl⟩
  have hl' : (sealS a key nonce plain).1.boxes.length ≤ 1000000 := by
    unfold sealS at h ⊢
    split at h
    · cases h
    · rename_i h1
      split at h
      · cases h
      · rename_i h2
        rw [if_neg h1, if_neg h2]
        split at h
        · simp only; omega
        · split at h
          · cases h
          · rename_i h3
            rw [if_neg h3]; simp; omega
  obtain ⟨e, he, k1, k2, k3, k4⟩ := hne
  have hp := ok'.bp e he
  cases hfr : (sealS a key nonce plain).1.free with
  | true =>
    have := openL_ok ok' hl' hfr he
    rw [k1, k4] at this
    unfold openS
    rw [hfr, if_pos rfl, this, k3]
  | false =>
    have hb := ok'.bn hfr e he
    rw [← k4, hb, k1, k2, k3]
    exact open_sealB hfr key (by omega) (by omega) (by rw [← k3]; omega)
theorem open_mono {a : Alg} {key : Tg} {nonce : Int} {plain : List UInt8} (h : (sealS a key nonce plain).2.2 = 0) {k : Tg} {b p : List UInt8} (hk : openS a k b = (p, 0)) : openS (sealS a key nonce plain).1 k b = (p, 0) := by
  have hf := (sealS_free h).1
  cases hfr : a.free with
  | false =>
    unfold openS at hk ⊢
    rw [hf]
    rw [hfr] at hk ⊢
    exact hk
  | true =>
    unfold openS at hk ⊢
    rw [hf, hfr, if_pos rfl]
    rw [hfr, if_pos rfl] at hk
    cases ho : openL k b a.boxes with
    | none => rw [ho] at hk; cases hk
    | some q =>
      rw [ho] at hk
      have hq : openL k b (sealS a key nonce plain).1.boxes = some q := by
        unfold sealS at h ⊢
        split at h
        · cases h
        · rename_i h1
          split at h
          · cases h
          · rename_i h2
            rw [if_neg h1, if_neg h2]
            split at h
            · exact ho
            · split at h
              · cases h
              · rename_i h3
                rw [if_neg h3]; simp only; rw [openL_app, ho]
      rw [hq]; exact hk
theorem open_mac {a : Alg} {key : Tg} {msg : List UInt8} (h : (macS a key msg).2.2 = 0) (k : Tg) (b : List UInt8) : openS (macS a key msg).1 k b = openS a k b := by
  obtain ⟨h1, _, _, h2⟩ := macS_free h
  unfold openS
  rw [h1, h2]
end
end Go.Proofs.YtemmlldpmgfblaaGreatDoor

/- Algebras of the reference: Open; tags in bytes. -/
namespace Go.Proofs.YtemmlldpmgfblaaGreatDoor
open Go.Ab
attribute [local irreducible] Go.Ab.tyAV Go.Ab.aw Go.Ab.aops Go.Ab.kReg Go.Ab.aThen Go.Ab.aBlk Go.Ab.acond Go.Ab.aguard Go.Ab.astep Go.Ab.AStepX Go.Ab.aRet
attribute [local irreducible] shaG

/-- A tag is read: the tag, how many bytes are used then, the error. -/
def tagR (b : List UInt8) (u : Nat) : Tg × Nat × Nat := if h : u + 32 ≤ b.length then (⟨(b.drop u).take 32, by rw [List.length_take, List.length_drop]; omega⟩, u + 32, 0) else (zeroTag, u, 3)
theorem tagR_ok {b : List UInt8} {u : Nat} (h : u + 32 ≤ b.length) : tagR b u = (⟨(b.drop u).take 32, by rw [List.length_take, List.length_drop]; omega⟩, u + 32, 0) := by unfold tagR; rw [dif_pos h]
theorem tagR_bad {b : List UInt8} {u : Nat} (h : ¬ u + 32 ≤ b.length) : tagR b u = (zeroTag, u, 3) := by unfold tagR; rw [dif_neg h]
theorem tagR_used {b : List UInt8} {u : Nat} (h : (tagR b u).2.2 = 0) : (tagR b u).2.1 = u + 32 := by
  by_cases h' : u + 32 ≤ b.length
  · rw [tagR_ok h']
  · rw [tagR_bad h'] at h; cases h
theorem tagR_len {b : List UInt8} {u : Nat} (h : (tagR b u).2.2 = 0) : u + 32 ≤ b.length := by
  by_cases h' : u + 32 ≤ b.length
  · exact h'
  · rw [tagR_bad h'] at h; cases h
theorem RBytes32_short (b : List UInt8) (u : Nat) (hu : u ≤ b.length) (hs : b.length - u < 32) (hb : b.length ≤ 1000000) (d k : Nat) :
    ACall Tryz.prog 165 [.ptr d [] 0, .lit (.int .i64 32)] k [(d, RdBox b u 0)] (.slice none (List.replicate 32 (.lit (.int .u8 0)))) [(d, RdBox b u 3)] := by
  have hs' : (b.length : Int) - (u : Int) < 32 := by omega
  simp only [RdBox]
  refine Bd Tryz.func165 Tryz.ntmps165 fun σ N hp hpn hk hkn hfree => ?_
  obtain ⟨hd, hdn⟩ := HD0 hp hpn; clear hp hpn
  refine Wk ?_
  exact RV (d) (.box 169 (.agg [.slice none (b.map byteAV), .lit (.int .i64 (u : Int)), .lit (.int .i64 3)]))
theorem RBytes32_spec (b : List UInt8) (u : Nat) (hs : u + 32 ≤ b.length) (hb : b.length ≤ 1000000) (d k : Nat) :
    ACall Tryz.prog 165 [.ptr d [] 0, .lit (.int .i64 32)] k [(d, RdBox b u 0)] (.slice none (((b.drop u).take 32).map byteAV)) [(d, RdBox b (u + 32) 0)] := by
  have hs' : ¬ (b.length : Int) - (u : Int) < 32 := by omega
  have hsl := take_drop_bytes b u 32
  have hu8 : ((u : Int) + 32).toNat = u + 32 := by omega
  generalize (b.drop u).take 32 = L at *
  simp only [RdBox]
  refine Bd Tryz.func165 Tryz.ntmps165 fun σ N hp hpn hk hkn hfree => ?_
  obtain ⟨hd, hdn⟩ := HD0 hp hpn; clear hp hpn
  refine Wk ?_
  exact RV (d) (.box 169 (.agg [.slice none (b.map byteAV), .lit (.int .i64 ((u : Int) + 32)), .lit (.int .i64 0)]))
theorem RTag_ok (b : List UInt8) (u : Nat) (h : u + 32 ≤ b.length) (hb : b.length ≤ 1000000) (d k : Nat) :
    ACall Tryz.prog 98 [.ptr d [] 0] k [(d, RdBox b u 0)] (tagAV (tagR b u).1) [(d, RdBox b (u + 32) 0)] := by
  have c1 := RBytes32_spec b u h hb
  have hkA : tagAV (tagR b u).1 = .agg (((b.drop u).take 32).map byteAV) := by rw [tagR_ok h]; rfl
  rw [hkA]
  clear hkA
  have hl : ((b.drop u).take 32).length = 32 := by rw [List.length_take, List.length_drop]; omega
  generalize (b.drop u).take 32 = L at *
  have htk : (L.map byteAV).take 32 = L.map byteAV := List.take_of_length_le (by rw [List.length_map]; omega)
  have hz0 : (zeroTag.val.map byteAV).drop 32 = [] := rfl
  have hs1 : (AV.agg (L.map byteAV)).sz = 32 := by simp only [AV.sz, szl_bytes]; exact hl
  have hs2 : (AV.agg (L.map byteAV)).cell = true := celll_bytes L
  simp only [RdBox] at *
  refine Bd Tryz.func98 Tryz.ntmps98 fun σ N hp hpn hk hkn hfree => ?_
  obtain ⟨hd, hdn⟩ := HD0 hp hpn; clear hp hpn
  have M : Mut (N + 2) := ⟨⟩
  have hcs := And.intro (c1 d) True.intro
  clear c1
  refine Wk ?_
  exact RW (d) (.box 169 (.agg [.slice none (b.map byteAV), .lit (.int .i64 ((u : Int) + 32)), .lit (.int .i64 0)]))
theorem RTag_zero (b : List UInt8) (u e e' : Nat) (d k : Nat)
    (c1 : ∀ k, ACall Tryz.prog 165 [.ptr d [] 0, .lit (.int .i64 32)] k [(d, RdBox b u e)] (.slice none (List.replicate 32 (.lit (.int .u8 0)))) [(d, RdBox b u e')]) :
    ACall Tryz.prog 98 [.ptr d [] 0] k [(d, RdBox b u e)] (tagAV zeroTag) [(d, RdBox b u e')] := by
  have hz : List.replicate 32 (AV.lit (.int .u8 0)) = zeroTag.1.map byteAV := rfl
  rw [hz] at c1
  obtain ⟨L, hL⟩ : ∃ L, zeroTag.1 = L := ⟨_, rfl⟩
  have hl : L.length = 32 := by rw [← hL]; exact zeroTag.2
  have hkA : tagAV zeroTag = .agg (L.map byteAV) := by rw [← hL]; rfl
  rw [hkA]
  rw [hL] at c1
  have htk : (L.map byteAV).take 32 = L.map byteAV := List.take_of_length_le (by rw [List.length_map]; omega)
  have hz0 : (L.map byteAV).drop 32 = [] := List.drop_eq_nil_of_le (by rw [List.length_map]; omega)
  have hs1 : (AV.agg (L.map byteAV)).sz = 32 := by simp only [AV.sz, szl_bytes]; exact hl
  have hs2 : (AV.agg (L.map byteAV)).cell = true := celll_bytes L
  clear hz
  simp only [RdBox] at *
  refine Bd Tryz.func98 Tryz.ntmps98 fun σ N hp hpn hk hkn hfree => ?_
  obtain ⟨hd, hdn⟩ := HD0 hp hpn; clear hp hpn
  have M : Mut (N + 2) := ⟨⟩
  have hcs := And.intro c1 True.intro
  clear c1
  refine Wk ?_
  exact RW (d) (.box 169 (.agg [.slice none (b.map byteAV), .lit (.int .i64 (u : Int)), .lit (.int .i64 (e' : Int))]))
theorem RTag_spec (b : List UInt8) (u : Nat) (hu : u ≤ b.length) (hb : b.length ≤ 1000000) (d k : Nat) :
    ACall Tryz.prog 98 [.ptr d [] 0] k [(d, RdBox b u 0)] (tagAV (tagR b u).1) [(d, RdBox b (tagR b u).2.1 (tagR b u).2.2)] := by
  by_cases h : u + 32 ≤ b.length
  · have := RTag_ok b u h hb d k
    rw [tagR_ok h] at this ⊢
    exact this
  · rw [tagR_bad h]
    exact RTag_zero b u 0 3 d k fun k => RBytes32_short b u hu (by omega) hb d k
section
variable [W : W32]
theorem openS_len (a : Alg) (m : Nat) (ha : AlgIn a m) (key : Tg) (b : List UInt8) (hb : b.length ≤ 100000) : (openS a key b).1.length ≤ 100000 := by
  unfold openS
  split
  · split
    · rename_i p hp
      obtain ⟨e, he, _, _, h3⟩ := openL_some hp
      rw [← h3]; exact (ha.bm e he).1
    · simp
  · split
    · simp
    · split
      · simp only [strmB_len, List.length_drop, List.length_take]; omega
      · simp
def soAV (r : List UInt8 × Nat) : AV := .tup [.slice none (r.1.map byteAV), .lit (.int .i64 (r.2 : Nat))]
set_option maxHeartbeats 1000000 in
theorem refOpen_free (sd : Tg) (fs : Int) (L : List MacE) (B : List BoxE) (key : Tg) (b : List UInt8) (hl : B.length ≤ 1000000) (hm : ∀ e ∈ B, e.plain.length ≤ 100000 ∧ e.box.length ≤ 100000) (hb : b.length ≤ 100000) (k : Nat) :
    ACall Tryz.prog 156 [algAV ⟨true, sd, fs, L, B⟩, tagAV key, .slice none (b.map byteAV)] k [] (soAV (openS ⟨true, sd, fs, L, B⟩ key b)) [] := by
  unfold openS
  rw [if_pos rfl]
  simp only
  generalize hR : openL key b B = R
  refine Bd Tryz.func156 Tryz.ntmps156 fun σ N hp hpn hk hkn hfree => ?_
  have haA : algAV ⟨true, sd, fs, L, B⟩ = .agg [.lit (.bool true), tagAV sd, .lit (.int .i64 fs), .slice none (L.map macAV), .slice none (B.map sealAV)] := rfl
  refine Wk ?_
  refine go_loopF mixed (by kernel_rfl) [6, 7, 8, 15, 16, 17, 18, 19, 20, 21, 22, 23, 24, 25, 26, 27, 28, 29, 30, 31, 32, 33, 34, 35, 36, 37, 38, 39, 40, 41, 42, 43, 44, 45, 46, 47] [N, N+1] (fun m_ s_ σ_ n_ => ∃ (u : Nat), m_ = B.length - u ∧ s_ 8 = .lit (.int .i64 u) ∧ σ_ (N) = .box 36 (.agg [.lit (.bool true), tagAV sd, .lit (.int .i64 fs), .slice none (L.map macAV), .slice none (B.map sealAV)]) ∧ σ_ (N+1) = .box 26 (tagAV key) ∧ (u ≤ B.length) ∧ (openL key b (B.drop u) = R)) ⟨_, 0, rfl, WF, WF, WF, WC, WC⟩ ?_
  intro m_1 s_1 σ_1 n_1 hs_1 hf_1 hn_1 hI_1
  obtain ⟨u, hm_1, h1_8, e1_0, e1_1, hu, hd⟩ := hI_1
  have h1_2 := KS hs_1 2
  have h1_3 := KS hs_1 3
  have h1_4 := KS hs_1 4
  have hlow := KL (N := N) (σ := σ) hf_1
  clear haA
  by_cases hul : u = B.length
  · subst hul
    rw [List.drop_length] at hd
    simp only [openL] at hd
    subst hd
    clear hR hm
    unfold soAV
    simp only [List.map_nil]
    exact WL
  · have hu1 : u < B.length := by omega
    rw [List.drop_eq_getElem_cons hu1, openL] at hd
    have hmz := hm _ (List.getElem_mem hu1)
    obtain ⟨z, hz⟩ : ∃ z, B[u] = z := ⟨_, rfl⟩
    rw [hz] at hd hmz
    obtain ⟨zk, zn, zp, zb⟩ := z
    simp only at hd hmz
    have hzd : sealAV ⟨zk, zn, zp, zb⟩ = .agg [tagAV zk, .lit (.int .i64 zn), bAV zp, bAV zb] := rfl
    have hzb := bAV_def zp
    have hzb2 := bAV_def zb
    obtain ⟨hmz1, hmz2⟩ := hmz
    have c1 := Same_spec zb b (by omega)
    clear hR hm
    by_cases h1 : zk = key
    · by_cases h3 : zb = b
      · rw [if_pos ⟨h1, h3⟩] at hd
        subst hd
        rw [decide_eq_true h3] at c1
        have hcs := And.intro c1 True.intro
        clear c1
        subst h1
        subst h3
        unfold soAV
        simp only
        exact WL
      · rw [if_neg (fun h => h3 h.2)] at hd
        rw [decide_eq_false h3] at c1
        have hcs := And.intro c1 True.intro
        clear c1
        subst h1
        refine Wk ?_
        exact ⟨WS, WG, WN, _, (show B.length - (u + 1) < m_1 by omega), u + 1, rfl, WF, WF, WF, WC, WC⟩
    · rw [if_neg (fun h => h1 h.1)] at hd
      have d1 : decide (zk = key) = false := decide_eq_false h1
      clear c1
      refine Wk ?_
      exact ⟨WS, WG, WN, _, (show B.length - (u + 1) < m_1 by omega), u + 1, rfl, WF, WF, WF, WC, WC⟩
set_option maxHeartbeats 1000000 in
theorem refOpen_real (sd : Tg) (fs : Int) (L : List MacE) (B : List BoxE) (key : Tg) (b : List UInt8) (hb : b.length ≤ 100000) (k : Nat) :
    ACall Tryz.prog 156 [algAV ⟨false, sd, fs, L, B⟩, tagAV key, .slice none (b.map byteAV)] k [] (soAV (openS ⟨false, sd, fs, L, B⟩ key b)) [] := by
  unfold openS
  rw [if_neg (by simp)]
  have haA : algAV ⟨false, sd, fs, L, B⟩ = .agg [.lit (.bool false), tagAV sd, .lit (.int .i64 fs), .slice none (L.map macAV), .slice none (B.map sealAV)] := rfl
  unfold soAV
  by_cases h1 : b.length < 40
  · rw [if_pos (.inl h1)]
    have h1i : (b.length : Int) < 40 := by omega
    simp only [List.map_nil]
    refine Bd Tryz.func156 Tryz.ntmps156 fun σ N hp hpn hk hkn hfree => ?_
    exact WL
  have h1i : ¬ (b.length : Int) < 40 := by omega
  by_cases h2 : 296 < b.length
  · rw [if_pos (.inr h2)]
    have h2i : (296 : Int) < (b.length : Int) := by omega
    simp only [List.map_nil]
    refine Bd Tryz.func156 Tryz.ntmps156 fun σ N hp hpn hk hkn hfree => ?_
    exact WL
  have h2i : ¬ (296 : Int) < (b.length : Int) := by omega
  rw [if_neg (by omega)]
  have hn32 : ((b.length : Int) - 32).toNat = b.length - 32 := by omega
  have hn32i : (0 : Int) ≤ (b.length : Int) - 32 := by omega
  have hA1 : (b.map byteAV).take (b.length - 32) = (b.take (b.length - 32)).map byteAV := by rw [List.map_take]
  have hD1 : (b.map byteAV).drop (b.length - 32) = (b.drop (b.length - 32)).map byteAV := by rw [List.map_drop]
  have hD2 : ((b.take (b.length - 32)).map byteAV).drop 8 = ((b.take (b.length - 32)).drop 8).map byteAV := by rw [List.map_drop]
  have hl1 : (b.take (b.length - 32)).length = b.length - 32 := by rw [List.length_take]; omega
  have hl2 : (b.drop (b.length - 32)).length = 32 := by rw [List.length_drop]; omega
  have hL8 : (b.take 8).length = 8 := by rw [List.length_take]; omega
  have hbd := be8_bound (L := b.take 8) (i := 8) hL8 (Nat.le_refl _)
  rw [List.take_of_length_le (i := 8) (l := b.take 8) (by omega)] at hbd
  have c1 := Word_spec [98, 111, 120] (b.take (b.length - 32)) (by decide) (by omega)
  have c2 := Hmac_spec key.1 ([98, 111, 120] ++ b.take (b.length - 32)) (by rw [key.2]; decide) (by simp; omega)
  generalize hMs : [98, 111, 120] ++ b.take (b.length - 32) = Ms at *
  generalize hmacT key.1 Ms = T at *
  have c3 := Same_spec T.1 (b.drop (b.length - 32)) (by rw [T.2]; decide)
  have c4 := stream_spec key (be8 (b.take 8)) hbd.1 ((b.take (b.length - 32)).drop 8) (by rw [List.length_drop]; omega)
  have ht1 := tagAV_sz T
  have ht2 := tagAV_cell T
  have hs1 := tagAV_sz key
  have hs2 := tagAV_cell key
  obtain ⟨K, hK⟩ := key
  obtain ⟨T, hT⟩ := T
  have hkA : tagAV ⟨K, hK⟩ = .agg (K.map byteAV) := rfl
  have htA : tagAV ⟨T, hT⟩ = .agg (T.map byteAV) := rfl
  simp only [hkA, htA] at hs1 hs2 ht1 ht2 c2 c3 c4 ⊢
  clear hkA htA
  have hs3 : AV.celll (K.map byteAV) = true := celll_bytes K
  have ht3 : AV.celll (T.map byteAV) = true := celll_bytes T
  have htk : (K.map byteAV).take 32 = K.map byteAV := List.take_of_length_le (by rw [List.length_map]; omega)
  have htk2 : (T.map byteAV).take 32 = T.map byteAV := List.take_of_length_le (by rw [List.length_map]; omega)
  by_cases h3 : T = b.drop (b.length - 32)
  · rw [if_pos h3]
    rw [decide_eq_true h3] at c3
    simp only
    generalize strmB K (be8 (b.take 8) : Int) ((b.take (b.length - 32)).drop 8) = St at *
    have h0b : be8 (List.take 0 b) = 0 := by simp [be8]
    clear hMs h3
    generalize (b.take (b.length - 32)).drop 8 = Bq at *
    generalize b.drop (b.length - 32) = Dr at *
    generalize b.take (b.length - 32) = Tk at *
    refine Bd Tryz.func156 Tryz.ntmps156 fun σ N hp hpn hk hkn hfree => ?_
    have hcs := And.intro c1 (And.intro c2 (And.intro c3 True.intro))
    clear c1 c2 c3
    refine Wk ?_
    refine go_loopF mixed (by kernel_rfl) [11, 12, 70, 71, 72, 73, 74, 75, 76, 77, 78, 79, 80, 81] [] (fun m_ s_ σ_ n_ => ∃ (i : Nat) (v : Nat), m_ = 8 - i ∧ s_ 12 = .lit (.int .i64 i) ∧ s_ 11 = .lit (.int .u64 v) ∧ (i ≤ 8) ∧ (be8 (b.take i) = v)) ⟨_, 0, 0, rfl, WF, WF, WC, WC⟩ ?_
    intro m_2 s_2 σ_2 n_2 hs_2 hf_2 hn_2 hI_2
    obtain ⟨i, v, hm_2, h2_12, h2_11, hi, hv⟩ := hI_2
    have h2_2 := KS hs_2 2
    have h2_4 := KS hs_2 4
    have h2_6 := KS hs_2 6
    have h2_7 := KS hs_2 7
    have h2_9 := KS hs_2 9
    have k2_0 := KE hf_2 (N+1)
    have hlow := KL (N := N) (σ := σ) hf_2
    clear h0b
    by_cases hi8 : i = 8
    · subst hi8
      rw [hv] at c4
      have hcs := And.intro c4 True.intro
      clear c4 hv
      exact WL
    · have hil : i < b.length := by omega
      have hi8i : (i : Int) < 8 := by omega
      obtain ⟨x, hx⟩ : ∃ x, b[i] = x := ⟨_, rfl⟩
      have hxx : byteAV x = .lit (.int .u8 x.toNat) := rfl
      have hxl := x.toNat_lt
      have hm3 := be8_take hil
      rw [hv, hx] at hm3
      have hvb : v < 72057594037927936 := by
        rw [← hv]
        have := (be8_bound (L := b.take 8) (i := i) hL8 (by omega)).2 (by omega)
        rw [List.take_take, Nat.min_eq_left (by omega)] at this
        exact this
      have w1 : IntKind.u64.wrap (256 * (v : Int)) = 256 * (v : Int) := wrap_u64r (by omega) (by omega)
      have w2 : IntKind.u64.wrap (x.toNat : Int) = (x.toNat : Int) := wrap_u64r (by omega) (by omega)
      have w3 : IntKind.u64.wrap (256 * (v : Int) + (x.toNat : Int)) = 256 * (v : Int) + (x.toNat : Int) := wrap_u64r (by omega) (by omega)
      clear hv c4
      refine Wk ?_
      exact ⟨WS, WG, WN, _, (show 8 - (i + 1) < m_2 by omega), i + 1, 256 * v + x.toNat, rfl, WF, WF, WC, WC⟩
  · rw [if_neg h3]
    rw [decide_eq_false h3] at c3
    simp only [List.map_nil]
    clear hMs h3 c4
    generalize b.drop (b.length - 32) = Dr at *
    generalize b.take (b.length - 32) = Tk at *
    refine Bd Tryz.func156 Tryz.ntmps156 fun σ N hp hpn hk hkn hfree => ?_
    have hcs := And.intro c1 (And.intro c2 (And.intro c3 True.intro))
    clear c1 c2 c3
    exact WL
theorem refOpen_spec (a : Alg) (m : Nat) (ha : AlgIn a m) (hm : m ≤ 900000) (key : Tg) (b : List UInt8) (hb : b.length ≤ 100000) (k : Nat) :
    ACall Tryz.prog 156 [algAV a, tagAV key, .slice none (b.map byteAV)] k [] (soAV (openS a key b)) [] := by
  obtain ⟨fr, sd, fs, L, B⟩ := a
  cases fr with
  | true => exact refOpen_free sd fs L B key b (by have := ha.bl; simp only at this; omega) ha.bm hb k
  | false => exact refOpen_real sd fs L B key b hb k
end
end Go.Proofs.YtemmlldpmgfblaaGreatDoor

/- Persons and concessions of the deck. -/
namespace Go.Proofs.YtemmlldpmgfblaaGreatDoor
open Go.Ab
attribute [local irreducible] Go.Ab.tyAV Go.Ab.aw Go.Ab.aops Go.Ab.kReg Go.Ab.aThen Go.Ab.aBlk Go.Ab.acond Go.Ab.aguard Go.Ab.astep Go.Ab.AStepX Go.Ab.aRet

structure Pe where
  name : List UInt8
  born : Int
def persAV (p : Pe) : AV := .agg [strAV p.name, .lit (.int .i64 p.born)]
@[go_sem] theorem persAV_mk (n : List UInt8) (b : Int) : persAV ⟨n, b⟩ = .agg [.lit (.string ⟨n.toArray⟩), .lit (.int .i64 b)] := rfl
@[go_sem] theorem persAV_sz (p : Pe) : (persAV p).sz = 2 := rfl
@[go_sem] theorem persAV_isAgg (p : Pe) : (persAV p).isAgg = true := rfl
@[go_sem] theorem persAV_cell (p : Pe) : (persAV p).cell = true := rfl
@[go_sem] theorem persAV_ren (f : Nat → Option Nat) (p : Pe) : (persAV p).ren f = persAV p := rfl
@[go_sem] theorem renl_pers (f : Nat → Option Nat) (l : List Pe) : AV.renl f (l.map persAV) = l.map persAV := by
  rw [AV.renl_map, List.map_map]; exact List.map_congr_left fun t _ => persAV_ren f t
@[go_sem] theorem all_pers1 (l : List Pe) : (l.map persAV).all (fun x => x.sz == 2) = true := by
  rw [List.all_eq_true]; intro x hx; obtain ⟨b, _, rfl⟩ := List.mem_map.1 hx; simp [persAV_sz]
@[go_sem] theorem all_pers2 (l : List Pe) : (l.map persAV).all (fun x => x.sz == 2 && x.cell) = true := by
  rw [List.all_eq_true]; intro x hx; obtain ⟨b, _, rfl⟩ := List.mem_map.1 hx; simp [persAV_sz, persAV_cell]
structure Co where
  party : Int
  key : Tg
  ps : List Pe
def concAV (c : Co) : AV := .agg [.lit (.int .i64 c.party), tagAV c.key, .slice none (c.ps.map persAV)]
@[go_sem] theorem concAV_mk (p : Int) (t : Tg) (l : List Pe) : concAV ⟨p, t, l⟩ = .agg [.lit (.int .i64 p), tagAV t, .slice none (l.map persAV)] := rfl
@[go_sem] theorem concAV_sz (c : Co) : (concAV c).sz = 34 := by simp [concAV, AV.sz, AV.szl, tagAV_sz]
@[go_sem] theorem concAV_isAgg (c : Co) : (concAV c).isAgg = true := rfl
@[go_sem] theorem concAV_cell (c : Co) : (concAV c).cell = true := by simp [concAV, AV.cell, AV.celll, tagAV_cell]
@[go_sem] theorem concAV_ren (f : Nat → Option Nat) (c : Co) : (concAV c).ren f = concAV c := by
  simp [concAV, AV.ren, AV.renl, tagAV_ren, renl_pers]

end Go.Proofs.YtemmlldpmgfblaaGreatDoor

/- Data: passes, tickets, discharges, requests, bundles, scenes. -/
namespace Go.Proofs.YtemmlldpmgfblaaGreatDoor
open Go.Ab
attribute [local irreducible] Go.Ab.tyAV Go.Ab.aw Go.Ab.aops Go.Ab.kReg Go.Ab.aThen Go.Ab.aBlk Go.Ab.acond Go.Ab.aguard Go.Ab.astep Go.Ab.AStepX Go.Ab.aRet

structure Pa where
  epoch : Int
  serial : Int
  cavs : List Ca
  tag : Tg
def paAV (p : Pa) : AV := .agg [.lit (.int .i64 p.epoch), .lit (.int .i64 p.serial), .slice none (p.cavs.map caAV), tagAV p.tag]
@[go_sem] theorem paAV_sz (p : Pa) : (paAV p).sz = 35 := by simp only [paAV, AV.sz, AV.szl, tagAV_sz]
@[go_sem] theorem paAV_isAgg (p : Pa) : (paAV p).isAgg = true := rfl
@[go_sem] theorem paAV_cell (p : Pa) : (paAV p).cell = true := by simp only [paAV, AV.cell, AV.celll, AV.one, Bool.and_self, tagAV_cell]
@[go_sem] theorem paAV_ren (f : Nat → Option Nat) (p : Pa) : (paAV p).ren f = paAV p := by simp only [paAV, AV.ren, AV.renl, Option.bind_none, renl_cas, tagAV_ren]
@[go_sem] theorem renl_pas (f : Nat → Option Nat) (l : List Pa) : AV.renl f (l.map paAV) = l.map paAV := by
  rw [AV.renl_map, List.map_map]; exact List.map_congr_left fun t _ => paAV_ren f t
@[go_sem] theorem all_pa1 (l : List Pa) : (l.map paAV).all (fun x => x.sz == 35) = true := by
  rw [List.all_eq_true]; intro x hx; obtain ⟨b, _, rfl⟩ := List.mem_map.1 hx; simp [paAV_sz]
@[go_sem] theorem all_pa2 (l : List Pa) : (l.map paAV).all (fun x => x.sz == 35 && x.cell) = true := by
  rw [List.all_eq_true]; intro x hx; obtain ⟨b, _, rfl⟩ := List.mem_map.1 hx; simp [paAV_sz, paAV_cell]

structure Te where
  least : Int
  most : Int
def teAV (p : Te) : AV := .agg [.lit (.int .i64 p.least), .lit (.int .i64 p.most)]
@[go_sem] theorem teAV_sz (p : Te) : (teAV p).sz = 2 := by simp only [teAV, AV.sz, AV.szl]
@[go_sem] theorem teAV_isAgg (p : Te) : (teAV p).isAgg = true := rfl
@[go_sem] theorem teAV_cell (p : Te) : (teAV p).cell = true := by simp only [teAV, AV.cell, AV.celll, AV.one, Bool.and_self]
@[go_sem] theorem teAV_ren (f : Nat → Option Nat) (p : Te) : (teAV p).ren f = teAV p := by simp only [teAV, AV.ren, AV.renl]
@[go_sem] theorem renl_tes (f : Nat → Option Nat) (l : List Te) : AV.renl f (l.map teAV) = l.map teAV := by
  rw [AV.renl_map, List.map_map]; exact List.map_congr_left fun t _ => teAV_ren f t
@[go_sem] theorem all_te1 (l : List Te) : (l.map teAV).all (fun x => x.sz == 2) = true := by
  rw [List.all_eq_true]; intro x hx; obtain ⟨b, _, rfl⟩ := List.mem_map.1 hx; simp [teAV_sz]
@[go_sem] theorem all_te2 (l : List Te) : (l.map teAV).all (fun x => x.sz == 2 && x.cell) = true := by
  rw [List.all_eq_true]; intro x hx; obtain ⟨b, _, rfl⟩ := List.mem_map.1 hx; simp [teAV_sz, teAV_cell]

structure Bl where
  party : Int
  key : Tg
  ticket : List UInt8
def blAV (p : Bl) : AV := .agg [.lit (.int .i64 p.party), tagAV p.key, .slice none (p.ticket.map byteAV)]
@[go_sem] theorem blAV_sz (p : Bl) : (blAV p).sz = 34 := by simp only [blAV, AV.sz, AV.szl, tagAV_sz]
@[go_sem] theorem blAV_isAgg (p : Bl) : (blAV p).isAgg = true := rfl
@[go_sem] theorem blAV_cell (p : Bl) : (blAV p).cell = true := by simp only [blAV, AV.cell, AV.celll, AV.one, Bool.and_self, tagAV_cell]
@[go_sem] theorem blAV_ren (f : Nat → Option Nat) (p : Bl) : (blAV p).ren f = blAV p := by simp only [blAV, AV.ren, AV.renl, Option.bind_none, renl_bytes, tagAV_ren]
@[go_sem] theorem renl_bls (f : Nat → Option Nat) (l : List Bl) : AV.renl f (l.map blAV) = l.map blAV := by
  rw [AV.renl_map, List.map_map]; exact List.map_congr_left fun t _ => blAV_ren f t
@[go_sem] theorem all_bl1 (l : List Bl) : (l.map blAV).all (fun x => x.sz == 34) = true := by
  rw [List.all_eq_true]; intro x hx; obtain ⟨b, _, rfl⟩ := List.mem_map.1 hx; simp [blAV_sz]
@[go_sem] theorem all_bl2 (l : List Bl) : (l.map blAV).all (fun x => x.sz == 34 && x.cell) = true := by
  rw [List.all_eq_true]; intro x hx; obtain ⟨b, _, rfl⟩ := List.mem_map.1 hx; simp [blAV_sz, blAV_cell]

structure Di where
  ticket : List UInt8
  conds : List Pr
  tag : Tg
def diAV (p : Di) : AV := .agg [.slice none (p.ticket.map byteAV), .slice none (p.conds.map prAV), tagAV p.tag]
@[go_sem] theorem diAV_sz (p : Di) : (diAV p).sz = 34 := by simp only [diAV, AV.sz, AV.szl, tagAV_sz]
@[go_sem] theorem diAV_isAgg (p : Di) : (diAV p).isAgg = true := rfl
@[go_sem] theorem diAV_cell (p : Di) : (diAV p).cell = true := by simp only [diAV, AV.cell, AV.celll, AV.one, Bool.and_self, tagAV_cell]
@[go_sem] theorem diAV_ren (f : Nat → Option Nat) (p : Di) : (diAV p).ren f = diAV p := by simp only [diAV, AV.ren, AV.renl, Option.bind_none, renl_bytes, renl_prs, tagAV_ren]
@[go_sem] theorem renl_dis (f : Nat → Option Nat) (l : List Di) : AV.renl f (l.map diAV) = l.map diAV := by
  rw [AV.renl_map, List.map_map]; exact List.map_congr_left fun t _ => diAV_ren f t
@[go_sem] theorem all_di1 (l : List Di) : (l.map diAV).all (fun x => x.sz == 34) = true := by
  rw [List.all_eq_true]; intro x hx; obtain ⟨b, _, rfl⟩ := List.mem_map.1 hx; simp [diAV_sz]
@[go_sem] theorem all_di2 (l : List Di) : (l.map diAV).all (fun x => x.sz == 34 && x.cell) = true := by
  rw [List.all_eq_true]; intro x hx; obtain ⟨b, _, rfl⟩ := List.mem_map.1 hx; simp [diAV_sz, diAV_cell]

structure Rq where
  gate : Int
  nonce : Int
def rqAV (p : Rq) : AV := .agg [.lit (.int .i64 p.gate), .lit (.int .i64 p.nonce)]
@[go_sem] theorem rqAV_sz (p : Rq) : (rqAV p).sz = 2 := by simp only [rqAV, AV.sz, AV.szl]
@[go_sem] theorem rqAV_isAgg (p : Rq) : (rqAV p).isAgg = true := rfl
@[go_sem] theorem rqAV_cell (p : Rq) : (rqAV p).cell = true := by simp only [rqAV, AV.cell, AV.celll, AV.one, Bool.and_self]
@[go_sem] theorem rqAV_ren (f : Nat → Option Nat) (p : Rq) : (rqAV p).ren f = rqAV p := by simp only [rqAV, AV.ren, AV.renl]
@[go_sem] theorem renl_rqs (f : Nat → Option Nat) (l : List Rq) : AV.renl f (l.map rqAV) = l.map rqAV := by
  rw [AV.renl_map, List.map_map]; exact List.map_congr_left fun t _ => rqAV_ren f t
@[go_sem] theorem all_rq1 (l : List Rq) : (l.map rqAV).all (fun x => x.sz == 2) = true := by
  rw [List.all_eq_true]; intro x hx; obtain ⟨b, _, rfl⟩ := List.mem_map.1 hx; simp [rqAV_sz]
@[go_sem] theorem all_rq2 (l : List Rq) : (l.map rqAV).all (fun x => x.sz == 2 && x.cell) = true := by
  rw [List.all_eq_true]; intro x hx; obtain ⟨b, _, rfl⟩ := List.mem_map.1 hx; simp [rqAV_sz, rqAV_cell]

structure Bo where
  ticket : List UInt8
  conds : List Pr
  proof : Tg
def boAV (p : Bo) : AV := .agg [.slice none (p.ticket.map byteAV), .slice none (p.conds.map prAV), tagAV p.proof]
@[go_sem] theorem boAV_sz (p : Bo) : (boAV p).sz = 34 := by simp only [boAV, AV.sz, AV.szl, tagAV_sz]
@[go_sem] theorem boAV_isAgg (p : Bo) : (boAV p).isAgg = true := rfl
@[go_sem] theorem boAV_cell (p : Bo) : (boAV p).cell = true := by simp only [boAV, AV.cell, AV.celll, AV.one, Bool.and_self, tagAV_cell]
@[go_sem] theorem boAV_ren (f : Nat → Option Nat) (p : Bo) : (boAV p).ren f = boAV p := by simp only [boAV, AV.ren, AV.renl, Option.bind_none, renl_bytes, renl_prs, tagAV_ren]
@[go_sem] theorem renl_bos (f : Nat → Option Nat) (l : List Bo) : AV.renl f (l.map boAV) = l.map boAV := by
  rw [AV.renl_map, List.map_map]; exact List.map_congr_left fun t _ => boAV_ren f t
@[go_sem] theorem all_bo1 (l : List Bo) : (l.map boAV).all (fun x => x.sz == 34) = true := by
  rw [List.all_eq_true]; intro x hx; obtain ⟨b, _, rfl⟩ := List.mem_map.1 hx; simp [boAV_sz]
@[go_sem] theorem all_bo2 (l : List Bo) : (l.map boAV).all (fun x => x.sz == 34 && x.cell) = true := by
  rw [List.all_eq_true]; intro x hx; obtain ⟨b, _, rfl⟩ := List.mem_map.1 hx; simp [boAV_sz, boAV_cell]

structure Ep where
  num : Int
  key : Tg
def epAV (p : Ep) : AV := .agg [.lit (.int .i64 p.num), tagAV p.key]
@[go_sem] theorem epAV_sz (p : Ep) : (epAV p).sz = 33 := by simp only [epAV, AV.sz, AV.szl, tagAV_sz]
@[go_sem] theorem epAV_isAgg (p : Ep) : (epAV p).isAgg = true := rfl
@[go_sem] theorem epAV_cell (p : Ep) : (epAV p).cell = true := by simp only [epAV, AV.cell, AV.celll, AV.one, Bool.and_self, tagAV_cell]
@[go_sem] theorem epAV_ren (f : Nat → Option Nat) (p : Ep) : (epAV p).ren f = epAV p := by simp only [epAV, AV.ren, AV.renl, tagAV_ren]
@[go_sem] theorem renl_eps (f : Nat → Option Nat) (l : List Ep) : AV.renl f (l.map epAV) = l.map epAV := by
  rw [AV.renl_map, List.map_map]; exact List.map_congr_left fun t _ => epAV_ren f t
@[go_sem] theorem all_ep1 (l : List Ep) : (l.map epAV).all (fun x => x.sz == 33) = true := by
  rw [List.all_eq_true]; intro x hx; obtain ⟨b, _, rfl⟩ := List.mem_map.1 hx; simp [epAV_sz]
@[go_sem] theorem all_ep2 (l : List Ep) : (l.map epAV).all (fun x => x.sz == 33 && x.cell) = true := by
  rw [List.all_eq_true]; intro x hx; obtain ⟨b, _, rfl⟩ := List.mem_map.1 hx; simp [epAV_sz, epAV_cell]

structure Rg where
  live : List Ep
  last : Int
def rgAV (p : Rg) : AV := .agg [.slice none (p.live.map epAV), .lit (.int .i64 p.last)]
@[go_sem] theorem rgAV_sz (p : Rg) : (rgAV p).sz = 2 := by simp only [rgAV, AV.sz, AV.szl]
@[go_sem] theorem rgAV_isAgg (p : Rg) : (rgAV p).isAgg = true := rfl
@[go_sem] theorem rgAV_cell (p : Rg) : (rgAV p).cell = true := by simp only [rgAV, AV.cell, AV.celll, AV.one, Bool.and_self]
@[go_sem] theorem rgAV_ren (f : Nat → Option Nat) (p : Rg) : (rgAV p).ren f = rgAV p := by simp only [rgAV, AV.ren, AV.renl, Option.bind_none, renl_eps]
@[go_sem] theorem renl_rgs (f : Nat → Option Nat) (l : List Rg) : AV.renl f (l.map rgAV) = l.map rgAV := by
  rw [AV.renl_map, List.map_map]; exact List.map_congr_left fun t _ => rgAV_ren f t
@[go_sem] theorem all_rg1 (l : List Rg) : (l.map rgAV).all (fun x => x.sz == 2) = true := by
  rw [List.all_eq_true]; intro x hx; obtain ⟨b, _, rfl⟩ := List.mem_map.1 hx; simp [rgAV_sz]
@[go_sem] theorem all_rg2 (l : List Rg) : (l.map rgAV).all (fun x => x.sz == 2 && x.cell) = true := by
  rw [List.all_eq_true]; intro x hx; obtain ⟨b, _, rfl⟩ := List.mem_map.1 hx; simp [rgAV_sz, rgAV_cell]

structure Bu where
  req : Rq
  epoch : Int
  serial : Int
  cavs : List Ca
  proof : Tg
  dis : List Bo
def buAV (p : Bu) : AV := .agg [rqAV p.req, .lit (.int .i64 p.epoch), .lit (.int .i64 p.serial), .slice none (p.cavs.map caAV), tagAV p.proof, .slice none (p.dis.map boAV)]
@[go_sem] theorem buAV_sz (p : Bu) : (buAV p).sz = 38 := by simp only [buAV, AV.sz, AV.szl, rqAV_sz, tagAV_sz]
@[go_sem] theorem buAV_isAgg (p : Bu) : (buAV p).isAgg = true := rfl
@[go_sem] theorem buAV_cell (p : Bu) : (buAV p).cell = true := by simp only [buAV, AV.cell, AV.celll, AV.one, Bool.and_self, rqAV_cell, tagAV_cell]
@[go_sem] theorem buAV_ren (f : Nat → Option Nat) (p : Bu) : (buAV p).ren f = buAV p := by simp only [buAV, AV.ren, AV.renl, Option.bind_none, renl_bos, renl_cas, rqAV_ren, tagAV_ren]
@[go_sem] theorem renl_bus (f : Nat → Option Nat) (l : List Bu) : AV.renl f (l.map buAV) = l.map buAV := by
  rw [AV.renl_map, List.map_map]; exact List.map_congr_left fun t _ => buAV_ren f t
@[go_sem] theorem all_bu1 (l : List Bu) : (l.map buAV).all (fun x => x.sz == 38) = true := by
  rw [List.all_eq_true]; intro x hx; obtain ⟨b, _, rfl⟩ := List.mem_map.1 hx; simp [buAV_sz]
@[go_sem] theorem all_bu2 (l : List Bu) : (l.map buAV).all (fun x => x.sz == 38 && x.cell) = true := by
  rw [List.all_eq_true]; intro x hx; obtain ⟨b, _, rfl⟩ := List.mem_map.1 hx; simp [buAV_sz, buAV_cell]

structure Sc where
  alg : Alg
  ring : Rg
  con : Co
  pass : Pa
  grants : List Di
  req : Rq
  holder : List UInt8
  minute : Int
def scAV (p : Sc) : AV := .agg [algAV p.alg, rgAV p.ring, concAV p.con, paAV p.pass, .slice none (p.grants.map diAV), rqAV p.req, .lit (.string ⟨p.holder.toArray⟩), .lit (.int .i64 p.minute)]
@[go_sem] theorem scAV_sz (p : Sc) : (scAV p).sz = 112 := by simp only [scAV, AV.sz, AV.szl, algAV_sz, concAV_sz, paAV_sz, rgAV_sz, rqAV_sz]
@[go_sem] theorem scAV_isAgg (p : Sc) : (scAV p).isAgg = true := rfl
@[go_sem] theorem scAV_cell (p : Sc) : (scAV p).cell = true := by simp only [scAV, AV.cell, AV.celll, AV.one, Bool.and_self, algAV_cell, concAV_cell, paAV_cell, rgAV_cell, rqAV_cell]
@[go_sem] theorem scAV_ren (f : Nat → Option Nat) (p : Sc) : (scAV p).ren f = scAV p := by simp only [scAV, AV.ren, AV.renl, Option.bind_none, algAV_ren, concAV_ren, paAV_ren, renl_dis, rgAV_ren, rqAV_ren]
@[go_sem] theorem renl_scs (f : Nat → Option Nat) (l : List Sc) : AV.renl f (l.map scAV) = l.map scAV := by
  rw [AV.renl_map, List.map_map]; exact List.map_congr_left fun t _ => scAV_ren f t
@[go_sem] theorem all_sc1 (l : List Sc) : (l.map scAV).all (fun x => x.sz == 112) = true := by
  rw [List.all_eq_true]; intro x hx; obtain ⟨b, _, rfl⟩ := List.mem_map.1 hx; simp [scAV_sz]
@[go_sem] theorem all_sc2 (l : List Sc) : (l.map scAV).all (fun x => x.sz == 112 && x.cell) = true := by
  rw [List.all_eq_true]; intro x hx; obtain ⟨b, _, rfl⟩ := List.mem_map.1 hx; simp [scAV_sz, scAV_cell]

def pa0 : Pa := ⟨0, 0, [], zeroTag⟩
def bl0 : Bl := ⟨0, zeroTag, []⟩
def di0 : Di := ⟨[], [], zeroTag⟩
def bo0 : Bo := ⟨[], [], zeroTag⟩
def te0 : Te := ⟨0, 0⟩
theorem pa0_eq : paAV pa0 = .agg [.lit (.int .i64 0), .lit (.int .i64 0), .slice none [], tagAV zeroTag] := rfl
theorem bl0_eq : blAV bl0 = .agg [.lit (.int .i64 0), tagAV zeroTag, .slice none []] := rfl
theorem di0_eq : diAV di0 = .agg [.slice none [], .slice none [], tagAV zeroTag] := rfl
theorem bo0_eq : boAV bo0 = .agg [.slice none [], .slice none [], tagAV zeroTag] := rfl
theorem te0_eq : teAV te0 = .agg [.lit (.int .i64 0), .lit (.int .i64 0)] := rfl
end Go.Proofs.YtemmlldpmgfblaaGreatDoor

/- Passes of the reference: messages, node, Mint. -/
namespace Go.Proofs.YtemmlldpmgfblaaGreatDoor
open Go.Ab
attribute [local irreducible] Go.Ab.tyAV Go.Ab.aw Go.Ab.aops Go.Ab.kReg Go.Ab.aThen Go.Ab.aBlk Go.Ab.acond Go.Ab.aguard Go.Ab.astep Go.Ab.AStepX Go.Ab.aRet
attribute [local irreducible] shaG

def mintM (n : Nat) : List UInt8 := [109, 105, 110, 116] ++ leb n
theorem mintM_len (n : Nat) (h : n ≤ 281474976710656) : (mintM n).length ≤ 12 := by
  have := leb_len n 7 (by omega)
  simp [mintM]; omega
def cavM (c : Ca) : List UInt8 := [99, 97, 118, 101, 97, 116] ++ (encS c).1
theorem cavM_len (c : Ca) : (cavM c).length ≤ 3006 := by
  have := encS_len c
  simp [cavM]; omega
def nodeB : List UInt8 := [110, 111, 100, 101]
theorem refmint_spec (n : Nat) (h : n ≤ 281474976710656) (k : Nat) :
    ACall Tryz.prog 169 [.lit (.int .i64 n)] k [] (.slice none ((mintM n).map byteAV)) [] := by
  have c1 := fun k => Number_spec_f n k (by omega)
  have hl := leb_len n 7 (by omega)
  have c2 := Word_spec [109, 105, 110, 116] (leb n) (by decide) (by omega)
  unfold mintM
  generalize leb n = lb at *
  obtain ⟨M, hM⟩ : ∃ M, [109, 105, 110, 116] ++ lb = M := ⟨_, rfl⟩
  rw [hM] at c2 ⊢
  clear hM
  refine Bd Tryz.func169 Tryz.ntmps169 fun σ N hp hpn hk hkn hfree => ?_
  have hcs := And.intro c1 (And.intro c2 True.intro)
  clear c1 c2
  exact W0
theorem refcavM_spec (c : Ca) (hp0 : PrOk c.first) (k : Nat) :
    ACall Tryz.prog 210 [caAV c] k [] (.slice none ((cavM c).map byteAV)) [] := by
  have c1 := rEnc_spec c hp0
  have hl := encS_len c
  have c2 := Word_spec [99, 97, 118, 101, 97, 116] (encS c).1 (by decide) (by omega)
  unfold encAV at c1
  unfold cavM
  generalize encS c = X at *
  obtain ⟨lb, e⟩ := X
  simp only at c1 c2 hl ⊢
  obtain ⟨M, hM⟩ : ∃ M, [99, 97, 118, 101, 97, 116] ++ lb = M := ⟨_, rfl⟩
  rw [hM] at c2 ⊢
  clear hM
  refine Bd Tryz.func210 Tryz.ntmps210 fun σ N hp hpn hk hkn hfree => ?_
  have hcs := And.intro c1 (And.intro c2 True.intro)
  clear c1 c2
  exact W0

section
variable [W : W32]
def nodeS (a : Alg) (key : Tg) (msg : List UInt8) : Alg × Tg × Nat :=
  if (macS a key msg).2.2 = 0 then
    if (macS (macS a key msg).1 (macS a key msg).2.1 nodeB).2.2 = 0 then ((macS (macS a key msg).1 (macS a key msg).2.1 nodeB).1, (macS a key msg).2.1, 0) else (alg0, zeroTag, (macS (macS a key msg).1 (macS a key msg).2.1 nodeB).2.2)
  else (alg0, zeroTag, (macS a key msg).2.2)
theorem nodeS_1 {a : Alg} {key : Tg} {msg : List UInt8} (h : (macS a key msg).2.2 ≠ 0) : nodeS a key msg = (alg0, zeroTag, (macS a key msg).2.2) := by
  unfold nodeS; rw [if_neg h]
theorem nodeS_2 {a : Alg} {key : Tg} {msg : List UInt8} (h : (macS a key msg).2.2 = 0) (h' : (macS (macS a key msg).1 (macS a key msg).2.1 nodeB).2.2 ≠ 0) : nodeS a key msg = (alg0, zeroTag, (macS (macS a key msg).1 (macS a key msg).2.1 nodeB).2.2) := by
  unfold nodeS; rw [if_pos h, if_neg h']
theorem nodeS_3 {a : Alg} {key : Tg} {msg : List UInt8} (h : (macS a key msg).2.2 = 0) (h' : (macS (macS a key msg).1 (macS a key msg).2.1 nodeB).2.2 = 0) : nodeS a key msg = ((macS (macS a key msg).1 (macS a key msg).2.1 nodeB).1, (macS a key msg).2.1, 0) := by
  unfold nodeS; rw [if_pos h, if_pos h']
theorem nodeS_in {a : Alg} {m : Nat} (h : AlgIn a m) (key : Tg) (msg : List UInt8) : AlgIn (nodeS a key msg).1 (m + 2) := by
  unfold nodeS
  split
  · split
    · exact macS_in (macS_in h _ _) _ _
    · exact alg0_in _
  · exact alg0_in _
theorem refnode_spec (a : Alg) (m : Nat) (ha : AlgIn a m) (hm : m ≤ 900000) (key : Tg) (msg : List UInt8) (k : Nat) :
    ACall Tryz.prog 168 [algAV a, tagAV key, .slice none (msg.map byteAV)] k [] (mkAV (nodeS a key msg)) [] := by
  have c1 := Mac_spec a key msg (by have := ha.ml; omega) ha.mm
  have hin := macS_in ha key msg
  have n1 := nodeS_1 (a := a) (key := key) (msg := msg)
  have n2 := nodeS_2 (a := a) (key := key) (msg := msg)
  have n3 := nodeS_3 (a := a) (key := key) (msg := msg)
  generalize nodeS a key msg = R at *
  generalize macS a key msg = X at *
  obtain ⟨a1, t1, e1'⟩ := X
  simp only at c1 hin n1 n2 n3
  unfold mkAV at c1
  simp only at c1
  by_cases h1 : e1' = 0
  · subst h1
    have c2 := Mac_spec a1 t1 nodeB (by have := hin.ml; omega) hin.mm
    generalize macS a1 t1 nodeB = Y at *
    obtain ⟨a2, t2, e2'⟩ := Y
    simp only at c2 n2 n3
    unfold mkAV at c2 ⊢
    have h110 : byteAV 110 = .lit (.int .u8 110) := rfl
    have h111 : byteAV 111 = .lit (.int .u8 111) := rfl
    have h100 : byteAV 100 = .lit (.int .u8 100) := rfl
    have h101 : byteAV 101 = .lit (.int .u8 101) := rfl
    simp only [nodeB, List.map_cons, List.map_nil, h110, h111, h100, h101] at c2
    clear h110 h111 h100 h101 n1 ha hin
    by_cases h2 : e2' = 0
    · subst h2
      obtain rfl := n3 trivial rfl
      clear n2 n3
      simp only
      refine Bd Tryz.func168 Tryz.ntmps168 fun σ N hp hpn hk hkn hfree => ?_
      have M : Mut (N + 19 + 2) := ⟨⟩
      have hcs := And.intro c1 (And.intro c2 True.intro)
      clear c1 c2
      exact WT
    · obtain rfl := n2 trivial h2
      clear n2 n3
      have h2i : ((e2' : Int) != 0) = true := by simp; omega
      simp only [alg0_eq]
      refine Bd Tryz.func168 Tryz.ntmps168 fun σ N hp hpn hk hkn hfree => ?_
      have M : Mut (N + 19 + 2) := ⟨⟩
      have hcs := And.intro c1 (And.intro c2 True.intro)
      clear c1 c2
      exact WT
  · obtain rfl := n1 h1
    have h1i : ((e1' : Int) != 0) = true := by simp; omega
    clear n1 n2 n3 ha hin
    unfold mkAV
    simp only [alg0_eq]
    refine Bd Tryz.func168 Tryz.ntmps168 fun σ N hp hpn hk hkn hfree => ?_
    have hcs := And.intro c1 True.intro
    clear c1
    exact WT
/-- The pass that is minted. -/
def mintS (a : Alg) (num : Int) (key : Tg) (ser : Int) : Alg × Pa × Nat :=
  if num < 1 ∨ 1000 < num ∨ ser < 1 ∨ 1073741824 < ser then (alg0, pa0, 1) else
  if (nodeS a key (mintM ser.toNat)).2.2 = 0 then ((nodeS a key (mintM ser.toNat)).1, ⟨num, ser, [], (nodeS a key (mintM ser.toNat)).2.1⟩, 0) else (alg0, pa0, (nodeS a key (mintM ser.toNat)).2.2)
def mpAV (r : Alg × Pa × Nat) : AV := .tup [algAV r.1, paAV r.2.1, .lit (.int .i64 (r.2.2 : Nat))]
theorem refmint_err (a : Alg) (num ser : Int) (key : Tg) (h : num < 1 ∨ 1000 < num ∨ ser < 1 ∨ 1073741824 < ser) (k : Nat) :
    ACall Tryz.prog 104 [algAV a, .agg [.lit (.int .i64 num), tagAV key], .lit (.int .i64 ser)] k [] (mpAV (mintS a num key ser)) [] := by
  unfold mintS
  rw [if_pos h]
  unfold mpAV paAV pa0
  simp only [alg0_eq, List.map_nil]
  by_cases h1 : num < 1
  · refine Bd Tryz.func104 Tryz.ntmps104 fun σ N hp hpn hk hkn hfree => ?_
    refine Wk ?_
    exact WD
  · by_cases h2 : 1000 < num
    · refine Bd Tryz.func104 Tryz.ntmps104 fun σ N hp hpn hk hkn hfree => ?_
      refine Wk ?_
      exact WD
    · by_cases h3 : ser < 1
      · refine Bd Tryz.func104 Tryz.ntmps104 fun σ N hp hpn hk hkn hfree => ?_
        refine Wk ?_
        exact WD
      · have h4 : 1073741824 < ser := by omega
        refine Bd Tryz.func104 Tryz.ntmps104 fun σ N hp hpn hk hkn hfree => ?_
        refine Wk ?_
        exact WD
theorem refMint_spec (a : Alg) (m : Nat) (ha : AlgIn a m) (hm : m ≤ 900000) (num ser : Int) (key : Tg) (k : Nat) :
    ACall Tryz.prog 104 [algAV a, .agg [.lit (.int .i64 num), tagAV key], .lit (.int .i64 ser)] k [] (mpAV (mintS a num key ser)) [] := by
  by_cases h : num < 1 ∨ 1000 < num ∨ ser < 1 ∨ 1073741824 < ser
  · exact refmint_err a num ser key h k
  · unfold mintS
    rw [if_neg h]
    have h1 : ¬ num < 1 := by omega
    have h2 : ¬ 1000 < num := by omega
    have h3 : ¬ ser < 1 := by omega
    have h4 : ¬ 1073741824 < ser := by omega
    obtain ⟨n, rfl⟩ := Int.eq_ofNat_of_zero_le (show 0 ≤ ser by omega)
    have c1 := refmint_spec n (by omega)
    rw [Int.toNat_natCast]
    have c2 := refnode_spec a m ha hm key (mintM n)
    generalize nodeS a key (mintM n) = X at *
    obtain ⟨a1, t1, e1'⟩ := X
    generalize mintM n = M at *
    simp only at c2 ⊢
    unfold mkAV at c2
    clear ha h
    by_cases he : e1' = 0
    · subst he
      rw [if_pos rfl]
      unfold mpAV paAV
      simp only [List.map_nil]
      refine Bd Tryz.func104 Tryz.ntmps104 fun σ N hp hpn hk hkn hfree => ?_
      have hcs := And.intro c1 (And.intro c2 True.intro)
      clear c1 c2
      refine Wk ?_
      exact WD
    · rw [if_neg he]
      have h1i : ((e1' : Int) != 0) = true := by simp; omega
      unfold mpAV paAV pa0
      simp only [alg0_eq, List.map_nil]
      refine Bd Tryz.func104 Tryz.ntmps104 fun σ N hp hpn hk hkn hfree => ?_
      have hcs := And.intro c1 (And.intro c2 True.intro)
      clear c1 c2
      refine Wk ?_
      exact WD
theorem mintS_in {a : Alg} {m : Nat} (h : AlgIn a m) (num : Int) (key : Tg) (ser : Int) : AlgIn (mintS a num key ser).1 (m + 2) := by
  unfold mintS
  split
  · exact alg0_in _
  · split
    · exact nodeS_in h _ _
    · exact alg0_in _
end
end Go.Proofs.YtemmlldpmgfblaaGreatDoor
