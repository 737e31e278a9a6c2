/- Texts R4, U10, M10, K12, K13, K14, K15, K16, K17, R6, R5, K10, joined. -/
import Derived.Test.YtdmjpolnbmoehaaGreatDoorM7

namespace Go.Proofs.YtdmjpolnbmoehaaGreatDoor
open Go.Ab
attribute [local irreducible] Go.Ab.tyAV Go.Ab.aw Go.Ab.aops Go.Ab.kReg Go.Ab.aThen Go.Ab.aBlk Go.Ab.acond Go.Ab.aguard Go.Ab.astep Go.Ab.AStepX Go.Ab.aRet
@[go_sem] theorem ba_empty_eq : (ByteArray.empty = { data := #[] }) = True := eq_true rfl
theorem Upto_ex (l : List Int) (i : Nat) (h : Dk l i) (most : Nat) (hm : most ≤ 900000000) :
  ∃ v j : Nat, v ≤ most ∧ Dk l j ∧ ∀ d k, ACall Tryz.prog 78 [.ptr d [] 0, .lit (.int .i64 most)] k [(d, deckBox l i)] (.lit (.int .i64 v)) [(d, deckBox l j)] := by
 obtain ⟨x, j1, x1, d1, c1⟩ := Next_at l i 4 h (by omega) (by omega)
 have hx : x = 0 ∨ x = 1 ∨ x = 2 ∨ x = 3 := by omega
 rcases hx with rfl | rfl | rfl | rfl
 ·obtain ⟨a, j2, a1, d2, c2⟩ := Next_at l j1 4 d1 (by omega) (by omega)
  obtain ⟨v, hv, hvm⟩ : ∃ v : Nat, (if most < a then (most : Int) else (a : Int)) = (v : Int) ∧ v ≤ most := ⟨min a most, by split <;> omega, by omega⟩
  refine ⟨v, j2, hvm, d2, fun d k => ?_⟩
  refine Bd Tryz.func78 Tryz.ntmps78 fun σ N hp hpn hk hkn hfree => ?_
  obtain ⟨hd, hdn⟩ := HD0 hp hpn; clear hp hpn
  have hcs := And.intro (c1 d) (And.intro (c2 d) True.intro)
  clear c1 c2
  refine Wk ?_
  exact RW (d) (deckBox l j2)
 ·obtain ⟨a, j2, a1, d2, c2⟩ := Next_at l j1 300 d1 (by omega) (by omega)
  obtain ⟨v, hv, hvm⟩ : ∃ v : Nat, (if most < a then (most : Int) else (a : Int)) = (v : Int) ∧ v ≤ most := ⟨min a most, by split <;> omega, by omega⟩
  refine ⟨v, j2, hvm, d2, fun d k => ?_⟩
  refine Bd Tryz.func78 Tryz.ntmps78 fun σ N hp hpn hk hkn hfree => ?_
  obtain ⟨hd, hdn⟩ := HD0 hp hpn; clear hp hpn
  have hcs := And.intro (c1 d) (And.intro (c2 d) True.intro)
  clear c1 c2
  refine Wk ?_
  exact RW (d) (deckBox l j2)
 ·obtain ⟨q, hq, hq0, hq1⟩ : ∃ q : Nat, (if (most : Int) + 1 < 3 then (most : Int) + 1 else 3) = (q : Int) ∧ 0 < q ∧ q ≤ most + 1 := ⟨min 3 (most + 1), by split <;> omega, by omega, by omega⟩
  obtain ⟨a, j2, a1, d2, c2⟩ := Next_at l j1 q d1 hq0 (by omega)
  refine ⟨most - a, j2, by omega, d2, fun d k => ?_⟩
  have hsub : ((most - a : Nat) : Int) = (most : Int) - (a : Int) := by omega
  rw [hsub]
  refine Bd Tryz.func78 Tryz.ntmps78 fun σ N hp hpn hk hkn hfree => ?_
  obtain ⟨hd, hdn⟩ := HD0 hp hpn; clear hp hpn
  have hcs := And.intro (c1 d) (And.intro (c2 d) True.intro)
  clear c1 c2 hsub
  refine Wk ?_
  exact RW (d) (deckBox l j2)
 ·obtain ⟨a, j2, a1, d2, c2⟩ := Next_at l j1 (most + 1) d1 (by omega) (by omega)
  have hc : ((most + 1 : Nat) : Int) = (most : Int) + 1 := by omega
  rw [hc] at c2
  refine ⟨a, j2, by omega, d2, fun d k => ?_⟩
  refine Bd Tryz.func78 Tryz.ntmps78 fun σ N hp hpn hk hkn hfree => ?_
  obtain ⟨hd, hdn⟩ := HD0 hp hpn; clear hp hpn
  have hcs := And.intro (c1 d) (And.intro (c2 d) True.intro)
  clear c1 c2 hc
  refine Wk ?_
  exact RW (d) (deckBox l j2)
theorem Minute_ex (l : List Int) (i : Nat) (h : Dk l i) : ∃ v j : Nat, v ≤ 67108864 ∧ Dk l j ∧ ∀ d k, ACall Tryz.prog 56 [.ptr d [] 0] k [(d, deckBox l i)] (.lit (.int .i64 v)) [(d, deckBox l j)] :=
 ⟨_, _, minuteD_le l i, minuteD_dk h, Minute_spec l i h⟩
theorem Name_ex (l : List Int) (i : Nat) (h : Dk l i) : ∃ (s : List UInt8) (j : Nat), nameB s = true ∧ s.length ≤ 16 ∧ Dk l j ∧ ∀ d k, ACall Tryz.prog 55 [.ptr d [] 0] k [(d, deckBox l i)] (.lit (.string ⟨s.toArray⟩)) [(d, deckBox l j)] := by
 have b := nextD_lt l i 8 (by omega)
 refine ⟨_, _, ?_, ?_, nameD_dk h, fun d k => Name_spec0 l i h d k⟩
 all_goals
  unfold nameD
  generalize (nextD l i 8).1 = x at b
  have : x = 0 ∨ x = 1 ∨ x = 2 ∨ x = 3 ∨ x = 4 ∨ x = 5 ∨ x = 6 ∨ x = 7 := by omega
  rcases this with rfl | rfl | rfl | rfl | rfl | rfl | rfl | rfl <;> (simp only; decide)
theorem PrOk.mk0 {k m f t x : Int} {n : List UInt8} (h0 : 0 ≤ m) (h1 : m < 18446744073709551616) (h2 : n.length ≤ 100) : PrOk ⟨k, m, f, t, n, x⟩ := ⟨h0, h1, by simp only; omega⟩
set_option maxHeartbeats 4000000 in
theorem Predicate_ex (l : List Int) (i : Nat) (h : Dk l i) (rides : Bool) :
  ∃ (p : Pr) (j : Nat), predB p = true ∧ PrOk p ∧ (rides = false → p.kind ≠ 7) ∧ Dk l j ∧ ∀ d k, ACall Tryz.prog 19 [.ptr d [] 0, .lit (.bool rides)] k [(d, deckBox l i)] (prAV p) [(d, deckBox l j)] := by
 have c1 := Range_spec l i 1 7 7 h (by omega) (by omega) (by omega) (by omega)
 have d1 := rangeD_dk (lo := 1) (n := 7) h
 have b1 := nextD_lt l i 7 (by omega)
 have hk : (rangeD l i 1 7).1 = 1 ∨ (rangeD l i 1 7).1 = 2 ∨ (rangeD l i 1 7).1 = 3 ∨ (rangeD l i 1 7).1 = 4 ∨ (rangeD l i 1 7).1 = 5 ∨ (rangeD l i 1 7).1 = 6 ∨ (rangeD l i 1 7).1 = 7 := by unfold rangeD; simp only; omega
 generalize rangeD l i 1 7 = X at *
 obtain ⟨kd, j1⟩ := X
 simp only at c1 d1 hk
 clear b1 h
 rcases hk with rfl | rfl | rfl | rfl | rfl | rfl | rfl
 ·obtain ⟨m, j2, m0, m1, d2, c2⟩ := mask64_ex l j1 d1
  refine ⟨⟨1, m, 0, 0, [], 0⟩, j2, (by simp [predB, maskB]; simp at m1; omega), .mk0 (by omega) (by simp at m1; omega) (by simp), by simp, d2, fun d k => ?_⟩
  simp only [prAV]
  refine Bd Tryz.func19 Tryz.ntmps19 fun σ N hp hpn hk hkn hfree => ?_
  obtain ⟨hd, hdn⟩ := HD0 hp hpn; clear hp hpn
  have hcs := And.intro (c1 d) (And.intro (c2 d) True.intro)
  clear c1 c2
  refine Wk ?_
  exact RW (d) (deckBox l j2)
 ·obtain ⟨m, j2, m0, m1, d2, c2⟩ := mask32_ex l j1 d1
  refine ⟨⟨2, m, 0, 0, [], 0⟩, j2, (by simp [predB, maskB]; simp at m1; omega), .mk0 (by omega) (by simp at m1; omega) (by simp), by simp, d2, fun d k => ?_⟩
  simp only [prAV]
  refine Bd Tryz.func19 Tryz.ntmps19 fun σ N hp hpn hk hkn hfree => ?_
  obtain ⟨hd, hdn⟩ := HD0 hp hpn; clear hp hpn
  have hcs := And.intro (c1 d) (And.intro (c2 d) True.intro)
  clear c1 c2
  refine Wk ?_
  exact RW (d) (deckBox l j2)
 ·obtain ⟨m, j2, m0, m1, d2, c2⟩ := mask7_ex l j1 d1
  refine ⟨⟨3, m, 0, 0, [], 0⟩, j2, (by simp [predB, maskB]; simp at m1; omega), .mk0 (by omega) (by simp at m1; omega) (by simp), by simp, d2, fun d k => ?_⟩
  simp only [prAV]
  refine Bd Tryz.func19 Tryz.ntmps19 fun σ N hp hpn hk hkn hfree => ?_
  obtain ⟨hd, hdn⟩ := HD0 hp hpn; clear hp hpn
  have hcs := And.intro (c1 d) (And.intro (c2 d) True.intro)
  clear c1 c2
  refine Wk ?_
  exact RW (d) (deckBox l j2)
 ·obtain ⟨a, j2, a1, d2, c2⟩ := Minute_ex l j1 d1
  obtain ⟨b, j3, b1, d3, c3⟩ := Minute_ex l j2 d2
  obtain ⟨lo, hlo, hlo1⟩ : ∃ lo : Nat, (if b < a then (b : Int) else (a : Int)) = (lo : Int) ∧ lo = min a b := ⟨min a b, by split <;> omega, rfl⟩
  obtain ⟨hi, hhi, hhi1⟩ : ∃ hi : Nat, (if a < b then (b : Int) else (a : Int)) = (hi : Int) ∧ hi = max a b := ⟨max a b, by split <;> omega, rfl⟩
  have hlo2 : ((min a b : Nat) : Int) = lo := by omega
  have hhi2 : ((max a b : Nat) : Int) = hi := by omega
  refine ⟨⟨4, 0, lo, hi, [], 0⟩, j3, (by simp [predB]; omega), .mk0 (by omega) (by omega) (by simp), by simp, d3, fun d k => ?_⟩
  simp only [prAV]
  refine Bd Tryz.func19 Tryz.ntmps19 fun σ N hp hpn hk hkn hfree => ?_
  obtain ⟨hd, hdn⟩ := HD0 hp hpn; clear hp hpn
  have hcs := And.intro (c1 d) (And.intro (c2 d) (And.intro (c3 d) True.intro))
  clear c1 c2 c3
  refine Wk ?_
  exact RW (d) (deckBox l j3)
 ·obtain ⟨a, j2, a1, d2, c2⟩ := Next_at l j1 1440 d1 (by omega) (by omega)
  obtain ⟨b, j3, b1, d3, c3⟩ := Next_at l j2 1440 d2 (by omega) (by omega)
  obtain ⟨c, j4, e1, d4, c4⟩ := Next_at l j3 3 d3 (by omega) (by omega)
  by_cases hc : c = 0
  ·subst hc
   obtain ⟨e, j5, f1, d5, c5⟩ := Next_at l j4 3 d4 (by omega) (by omega)
   obtain ⟨g, hg, hg1⟩ : ∃ g : Nat, ((a : Int) + e + 1440 - 1).tmod 1440 = (g : Int) ∧ g < 1440 := ⟨(a + e + 1440 - 1) % 1440, by rw [Int.tmod_eq_emod_of_nonneg (by omega)]; omega, by omega⟩
   refine ⟨⟨5, 0, a, g, [], 0⟩, j5, (by simp [predB]; omega), .mk0 (by omega) (by omega) (by simp), by simp, d5, fun d k => ?_⟩
   simp only [prAV]
   refine Bd Tryz.func19 Tryz.ntmps19 fun σ N hp hpn hk hkn hfree => ?_
   obtain ⟨hd, hdn⟩ := HD0 hp hpn; clear hp hpn
   have hcs := And.intro (c1 d) (And.intro (c2 d) (And.intro (c3 d) (And.intro (c4 d) (And.intro (c5 d) True.intro))))
   clear c1 c2 c3 c4 c5
   refine Wk ?_
   exact RW (d) (deckBox l j5)
  ·have hcb : ((c : Int) == 0) = false := by rw [beq_eq_false_iff_ne]; omega
   refine ⟨⟨5, 0, a, b, [], 0⟩, j4, (by simp [predB]; omega), .mk0 (by omega) (by omega) (by simp), by simp, d4, fun d k => ?_⟩
   simp only [prAV]
   refine Bd Tryz.func19 Tryz.ntmps19 fun σ N hp hpn hk hkn hfree => ?_
   obtain ⟨hd, hdn⟩ := HD0 hp hpn; clear hp hpn
   have hcs := And.intro (c1 d) (And.intro (c2 d) (And.intro (c3 d) (And.intro (c4 d) True.intro)))
   clear c1 c2 c3 c4
   refine Wk ?_
   exact RW (d) (deckBox l j4)
 ·obtain ⟨n, j2, n0, n1, d2, c2⟩ := Name_ex l j1 d1
  refine ⟨⟨6, 0, 0, 0, n, 0⟩, j2, (by simp [predB, n0]), .mk0 (by omega) (by omega) (by omega), by simp, d2, fun d k => ?_⟩
  simp only [prAV]
  refine Bd Tryz.func19 Tryz.ntmps19 fun σ N hp hpn hk hkn hfree => ?_
  obtain ⟨hd, hdn⟩ := HD0 hp hpn; clear hp hpn
  have hcs := And.intro (c1 d) (And.intro (c2 d) True.intro)
  clear c1 c2
  refine Wk ?_
  exact RW (d) (deckBox l j2)
 ·cases rides with
  | true =>
   obtain ⟨v, j2, v1, d2, c2⟩ := Upto_ex l j1 d1 1000000 (by omega)
   refine ⟨⟨7, 0, 0, 0, [], v⟩, j2, (by simp [predB]; omega), .mk0 (by omega) (by omega) (by simp), by simp, d2, fun d k => ?_⟩
   simp only [prAV]
   refine Bd Tryz.func19 Tryz.ntmps19 fun σ N hp hpn hk hkn hfree => ?_
   obtain ⟨hd, hdn⟩ := HD0 hp hpn; clear hp hpn
   have hcs := And.intro (c1 d) (And.intro (c2 d) True.intro)
   clear c1 c2
   refine Wk ?_
   exact RW (d) (deckBox l j2)
  | false =>
   obtain ⟨a, j2, a1, d2, c2⟩ := Minute_ex l j1 d1
   obtain ⟨b, j3, b1, d3, c3⟩ := Minute_ex l j2 d2
   obtain ⟨lo, hlo, hlo1⟩ : ∃ lo : Nat, (if b < a then (b : Int) else (a : Int)) = (lo : Int) ∧ lo = min a b := ⟨min a b, by split <;> omega, rfl⟩
   obtain ⟨hi, hhi, hhi1⟩ : ∃ hi : Nat, (if a < b then (b : Int) else (a : Int)) = (hi : Int) ∧ hi = max a b := ⟨max a b, by split <;> omega, rfl⟩
   have hlo2 : ((min a b : Nat) : Int) = lo := by omega
   have hhi2 : ((max a b : Nat) : Int) = hi := by omega
   refine ⟨⟨4, 0, lo, hi, [], 0⟩, j3, (by simp [predB]; omega), .mk0 (by omega) (by omega) (by simp), by simp, d3, fun d k => ?_⟩
   simp only [prAV]
   refine Bd Tryz.func19 Tryz.ntmps19 fun σ N hp hpn hk hkn hfree => ?_
   obtain ⟨hd, hdn⟩ := HD0 hp hpn; clear hp hpn
   have hcs := And.intro (c1 d) (And.intro (c2 d) (And.intro (c3 d) True.intro))
   clear c1 c2 c3
   refine Wk ?_
   exact RW (d) (deckBox l j3)
end Go.Proofs.YtdmjpolnbmoehaaGreatDoor

namespace Go.Proofs.YtdmjpolnbmoehaaGreatDoor
open Go.Ab
attribute [local irreducible] Go.Ab.tyAV Go.Ab.aw Go.Ab.aops Go.Ab.kReg Go.Ab.aThen Go.Ab.aBlk Go.Ab.acond Go.Ab.aguard Go.Ab.astep Go.Ab.AStepX Go.Ab.aRet
attribute [local irreducible] shaG
def firC (p : Pr) : Ca := ⟨false, p, 0, [], []⟩
section
variable [W : W32]
def narS (a : Alg) (p : Pa) : List Pr → Alg × Pa × Nat
 | [] => (a, p, 0)
 | x :: r => if (attS a p (firC x)).2.2 = 0 then narS (attS a p (firC x)).1 (attS a p (firC x)).2.1 r else (alg0, pa0, (attS a p (firC x)).2.2)
theorem attS_len {a : Alg} {p : Pa} {c : Ca} : (attS a p c).2.1.cavs.length ≤ p.cavs.length + 1 := by
 unfold attS
 split
 ·simp [pa0]
 ·split
  ·simp [pa0]
  ·split
   ·simp
   ·simp [pa0]
theorem attS_bad {a : Alg} {p : Pa} {c : Ca} (h : (attS a p c).2.2 ≠ 0) : attS a p c = (alg0, pa0, (attS a p c).2.2) := by
 unfold attS at h ⊢
 split
 ·rfl
 ·split
  ·rfl
  ·rename_i h1 h2
   rw [if_neg h1, if_neg h2] at h
   split
   ·rename_i h3; rw [if_pos h3] at h; exact absurd rfl h
   ·rfl
set_option maxHeartbeats 2000000 in
theorem Narrow_spec (a : Alg) (m : Nat) (ha : AlgIn a m) (p : Pa) (l : List Pr) (hm : m + 2 * l.length ≤ 800000) (hpl : p.cavs.length + l.length ≤ 10000) (hpk : ∀ x ∈ l, PrOk x) (k : Nat) :
  ACall Tryz.prog 76 [algAV a, paAV p, .slice none (l.map prAV)] k [] (mpAV (narS a p l)) [] := by
 obtain ⟨R, hR⟩ : ∃ R, narS a p l = R := ⟨_, rfl⟩
 rw [hR]
 obtain ⟨R1, R2, R3⟩ := R
 have hdr : l.drop 0 = l := rfl
 unfold mpAV
 simp only
 have g0 : (0 : Nat) = 0 → narS a p (l.drop 0) = (R1, R2, R3) := fun _ => hR
 have g1 : (0 : Nat) ≠ 0 → (R1, R2, R3) = ((alg0, pa0, (0 : Nat)) : Alg × Pa × Nat) ∧ a = alg0 ∧ p = pa0 := fun h => absurd rfl h
 refine Bd Tryz.func76 Tryz.ntmps76 fun σ N hp hpn hk hkn hfree => ?_
 refine Wk ?_
 refine go_loopF mixed (by kernel_rfl) [9, 10, 11, 12, 13, 14, 15, 16, 17, 18, 19, 20, 21, 22, 23, 24, 25, 26, 27, 28, 29, 30, 31, 32] [N, N+1, N+2, N+3] (fun m_ s_ σ_ n_ => ∃ (u : Nat) (A : Alg) (Q : Pa) (e : Nat), m_ = l.length - u ∧ s_ 10 = .lit (.int .i64 u) ∧ s_ 9 = .lit (.int .i64 (e : Nat)) ∧ σ_ (N) = .box 38 (algAV A) ∧ σ_ (N+1) = .box 47 (paAV Q) ∧ σ_ (N+2) = .box 38 (.agg [.lit (.bool false), tagAV zeroTag, .lit (.int .i64 0), .nils, .nils]) ∧ σ_ (N+3) = .box 47 (.agg [.lit (.int .i64 0), .lit (.int .i64 0), .nils, tagAV zeroTag]) ∧ (u ≤ l.length) ∧ (AlgIn A (m + 2 * u)) ∧ (Q.cavs.length ≤ p.cavs.length + u) ∧ (e = 0 → narS A Q (l.drop u) = (R1, R2, R3)) ∧ (e ≠ 0 → (R1, R2, R3) = (alg0, pa0, e) ∧ A = alg0 ∧ Q = pa0)) ⟨_, 0, a, p, 0, rfl, WF, WF, WF, WF, WF, WF, WC, WC, WC, WC, WC⟩ ?_
 intro m_1 s_1 σ_1 n_1 hs_1 hf_1 hn_1 hI_1
 obtain ⟨u, A, Q, e, hm_1, h1_10, h1_9, e1_0, e1_1, e1_2, e1_3, hu, hA, hQ, hg, hg2⟩ := hI_1
 have h1_2 := KS hs_1 2
 have h1_3 := KS hs_1 3
 have h1_4 := KS hs_1 4
 have h1_6 := KS hs_1 6
 have h1_7 := KS hs_1 7
 have h1_8 := KS hs_1 8
 have hlow := KL (N := N) (σ := σ) hf_1
 clear hR hdr g0 g1
 by_cases he : e = 0
 ·subst he
  have hg := hg rfl
  clear hg2
  by_cases hul : u = l.length
  ·subst hul
   rw [List.drop_length] at hg
   simp only [narS, Prod.mk.injEq] at hg
   obtain ⟨rfl, rfl, rfl⟩ := hg
   clear hpk hA
   refine Wk ?_
   exact WD
  ·have hu1 : u < l.length := by omega
   rw [List.drop_eq_getElem_cons hu1, narS] at hg
   have hz1 := hpk _ (List.getElem_mem hu1)
   obtain ⟨z, hz⟩ : ∃ z, l[u] = z := ⟨_, rfl⟩
   rw [hz] at hg hz1
   have c1 := refAtt_spec A (m + 2 * u) hA (by omega) Q (by omega) (firC z) hz1
   have hin := attS_in hA Q (firC z)
   have hln := attS_len (a := A) (p := Q) (c := firC z)
   have hbd := attS_bad (a := A) (p := Q) (c := firC z)
   generalize attS A Q (firC z) = X at *
   obtain ⟨a1, p1, e1'⟩ := X
   simp only at hg hin hln hbd
   unfold mpAV firC caAV at c1
   simp only [List.map_nil] at c1
   have hin2 : AlgIn a1 (m + 2 * (u + 1)) := hin.more (by omega)
   have hq1 : e1' = 0 → narS a1 p1 (l.drop (u + 1)) = (R1, R2, R3) := fun h => by rw [if_pos h] at hg; exact hg
   have hq2 : e1' ≠ 0 → (R1, R2, R3) = (alg0, pa0, e1') ∧ a1 = alg0 ∧ p1 = pa0 := fun h => by
    rw [if_neg h] at hg
    have := hbd h
    simp only [Prod.mk.injEq] at this
    exact ⟨hg.symm, this.1, this.2.1⟩
   have hln2 : p1.cavs.length ≤ p.cavs.length + (u + 1) := by omega
   have hcs := And.intro c1 True.intro
   clear c1 hpk hg hin hbd hA hln
   refine Wk ?_
   exact ⟨WS, WG, WN, _, (show l.length - (u + 1) < m_1 by omega), u + 1, a1, p1, e1', rfl, WF, WF, WF, WF, WF, WF, WC, WC, WC, WC, WC⟩
 ·obtain ⟨h1, rfl, rfl⟩ := hg2 he
  simp only [Prod.mk.injEq] at h1
  obtain ⟨rfl, rfl, rfl⟩ := h1
  have hei : ((R3 : Int) == 0) = false := by rw [beq_eq_false_iff_ne]; omega
  have hei2 : ((R3 : Int) != 0) = true := by simp; omega
  clear hg hg2 hA hpk
  simp only [alg0_eq, pa0_eq] at *
  by_cases hul : u < l.length
  ·have huli : (u : Int) < (l.length : Int) := by omega
   refine Wk ?_
   exact WD
  ·have huli : ¬ (u : Int) < (l.length : Int) := by omega
   refine Wk ?_
   exact WD
end

section
variable [W : W32]
def lookO (a : Alg) (key : Tg) (msg : List UInt8) : Option Tg := if a.free = true then entL key msg a.macs else if 4096 < msg.length then none else some (hmacT key.1 msg)
end
end Go.Proofs.YtdmjpolnbmoehaaGreatDoor

namespace Go.Proofs.YtdmjpolnbmoehaaGreatDoor
open Go.Ab
attribute [local irreducible] Go.Ab.tyAV Go.Ab.aw Go.Ab.aops Go.Ab.kReg Go.Ab.aThen Go.Ab.aBlk Go.Ab.acond Go.Ab.aguard Go.Ab.astep Go.Ab.AStepX Go.Ab.aRet
def RdBox (b : List UInt8) (u e : Nat) : Ent := .box 226 (.agg [.slice none (b.map byteAV), .lit (.int .i64 u), .lit (.int .i64 e)])
@[simp, go_sem] theorem RdBox_ne (b : List UInt8) (u e : Nat) : (RdBox b u e = .none) = False := by simp [RdBox]
@[go_sem] theorem RdBox_ren (b : List UInt8) (u e : Nat) (f : Nat → Option Nat) : (RdBox b u e).ren f = RdBox b u e := by
 simp only [RdBox, ent_ren_box, AV.ren, AV.renl, renl_bytes, Option.bind_none]
def numR (b : List UInt8) (u : Nat) : Nat × Nat × Nat := ((rdS (b.drop u)).1, u + (rdS (b.drop u)).2.1, (rdS (b.drop u)).2.2)
theorem numR_le {b : List UInt8} {u : Nat} (h : u ≤ b.length) : (numR b u).2.1 ≤ b.length := by
 have := rdS_le (b.drop u)
 rw [List.length_drop] at this
 unfold numR
 simp only
 omega
def be8 (l : List UInt8) : Nat := l.foldl (fun m x => 256 * m + x.toNat) 0
theorem be8_snoc (l : List UInt8) (x : UInt8) : be8 (l ++ [x]) = 256 * be8 l + x.toNat := by simp [be8]
theorem be8_lt (l : List UInt8) : be8 l < 256 ^ l.length := by
 have key : ∀ (r : List UInt8) (m j : Nat), m < 256 ^ j → r.foldl (fun m x => 256 * m + x.toNat) m < 256 ^ (j + r.length) := by
  intro r
  induction r with
  | nil => intro m j h; simpa using h
  | cons x r ih =>
   intro m j h
   have hx := x.toNat_lt
   have := ih (256 * m + x.toNat) (j + 1) (by rw [Nat.pow_succ]; omega)
   rw [List.foldl_cons, List.length_cons]
   rw [show j + (r.length + 1) = j + 1 + r.length from by omega]
   exact this
 have := key l 0 0 (by simp)
 simpa [be8] using this
theorem be8_take {L : List UInt8} {i : Nat} (h : i < L.length) : be8 (L.take (i + 1)) = 256 * be8 (L.take i) + L[i].toNat := by
 rw [List.take_add_one, List.getElem?_eq_getElem h]
 exact be8_snoc _ _
theorem be8_bound {L : List UInt8} {i : Nat} (h : L.length = 8) (hi : i ≤ 8) : be8 (L.take i) < 18446744073709551616 ∧ (i < 8 → be8 (L.take i) < 72057594037927936) := by
 have h1 := be8_lt (L.take i)
 rw [List.length_take, Nat.min_eq_left (by omega)] at h1
 have h2 : 256 ^ i ≤ 256 ^ 8 := Nat.pow_le_pow_right (by decide) hi
 refine ⟨by omega, fun h3 => ?_⟩
 have h4 : 256 ^ i ≤ 256 ^ 7 := Nat.pow_le_pow_right (by decide) (by omega)
 omega

theorem RFail0 (b : List UInt8) (u : Nat) (e : Int) (d k : Nat) :
  ACall Tryz.prog 213 [.ptr d [] 0, .lit (.int .i64 e)] k [(d, RdBox b u 0)] (.tup []) [(d, .box 226 (.agg [.slice none (b.map byteAV), .lit (.int .i64 u), .lit (.int .i64 e)]))] := by
 simp only [RdBox]
 refine Bd Tryz.func213 Tryz.ntmps213 fun σ N hp hpn hk hkn hfree => ?_
 obtain ⟨hd, hdn⟩ := HD0 hp hpn; clear hp hpn
 refine Wk ?_
 refine go_fall ?_
 exact RW (d) (.box 226 (.agg [.slice none (b.map byteAV), .lit (.int .i64 (u : Int)), .lit (.int .i64 e)]))
theorem RFail1 (b : List UInt8) (u e0 : Nat) (h : e0 ≠ 0) (e : Int) (d k : Nat) :
  ACall Tryz.prog 213 [.ptr d [] 0, .lit (.int .i64 e)] k [(d, RdBox b u e0)] (.tup []) [(d, RdBox b u e0)] := by
 have he' : ((e0 : Int) == 0) = false := by rw [beq_eq_false_iff_ne]; omega
 simp only [RdBox]
 refine Bd Tryz.func213 Tryz.ntmps213 fun σ N hp hpn hk hkn hfree => ?_
 obtain ⟨hd, hdn⟩ := HD0 hp hpn; clear hp hpn
 refine Wk ?_
 refine go_fall ?_
 exact RW (d) (.box 226 (.agg [.slice none (b.map byteAV), .lit (.int .i64 (u : Int)), .lit (.int .i64 (e0 : Int))]))
theorem RNum_spec (b : List UInt8) (u : Nat) (hu : u ≤ b.length) (hb : b.length ≤ 1000000) (d k : Nat) :
  ACall Tryz.prog 183 [.ptr d [] 0] k [(d, RdBox b u 0)] (.lit (.int .i64 (numR b u).1)) [(d, RdBox b (numR b u).2.1 (numR b u).2.2)] := by
 have c1 := refRead_spec (b.drop u) (by rw [List.length_drop]; omega)
 have hl := rdS_le (b.drop u)
 rw [List.length_drop] at hl
 have hd1 : (b.map byteAV).drop u = (b.drop u).map byteAV := by rw [List.map_drop]
 unfold numR
 generalize rdS (b.drop u) = R at *
 obtain ⟨n, q, e⟩ := R
 simp only [rdAV] at *
 generalize b.drop u = t at *
 have c2 := RFail0 b u e d
 simp only [RdBox] at *
 refine Bd Tryz.func183 Tryz.ntmps183 fun σ N hp hpn hk hkn hfree => ?_
 obtain ⟨hd, hdn⟩ := HD0 hp hpn; clear hp hpn
 have hcs := And.intro c1 (And.intro c2 True.intro)
 clear c1 c2
 refine Wk ?_
 exact RW (d) (.box 226 (.agg [.slice none (b.map byteAV), .lit (.int .i64 ((u : Int) + (q : Int))), .lit (.int .i64 (e : Int))]))
theorem RNum_off (b : List UInt8) (u e : Nat) (he : e ≠ 0) (d k : Nat) :
  ACall Tryz.prog 183 [.ptr d [] 0] k [(d, RdBox b u e)] (.lit (.int .i64 0)) [(d, RdBox b u e)] := by
 have he' : ((e : Int) == 0) = false := by rw [beq_eq_false_iff_ne]; omega
 simp only [RdBox]
 refine Bd Tryz.func183 Tryz.ntmps183 fun σ N hp hpn hk hkn hfree => ?_
 obtain ⟨hd, hdn⟩ := HD0 hp hpn; clear hp hpn
 refine Wk ?_
 exact RW (d) (.box 226 (.agg [.slice none (b.map byteAV), .lit (.int .i64 (u : Int)), .lit (.int .i64 (e : Int))]))









theorem Bytes_row (l : List Int) (i n : Nat) (h : Dk l i) (hn : n ≤ 100000) (d k : Nat) :
  ACall Tryz.prog 24 [.ptr d [] 0, .lit (.int .i64 n)] k [(d, deckBox l i)] (.slice (some k) ((bytesD l i n).1.map byteAV)) [(d, deckBox l (bytesD l i n).2), (k, .row 5 1 (bytesD l i n).1.length)] := by
 have c1 := Next_spec l i (n + 1) h (by omega) (by omega)
 have d1 := nextD_dk (n + 1) h
 have b1 := nextD_lt l i (n + 1) (by omega)
 have hn1 : ((n + 1 : Nat) : Int) = (n : Int) + 1 := by omega
 unfold bytesD
 rw [hn1] at c1
 generalize nextD l i (n + 1) = X at *
 obtain ⟨K, j⟩ := X
 simp only at c1 d1 b1 ⊢
 clear h hn1
 have hcs := And.intro (c1 d) True.intro
 generalize hR : bytesK l K j = R
 obtain ⟨R1, R2⟩ := R
 simp only
 refine Bd Tryz.func24 Tryz.ntmps24 fun σ N hp hpn hk hkn hfree => ?_
 obtain ⟨hd, hdn⟩ := HD0 hp hpn; clear hp hpn
 clear c1
 refine Wk ?_
 refine ALoop.nilrow 5 5 1 (by simp (disch := omega) [go_sem, *, -List.reduceReplicate]) ?_
 refine go_loopB (N) mixed (by kernel_rfl) [5, 6, 11, 12, 13, 14, 15, 16, 17, 18, 19, 20] [d] (fun m_ s_ σ_ n_ => ∃ (f : Nat) (j' : Nat) (r : Nat) (acc : List UInt8), m_ = f ∧ s_ 6 = .lit (.int .i64 f) ∧ s_ 5 = .slice (some r) (acc.map byteAV) ∧ σ_ (d) = deckBox l j' ∧ σ_ (r) = .row 5 1 acc.length ∧ (N ≤ r) ∧ (r < n_) ∧ (f + acc.length ≤ 100000) ∧ (Dk l j') ∧ ((acc ++ (bytesK l f j').1, (bytesK l f j').2) = (R1, R2))) ⟨_, K, j, _, [], rfl, WF, WF, WF, WF, WC, WC, WC, WC, WC⟩ ?_
 intro m_1 s_1 σ_1 n_1 hs_1 hf_1 hn_1 hI_1
 obtain ⟨f, j', r, acc, hm_1, h1_6, h1_5, e1_0, e1_1, hNr, hrn, hfl, hdj, hacc⟩ := hI_1
 have h1_0 := KS hs_1 0
 have h1_4 := KS hs_1 4
 have hlow := KD (N := N) (d := d) (σ := σ) hf_1
 have hne : ¬ r = d := by omega
 have hne2 : ¬ d = r := by omega
 cases f with
 | zero =>
  simp only [bytesK, List.append_nil, Prod.mk.injEq] at hacc
  obtain ⟨rfl, rfl⟩ := hacc
  refine Wk ?_
  refine go_result1W (_E := .none) (r0 := r) [(d, deckBox l j')] (by simp (disch := omega) [go_sem, *, -List.reduceReplicate]; rfl) (by omega) (by simp (disch := omega) [go_sem]; try rfl) (fun id hid => by simp only [wr_cons, wr_nil]; try (by_cases hdd : id = d; (· (subst hdd; simp (disch := omega) [go_sem, *])); (· (simp (disch := omega) only [upd_ne]; try (first | exact hlow id hid hdd | exact hlow id hid))))) (by simp) (by simp (disch := omega) [go_sem, *, -List.reduceReplicate]; rfl) (by simp (disch := omega) [go_sem, *])
 | succ f =>
  have c1 := Next_spec l j' 256 hdj (by omega) (by omega)
  have d1 := nextD_dk 256 hdj
  have b1 := nextD_lt l j' 256 (by omega)
  rw [bytesK] at hacc
  generalize nextD l j' 256 = X at *
  obtain ⟨x, j2⟩ := X
  simp only at c1 d1 b1 hacc
  have hw : IntKind.u8.wrap (x : Int) = x := by rw [IntKind.wrap_u8]; omega
  have hbx : AV.lit (.int .u8 (x : Int)) = byteAV (UInt8.ofNat x) := by simp [byteAV, Nat.mod_eq_of_lt b1]
  have hcs := And.intro (c1 d) True.intro
  clear c1 hdj
  refine Wk ?_
  exact ⟨WS, WG, WN, _, (show (f) < m_1 by omega), f, j2, r, acc ++ [UInt8.ofNat x], rfl, WF, WF, WF, WF, WC, WC, WC, WC, WC⟩
theorem Bytes_ex (l : List Int) (i n : Nat) (h : Dk l i) (hn : n ≤ 100000) : ∃ (b : List UInt8) (j : Nat), b.length ≤ n ∧ Dk l j ∧ ∀ d k, ACall Tryz.prog 24 [.ptr d [] 0, .lit (.int .i64 n)] k [(d, deckBox l i)] (.slice (some k) (b.map byteAV)) [(d, deckBox l j), (k, .row 5 1 b.length)] :=
 ⟨_, _, bytesD_len l i n, bytesD_dk n h, fun d k => Bytes_row l i n h hn d k⟩

set_option maxHeartbeats 4000000 in
theorem Caveat_ex (l : List Int) (i : Nat) (h : Dk l i) :
  ∃ (c : Ca) (j : Nat), cavB c = true ∧ PrOk c.first ∧ CaSm c ∧ Dk l j ∧ ∀ d k, ACall Tryz.prog 35 [.ptr d [] 0] k [(d, deckBox l i)] (caAV c) [(d, deckBox l j)] := by
 obtain ⟨x, j1, x1, d1, c1⟩ := Next_at l i 4 h (by omega) (by omega)
 by_cases hx : x = 0
 ·subst hx
  obtain ⟨p, j2, p1, d2, c2⟩ := Next_at l j1 8 d1 (by omega) (by omega)
  obtain ⟨t, j3, t1, d3, c3⟩ := Bytes_ex l j2 20 d2 (by omega)
  obtain ⟨b, j4, b1, d4, c4⟩ := Bytes_ex l j3 20 d3 (by omega)
  refine ⟨⟨true, zeroPr, p, t ++ [1], b ++ [2]⟩, j4, (CV.third p (by omega) _ _ (by simp; omega) (by simp; omega)).ok, zeroPr_ok, ⟨by simp; omega, by simp; omega⟩, d4, fun d k => ?_⟩
  have hb1 : byteAV 1 = .lit (.int .u8 1) := rfl
  have hb2 : byteAV 2 = .lit (.int .u8 2) := rfl
  simp only [caAV, prAV, zeroPr]
  refine Bd Tryz.func35 Tryz.ntmps35 fun σ N hp hpn hk hkn hfree => ?_
  obtain ⟨hd, hdn⟩ := HD0 hp hpn; clear hp hpn
  have hcs := And.intro (c1 d) (And.intro (c2 d) (And.intro (c3 d) (And.intro (c4 d) True.intro)))
  clear c1 c2 c3 c4
  refine Wk ?_
  exact RV (d) (deckBox l j4)
 ·obtain ⟨p, j2, p1, p2, _, d2, c2⟩ := Predicate_ex l j1 d1 true
  refine ⟨⟨false, p, 0, [], []⟩, j2, (CV.first p p1).ok, p2, ⟨by simp, by simp⟩, d2, fun d k => ?_⟩
  have hx0 : (0 : Int) < x := by omega
  simp only [caAV]
  refine Bd Tryz.func35 Tryz.ntmps35 fun σ N hp hpn hk hkn hfree => ?_
  obtain ⟨hd, hdn⟩ := HD0 hp hpn; clear hp hpn
  have hcs := And.intro (c1 d) (And.intro (c2 d) True.intro)
  clear c1 c2
  refine Wk ?_
  exact RV (d) (deckBox l j2)

structure CaIn (c : Ca) : Prop where
 pr : PrOk c.first
 t0 : c.ticket.length ≤ 9223372036854775807
 b0 : c.box.length ≤ 9223372036854775807
@[go_sem] theorem renl_replicate (f : Nat → Option Nat) (n : Nat) (a : AV) : AV.renl f (List.replicate n a) = List.replicate n (a.ren f) := by rw [AV.renl_map, List.map_replicate]
end Go.Proofs.YtdmjpolnbmoehaaGreatDoor
